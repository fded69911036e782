/- Of this session: an abstract machine over the model's code, and its soundness. -/
import Derived.Below
import Derived.Deep.AppendSrc
import Derived.Deep.Upon
import Derived.Deep.MidRow
import Derived.Laws.MakeOwn
import Derived.WalkKit
import Derived.Laws.Tables
import Derived.Great.BuildSlice
import Derived.Deep.LoopGhost
import Derived.KernelRfl
import Derived.Laws.BytesString
namespace Go.Proofs.YtkfpoagnchahkaaGreat.A
open Go Go.RowKit
set_option linter.unusedVariables false
set_option linter.unusedSimpArgs false
/-- values of the abstract machine: 'sl', 'fp': a slice, a pointer into memory that is never written again, told by what it holds; 'rf', 'pt': a slice, a pointer into row r of the abstract heap (of stamp g) -/
inductive AVal where
  | v (x : Value)
  | agg (cs : List AVal)
  | sl (xs : List AVal)
  | fp (x : AVal)
  | rf (r g off len : Nat)
  | pt (r g i j : Nat)
  | tup (xs : List AVal)
  | ifc (t : Nat) (x : AVal)
  | fn (f : Nat) (fst caps : List AVal)
  | dead
instance : Inhabited AVal := ⟨.dead⟩
def AVal.flat : AVal → List AVal
  | .agg cs => cs
  | x => [x]
def AVal.isAgg : AVal → Bool
  | .agg _ => true
  | _ => false
/-- surely the value of one cell -/
def AVal.c1 : AVal → Bool
  | .v x => x.oneCell'
  | .sl _ | .fp _ | .rf .. | .pt .. | .ifc .. | .fn .. => true
  | _ => false
inductive AObj where
  | row (g s : Nat) (xs : List AVal)
  | dead
abbrev AHeap := List AObj
/-- where a panic goes: what is known of its value and of the heap; nowhere, where nothing else is said -/
class Pk where
  f : AVal → AHeap → Prop
instance noPk : Pk := ⟨fun _ _ => False⟩
/-- what is still to be run, kept apart so that simp does not go into it -/
class Bd (α : Type) where
  f : α
  [p : Pk]
structure Ctx where
  base : Nat
  w0 : World
  F : Nat → Prop
  ctr : Nat
  gen : Nat → Option Nat
  blk : Nat → Nat
  sz : Nat → Nat
  cap : Nat → Nat
inductive RV (c : Ctx) (w : World) : AVal → Value → Prop
  | v (x : Value) : RV c w (.v x) x
  | agg (cs : List AVal) (vs : Array Value) (hl : vs.size = cs.length) (h : ∀ i a, cs[i]? = some a → RV c w a (vs.getD i undef)) : RV c w (.agg cs) (.agg vs)
  | nil (xs : List AVal) (a : Option Addr) (cap : Nat) (h : xs = []) : RV c w (.sl xs) (.slice a 0 cap)
  | sl (xs : List AVal) (b off len cap s : Nat) (f : Nat → Nat → Value) (hF : c.F b) (hlen : len = xs.length) (hcap : len ≤ cap) (hs : ∀ (i : Nat) (x : AVal), xs[i]? = some x → x.flat.length = s)
      (hc : ∀ (i : Nat) (x : AVal) (j : Nat) (a : AVal), xs[i]? = some x → x.flat[j]? = some a → w.cell? ⟨b, off + (i * s + j), none⟩ = some (f i j))
      (hr : ∀ (i : Nat) (x : AVal) (j : Nat) (a : AVal), xs[i]? = some x → x.flat[j]? = some a → RV c w a (f i j)) : RV c w (.sl xs) (.slice (some ⟨b, off, none⟩) len cap)
  | fp (x : AVal) (b off : Nat) (f : Nat → Value) (hF : c.F b) (hc : ∀ j a, x.flat[j]? = some a → w.cell? ⟨b, off + j, none⟩ = some (f j))
      (hr : ∀ j a, x.flat[j]? = some a → RV c w a (f j)) : RV c w (.fp x) (.pointer (some ⟨b, off, none⟩))
  | rf (r g off len : Nat) (a : Addr) (cap : Nat) (hg : g < c.ctr) (h : c.gen r = some g → (cap = 0 ∨ a = ⟨c.blk r, off * c.sz r, none⟩) ∧ len ≤ cap ∧ cap ≤ maxLen ∧ (off + cap) * c.sz r ≤ c.cap r) : RV c w (.rf r g off len) (.slice (some a) len cap)
  | pt (r g i j : Nat) (a : Addr) (hg : g < c.ctr) (h : c.gen r = some g → a = ⟨c.blk r, i * c.sz r + j, none⟩) : RV c w (.pt r g i j) (.pointer (some a))
  | tup (xs : List AVal) (vs : Array Value) (hl : vs.size = xs.length) (h : ∀ i a, xs[i]? = some a → RV c w a (vs.getD i undef)) : RV c w (.tup xs) (.tuple vs)
  | ifc (t : Nat) (x : AVal) (v : Value) (h : RV c w x v) : RV c w (.ifc t x) (.iface t v)
  | fn (f : Nat) (fst caps : List AVal) (us vs : Array Value) (hl1 : us.size = fst.length) (h1 : ∀ i a, fst[i]? = some a → RV c w a (us.getD i undef)) (hl : vs.size = caps.length) (h : ∀ i a, caps[i]? = some a → RV c w a (vs.getD i undef)) : RV c w (.fn f fst caps) (.func (.func f) us vs)
  | dead (v : Value) : RV c w .dead v
structure Ext (c : Ctx) (w : World) (c' : Ctx) (w' : World) : Prop where
  base : c'.base = c.base
  w0 : c'.w0 = c.w0
  F : ∀ b, c.F b → c'.F b
  ctr : c.ctr ≤ c'.ctr
  gen : ∀ r g, g < c.ctr → c'.gen r = some g → c.gen r = some g ∧ c'.blk r = c.blk r ∧ c'.sz r = c.sz r ∧ c'.cap r = c.cap r
  blks : ∀ b, c.F b → w'.heap[b]? = w.heap[b]?
theorem Ext.refl (c : Ctx) (w : World) : Ext c w c w := ⟨rfl, rfl, fun _ h => h, Nat.le_refl _, fun _ _ _ h => ⟨h, rfl, rfl, rfl⟩, fun _ _ => rfl⟩
theorem Ext.trans {c c' c'' : Ctx} {w w' w'' : World} (h : Ext c w c' w') (k : Ext c' w' c'' w'') : Ext c w c'' w'' :=
  ⟨k.base.trans h.base, k.w0.trans h.w0, fun b hb => k.F b (h.F b hb), Nat.le_trans h.ctr k.ctr,
   fun r g hg hh => by
    obtain ⟨h1, h2, h3, h4⟩ := k.gen r g (Nat.lt_of_lt_of_le hg h.ctr) hh
    obtain ⟨k1, k2, k3, k4⟩ := h.gen r g hg h1
    exact ⟨k1, h2.trans k2, h3.trans k3, h4.trans k4⟩,
   fun b hb => (k.blks b (h.F b hb)).trans (h.blks b hb)⟩
theorem Ext.cells {c c' : Ctx} {w w' : World} (e : Ext c w c' w') (b : Nat) (hb : c.F b) (o : Nat) : w'.cell? ⟨b, o, none⟩ = w.cell? ⟨b, o, none⟩ := World.cell?_of_block (a := ⟨b, o, none⟩) (e.blks b hb)
theorem RV.mono {c c' : Ctx} {w w' : World} (e : Ext c w c' w') {x : AVal} {v : Value} (h : RV c w x v) : RV c' w' x v := by
  induction h with
  | v x => exact .v x
  | agg cs vs hl _ ih => exact .agg cs vs hl ih
  | nil xs a cap h => exact .nil xs a cap h
  | sl xs b off len cap s f hF hlen hcap hs hc _ ih => exact .sl xs b off len cap s f (e.F _ hF) hlen hcap hs (fun i x j a h1 h2 => (e.cells _ hF _).trans (hc i x j a h1 h2)) ih
  | fp x b off f hF hc _ ih => exact .fp x b off f (e.F _ hF) (fun j a h2 => (e.cells _ hF _).trans (hc j a h2)) ih
  | rf r g off len a cap hg h =>
    refine .rf r g off len a cap (Nat.lt_of_lt_of_le hg e.ctr) (fun hh => ?_)
    obtain ⟨k1, k2, k3, k4⟩ := e.gen r g hg hh
    rw [k2, k3, k4]; exact h k1
  | pt r g i j a hg h =>
    refine .pt r g i j a (Nat.lt_of_lt_of_le hg e.ctr) (fun hh => ?_)
    obtain ⟨k1, k2, k3, k4⟩ := e.gen r g hg hh
    rw [k2, k3]; exact h k1
  | tup xs vs hl _ ih => exact .tup xs vs hl ih
  | ifc t x v _ ih => exact .ifc t x v ih
  | fn f fst caps us vs hl1 _ hl _ ih1 ih => exact .fn f fst caps us vs hl1 ih1 hl ih
  | dead v => exact .dead v
/-- what the world read as when the row's call began (a seat whose row lists variables has its own text here: laid.inc) -/
def LaidW (b : Nat) (w : World) : Prop := True
/-- a place that no string shares, nor will when what lies behind it is shared -/
def fzF (w : World) (a : Addr) : Prop := match w.heap[a.block]? with | some (.cells _ _ f) => f.1 = f.2 ∨ a.off < f.1 | _ => True
theorem fzF.un {w : World} {a : Addr} (h : fzF w a) : w.frozen? a = false := by
  unfold fzF at h
  unfold World.frozen?
  split
  · rename_i c e lo hi hh
    rw [hh] at h
    simp at h ⊢
    omega
  · rfl
theorem fzF_of_block {w w' : World} {a : Addr} (h : w'.heap[a.block]? = w.heap[a.block]?) : fzF w' a ↔ fzF w a := by unfold fzF; rw [h]
theorem fzF_setCell {w : World} {a b : Addr} {v : Value} : fzF (w.setCell a v) b ↔ fzF w b := by
  simp only [World.setCell, fzF, Array.getElem?_modify]
  by_cases hb : a.block = b.block
  · simp only [hb, if_true]
    cases hh : w.heap[b.block]? with
    | none => simp
    | some x => cases x <;> simp
  · simp [hb]
theorem fzF_setCells (b : Nat) : ∀ (vs : List Value) (o : Nat) (w : World) (x : Addr), fzF (w.setCells b o vs) x ↔ fzF w x
  | [], _, _, _ => Iff.rfl
  | v :: r, o, w, x => by rw [World.setCells, fzF_setCells b r (o + 1) _ x]; exact fzF_setCell
/-- a row lies in a block of its own -/
structure RowOK (c : Ctx) (w : World) (b cap s : Nat) (xs : List AVal) : Prop where
  lt : b < w.heap.size
  there : ∀ o, o < cap → (w.cell? ⟨b, o, none⟩).isSome = true ∧ fzF w ⟨b, o, none⟩
  fit : xs.length * s ≤ cap
  len : ∀ (i : Nat) (x : AVal), xs[i]? = some x → x.flat.length = s
  val : ∀ (i : Nat) (x : AVal) (j : Nat) (a : AVal), xs[i]? = some x → x.flat[j]? = some a → ∃ v, w.cell? ⟨b, i * s + j, none⟩ = some v ∧ RV c w a v
structure RH (c : Ctx) (h : AHeap) (w : World) : Prop where
  laid : LaidW c.base c.w0
  below : Below c.base c.w0 w
  base : c.base ≤ w.heap.size
  Fb : ∀ b, b < c.base → c.F b
  Fs : ∀ b, c.F b → b < w.heap.size
  live : ∀ r g, c.gen r = some g → g < c.ctr ∧ ∃ xs, h[r]? = some (.row g (c.sz r) xs)
  row : ∀ r g s xs, h[r]? = some (.row g s xs) → c.gen r = some g ∧ c.sz r = s ∧ ¬ c.F (c.blk r) ∧ RowOK c w (c.blk r) (c.cap r) s xs
  inj : ∀ r r' g g', c.gen r = some g → c.gen r' = some g' → c.blk r = c.blk r' → r = r'
def RVs (c : Ctx) (w : World) (xs : List AVal) (vs : Array Value) : Prop := vs.size = xs.length ∧ ∀ i a, xs[i]? = some a → RV c w a (vs.getD i undef)
theorem RVs.mono {c c' : Ctx} {w w' : World} (e : Ext c w c' w') {xs : List AVal} {vs : Array Value} (h : RVs c w xs vs) : RVs c' w' xs vs := ⟨h.1, fun i a ha => (h.2 i a ha).mono e⟩
abbrev Env := Nat → AVal
def RE (c : Ctx) (w : World) (env : Env) (a : Act) (nt : Nat) : Prop := a.tmps.size = nt ∧ ∀ t, RV c w (env t) (a.tmps.getD t undef)
theorem RE.mono {c c' : Ctx} {w w' : World} (e : Ext c w c' w') {env : Env} {a : Act} {nt : Nat} (h : RE c w env a nt) : RE c' w' env a nt := ⟨h.1, fun t => (h.2 t).mono e⟩
def upd (env : Env) (d : Nat) (x : AVal) : Env := fun t => bif Nat.beq t d then x else env t
theorem upd_same (env : Env) (d : Nat) (x : AVal) : upd env d x d = x := by simp [upd]
theorem upd_ne (env : Env) {d t : Nat} (x : AVal) (h : t ≠ d) : upd env d x t = env t := by
  have : Nat.beq t d = false := by cases hh : Nat.beq t d; rfl; exact absurd (Nat.eq_of_beq_eq_true hh) h
  simp [upd, this]
theorem RE.put {c : Ctx} {w : World} {env : Env} {a : Act} {nt d : Nat} {x : AVal} {v : Value} (h : RE c w env a nt) (hd : d < nt) (hx : RV c w x v) : RE c w (upd env d x) (a.put (some d) v) nt := by
  refine ⟨by simpa [Act.put] using h.1, fun t => ?_⟩
  by_cases ht : t = d
  · subst ht
    rw [upd_same]
    have : (a.put (some t) v).tmps.getD t undef = v := by simp [Act.put, h.1, hd]
    rw [this]; exact hx
  · rw [upd_ne _ _ ht]
    have : (a.put (some d) v).tmps.getD t undef = a.tmps.getD t undef := by
      simp [Act.put, Array.getElem?_setIfInBounds_ne (Ne.symm ht)]
    rw [this]; exact h.2 t
/-! ### types -/
def okT (P : Program) (t : TypeId) : Bool := (P.info? t).isSome && (P.underlying t).isSome
def szT (P : Program) (t : TypeId) : Nat := P.cellsOf t
def byT (P : Program) (t : TypeId) : Nat := P.bytesOf t
def agT (P : Program) (t : TypeId) : Bool := match P.underlying t with | some (.struct _) => true | some (.array _ _) => true | _ => false
def slT (P : Program) (t : TypeId) : Option TypeId := match P.underlying t with | some (.slice e) => some e | _ => none
def arT (P : Program) (t : TypeId) : Option (Nat × TypeId) := match P.underlying t with | some (.array n e) => some (n, e) | _ => none
def stT (P : Program) (t : TypeId) : Bool := match P.underlying t with | some .string => true | _ => false
def inT (P : Program) (t : TypeId) : Option IntKind := match P.underlying t with | some (.int k) => some k | _ => none
def fdT (P : Program) (t : TypeId) (f : Nat) : Option (Nat × TypeId) := match P.underlying t with | some (.struct fs) => (fs[f]?).map fun x => (x.offset, x.type) | _ => none
def zokT (P : Program) (t : TypeId) : Bool := match (P.info? t).bind (·.zero) with | some z => Nat.beq z.cells.size (szT P t) | none => false
def ofV : Value → AVal
  | .agg cs => .agg (cs.toList.map .v)
  | x => .v x
def zrT (P : Program) (t : TypeId) : Option AVal := ((P.info? t).bind (·.zero)).map ofV
/-! ### pure parts -/
def subA (ag : Bool) (n : Nat) (y : AVal) (j : Nat) : AVal := match ag with | true => .agg ((y.flat.drop j).take n) | false => y.flat.getD j .dead
def putA (x : AVal) (j : Nat) (cs : List AVal) : AVal := match x with | .agg ds => .agg (ds.take j ++ (cs ++ ds.drop (j + cs.length))) | _ => cs.headD .dead
abbrev nilS : AVal := .v (.slice none 0 0)
def int64 (n : Int) : AVal := .v (.int .i64 n)
/-- a whole value: cells of one cell each, or one such cell -/
def AVal.whole (x : AVal) : Bool := x.flat.all AVal.c1
def bcase (b : Bool) (A B : Prop) : Prop := match b with | true => A | false => B
def binI (op : BinOp) (k : IntKind) (a b : Int) : Value :=
  match op with
  | .add => .int k (k.wrap (a + b))
  | .sub => .int k (k.wrap (a - b))
  | .mul => .int k (k.wrap (a * b))
  | .quo => .int k (k.wrap (a.tdiv b))
  | .rem => .int k (a.tmod b)
  | .and => .int k (k.wrap (BitVec.ofInt k.bits a &&& BitVec.ofInt k.bits b).toNat)
  | .or => .int k (k.wrap (BitVec.ofInt k.bits a ||| BitVec.ofInt k.bits b).toNat)
  | .xor => .int k (k.wrap (BitVec.ofInt k.bits a ^^^ BitVec.ofInt k.bits b).toNat)
  | .andNot => .int k (k.wrap (BitVec.ofInt k.bits a &&& ~~~BitVec.ofInt k.bits b).toNat)
  | .shl => .int k (k.wrap (a * 2 ^ (min b.toNat k.bits)))
  | .shr => .int k (a.fdiv (2 ^ (min b.toNat k.bits)))
  | .eql => .bool (a == b)
  | .neq => .bool (a != b)
  | .lss => .bool (decide (a < b))
  | .leq => .bool (decide (a ≤ b))
  | .gtr => .bool (decide (a > b))
  | .geq => .bool (decide (a ≥ b))
def okI (op : BinOp) (k k' : IntKind) (b : Int) : Prop :=
  match op with
  | .shl => 0 ≤ b
  | .shr => 0 ≤ b
  | .quo => k = k' ∧ b ≠ 0
  | .rem => k = k' ∧ b ≠ 0
  | _ => k = k'
def blT (P : Program) (t : TypeId) : Bool := match P.underlying t with | some .bool => true | _ => false
def ptT (P : Program) (t : TypeId) : Bool := match P.underlying t with | some (.pointer _) => true | _ => false
abbrev KA := AVal → AHeap → Prop
def eqM (op : BinOp) (b : Bool) (h : AHeap) (K : KA) : Prop := match op with | .eql => K (.v (.bool b)) h | .neq => K (.v (.bool !b)) h | _ => False
def binM_b (P : Program) (op : BinOp) (t : TypeId) (x y : AVal) (h : AHeap) (K : KA) : Prop :=
  match x, y with
  | .v (.int k a), .v (.int k' b) => okI op k k' b ∧ K (.v (binI op k a b)) h
  | .v (.bool a), .v (.bool b) => blT P t = true ∧ eqM op (a == b) h K
  | .v (.string a), .v (.string b) => eqM op (a.toList == b.toList) h K
  | .v (.slice none _ _), .v (.slice none _ _) => (slT P t).isSome = true ∧ eqM op true h K
  | .sl xs, .v (.slice none _ _) => (slT P t).isSome = true ∧ xs ≠ [] ∧ eqM op false h K
  | .rf _ _ _ _, .v (.slice none _ _) => (slT P t).isSome = true ∧ eqM op false h K
  | .v (.pointer none), .v (.pointer none) => ptT P t = true ∧ eqM op true h K
  | .fp _, .v (.pointer none) => ptT P t = true ∧ eqM op false h K
  | .pt _ _ _ _, .v (.pointer none) => ptT P t = true ∧ eqM op false h K
  | _, _ => False
structure binM (P : Program) (op : BinOp) (t : TypeId) (x y : AVal) (h : AHeap) (K : KA) : Prop where
  out : binM_b P op t x y h K
def unM_b (op : UnOp) (x : AVal) (h : AHeap) (K : KA) : Prop :=
  match op, x with
  | .not, .v (.bool b) => K (.v (.bool !b)) h
  | .neg, .v (.int k n) => K (.v (.int k (k.wrap (0 - n)))) h
  | .xor, .v (.int k n) => K (.v (binI .xor k (if k.signed then -1 else k.max) n)) h
  | _, _ => False
structure unM (op : UnOp) (x : AVal) (h : AHeap) (K : KA) : Prop where
  out : unM_b op x h K
def convM_b (P : Program) (s d : TypeId) (x : AVal) (h : AHeap) (K : KA) : Prop :=
  match x with
  | .v (.int _ n) => (match inT P d with | some k => okT P s = true ∧ K (.v (.int k (k.wrap n))) h | none => False)
  | .rf r g _ n => s = d ∧ 0 < n ∧ (match slT P d with | some e => inT P e = some .u8 | none => False) ∧ (match h[r]? with | some (.row g' s' _) => g = g' ∧ s' = 1 ∧ K x h | _ => False)
  | _ => False
structure convM (P : Program) (s d : TypeId) (x : AVal) (h : AHeap) (K : KA) : Prop where
  out : convM_b P s d x h K
def byA : AVal → Option Int
  | .v (.int .u8 n) => some n
  | _ => none
/-- bytes that are never written, as a string -/
structure cvsM (P : Program) (s d : TypeId) (x : AVal) (h : AHeap) (K : KA) : Prop where
  out : match x with
    | .sl xs => (match slT P s with | some e => inT P e = some .u8 | none => False) ∧ stT P d = true ∧ (match xs.mapM byA with | some ns => K (.v (.string (ns.foldl (fun r n => r.push (UInt8.ofNat n.toNat)) ByteArray.empty))) h | none => False)
    | _ => False
def pickM (c x y : AVal) (h : AHeap) (K : KA) : Prop := match c with | .v (.bool b) => K (bif b then x else y) h | _ => False
def lenM_b (P : Program) (t : TypeId) (x : AVal) (h : AHeap) (K : KA) : Prop :=
  match x with
  | .sl xs => (slT P t).isSome = true ∧ K (int64 xs.length) h
  | .rf _ _ _ n => (slT P t).isSome = true ∧ K (int64 n) h
  | .v (.slice none n _) => (slT P t).isSome = true ∧ K (int64 n) h
  | .v (.string s) => stT P t = true ∧ K (int64 s.size) h
  | _ => False
structure lenM (P : Program) (t : TypeId) (x : AVal) (h : AHeap) (K : KA) : Prop where
  out : lenM_b P t x h K
def ixAddrM_b (P : Program) (t : TypeId) (x i : AVal) (h : AHeap) (K : KA) : Prop :=
  match i with
  | .v (.int _ n) =>
    match x with
    | .sl xs => (match slT P t with | some e => okT P e = true ∧ 0 ≤ n ∧ n < xs.length ∧ szT P e = (xs.getD n.toNat .dead).flat.length ∧ K (.fp (xs.getD n.toNat .dead)) h | none => False)
    | .rf r g o m => (match slT P t with | some e => (match h[r]? with | some (.row g' s xs) => g = g' ∧ okT P e = true ∧ szT P e = s ∧ 0 ≤ n ∧ n < m ∧ K (.pt r g (o + n.toNat) 0) h | _ => False) | none => False)
    | .fp y => (match arT P t with | some (m, e) => okT P e = true ∧ 0 < szT P e ∧ 0 ≤ n ∧ n < m ∧ n.toNat * szT P e + szT P e ≤ y.flat.length ∧ (agT P e = false → szT P e = 1) ∧ (agT P e = false → (y.flat.getD (n.toNat * szT P e) .dead).isAgg = false) ∧ K (.fp (subA (agT P e) (szT P e) y (n.toNat * szT P e))) h | none => False)
    | .pt r g a b => (match arT P t with | some (m, e) => okT P e = true ∧ 0 ≤ n ∧ n < m ∧ K (.pt r g a (b + n.toNat * szT P e)) h | none => False)
    | _ => False
  | _ => False
structure ixAddrM (P : Program) (t : TypeId) (x i : AVal) (h : AHeap) (K : KA) : Prop where
  out : ixAddrM_b P t x i h K
def fldAddrM_b (P : Program) (t : TypeId) (x : AVal) (f : Nat) (h : AHeap) (K : KA) : Prop :=
  match fdT P t f with
  | some (o, e) => okT P e = true ∧ 0 < szT P e ∧
    (match x with
     | .fp y => o + szT P e ≤ y.flat.length ∧ (agT P e = false → (y.flat.getD o .dead).isAgg = false) ∧ K (.fp (subA (agT P e) (szT P e) y o)) h
     | .pt r g i j => K (.pt r g i (j + o)) h
     | _ => False)
  | none => False
structure fldAddrM (P : Program) (t : TypeId) (x : AVal) (f : Nat) (h : AHeap) (K : KA) : Prop where
  out : fldAddrM_b P t x f h K
def loadM_b (P : Program) (t : TypeId) (x : AVal) (h : AHeap) (K : KA) : Prop :=
  match x with
  | .fp y => okT P t = true ∧ agT P t = y.isAgg ∧ szT P t = y.flat.length ∧ K y h
  | .pt r g i j => (match h[r]? with
    | some (.row g' s xs) => g = g' ∧ okT P t = true ∧ i < xs.length ∧ j + szT P t ≤ (xs.getD i .dead).flat.length ∧ (agT P t = false → szT P t = 1) ∧ K (subA (agT P t) (szT P t) (xs.getD i .dead) j) h
    | _ => False)
  | _ => False
structure loadM (P : Program) (t : TypeId) (x : AVal) (h : AHeap) (K : KA) : Prop where
  out : loadM_b P t x h K
def loadFM_b (P : Program) (t : TypeId) (x : AVal) (h : AHeap) (K : KA) : Prop :=
  match x with
  | .fp y => okT P t = true ∧ agT P t = y.isAgg ∧ szT P t = y.flat.length ∧ K y h
  | _ => False
/-- reads what is never written -/
structure loadFM (P : Program) (t : TypeId) (x : AVal) (h : AHeap) (K : KA) : Prop where
  out : loadFM_b P t x h K
theorem loadFM.to {P : Program} {t : TypeId} {x : AVal} {h : AHeap} {K : KA} (hm : loadFM P t x h K) : loadM P t x h K := ⟨by
  have := hm.out
  unfold loadFM_b at this
  split at this
  · exact this
  · exact this.elim⟩
def storeM_b (P : Program) (t : TypeId) (x y : AVal) (h : AHeap) (K : KA) : Prop :=
  match x with
  | .pt r g i j => (match h[r]? with
    | some (.row g' s xs) => g = g' ∧ okT P t = true ∧ i < xs.length ∧ szT P t = y.flat.length ∧ (0 < y.flat.length ∨ (xs.getD i .dead).isAgg = true) ∧ y.whole = true ∧ j + y.flat.length ≤ s ∧ K (.v undef) (h.set r (.row g s (xs.set i (putA (xs.getD i .dead) j y.flat))))
    | _ => False)
  | _ => False
structure storeM (P : Program) (t : TypeId) (x y : AVal) (h : AHeap) (K : KA) : Prop where
  out : storeM_b P t x y h K
def nilChkM_b (x : AVal) (h : AHeap) (K : KA) : Prop :=
  match x with
  | .fp _ => K x h
  | .pt _ _ _ _ => K x h
  | .fn _ _ _ => K x h
  | _ => False
structure nilChkM (x : AVal) (h : AHeap) (K : KA) : Prop where
  out : nilChkM_b x h K
def newM (s : Nat) (xs : List AVal) (h : AHeap) (K : Nat → AHeap → Prop) : Prop := ∀ g, K g (h ++ [.row g s xs])
def allocM_b (P : Program) (e : TypeId) (h : AHeap) (K : KA) : Prop :=
  match zrT P e with
  | some z => okT P e = true ∧ szT P e = z.flat.length ∧ newM (szT P e) [z] h (fun g h' => K (.pt h.length g 0 0) h')
  | none => False
structure allocM (P : Program) (e : TypeId) (h : AHeap) (K : KA) : Prop where
  out : allocM_b P e h K
def boxM_b (e : TypeId) (x : AVal) (h : AHeap) (K : KA) : Prop := x.whole = true ∧ newM x.flat.length [x] h (fun g h' => K (.pt h.length g 0 0) h')
structure boxM (e : TypeId) (x : AVal) (h : AHeap) (K : KA) : Prop where
  out : boxM_b e x h K
def fieldM_b (P : Program) (t : TypeId) (x : AVal) (f : Nat) (h : AHeap) (K : KA) : Prop :=
  match fdT P t f, x with
  | some (o, e), .agg cs => okT P e = true ∧ o + szT P e ≤ cs.length ∧ (agT P e = false → szT P e = 1) ∧ K (subA (agT P e) (szT P e) (.agg cs) o) h
  | _, _ => False
structure fieldM (P : Program) (t : TypeId) (x : AVal) (f : Nat) (h : AHeap) (K : KA) : Prop where
  out : fieldM_b P t x f h K
def plT (P : Program) (t : TypeId) : Option (List (Nat × Nat)) := match P.underlying t with | some (.struct fs) => fs.toList.mapM (fun f => (P.info? f.type).map fun i => (f.offset, i.size)) | _ => none
def bldA (pl : List (Nat × Nat)) : List AVal → List (Nat × AVal) → Option (List AVal)
  | cs, [] => some cs
  | cs, (i, y) :: l => match pl[i]? with
    | some (o, n) => bif Nat.beq n y.flat.length && Nat.ble (o + n) cs.length && y.whole then bldA pl (cs.take o ++ (y.flat ++ cs.drop (o + n))) l else none
    | none => none
def buildM_b (P : Program) (t : TypeId) (ps : List (Nat × AVal)) (h : AHeap) (K : KA) : Prop :=
  match plT P t, zrT P t with
  | some pl, some (.agg zs) => (match bldA pl zs ps with | some cs => K (.agg cs) h | none => False)
  | _, _ => False
structure buildM (P : Program) (t : TypeId) (ps : List (Nat × AVal)) (h : AHeap) (K : KA) : Prop where
  out : buildM_b P t ps h K
def bldS (n : Nat) : List AVal → List (Nat × AVal) → Option (List AVal)
  | xs, [] => some xs
  | xs, (i, y) :: l => bif Nat.beq y.flat.length n && Nat.ble (i + 1) xs.length && y.whole then bldS n (xs.set i y) l else none
def buildSliceM_b (P : Program) (t : TypeId) (n : Nat) (ps : List (Nat × AVal)) (h : AHeap) (K : KA) : Prop :=
  match slT P t with
  | some e => (match zrT P e with
    | some z => (match bldS (szT P e) (List.replicate n z) ps with
      | some xs => okT P e = true ∧ szT P e = z.flat.length ∧ 0 < szT P e ∧ n * szT P e ≤ 16777216 ∧ newM (szT P e) xs h (fun g h' => K (.rf h.length g 0 n) h')
      | none => False)
    | none => False)
  | none => False
structure buildSliceM (P : Program) (t : TypeId) (n : Nat) (ps : List (Nat × AVal)) (h : AHeap) (K : KA) : Prop where
  out : buildSliceM_b P t n ps h K
def makeM_b (P : Program) (t : TypeId) (x y : AVal) (h : AHeap) (K : KA) : Prop :=
  match slT P t, x, y with
  | some e, .v (.int _ n), .v (.int _ m) => (match zrT P e with
    | some z => okT P e = true ∧ szT P e = z.flat.length ∧ 0 < szT P e ∧ n = m ∧ 0 ≤ n ∧ (byT P e : Int) * n ≤ 281474976710656 ∧ n ≤ 9223372036854775807 ∧ newM (szT P e) (List.replicate n.toNat z) h (fun g h' => K (.rf h.length g 0 n.toNat) h')
    | none => False)
  | _, _, _ => False
structure makeM (P : Program) (t : TypeId) (x y : AVal) (h : AHeap) (K : KA) : Prop where
  out : makeM_b P t x y h K
/-- the elements of what is appended or copied -/
def elsA (h : AHeap) : AVal → Option (List AVal)
  | .sl xs => some xs
  | .v (.slice none 0 _) => some []
  | .v (.string s) => some (s.data.toList.map fun b => .v (.int .u8 b.toNat))
  | .rf r g o n => (match h[r]? with | some (.row g' _ xs) => if g = g' ∧ o + n ≤ xs.length then some ((xs.drop o).take n) else none | _ => none)
  | _ => none
def rowOf : AVal → Option Nat
  | .rf r _ _ _ => some r
  | _ => none
def appendM_b (P : Program) (t tx : TypeId) (x y : AVal) (h : AHeap) (K : KA) : Prop :=
  match slT P t, elsA h y with
  | some e, some ys => okT P e = true ∧ 0 < szT P e ∧ zokT P e = true ∧ ((slT P tx).isSome = true ∨ stT P tx = true) ∧ (∀ y ∈ ys, y.flat.length = szT P e ∧ y.whole = true) ∧
    (match x with
     | .v (.slice none 0 0) => ys.length * byT P e ≤ 140737488355328 ∧ ys.length ≤ maxLen ∧ (ys = [] → K nilS h) ∧ (ys ≠ [] → newM (szT P e) ys h (fun g h' => K (.rf h.length g 0 ys.length) h'))
     | .rf r g 0 n => (match h[r]? with
       | some (.row g' s xs) => g = g' ∧ s = szT P e ∧ n ≤ xs.length ∧ (n + ys.length) * byT P e ≤ 140737488355328 ∧ n + ys.length ≤ maxLen ∧
         (∀ g2, K (.rf r g2 0 (n + ys.length)) (h.set r (.row g2 s (xs.take n ++ ys))))
       | _ => False)
     | _ => False)
  | _, _ => False
structure appendM (P : Program) (t tx : TypeId) (x y : AVal) (h : AHeap) (K : KA) : Prop where
  out : appendM_b P t tx x y h K
def extractM_b (x : AVal) (i : Nat) (h : AHeap) (K : KA) : Prop := match x with | .tup xs => i < xs.length ∧ K (xs.getD i .dead) h | _ => False
structure extractM (x : AVal) (i : Nat) (h : AHeap) (K : KA) : Prop where
  out : extractM_b x i h K
def idxM_b (P : Program) (t : TypeId) (x i : AVal) (h : AHeap) (K : KA) : Prop :=
  match x, i with
  | .v (.string s), .v (.int _ n) => stT P t = true ∧ 0 ≤ n ∧ n < s.size ∧ K (.v (.int .u8 (s.data.getD n.toNat 0).toNat)) h
  | .agg cs, .v (.int _ n) => (match arT P t with | some (m, e) => okT P e = true ∧ 0 ≤ n ∧ n < m ∧ n.toNat * szT P e + szT P e ≤ cs.length ∧ (agT P e = false → szT P e = 1) ∧ K (subA (agT P e) (szT P e) (.agg cs) (n.toNat * szT P e)) h | none => False)
  | _, _ => False
structure idxM (P : Program) (t : TypeId) (x i : AVal) (h : AHeap) (K : KA) : Prop where
  out : idxM_b P t x i h K
def mkFnM_b (f : Fn) (fst caps : List AVal) (h : AHeap) (K : KA) : Prop := match f with | .func g => K (.fn g fst caps) h | _ => False
structure mkFnM (f : Fn) (fst caps : List AVal) (h : AHeap) (K : KA) : Prop where
  out : mkFnM_b f fst caps h K
def ifT (P : Program) (t : TypeId) : Bool := match P.underlying t with | some (.interface _) => true | _ => false
def ncT (P : Program) (t : TypeId) : Bool := match P.underlying t with | some (.interface _) => false | some _ => true | none => false
def fuT (P : Program) (t : TypeId) : Bool := match P.underlying t with | some (.func ..) => true | _ => false
structure mkIfM (P : Program) (t : TypeId) (x : AVal) (h : AHeap) (K : KA) : Prop where
  out : ncT P t = true ∧ K (.ifc t x) h
/-- x.(T), T no interface -/
def taM_b (P : Program) (t : TypeId) (ok : Bool) (x : AVal) (h : AHeap) (K : KA) : Prop :=
  ncT P t = true ∧ match x, ok with
  | .ifc u y, true => bif Nat.beq u t then K (.tup [y, .v (.bool true)]) h else (match zrT P t with | some z => K (.tup [z, .v (.bool false)]) h | none => False)
  | .v .nilIface, true => (match zrT P t with | some z => K (.tup [z, .v (.bool false)]) h | none => False)
  | .ifc u y, false => Nat.beq u t = true ∧ K y h
  | _, _ => False
structure taM (P : Program) (t : TypeId) (ok : Bool) (x : AVal) (h : AHeap) (K : KA) : Prop where
  out : taM_b P t ok x h K
def nilM_b (P : Program) (op : BinOp) (t : TypeId) (x : AVal) (h : AHeap) (K : KA) : Prop :=
  match x with
  | .v .nilIface => ifT P t = true ∧ eqM op true h K
  | .ifc _ _ => ifT P t = true ∧ eqM op false h K
  | _ => False
structure nilM (P : Program) (op : BinOp) (t : TypeId) (x : AVal) (h : AHeap) (K : KA) : Prop where
  out : nilM_b P op t x h K
def nilFM_b (P : Program) (op : BinOp) (t : TypeId) (x : AVal) (h : AHeap) (K : KA) : Prop :=
  match x with
  | .v .nilFunc => fuT P t = true ∧ eqM op true h K
  | .fn _ _ _ => fuT P t = true ∧ eqM op false h K
  | _ => False
structure nilFM (P : Program) (op : BinOp) (t : TypeId) (x : AVal) (h : AHeap) (K : KA) : Prop where
  out : nilFM_b P op t x h K
/-- the right operand is the literal nil of an interface or a function, or anything -/
def binO (P : Program) (op : BinOp) (t : TypeId) (x : AVal) (y : Operand) (yv : AVal) (h : AHeap) (K : KA) : Prop :=
  match y with
  | .const .nilIface => nilM P op t x h K
  | .const .nilFunc => nilFM P op t x h K
  | _ => binM P op t x yv h K
structure boxFM (x : AVal) (h : AHeap) (K : KA) : Prop where
  out : x.whole = true ∧ K (.fp x) h
def maxM_b (x y : AVal) (h : AHeap) (K : KA) : Prop := match x, y with | .v (.int k a), .v (.int _ b) => K (.v (.int k (max a b))) h | _, _ => False
structure maxM (x y : AVal) (h : AHeap) (K : KA) : Prop where
  out : maxM_b x y h K
def minM_b (x y : AVal) (h : AHeap) (K : KA) : Prop := match x, y with | .v (.int k a), .v (.int _ b) => K (.v (.int k (min a b))) h | _, _ => False
structure minM (x y : AVal) (h : AHeap) (K : KA) : Prop where
  out : minM_b x y h K
/-- a call, told by what it means -/
def callM [Pn : Pk] (P : Program) (f : FuncId) (xs : List AVal) (h : AHeap) (K : KA) : Prop :=
  ∀ c w vs, RH c h w → RVs c w xs vs → Calls P f vs w fun e w' => (∃ v c' x h', e = .returned v ∧ Ext c w c' w' ∧ RH c' h' w' ∧ RV c' w' x v ∧ K x h') ∨
    ∃ v c' x h', e = .panicked [{ v, recovered := false }] ∧ Ext c w c' w' ∧ RH c' h' w' ∧ RV c' w' x v ∧ Pn.f x h'
structure panM [Pn : Pk] (x : AVal) (h : AHeap) : Prop where
  out : (match x with | .ifc _ _ => Pn.f x h | _ => False)
theorem slT_spec {P : Program} {t e : TypeId} (h : slT P t = some e) : P.underlying t = some (.slice e) := by
  unfold slT at h
  split at h <;> simp_all
theorem slT_some {P : Program} {t : TypeId} (h : (slT P t).isSome = true) : ∃ e, P.underlying t = some (.slice e) := by
  cases he : slT P t with
  | none => rw [he] at h; cases h
  | some e => exact ⟨e, slT_spec he⟩
theorem arT_spec {P : Program} {t : TypeId} {m e : Nat} (h : arT P t = some (m, e)) : P.underlying t = some (.array m e) := by
  unfold arT at h
  split at h <;> simp_all
theorem stT_spec {P : Program} {t : TypeId} (h : stT P t = true) : P.underlying t = some .string := by
  unfold stT at h
  split at h <;> simp_all
theorem blT_spec {P : Program} {t : TypeId} (h : blT P t = true) : P.underlying t = some .bool := by
  unfold blT at h
  split at h <;> simp_all
theorem ptT_spec {P : Program} {t : TypeId} (h : ptT P t = true) : ∃ e, P.underlying t = some (.pointer e) := by
  unfold ptT at h
  split at h <;> simp_all
theorem inT_spec {P : Program} {t : TypeId} {k : IntKind} (h : inT P t = some k) : P.underlying t = some (.int k) := by
  unfold inT at h
  split at h <;> simp_all
theorem okT_spec {P : Program} {t : TypeId} (h : okT P t = true) : ∃ i d, P.info? t = some i ∧ P.underlying t = some d ∧ i.size = szT P t ∧ i.bytes = byT P t ∧ (agT P t = d.isRow) := by
  unfold okT at h
  rw [Bool.and_eq_true, Option.isSome_iff_exists, Option.isSome_iff_exists] at h
  obtain ⟨⟨i, hi⟩, d, hd⟩ := h
  refine ⟨i, d, hi, hd, by simp [szT, Program.cellsOf, hi], by simp [byT, Program.bytesOf, hi], ?_⟩
  unfold agT
  rw [hd]
  cases d <;> rfl
theorem fdT_spec {P : Program} {t : TypeId} {f o e : Nat} (h : fdT P t f = some (o, e)) : ∃ fs x, P.underlying t = some (.struct fs) ∧ fs[f]? = some x ∧ x.offset = o ∧ x.type = e := by
  unfold fdT at h
  split at h
  · rename_i fs hfs
    rw [Option.map_eq_some_iff] at h
    obtain ⟨x, hx, hh⟩ := h
    simp only [Prod.mk.injEq] at hh
    exact ⟨fs, x, hfs, hx, hh.1, hh.2⟩
  · cases h
/-- what an operation that yields a value comes to -/
def Val (P : Program) (c : Ctx) (w : World) (s : Sem Value) (K : KA) : Prop :=
  ∃ v w' c' x h', s.run P w = .ok v w' ∧ Ext c w c' w' ∧ RH c' h' w' ∧ RV c' w' x v ∧ K x h'
section
variable {P : Program} {c : Ctx} {w : World} {h : AHeap} {K : KA}
theorem Val.pure {s : Sem Value} {x : AVal} {v : Value} (hH : RH c h w) (hr : s.run P w = .ok v w) (hx : RV c w x v) (hk : K x h) : Val P c w s K :=
  ⟨v, w, c, x, h, hr, Ext.refl _ _, hH, hx, hk⟩
/-- an operation that only reckons: in whatever world it yields the same -/
def PVal (P : Program) (c : Ctx) (w : World) (h : AHeap) (s : Sem Value) (K : KA) : Prop :=
  ∃ v x, (∀ w', s.run P w' = .ok v w') ∧ RV c w x v ∧ K x h
theorem PVal.pure {s : Sem Value} {x : AVal} {v : Value} (hH : RH c h w) (hr : ∀ w', s.run P w' = .ok v w') (hx : RV c w x v) (hk : K x h) : PVal P c w h s K := ⟨v, x, hr, hx, hk⟩
theorem PVal.val {s : Sem Value} (hH : RH c h w) (hv : PVal P c w h s K) : Val P c w s K := by
  obtain ⟨v, x, hr, hx, hk⟩ := hv
  exact .pure hH (hr w) hx hk
theorem len_ok {t ty : TypeId} {x : AVal} {v : Value} (hH : RH c h w) (hx : RV c w x v) (hm : lenM P t x h K) : PVal P c w h (Builtin.len_ #[t] ty #[v]) K := by
  replace hm := hm.out
  cases hx with
  | nil xs ad cap he =>
    obtain ⟨⟨e, hu⟩, hk⟩ := And.imp_left slT_some hm
    subst he
    exact .pure hH (fun w => by simp [Builtin.len_, run_underlying hu, goInt]) (.v _) hk
  | sl xs b off len cap s f hF hlen =>
    obtain ⟨⟨e, hu⟩, hk⟩ := And.imp_left slT_some hm
    subst hlen
    exact .pure hH (fun w => by simp [Builtin.len_, run_underlying hu, goInt]) (.v _) hk
  | rf r g off len a cap =>
    obtain ⟨⟨e, hu⟩, hk⟩ := And.imp_left slT_some hm
    exact .pure hH (fun w => by simp [Builtin.len_, run_underlying hu, goInt]) (.v _) hk
  | v x =>
    unfold lenM_b at hm
    split at hm
    · cases ‹AVal.v _ = _›
    · cases ‹AVal.v _ = _›
    · rename_i n cp he
      cases he
      obtain ⟨⟨e, hu⟩, hk⟩ := And.imp_left slT_some hm
      exact .pure hH (fun w => by simp [Builtin.len_, run_underlying hu, goInt]) (.v _) hk
    · rename_i s he
      cases he
      obtain ⟨hs, hk⟩ := hm
      exact .pure hH (fun w => by simp [Builtin.len_, run_underlying (stT_spec hs), goInt]) (.v _) hk
    · exact hm.elim
  | _ => exact hm.elim
theorem bin_int_ok {op : BinOp} {k k' : IntKind} {a b : Int} (ho : okI op k k' b) (t : TypeId) : (binOp op t (.int k a) (.int k' b)).run P w = .ok (binI op k a b) w := by
  cases op <;> simp only [okI] at ho <;> (try subst ho) <;>
    first
    | (obtain ⟨rfl, hb⟩ := ho; simp [binOp, Op.intDiv, hb, binI]; done)
    | (have hb : ¬ b < 0 := by omega
       simp [binOp, Op.shift, hb, binI]; done)
    | (simp [binOp, Op.intArith, Op.intCmp, Op.intBits, binI]; done)
theorem eqM_ok {op : BinOp} {b : Bool} (hH : RH c h w) {s : Sem Value} (hm : eqM op b h K) (hs : op = .eql ∨ op = .neq → ∀ w, s.run P w = .ok (.bool (if op = .eql then b else !b)) w) : PVal P c w h s K := by
  unfold eqM at hm
  split at hm
  · exact .pure hH (fun w => by simpa using hs (.inl rfl) w) (.v _) hm
  · exact .pure hH (fun w => by simpa using hs (.inr rfl) w) (.v _) hm
  · exact hm.elim
end
section
variable {P : Program} {c : Ctx} {w : World} {h : AHeap} {K : KA}
theorem guard_ok (op : BinOp) (t : TypeId) (ox oy : Operand) (a b : Value) (hn : ∀ xs, a ≠ .agg xs) (hi : a ≠ .nilIface) : (eqGuard op t ox oy a b).run P w = .ok () w := by
  cases a <;> first | exact absurd rfl hi | exact absurd rfl (hn _) | (unfold eqGuard; cases op <;> rfl)
theorem bin_run {op : BinOp} {t : TypeId} {ox oy : Operand} {a b : Value} (hn : ∀ xs, a ≠ .agg xs) (hi : a ≠ .nilIface) : (do eqGuard op t ox oy a b; binOp op t a b : Sem Value).run P w = (binOp op t a b).run P w := by
  show (Sem.bind _ _).run P w = _
  rw [show Sem.bind (eqGuard op t ox oy a b) (fun _ => binOp op t a b) = (eqGuard op t ox oy a b >>= fun _ => binOp op t a b) from rfl, Sem.run_bind, guard_ok op t ox oy a b hn hi]
  rfl
theorem equal_run {t : TypeId} {a b : Value} {r : Bool} (he : (Op.equalIn (9999 + 1) t a b).run P w = .ok r w) : (Op.equal t a b).run P w = .ok r w := he
theorem equal_bool {t : TypeId} (hu : P.underlying t = some .bool) (a b : Bool) : (Op.equal t (.bool a) (.bool b)).run P w = .ok (a == b) w := by
  refine equal_run ?_
  unfold Op.equalIn
  rw [Sem.run_bind, run_underlying hu]; rfl
theorem equal_nil {t e : TypeId} (hu : P.underlying t = some (.slice e)) (b : Option Addr) (n m n' m' : Nat) : (Op.equal t (.slice none n m) (.slice b n' m')).run P w = .ok b.isNone w := by
  refine equal_run ?_
  unfold Op.equalIn
  rw [Sem.run_bind, run_underlying hu]; rfl
theorem equal_some {t e : TypeId} (hu : P.underlying t = some (.slice e)) (a : Addr) (n m n' m' : Nat) : (Op.equal t (.slice (some a) n m) (.slice none n' m')).run P w = .ok false w := by
  refine equal_run ?_
  unfold Op.equalIn
  rw [Sem.run_bind, run_underlying hu]; rfl
theorem equal_pnil {t e : TypeId} (hu : P.underlying t = some (.pointer e)) (b : Option Addr) : (Op.equal t (.pointer none) (.pointer b)).run P w = .ok b.isNone w := by
  refine equal_run ?_
  unfold Op.equalIn
  rw [Sem.run_bind, run_underlying hu]; rfl
theorem equal_psome {t e : TypeId} (hu : P.underlying t = some (.pointer e)) (a : Addr) : (Op.equal t (.pointer (some a)) (.pointer none)).run P w = .ok false w := by
  refine equal_run ?_
  unfold Op.equalIn
  rw [Sem.run_bind, run_underlying hu]; rfl
theorem eq_of {op : BinOp} {t : TypeId} {a b : Value} {r : Bool} (h1 : binOp .eql t a b = (do Pure.pure (.bool (← Op.equal t a b)))) (h2 : binOp .neq t a b = (do Pure.pure (.bool (!(← Op.equal t a b)))))
    (he : (Op.equal t a b).run P w = .ok r w) (ho : op = .eql ∨ op = .neq) : (binOp op t a b).run P w = .ok (.bool (if op = .eql then r else !r)) w := by
  rcases ho with rfl | rfl
  · rw [h1, Sem.run_bind, he]; rfl
  · rw [h2, Sem.run_bind, he]; rfl
theorem bin_ok {op : BinOp} {t : TypeId} {x y : AVal} {vx vy : Value} {ox oy : Operand} (hH : RH c h w) (hx : RV c w x vx) (hy : RV c w y vy) (hm : binM P op t x y h K) :
    PVal P c w h (do eqGuard op t ox oy vx vy; binOp op t vx vy) K := by
  have mk : (∀ xs, vx ≠ .agg xs) → vx ≠ .nilIface → PVal P c w h (binOp op t vx vy) K → PVal P c w h (do eqGuard op t ox oy vx vy; binOp op t vx vy) K := by
    rintro h1 h2 ⟨v, x, hr, hh⟩
    exact ⟨v, x, fun w' => (bin_run h1 h2).trans (hr w'), hh⟩
  replace hm := hm.out
  unfold binM_b at hm
  split at hm
  · cases hx; cases hy
    exact mk (by simp) (by simp) (.pure hH (fun _ => bin_int_ok hm.1 t) (.v _) hm.2)
  · cases hx; cases hy
    exact mk (by simp) (by simp) (eqM_ok hH hm.2 (fun ho _ => eq_of rfl rfl (equal_bool (blT_spec hm.1) _ _) ho))
  · cases hx; cases hy
    refine mk (by simp) (by simp) (eqM_ok hH hm (fun ho _ => ?_))
    rcases ho with rfl | rfl <;> rfl
  · cases hx; cases hy
    obtain ⟨e, hu⟩ := slT_some hm.1
    exact mk (by simp) (by simp) (eqM_ok hH hm.2 (fun ho _ => eq_of rfl rfl (equal_nil hu none _ _ _ _) ho))
  · cases hy
    obtain ⟨e, hu⟩ := slT_some hm.1
    cases hx with
    | nil xs ad cap he => exact absurd he hm.2.1
    | sl => exact mk (by simp) (by simp) (eqM_ok hH hm.2.2 (fun ho _ => eq_of rfl rfl (equal_some hu _ _ _ _ _) ho))
  · cases hy
    obtain ⟨e, hu⟩ := slT_some hm.1
    cases hx with
    | rf => exact mk (by simp) (by simp) (eqM_ok hH hm.2 (fun ho _ => eq_of rfl rfl (equal_some hu _ _ _ _ _) ho))
  · cases hx; cases hy
    obtain ⟨e, hu⟩ := ptT_spec hm.1
    exact mk (by simp) (by simp) (eqM_ok hH hm.2 (fun ho _ => eq_of rfl rfl (equal_pnil hu none) ho))
  · cases hy
    obtain ⟨e, hu⟩ := ptT_spec hm.1
    cases hx with
    | fp => exact mk (by simp) (by simp) (eqM_ok hH hm.2 (fun ho _ => eq_of rfl rfl (equal_psome hu _) ho))
  · cases hy
    obtain ⟨e, hu⟩ := ptT_spec hm.1
    cases hx with
    | pt => exact mk (by simp) (by simp) (eqM_ok hH hm.2 (fun ho _ => eq_of rfl rfl (equal_psome hu _) ho))
  · exact hm.elim
theorem fuT_spec {P : Program} {t : TypeId} (h : fuT P t = true) : ∃ a b c, P.underlying t = some (.func a b c) := by
  unfold fuT at h; split at h
  · exact ⟨_, _, _, by assumption⟩
  · cases h
theorem ifT_spec {P : Program} {t : TypeId} (h : ifT P t = true) : ∃ ms, P.underlying t = some (.interface ms) := by
  unfold ifT at h; split at h
  · exact ⟨_, by assumption⟩
  · cases h
theorem nil_ok {op : BinOp} {t : TypeId} {x : AVal} {vx : Value} {ox : Operand} (hH : RH c h w) (hx : RV c w x vx) (hm : nilM P op t x h K) :
    PVal P c w h (do eqGuard op t ox (.const .nilIface) vx .nilIface; binOp op t vx .nilIface) K := by
  replace hm := hm.out
  unfold nilM_b at hm
  split at hm
  · obtain ⟨ms, hu⟩ := ifT_spec hm.1
    cases hx
    refine eqM_ok hH hm.2 (fun ho w' => ?_)
    have hg : (eqGuard op t ox (.const .nilIface) .nilIface .nilIface).run P w' = .ok () w' := by
      unfold eqGuard
      rcases ho with rfl | rfl <;> simp <;> rfl
    rw [show (do eqGuard op t ox (.const .nilIface) .nilIface .nilIface; binOp op t .nilIface .nilIface : Sem Value) = (eqGuard op t ox (.const .nilIface) .nilIface .nilIface >>= fun _ => binOp op t .nilIface .nilIface) from rfl, Sem.run_bind, hg]
    refine eq_of rfl rfl (equal_run ?_) ho
    unfold Op.equalIn
    rw [Sem.run_bind, run_underlying hu]; rfl
  · obtain ⟨ms, hu⟩ := ifT_spec hm.1
    cases hx
    refine eqM_ok hH hm.2 (fun ho w' => (bin_run (by simp) (by simp)).trans ?_)
    refine eq_of rfl rfl (equal_run ?_) ho
    unfold Op.equalIn
    rw [Sem.run_bind, run_underlying hu]; rfl
  · exact hm.elim
theorem nilF_ok {op : BinOp} {t : TypeId} {x : AVal} {vx : Value} {ox oy : Operand} (hH : RH c h w) (hx : RV c w x vx) (hm : nilFM P op t x h K) :
    PVal P c w h (do eqGuard op t ox oy vx .nilFunc; binOp op t vx .nilFunc) K := by
  replace hm := hm.out
  unfold nilFM_b at hm
  split at hm
  · obtain ⟨a, b, d, hu⟩ := fuT_spec hm.1
    cases hx
    refine eqM_ok hH hm.2 (fun ho w' => (bin_run (by simp) (by simp)).trans ?_)
    refine eq_of rfl rfl (equal_run ?_) ho
    unfold Op.equalIn
    rw [Sem.run_bind, run_underlying hu]; rfl
  · obtain ⟨a, b, d, hu⟩ := fuT_spec hm.1
    cases hx
    refine eqM_ok hH hm.2 (fun ho w' => (bin_run (by simp) (by simp)).trans ?_)
    refine eq_of rfl rfl (equal_run ?_) ho
    unfold Op.equalIn
    rw [Sem.run_bind, run_underlying hu]; rfl
  · exact hm.elim
theorem binO_ok {op : BinOp} {t : TypeId} {x y : AVal} {vx vy : Value} {ox oy : Operand} (hH : RH c h w) (hx : RV c w x vx) (hy : RV c w y vy) (hc : ∀ u, oy = .const u → vy = u) (hm : binO P op t x oy y h K) :
    PVal P c w h (do eqGuard op t ox oy vx vy; binOp op t vx vy) K := by
  unfold binO at hm
  split at hm
  · obtain rfl := hc _ rfl
    exact nil_ok hH hx hm
  · obtain rfl := hc _ rfl
    exact nilF_ok hH hx hm
  · exact bin_ok hH hx hy hm
theorem mkFn_ok {f : Fn} {fst caps : List AVal} {us vs : Array Value} (hH : RH c h w) (h1 : RVs c w fst us) (h2 : RVs c w caps vs) (hm : mkFnM f fst caps h K) : PVal P c w h (Instr.makeFunc f us vs) K := by
  replace hm := hm.out
  unfold mkFnM_b at hm
  split at hm
  · exact .pure hH (fun _ => rfl) (.fn _ _ _ _ _ h1.1 h1.2 h2.1 h2.2) hm
  · exact hm.elim
theorem mkIf_ok {t : TypeId} {x : AVal} {v : Value} (hH : RH c h w) (hx : RV c w x v) (hm : mkIfM P t x h K) : PVal P c w h (Instr.makeInterface t v) K := by
  obtain ⟨h1, h2⟩ := hm.out
  unfold ncT at h1
  refine .pure hH (v := .iface t v) (fun w' => ?_) (.ifc t x v hx) h2
  unfold Instr.makeInterface
  split at h1
  · cases h1
  · rename_i d hne hu
    rw [Sem.run_bind, run_underlying hu]
    cases d <;> first | rfl | exact (hne _ rfl).elim | fail
  · cases h1
theorem zero_run {t : TypeId} {z : AVal} (hz : zrT P t = some z) : ∃ zv, z = ofV zv ∧ ∀ w', (zeroValue t).run P w' = .ok zv w' := by
  unfold zrT at hz
  cases hi : P.info? t with
  | none => simp [hi] at hz
  | some i =>
    simp [hi] at hz
    obtain ⟨zv, a, b⟩ := hz
    exact ⟨zv, b.symm, fun w' => by simp [zeroValue, typeInfo, hi, a]⟩
theorem ofV_rv (z : Value) : RV c w (ofV z) z := by
  unfold ofV
  split
  · rename_i cs
    refine .agg _ _ (by simp) (fun i a ha => ?_)
    rw [List.getElem?_map] at ha
    obtain ⟨u, hu, rfl⟩ := Option.map_eq_some_iff.1 ha
    have e : cs.getD i undef = u := by rw [Array.getD_eq_getD_getElem?, ← Array.getElem?_toList, hu]; rfl
    rw [e]; exact .v u
  · exact .v _
theorem ta_ok {s t : TypeId} {ok : Bool} {x : AVal} {v : Value} (hH : RH c h w) (hx : RV c w x v) (hm : taM P t ok x h K) : PVal P c w h (Instr.typeAssert v s t ok) K := by
  replace hm := hm.out
  unfold taM_b at hm
  obtain ⟨h1, hm⟩ := hm
  unfold ncT at h1
  have tup : ∀ {y : AVal} {u : Value} {b : Bool}, RV c w y u → RV c w (.tup [y, .v (.bool b)]) (.tuple #[u, .bool b]) := fun hy => .tup _ _ rfl (fun i a ha => by
    match i, ha with
    | 0, ha => cases ha; exact hy
    | 1, ha => cases ha; exact .v _
    | _ + 2, ha => simp at ha)
  split at h1
  · cases h1
  · rename_i d hne hu
    split at hm
    · rename_i u y
      cases hx with
      | ifc _ _ y' hy =>
      cases hb : Nat.beq u t with
      | true =>
        rw [hb] at hm
        obtain rfl := Nat.eq_of_beq_eq_true hb
        refine .pure hH (v := .tuple #[y', .bool true]) (fun w' => ?_) (tup hy) hm
        unfold Instr.typeAssert
        simp only []
        rw [Sem.run_bind, run_underlying hu]
        cases d <;> first | (exact (hne _ rfl).elim) | simp | fail
      | false =>
        rw [hb] at hm
        have hut : u ≠ t := fun e => by subst e; simp at hb
        simp only [cond_false] at hm
        split at hm
        · rename_i z hz
          obtain ⟨zv, rfl, hzr⟩ := zero_run hz
          refine .pure hH (v := .tuple #[zv, .bool false]) (fun w' => ?_) (tup (ofV_rv zv)) hm
          unfold Instr.typeAssert
          simp only []
          rw [Sem.run_bind, run_underlying hu]
          cases d <;> first | (exact (hne _ rfl).elim) | simp [hut, hzr] | fail
        · exact hm.elim
    · cases hx
      split at hm
      · rename_i z hz
        obtain ⟨zv, rfl, hzr⟩ := zero_run hz
        refine .pure hH (v := .tuple #[zv, .bool false]) (fun w' => ?_) (tup (ofV_rv zv)) hm
        unfold Instr.typeAssert
        simp only []
        rw [Sem.run_bind, run_underlying hu]
        cases d <;> first | (exact (hne _ rfl).elim) | simp [hzr] | fail
      · exact hm.elim
    · rename_i u y
      cases hx with
      | ifc _ _ y' hy =>
      obtain ⟨hb, hm⟩ := hm
      obtain rfl := Nat.eq_of_beq_eq_true hb
      refine .pure hH (v := y') (fun w' => ?_) hy hm
      unfold Instr.typeAssert
      simp only []
      rw [Sem.run_bind, run_underlying hu]
      cases d <;> first | (exact (hne _ rfl).elim) | simp | fail
    · exact hm.elim
  · cases h1
theorem un_ok {op : UnOp} {x : AVal} {v : Value} (hH : RH c h w) (hx : RV c w x v) (hm : unM op x h K) : PVal P c w h (Op.unary op v) K := by
  replace hm := hm.out
  unfold unM_b at hm
  split at hm
  · cases hx; exact .pure hH (fun _ => rfl) (.v _) hm
  · cases hx; exact .pure hH (fun _ => rfl) (.v _) hm
  · cases hx; exact .pure hH (fun _ => by simp [Op.unary, Op.intBits, binI]) (.v _) hm
  · exact hm.elim
theorem max_ok {ts : Array TypeId} {ty : TypeId} {x y : AVal} {v u : Value} (hH : RH c h w) (hx : RV c w x v) (hy : RV c w y u) (hm : maxM x y h K) : PVal P c w h (Builtin.max_ ts ty #[v, u]) K := by
  replace hm := hm.out
  unfold maxM_b at hm
  split at hm
  · rename_i k a k' b
    cases hx; cases hy
    refine .pure hH (v := .int k (max a b)) (fun _ => ?_) (.v _) hm
    simp only [Builtin.max_, List.foldlM, Builtin.max2]
    have : (if b > a then b else a) = max a b := by split <;> omega
    rw [this]; rfl
  · exact hm.elim
theorem min_ok {ts : Array TypeId} {ty : TypeId} {x y : AVal} {v u : Value} (hH : RH c h w) (hx : RV c w x v) (hy : RV c w y u) (hm : minM x y h K) : PVal P c w h (Builtin.min_ ts ty #[v, u]) K := by
  replace hm := hm.out
  unfold minM_b at hm
  split at hm
  · rename_i k a k' b
    cases hx; cases hy
    refine .pure hH (v := .int k (min a b)) (fun _ => ?_) (.v _) hm
    simp only [Builtin.min_, List.foldlM, Builtin.min2]
    have : (if b < a then b else a) = min a b := by split <;> omega
    rw [this]; rfl
  · exact hm.elim
theorem conv_pok {s d : TypeId} {x : AVal} {v : Value} (hH : RH c h w) (hx : RV c w x v) (hsd : s ≠ d) (hm : convM P s d x h K) : PVal P c w h (convert s d v) K := by
  replace hm := hm.out
  unfold convM_b at hm
  split at hm
  · split at hm
    · rename_i k hk
      cases hx
      obtain ⟨i, ds, hi, hd, _⟩ := okT_spec hm.1
      refine .pure hH (fun _ => ?_) (.v _) hm.2
      simp [convert, run_underlying hd, run_underlying (inT_spec hk), Conv.intToInt]
    · exact hm.elim
  · exact absurd hm.1 hsd
  · exact hm.elim
theorem pick_ok {x y z : AVal} {vx vy vz : Value} (hH : RH c h w) (hx : RV c w x vx) (hy : RV c w y vy) (hz : RV c w z vz) (hm : pickM x y z h K) :
    PVal P c w h (do Pure.pure (if ← asBool vx then vy else vz)) K := by
  unfold pickM at hm
  split at hm
  · rename_i b
    cases hx
    cases b
    · exact .pure hH (fun _ => by simp [asBool]) hz hm
    · exact .pure hH (fun _ => by simp [asBool]) hy hm
  · exact hm.elim
theorem extract_ok {x : AVal} {v : Value} {i : Nat} (hH : RH c h w) (hx : RV c w x v) (hm : extractM x i h K) : PVal P c w h (Instr.extract v i) K := by
  replace hm := hm.out
  unfold extractM_b at hm
  split at hm
  · cases hx with
    | tup _ vs hl hv =>
      obtain ⟨hi, hk⟩ := hm
      have hi' : i < vs.size := by omega
      have h1 := hv i _ (List.getElem?_eq_getElem hi)
      refine .pure hH (v := vs[i]) (fun _ => ?_) ?_ hk
      · simp [Instr.extract, hi']
      · simpa [hi', List.getD, List.getElem?_eq_getElem hi] using h1
  · exact hm.elim
end
section
variable {P : Program} {c : Ctx} {w : World} {h : AHeap} {K : KA}
theorem getD_some {xs : List AVal} {n : Nat} (hn : n < xs.length) : xs[n]? = some (xs.getD n .dead) := by
  simp [List.getD, List.getElem?_eq_getElem hn]
theorem run_indexAt {t e : TypeId} {i : TypeInfo} (hu : P.underlying t = some (.slice e)) (hi : P.info? e = some i) {b off len cap : Nat} {k : IntKind} {n : Int} (h0 : 0 ≤ n) (h1 : n < len) :
    (Instr.indexAt t (.slice (some ⟨b, off, none⟩) len cap) (.int k n)).run P w = .ok (.pointer (some ⟨b, off + n.toNat * i.size, none⟩)) w := by
  simp [Instr.indexAt, asIntOf, run_underlying hu, sizeOf, typeInfo, hi, h0, h1, Addr.add_mid]
theorem run_indexAtA {t e : TypeId} {m : Nat} {i : TypeInfo} (hu : P.underlying t = some (.array m e)) (hi : P.info? e = some i) {a : Addr} {k : IntKind} {n : Int} (h0 : 0 ≤ n) (h1 : n < m) :
    (Instr.indexAt t (.pointer (some a)) (.int k n)).run P w = .ok (.pointer (some (a.add (n.toNat * i.size)))) w := by
  simp [Instr.indexAt, asIntOf, Instr.sureAddr, run_underlying hu, sizeOf, typeInfo, hi, h0, h1]
theorem sub_flat {ag : Bool} {n : Nat} {y : AVal} {j : Nat} (h1 : j + n ≤ y.flat.length) (h2 : ag = false → n = 1) (h3 : ag = false → (y.flat.getD j .dead).isAgg = false) :
    (subA ag n y j).flat.length = n ∧ ∀ i a, (subA ag n y j).flat[i]? = some a → y.flat[j + i]? = some a := by
  cases ag with
  | true =>
    refine ⟨by show ((y.flat.drop j).take n).length = n; rw [List.length_take, List.length_drop]; omega, fun i a hi => ?_⟩
    have hi : ((y.flat.drop j).take n)[i]? = some a := hi
    have hlt : i < n := by
      have := (List.getElem?_eq_some_iff.1 hi).1
      simp at this; omega
    rw [List.getElem?_take_of_lt hlt, List.getElem?_drop] at hi
    exact hi
  | false =>
    have hn := h2 rfl
    subst hn
    have hj : j < y.flat.length := by omega
    have hq := h3 rfl
    have hf : (subA false 1 y j).flat = [y.flat.getD j .dead] := by
      show (y.flat.getD j .dead).flat = _
      cases hz : y.flat.getD j .dead <;> first | rfl | (rw [hz] at hq; cases hq)
    rw [hf]
    refine ⟨rfl, fun i a hi => ?_⟩
    have hi0 : i = 0 := by
      have := (List.getElem?_eq_some_iff.1 hi).1
      simpa using this
    subst hi0
    simp at hi
    rw [Nat.add_zero, getD_some hj, List.getD_eq_getElem?_getD, hi]
theorem ixAddr_ok {t : TypeId} {x y : AVal} {vx vi : Value} (hH : RH c h w) (hx : RV c w x vx) (hy : RV c w y vi) (hm : ixAddrM P t x y h K) : PVal P c w h (Instr.indexAt t vx vi) K := by
  replace hm := hm.out
  unfold ixAddrM_b at hm
  split at hm
  · rename_i k n
    cases hy
    split at hm
    · rename_i xs
      split at hm
      · rename_i e he
        obtain ⟨hok, h0, h1, hs, hk⟩ := hm
        obtain ⟨i, d, hi, hd, hsz, _⟩ := okT_spec hok
        cases hx with
        | nil _ ad cap hxs => subst hxs; simp at h1; omega
        | sl _ b off len cap s f hF hlen hcap hs' hc hr =>
          have hn : n.toNat < xs.length := by omega
          have h2 := getD_some hn
          have h3 := hs' _ _ h2
          refine .pure hH (fun _ => run_indexAt (slT_spec he) hi h0 (by omega)) (.fp _ b _ (f n.toNat) hF (fun j a ha => ?_) (fun j a ha => hr _ _ _ _ h2 ha)) hk
          rw [hsz, hs, h3, Nat.add_assoc]
          exact hc _ _ _ _ h2 ha
      · exact hm.elim
    · rename_i r g o m
      split at hm
      · rename_i e he
        split at hm
        · rename_i g' s xs hrow
          obtain ⟨rfl, hok, hs, h0, h1, hk⟩ := hm
          obtain ⟨i, d, hi, hd, hsz, _⟩ := okT_spec hok
          obtain ⟨hg, hz, _, _⟩ := hH.row _ _ _ _ hrow
          cases hx with
          | rf _ _ _ _ a cap hlt hh =>
            obtain ⟨ha, hl, hcm, hc⟩ := hh hg
            have ha : a = ⟨c.blk r, o * c.sz r, none⟩ := ha.resolve_left (by omega)
            subst ha
            refine .pure hH (fun _ => run_indexAt (slT_spec he) hi h0 h1) (.pt _ _ _ _ _ hlt (fun _ => ?_)) hk
            rw [hsz, hs, hz, Nat.add_mul, Nat.add_zero]
        · exact hm.elim
      · exact hm.elim
    · rename_i y
      split at hm
      · rename_i m e har
        obtain ⟨hok, hp, h0, h1, h2, h3, h4, hk⟩ := hm
        obtain ⟨i, d, hi, hd, hsz, _⟩ := okT_spec hok
        cases hx with
        | fp _ b off f hF hc hr =>
          obtain ⟨hl, hg⟩ := sub_flat h2 h3 h4
          refine .pure hH (fun _ => run_indexAtA (arT_spec har) hi h0 h1) ?_ hk
          rw [Addr.add_mid, hsz]
          refine .fp _ b _ (fun j => f (n.toNat * szT P e + j)) hF (fun j a ha => ?_) (fun j a ha => hr _ _ (hg _ _ ha))
          rw [Nat.add_assoc]
          exact hc _ _ (hg _ _ ha)
      · exact hm.elim
    · rename_i r g a b
      split at hm
      · rename_i m e har
        obtain ⟨hok, h0, h1, hk⟩ := hm
        obtain ⟨i, d, hi, hd, hsz, _⟩ := okT_spec hok
        cases hx with
        | pt _ _ _ _ ad hlt hh =>
          refine .pure hH (fun _ => run_indexAtA (arT_spec har) hi h0 h1) (.pt _ _ _ _ _ hlt (fun hg => ?_)) hk
          rw [hh hg, Addr.add_mid, hsz, Nat.add_assoc]
      · exact hm.elim
    · exact hm.elim
  · exact hm.elim
theorem run_fieldAt {s : TypeId} {fs : Array Field} {x : Field} {i : TypeInfo} {f : Nat} (hu : P.underlying s = some (.struct fs)) (hf : fs[f]? = some x) (hi : P.info? x.type = some i) (hp : 0 < i.size) {b off : Nat} :
    (Instr.fieldAt s (.pointer (some ⟨b, off, none⟩)) f).run P w = .ok (.pointer (some ⟨b, off + x.offset, none⟩)) w := by
  have : ¬ i.size = 0 := by omega
  simp [Instr.fieldAt, Instr.sureAddr, run_underlying hu, hf, fieldPlace, sizeOf, typeInfo, hi, this, Addr.add_mid]
theorem fldAddr_ok {t : TypeId} {x : AVal} {f : Nat} {vx : Value} (hH : RH c h w) (hx : RV c w x vx) (hm : fldAddrM P t x f h K) : PVal P c w h (Instr.fieldAt t vx f) K := by
  replace hm := hm.out
  unfold fldAddrM_b at hm
  split at hm
  · rename_i o e hfd
    obtain ⟨fs, fx, hu, hf, ho, ht⟩ := fdT_spec hfd
    obtain ⟨hok, hp, hm⟩ := hm
    obtain ⟨i, d, hi, hd, hsz, _⟩ := okT_spec hok
    subst ho; subst ht
    split at hm
    · rename_i y
      obtain ⟨h1, h2, hk⟩ := hm
      cases hx with
      | fp _ b off f hF hc hr =>
        have hag : agT P fx.type = false → szT P fx.type = 1 → True := fun _ _ => trivial
        by_cases hsz1 : agT P fx.type = false → szT P fx.type = 1
        · obtain ⟨hl, hg⟩ := sub_flat h1 hsz1 h2
          refine .pure hH (fun _ => run_fieldAt hu hf hi (by omega)) (.fp _ b _ (fun j => f (fx.offset + j)) hF (fun j a ha => ?_) (fun j a ha => hr _ _ (hg _ _ ha))) hk
          rw [Nat.add_assoc]
          exact hc _ _ (hg _ _ ha)
        · have hq : agT P fx.type = false := by
            cases hh : agT P fx.type
            · rfl
            · exact absurd (fun hx => by rw [hh] at hx; cases hx) hsz1
          -- one cell is told, whatever the size
          have hj : fx.offset < y.flat.length := by omega
          have hq2 := h2 hq
          have hfl : (subA (agT P fx.type) (szT P fx.type) y fx.offset).flat = [y.flat.getD fx.offset .dead] := by
            rw [hq]
            show (y.flat.getD fx.offset .dead).flat = _
            cases hz : y.flat.getD fx.offset .dead <;> first | rfl | (rw [hz] at hq2; cases hq2)
          have hg : ∀ j a, (subA (agT P fx.type) (szT P fx.type) y fx.offset).flat[j]? = some a → y.flat[fx.offset + j]? = some a := by
            intro j a ha
            rw [hfl] at ha
            have hj0 : j = 0 := by
              have := (List.getElem?_eq_some_iff.1 ha).1
              simpa using this
            subst hj0
            simp at ha
            rw [Nat.add_zero, getD_some hj, List.getD_eq_getElem?_getD, ha]
          refine .pure hH (fun _ => run_fieldAt hu hf hi (by omega)) (.fp _ b _ (fun j => f (fx.offset + j)) hF (fun j a ha => ?_) (fun j a ha => hr _ _ (hg _ _ ha))) hk
          rw [Nat.add_assoc]
          exact hc _ _ (hg _ _ ha)
    · rename_i r g i' j
      cases hx with
      | pt _ _ _ _ a hlt hh =>
        obtain ⟨b, o, sp⟩ := a
        by_cases hg : c.gen r = some g
        · have ha := hh hg
          simp only [Addr.mk.injEq] at ha
          obtain ⟨rfl, rfl, rfl⟩ := ha
          exact .pure hH (fun _ => run_fieldAt hu hf hi (by omega)) (.pt _ _ _ _ _ hlt (fun _ => by rw [Nat.add_assoc])) hm
        · have hrun : ∃ a', ∀ w', (Instr.fieldAt t (.pointer (some ⟨b, o, sp⟩)) f).run P w' = .ok (.pointer (some a')) w' := by
            have : ¬ i.size = 0 := by omega
            exact ⟨Addr.add ⟨b, o, sp⟩ fx.offset, fun w' => by simp [Instr.fieldAt, Instr.sureAddr, run_underlying hu, hf, fieldPlace, sizeOf, typeInfo, hi, this]⟩
          obtain ⟨a', ha'⟩ := hrun
          exact .pure hH ha' (.pt _ _ _ _ _ hlt (fun hh => absurd hh hg)) hm
    · exact hm.elim
  · exact hm.elim
end
section
variable {P : Program} {c : Ctx} {w : World} {h : AHeap} {K : KA}
theorem list_of_fn {f : Nat → Value} {n : Nat} : ((List.range n).map f).length = n ∧ ∀ j v, ((List.range n).map f)[j]? = some v → j < n ∧ v = f j := by
  refine ⟨by simp, fun j v hj => ?_⟩
  have hlt : j < n := by
    have := (List.getElem?_eq_some_iff.1 hj).1
    simpa using this
  refine ⟨hlt, ?_⟩
  simp [hlt] at hj
  exact hj.symm
/-- a variable is read -/
theorem run_load {t : TypeId} {i : TypeInfo} {d : TypeDesc} (hi : P.info? t = some i) (hd : P.underlying t = some d) {b o : Nat} (f : Nat → Value) (hc : ∀ j, j < i.size → w.cell? ⟨b, o + j, none⟩ = some (f j)) :
    (d.isRow = true → (Instr.loadAt t (.pointer (some ⟨b, o, none⟩))).run P w = .ok (.agg ((List.range i.size).map f).toArray) w) ∧
    (d.isRow = false → 0 < i.size → (Instr.loadAt t (.pointer (some ⟨b, o, none⟩))).run P w = .ok (f 0) w) := by
  refine ⟨fun hr => ?_, fun hr hp => ?_⟩
  · exact run_loadAt_mid w b o t _ d (fun j v hj => by obtain ⟨hlt, rfl⟩ := list_of_fn.2 j v hj; exact hc j hlt) hd hr (by simp [hi])
  · have h0 := hc 0 hp
    have hagg : (isAgg t).run P w = .ok false w := by
      unfold isAgg
      rw [Sem.run_bind, run_underlying hd w]
      cases d <;> simp_all
    simp only [Nat.add_zero] at h0
    simp [Instr.loadAt, Instr.sureAddr, loadVar, Sem.run_bind, hagg, load, Sem.run, h0]
theorem agg_of {f : Nat → Value} {cs : List AVal} (hr : ∀ j a, cs[j]? = some a → RV c w a (f j)) : RV c w (.agg cs) (.agg ((List.range cs.length).map f).toArray) := by
  refine .agg _ _ (by simp) (fun i a hi => ?_)
  have hlt : i < cs.length := (List.getElem?_eq_some_iff.1 hi).1
  have : ((List.range cs.length).map f).toArray.getD i undef = f i := by simp [hlt]
  rw [this]
  exact hr i a hi
/-- the world has grown: what was there is as it was -/
def Grew (w w' : World) : Prop := w.heap.size ≤ w'.heap.size ∧ ∀ b, b < w.heap.size → w'.heap[b]? = w.heap[b]?
theorem Grew.refl (w : World) : Grew w w := ⟨Nat.le_refl _, fun _ _ => rfl⟩
theorem Grew.trans {w w' w'' : World} (h : Grew w w') (k : Grew w' w'') : Grew w w'' := ⟨Nat.le_trans h.1 k.1, fun b hb => (k.2 b (Nat.lt_of_lt_of_le hb h.1)).trans (h.2 b hb)⟩
theorem Grew.cell {w' : World} (h : Grew w w') {a : Addr} {v : Value} (hc : w.cell? a = some v) : w'.cell? a = some v := by
  have hlt : a.block < w.heap.size := by
    unfold World.cell? at hc
    cases hq : w.heap[a.block]? with
    | none => rw [hq] at hc; cases hc
    | some o => exact (Array.getElem?_eq_some_iff.1 hq).1
  rw [← hc]; exact World.cell?_of_block (h.2 _ hlt)
theorem load_grew {t : TypeId} {x : AVal} {vx : Value} (hH : RH c h w) (hx : RV c w x vx) (hm : loadM P t x h K) : ∃ v y, (∀ w', Grew w w' → (Instr.loadAt t vx).run P w' = .ok v w') ∧ RV c w y v ∧ K y h := by
  replace hm := hm.out
  unfold loadM_b at hm
  split at hm
  · rename_i y
    obtain ⟨hok, hag, hsz, hk⟩ := hm
    obtain ⟨i, d, hi, hd, hs, _, hrow⟩ := okT_spec hok
    cases hx with
    | fp _ b off f hF hc hr =>
      have hl := fun w' (hw' : Grew w w') => run_load (w := w') hi hd (b := b) (o := off) f (fun j hj => hw'.cell (hc j _ (getD_some (by omega))))
      cases y with
      | agg cs =>
        have e : i.size = cs.length := by rw [hs, hsz]; rfl
        refine ⟨_, _, fun w' hw' => (hl w' hw').1 (by rw [← hrow, hag]; rfl), ?_, hk⟩
        rw [e]
        exact agg_of hr
      | _ => exact ⟨_, _, fun w' hw' => (hl w' hw').2 (by rw [← hrow, hag]; rfl) (by rw [hs, hsz]; exact Nat.one_pos), hr 0 _ rfl, hk⟩
  · rename_i r g i' j
    split at hm
    · rename_i g' s xs hrow
      obtain ⟨rfl, hok, hlt, hj, hag, hk⟩ := hm
      obtain ⟨i, d, hi, hd, hs, _, hr⟩ := okT_spec hok
      obtain ⟨hg, hz, _, hR⟩ := hH.row _ _ _ _ hrow
      have h1 := getD_some hlt
      cases hx with
      | pt _ _ _ _ a _ hh =>
        obtain rfl := hh hg
        have hcell : ∀ q, q < szT P t → ∃ v, w.cell? ⟨c.blk r, i' * c.sz r + j + q, none⟩ = some v ∧ RV c w ((xs.getD i' .dead).flat.getD (j + q) .dead) v := by
          intro q hq
          rw [Nat.add_assoc, hz]
          exact hR.val _ _ _ _ h1 (getD_some (by omega))
        obtain ⟨f, hf⟩ : ∃ f : Nat → Value, ∀ q, q < szT P t → w.cell? ⟨c.blk r, i' * c.sz r + j + q, none⟩ = some (f q) ∧ RV c w ((xs.getD i' .dead).flat.getD (j + q) .dead) (f q) := by
          refine ⟨fun q => (w.cell? ⟨c.blk r, i' * c.sz r + j + q, none⟩).getD undef, fun q hq => ?_⟩
          obtain ⟨v, h1, h2⟩ := hcell q hq
          simp only [h1, Option.getD_some]
          exact ⟨trivial, h2⟩
        have hl := fun w' (hw' : Grew w w') => run_load (w := w') hi hd (b := c.blk r) (o := i' * c.sz r + j) f (fun q hq => hw'.cell (hf q (by omega)).1)
        cases hq : agT P t with
        | true =>
          rw [hq] at hk hr
          refine ⟨_, _, fun w' hw' => (hl w' hw').1 hr.symm, ?_, hk⟩
          have hlen : (((xs.getD i' .dead).flat.drop j).take (szT P t)).length = i.size := by rw [List.length_take, List.length_drop]; omega
          rw [← hlen]
          refine agg_of (fun q a ha => ?_)
          have hq' : q < szT P t := by
            have := (List.getElem?_eq_some_iff.1 ha).1
            rw [List.length_take] at this; omega
          rw [List.getElem?_take_of_lt hq', List.getElem?_drop] at ha
          have := (hf q hq').2
          rwa [List.getD_eq_getElem?_getD, ha] at this
        | false =>
          rw [hq] at hk hr
          have h1 := hag hq
          exact ⟨_, _, fun w' hw' => (hl w' hw').2 hr.symm (by omega), (hf 0 (by omega)).2, hk⟩
    · exact hm.elim
  · exact hm.elim
theorem load_pure {t : TypeId} {x : AVal} {vx : Value} (hH : RH c h w) (hx : RV c w x vx) (hm : loadM P t x h K) : ∃ v y, (Instr.loadAt t vx).run P w = .ok v w ∧ RV c w y v ∧ K y h := by
  obtain ⟨v, y, h1, h2⟩ := load_grew hH hx hm
  exact ⟨v, y, h1 w (Grew.refl w), h2⟩
theorem load_ok {t : TypeId} {x : AVal} {vx : Value} (hH : RH c h w) (hx : RV c w x vx) (hm : loadM P t x h K) : Val P c w (Instr.loadAt t vx) K := by
  obtain ⟨v, y, h1, h2, h3⟩ := load_pure hH hx hm
  exact .pure hH h1 h2 h3
theorem run_part {e : TypeId} {i : TypeInfo} {d : TypeDesc} (hi : P.info? e = some i) (hd : P.underlying e = some d) (vs : Array Value) (o : Nat) :
    (d.isRow = true → (part e vs o).run P w = .ok (.agg (vs.extract o (o + i.size))) w) ∧ (∀ v, d.isRow = false → vs[o]? = some v → (part e vs o).run P w = .ok v w) := by
  refine ⟨fun hr => ?_, fun v hr hv => ?_⟩
  · have hagg : (isAgg e).run P w = .ok true w := by
      unfold isAgg
      rw [Sem.run_bind, run_underlying hd w]
      cases d <;> simp_all
    simp [part, Sem.run_bind, hagg, sizeOf, typeInfo, hi]
  · have hagg : (isAgg e).run P w = .ok false w := by
      unfold isAgg
      rw [Sem.run_bind, run_underlying hd w]
      cases d <;> simp_all
    simp [part, Sem.run_bind, hagg, hv]
theorem field_ok {t : TypeId} {x : AVal} {f : Nat} {vx : Value} (hH : RH c h w) (hx : RV c w x vx) (hm : fieldM P t x f h K) : PVal P c w h (Instr.field t vx f) K := by
  replace hm := hm.out
  unfold fieldM_b at hm
  split at hm
  · rename_i o e cs hfd
    obtain ⟨fs, fx, hu, hf, ho, ht⟩ := fdT_spec hfd
    obtain ⟨hok, h1, h2, hk⟩ := hm
    obtain ⟨i, d, hi, hd, hsz, _, hr⟩ := okT_spec hok
    subst ho; subst ht
    cases hx with
    | agg _ vs hl hv =>
      have hp := fun w' => run_part (P := P) (w := w') hi hd vs fx.offset
      cases hq : agT P fx.type with
      | true =>
        rw [hq] at hk hr
        refine .pure hH (v := .agg (vs.extract fx.offset (fx.offset + i.size))) (fun w' => ?_) (.agg _ _ ?_ (fun q a ha => ?_)) hk
        · simp [Instr.field, run_underlying hu, hf, asAgg, (hp w').1 hr.symm]
        · show _ = ((cs.drop fx.offset).take (szT P fx.type)).length
          rw [Array.size_extract, List.length_take, List.length_drop]; omega
        · have ha : ((cs.drop fx.offset).take (szT P fx.type))[q]? = some a := ha
          have hq' : q < szT P fx.type := by
            have := (List.getElem?_eq_some_iff.1 ha).1
            rw [List.length_take] at this; omega
          rw [List.getElem?_take_of_lt hq', List.getElem?_drop] at ha
          have := hv _ _ ha
          have e2 : (vs.extract fx.offset (fx.offset + i.size)).getD q undef = vs.getD (fx.offset + q) undef := by
            rw [Array.getD_eq_getD_getElem?, Array.getD_eq_getD_getElem?, Array.getElem?_extract]
            rw [if_pos (by omega)]
          rw [e2]; exact this
      | false =>
        rw [hq] at hk hr
        have h3 := h2 hq
        have hlt : fx.offset < cs.length := by omega
        have := hv _ _ (getD_some hlt)
        have hlt' : fx.offset < vs.size := by omega
        have hp2 := fun w' => (hp w').2 vs[fx.offset] hr.symm (by simp [hlt'])
        refine .pure hH (v := vs[fx.offset]) (fun w' => ?_) ?_ hk
        · simp [Instr.field, run_underlying hu, hf, asAgg, hp2 w']
        · have e2 : vs.getD fx.offset undef = vs[fx.offset] := by simp [hlt']
          rw [e2] at this; exact this
  · exact hm.elim
theorem idx_ok {t : TypeId} {x i : AVal} {vx vi : Value} (hH : RH c h w) (hx : RV c w x vx) (hi : RV c w i vi) (hm : idxM P t x i h K) : PVal P c w h (Instr.index t vx vi) K := by
  replace hm := hm.out
  unfold idxM_b at hm
  split at hm
  · rename_i s _ n
    cases hx; cases hi
    obtain ⟨hs, h0, h1, hk⟩ := hm
    have hlt : n.toNat < s.size := by omega
    have hlt' : n.toNat < s.data.size := hlt
    refine .pure hH (fun _ => ?_) (.v _) hk
    have : s[n.toNat]? = some (s.data.getD n.toNat 0) := by
      rw [getElem?_pos s n.toNat hlt, Array.getD_eq_getD_getElem?, Array.getElem?_eq_getElem hlt']
      rfl
    simp [Instr.index, asIntOf, run_underlying (stT_spec hs), h0, this]
  · rename_i cs _ n
    split at hm
    · rename_i m e har
      obtain ⟨hok, h0, h1, h2, h3, hk⟩ := hm
      have hu := arT_spec har
      obtain ⟨inf, d, hi', hd, hsz, _, hr⟩ := okT_spec hok
      cases hi
      cases hx with
      | agg _ vs hl hv =>
        generalize ho : n.toNat * szT P e = o at h2 hk
        have hp := fun w' => run_part (P := P) (w := w') hi' hd vs o
        have hrun : ∀ w' v, (part e vs o).run P w' = .ok v w' → (Instr.index t (.agg vs) (.int ‹IntKind› n)).run P w' = .ok v w' := fun w' v hv => by
          simp [Instr.index, asIntOf, run_underlying hu, h0, h1, sizeOf, typeInfo, hi', hsz, ho, hv]
        cases hq : agT P e with
        | true =>
          rw [hq] at hk hr
          refine .pure hH (v := .agg (vs.extract o (o + inf.size))) (fun w' => hrun w' _ ((hp w').1 hr.symm)) (.agg _ _ ?_ (fun q a ha => ?_)) hk
          · show _ = ((cs.drop o).take (szT P e)).length
            rw [Array.size_extract, List.length_take, List.length_drop]; omega
          · have ha : ((cs.drop o).take (szT P e))[q]? = some a := ha
            have hq' : q < szT P e := by
              have := (List.getElem?_eq_some_iff.1 ha).1
              rw [List.length_take] at this; omega
            rw [List.getElem?_take_of_lt hq', List.getElem?_drop] at ha
            have := hv _ _ ha
            have e2 : (vs.extract o (o + inf.size)).getD q undef = vs.getD (o + q) undef := by
              rw [Array.getD_eq_getD_getElem?, Array.getD_eq_getD_getElem?, Array.getElem?_extract]
              rw [if_pos (by omega)]
            rw [e2]; exact this
        | false =>
          rw [hq] at hk hr
          have h4 := h3 hq
          have hlt : o < cs.length := by omega
          have := hv _ _ (getD_some hlt)
          have hlt' : o < vs.size := by omega
          refine .pure hH (v := vs[o]) (fun w' => hrun w' _ ((hp w').2 vs[o] hr.symm (by simp [hlt']))) ?_ hk
          have e2 : vs.getD o undef = vs[o] := by simp [hlt']
          rw [e2] at this; exact this
    · exact hm.elim
  · exact hm.elim
end
def updN {α : Type} (f : Nat → α) (d : Nat) (x : α) : Nat → α := fun t => if t = d then x else f t
theorem updN_same {α : Type} (f : Nat → α) (d : Nat) (x : α) : updN f d x d = x := by simp [updN]
theorem updN_ne {α : Type} (f : Nat → α) {d t : Nat} (x : α) (h : t ≠ d) : updN f d x t = f t := by simp [updN, h]
section
variable {P : Program} {c : Ctx} {w w' : World} {h h' : AHeap} {K : KA}
/-- row r is laid anew, with a stamp of its own -/
theorem row_new (hH : RH c h w) {r s cap b : Nat} {xs : List AVal} (hr : h'[r]? = some (.row c.ctr s xs)) (ho : ∀ k, k ≠ r → h'[k]? = h[k]?)
    (hos : w'.os = w.os) (htp : w'.tape = w.tape) (hou : w'.output = w.output) (hsz : w.heap.size ≤ w'.heap.size) (hoth : ∀ k, k < w.heap.size → k ≠ b → w'.heap[k]? = w.heap[k]?)
    (hF : ¬ c.F b) (hb : b < w'.heap.size) (hinj : ∀ r' g', c.gen r' = some g' → r' ≠ r → c.blk r' ≠ b)
    (hth : ∀ o, o < cap → (w'.cell? ⟨b, o, none⟩).isSome = true ∧ fzF w' ⟨b, o, none⟩) (hfit : xs.length * s ≤ cap) (hlen : ∀ (i : Nat) (x : AVal), xs[i]? = some x → x.flat.length = s)
    (hv : ∀ (i : Nat) (x : AVal) (j : Nat) (a : AVal), xs[i]? = some x → x.flat[j]? = some a → ∃ v, w'.cell? ⟨b, i * s + j, none⟩ = some v ∧ RV c w a v) :
    ∃ c', Ext c w c' w' ∧ RH c' h' w' ∧ c'.gen r = some c.ctr ∧ c'.blk r = b ∧ c'.sz r = s ∧ c'.cap r = cap ∧ c.ctr < c'.ctr := by
  have hblk : ∀ k, k < w.heap.size → k ≠ b → ∀ o, w'.cell? ⟨k, o, none⟩ = w.cell? ⟨k, o, none⟩ ∧ (fzF w' ⟨k, o, none⟩ ↔ fzF w ⟨k, o, none⟩) := fun k hk hne o =>
    ⟨World.cell?_of_block (a := ⟨k, o, none⟩) (hoth k hk hne), fzF_of_block (a := ⟨k, o, none⟩) (hoth k hk hne)⟩
  have hbF : ∀ k, c.F k → k ≠ b := fun k hk e => hF (e ▸ hk)
  let c' : Ctx := { c with ctr := c.ctr + 1, gen := updN c.gen r (some c.ctr), blk := updN c.blk r b, sz := updN c.sz r s, cap := updN c.cap r cap }
  have hE : Ext c w c' w' := by
    refine ⟨rfl, rfl, fun _ h => h, Nat.le_succ _, fun r' g hg hh => ?_, fun k hk => hoth k (hH.Fs k hk) (hbF k hk)⟩
    by_cases hrr : r' = r
    · subst hrr
      have : c'.gen r' = some c.ctr := updN_same _ _ _
      rw [this] at hh
      cases hh
      omega
    · exact ⟨(updN_ne c.gen (some c.ctr) hrr).symm.trans hh, updN_ne _ _ hrr, updN_ne _ _ hrr, updN_ne _ _ hrr⟩
  refine ⟨c', hE, ⟨hH.laid, ?_, ?_, hH.Fb, ?_, ?_, ?_, ?_⟩, updN_same _ _ _, updN_same _ _ _, updN_same _ _ _, updN_same _ _ _, Nat.lt_succ_self _⟩
  · refine hH.below.trans ⟨hos, htp, hou, hsz, fun k hk => hoth k (Nat.lt_of_lt_of_le hk hH.base) (hbF k (hH.Fb k hk))⟩
  · exact Nat.le_trans hH.base hsz
  · exact fun k hk => Nat.lt_of_lt_of_le (hH.Fs k hk) hsz
  · intro r' g hg
    by_cases hrr : r' = r
    · subst hrr
      have h1 : c'.gen r' = some c.ctr := updN_same _ _ _
      have h2 : c'.sz r' = s := updN_same _ _ _
      rw [h1] at hg
      cases hg
      exact ⟨Nat.lt_succ_self _, xs, by rw [h2]; exact hr⟩
    · have h1 : c'.gen r' = c.gen r' := updN_ne _ _ hrr
      have h2 : c'.sz r' = c.sz r' := updN_ne _ _ hrr
      rw [h1] at hg
      obtain ⟨k1, ys, k2⟩ := hH.live r' g hg
      exact ⟨Nat.lt_succ_of_lt k1, ys, by rw [h2, ho _ hrr]; exact k2⟩
  · intro r' g s' ys hrow
    by_cases hrr : r' = r
    · subst hrr
      rw [hr] at hrow
      cases hrow
      refine ⟨updN_same _ _ _, updN_same _ _ _, by rw [show c'.blk r' = b from updN_same _ _ _]; exact hF, ?_⟩
      rw [show c'.blk r' = b from updN_same _ _ _, show c'.cap r' = cap from updN_same _ _ _]
      refine ⟨hb, hth, hfit, hlen, fun i x j a h1 h2 => ?_⟩
      obtain ⟨v, k1, k2⟩ := hv i x j a h1 h2
      exact ⟨v, k1, k2.mono hE⟩
    · rw [ho _ hrr] at hrow
      obtain ⟨k1, k2, k3, k4⟩ := hH.row r' g s' ys hrow
      have hne := hinj r' g k1 hrr
      refine ⟨(updN_ne c.gen (some c.ctr) hrr).trans k1, (updN_ne _ _ hrr).trans k2, by rw [show c'.blk r' = c.blk r' from updN_ne _ _ hrr]; exact k3, ?_⟩
      rw [show c'.blk r' = c.blk r' from updN_ne _ _ hrr, show c'.cap r' = c.cap r' from updN_ne _ _ hrr]
      refine ⟨Nat.lt_of_lt_of_le k4.lt hsz, fun o ho' => ?_, k4.fit, k4.len, fun i x j a h1 h2 => ?_⟩
      · rw [(hblk _ k4.lt hne o).1, (hblk _ k4.lt hne o).2]; exact k4.there o ho'
      · obtain ⟨v, q1, q2⟩ := k4.val i x j a h1 h2
        exact ⟨v, by rw [(hblk _ k4.lt hne _).1]; exact q1, q2.mono hE⟩
  · intro r1 r2 g1 g2 h1 h2 he
    by_cases e1 : r1 = r
    · by_cases e2 : r2 = r
      · rw [e1, e2]
      · subst e1
        rw [show c'.blk r1 = b from updN_same _ _ _, show c'.blk r2 = c.blk r2 from updN_ne _ _ e2] at he
        exact absurd he.symm (hinj r2 g2 ((updN_ne c.gen (some c.ctr) e2).symm.trans h2) e2)
    · by_cases e2 : r2 = r
      · subst e2
        rw [show c'.blk r2 = b from updN_same _ _ _, show c'.blk r1 = c.blk r1 from updN_ne _ _ e1] at he
        exact absurd he (hinj r1 g1 ((updN_ne c.gen (some c.ctr) e1).symm.trans h1) e1)
      · rw [show c'.blk r1 = c.blk r1 from updN_ne _ _ e1, show c'.blk r2 = c.blk r2 from updN_ne _ _ e2] at he
        exact hH.inj r1 r2 g1 g2 ((updN_ne c.gen (some c.ctr) e1).symm.trans h1) ((updN_ne c.gen (some c.ctr) e2).symm.trans h2) he
/-- row r is written, its stamp stays -/
theorem row_set (hH : RH c h w) {r g s : Nat} {xs0 xs : List AVal} (hr0 : h[r]? = some (.row g s xs0)) (hr : h'[r]? = some (.row g s xs)) (ho : ∀ k, k ≠ r → h'[k]? = h[k]?)
    (hos : w'.os = w.os) (htp : w'.tape = w.tape) (hou : w'.output = w.output) (hsz : w.heap.size = w'.heap.size) (hoth : ∀ k, k < w.heap.size → k ≠ c.blk r → w'.heap[k]? = w.heap[k]?)
    (hth : ∀ o, o < c.cap r → (w'.cell? ⟨c.blk r, o, none⟩).isSome = true ∧ fzF w' ⟨c.blk r, o, none⟩) (hfit : xs.length * s ≤ c.cap r) (hlen : ∀ (i : Nat) (x : AVal), xs[i]? = some x → x.flat.length = s)
    (hv : ∀ (i : Nat) (x : AVal) (j : Nat) (a : AVal), xs[i]? = some x → x.flat[j]? = some a → ∃ v, w'.cell? ⟨c.blk r, i * s + j, none⟩ = some v ∧ RV c w a v) :
    Ext c w c w' ∧ RH c h' w' := by
  obtain ⟨hg, hz, hF, hR⟩ := hH.row r g s xs0 hr0
  have hblk : ∀ k, k < w.heap.size → k ≠ c.blk r → ∀ o, w'.cell? ⟨k, o, none⟩ = w.cell? ⟨k, o, none⟩ ∧ (fzF w' ⟨k, o, none⟩ ↔ fzF w ⟨k, o, none⟩) := fun k hk hne o =>
    ⟨World.cell?_of_block (a := ⟨k, o, none⟩) (hoth k hk hne), fzF_of_block (a := ⟨k, o, none⟩) (hoth k hk hne)⟩
  have hbF : ∀ k, c.F k → k ≠ c.blk r := fun k hk e => hF (e ▸ hk)
  have hE : Ext c w c w' := ⟨rfl, rfl, fun _ h => h, Nat.le_refl _, fun _ _ _ h => ⟨h, rfl, rfl, rfl⟩, fun k hk => hoth k (hH.Fs k hk) (hbF k hk)⟩
  refine ⟨hE, ⟨hH.laid, ?_, hsz ▸ hH.base, hH.Fb, fun k hk => hsz ▸ hH.Fs k hk, ?_, ?_, hH.inj⟩⟩
  · exact hH.below.trans ⟨hos, htp, hou, Nat.le_of_eq hsz, fun k hk => hoth k (Nat.lt_of_lt_of_le hk hH.base) (hbF k (hH.Fb k hk))⟩
  · intro r' g' hg'
    by_cases hrr : r' = r
    · subst hrr
      have : g' = g := by rw [hg] at hg'; cases hg'; rfl
      subst this
      exact ⟨(hH.live _ _ hg').1, xs, by rw [hz]; exact hr⟩
    · rw [ho _ hrr]; exact hH.live r' g' hg'
  · intro r' g' s' ys hrow
    by_cases hrr : r' = r
    · subst hrr
      rw [hr] at hrow
      cases hrow
      refine ⟨hg, hz, hF, hsz ▸ hR.lt, hth, hfit, hlen, fun i x j a h1 h2 => ?_⟩
      obtain ⟨v, k1, k2⟩ := hv i x j a h1 h2
      exact ⟨v, k1, k2.mono hE⟩
    · rw [ho _ hrr] at hrow
      obtain ⟨k1, k2, k3, k4⟩ := hH.row r' g' s' ys hrow
      have hne : c.blk r' ≠ c.blk r := fun e => hrr (hH.inj r' r g' g k1 hg e)
      refine ⟨k1, k2, k3, hsz ▸ k4.lt, fun o ho' => ?_, k4.fit, k4.len, fun i x j a h1 h2 => ?_⟩
      · rw [(hblk _ k4.lt hne o).1, (hblk _ k4.lt hne o).2]; exact k4.there o ho'
      · obtain ⟨v, q1, q2⟩ := k4.val i x j a h1 h2
        exact ⟨v, by rw [(hblk _ k4.lt hne _).1]; exact q1, q2.mono hE⟩
/-- a new block -/
theorem new_ok (hH : RH c h w) {cs : Array Value} {e s : Nat} {xs : List AVal} (w1 : World) (hw1 : w1.heap = w.heap ∧ w1.os = w.os ∧ w1.tape = w.tape ∧ w1.output = w.output) (hfit : xs.length * s ≤ cs.size)
    (hlen : ∀ (i : Nat) (x : AVal), xs[i]? = some x → x.flat.length = s) (hv : ∀ (i : Nat) (x : AVal) (j : Nat) (a : AVal), xs[i]? = some x → x.flat[j]? = some a → ∃ v, cs[i * s + j]? = some v ∧ RV c w a v) :
    ∃ c', Ext c w c' (w1.alloc (.cells cs e)) ∧ RH c' (h ++ [.row c.ctr s xs]) (w1.alloc (.cells cs e)) ∧ c'.gen h.length = some c.ctr ∧ c'.blk h.length = w.heap.size ∧ c'.sz h.length = s ∧ c'.cap h.length = cs.size ∧ c.ctr < c'.ctr := by
  obtain ⟨e1, e2, e3, e4⟩ := hw1
  have hsz : w1.heap.size = w.heap.size := by rw [e1]
  have hnew : (w1.alloc (.cells cs e)).heap[w.heap.size]? = some (.cells cs e) := by rw [← hsz]; exact heap_alloc_new w1 _
  have hcell : ∀ o, (w1.alloc (.cells cs e)).cell? ⟨w.heap.size, o, none⟩ = cs[o]? := fun o => by
    rw [← hsz]; exact World.cell?_alloc_new w1 _ _ o
  have hnF : ¬ c.F w.heap.size := fun hf => Nat.lt_irrefl _ (hH.Fs _ hf)
  refine row_new hH (by simp) (fun k hk => ?_) e2 e3 e4 (by simp [hsz]) (fun k hk hne => ?_) hnF (by simp [hsz]) (fun r' g' hg hne he => ?_) (fun o ho => ⟨?_, ?_⟩) hfit hlen (fun i x j a h1 h2 => ?_)
  · rcases Nat.lt_or_ge k h.length with hl | hl
    · rw [List.getElem?_append_left hl]
    · rw [List.getElem?_eq_none (by simp; omega), List.getElem?_eq_none hl]
  · rw [← e1]; exact Below.heap_alloc w1 _ k (by omega)
  · obtain ⟨_, ys, hy⟩ := hH.live r' g' hg
    exact absurd he (by have := ((hH.row r' g' _ ys hy).2.2.2).lt; omega)
  · rw [hcell]; simp [ho]
  · simp [fzF, hnew]
  · obtain ⟨v, k1, k2⟩ := hv i x j a h1 h2
    exact ⟨v, by rw [hcell]; exact k1, k2⟩
/-- the bytes of a string's literal: the block's end is marked -/
theorem conv_ok {s d : TypeId} {x : AVal} {v : Value} (hH : RH c h w) (hx : RV c w x v) (hm : convM P s d x h K) : Val P c w (convert s d v) K := by
  by_cases hsd : s = d
  · subst hsd
    replace hm := hm.out
    unfold convM_b at hm
    split at hm
    · split at hm
      · rename_i k hk
        cases hx
        obtain ⟨i, ds, hi, hd, _⟩ := okT_spec hm.1
        refine Val.pure hH ?_ (.v _) hm.2
        rw [inT_spec hk] at hd
        cases hd
        simp [convert, run_underlying (inT_spec hk), Conv.intToInt]
      · exact hm.elim
    · obtain ⟨-, hn, hu, hm⟩ := hm
      split at hu
      · rename_i e he
        split at hm
        · rename_i r g off n _ _ g' sz xs hrow
          obtain ⟨rfl, rfl, hk⟩ := hm
          obtain ⟨k1, k2, k3, k4⟩ := hH.row r g 1 xs hrow
          cases hx with
          | rf _ _ _ _ a cap hg hh =>
            have hhk := hh k1
            obtain ⟨ha, hc1, _, hc2⟩ := hhk
            obtain ha := ha.resolve_left (by omega)
            subst ha
            rw [k2] at hc2
            have hsome := (k4.there (c.cap r - 1) (by omega)).1
            obtain ⟨cs, el, fz, hob, hcs⟩ : ∃ cs el fz, w.heap[c.blk r]? = some (.cells cs el fz) ∧ c.cap r ≤ cs.size := by
              unfold World.cell? at hsome
              split at hsome
              · rename_i cs el fz hob
                simp at hsome
                exact ⟨cs, el, fz, hob, by omega⟩
              · cases hsome
            have hw : ∃ fz', (w.freeze ⟨c.blk r, cs.size, none⟩ 1).heap = w.heap.set! (c.blk r) (.cells cs el fz') ∧ (∀ o, o < c.cap r → (fz.1 = fz.2 ∨ o < fz.1) → o < fz'.1) := by
              unfold World.freeze
              refine ⟨if fz.1 == fz.2 then (cs.size, cs.size + 1) else (min fz.1 cs.size, max fz.2 (cs.size + 1)), ?_, fun o ho hf => ?_⟩
              · obtain ⟨lo, hi⟩ := fz
                simp only [Nat.one_ne_zero, if_false]
                apply Array.ext_getElem?
                intro k
                rw [Array.getElem?_modify]
                by_cases hkk : c.blk r = k
                · subst hkk
                  have hg := (Array.getElem?_eq_some_iff.1 hob).2
                  simp [k4.lt, hg]
                · simp [hkk, Array.getElem?_setIfInBounds_ne hkk]
              · split
                · simp; omega
                · rename_i hne
                  simp at hne ⊢
                  omega
            obtain ⟨fz', hw1, hw2⟩ := hw
            generalize hW : w.freeze ⟨c.blk r, cs.size, none⟩ 1 = w' at hw1
            have hos : w'.os = w.os ∧ w'.tape = w.tape ∧ w'.output = w.output := by subst hW; exact ⟨rfl, rfl, rfl⟩
            have hnb : w'.heap[c.blk r]? = some (.cells cs el fz') := by rw [hw1]; simp [k4.lt]
            have hcell : ∀ o, w'.cell? ⟨c.blk r, o, none⟩ = w.cell? ⟨c.blk r, o, none⟩ := fun o => by simp [World.cell?, hnb, hob]
            have hset := row_set (w' := w') (h' := h) hH hrow hrow (fun _ _ => rfl) hos.1 hos.2.1 hos.2.2 (by rw [hw1]; simp) (fun k _ hne => by rw [hw1]; simp [Array.getElem?_setIfInBounds_ne (Ne.symm hne)])
              (fun o ho => ⟨by rw [hcell]; exact (k4.there o ho).1, by
                have h2 := (k4.there o ho).2
                unfold fzF at h2 ⊢
                simp only [hob] at h2
                simp only [hnb]
                exact .inr (hw2 o ho h2)⟩) k4.fit k4.len (fun i x j a h1 h2 => by
                obtain ⟨u, u1, u2⟩ := k4.val i x j a h1 h2
                exact ⟨u, by rw [hcell]; exact u1, u2⟩)
            refine ⟨_, w', c, _, h, ?_, hset.1, hset.2, .rf r g off n _ cap hg hh, hk⟩
            subst hW
            simp [convert, run_underlying (slT_spec he), run_underlying (inT_spec hu), markStringish, Sem.run_bind, World.shape?, hob, shape, freeze, Sem.run]
        · exact hm.elim
      · exact hu.elim
    · exact hm.elim
  · exact (conv_pok hH hx hsd hm).val hH
theorem byA_spec : ∀ {xs : List AVal} {ns : List Int}, xs.mapM byA = some ns → xs = ns.map (fun n => AVal.v (.int .u8 n))
  | [], ns, h => by simp at h; subst h; rfl
  | x :: xs, ns, h => by
    rw [List.mapM_cons] at h
    cases hx : byA x with
    | none => rw [hx] at h; cases h
    | some n =>
      cases hm : xs.mapM byA with
      | none => rw [hx, hm] at h; cases h
      | some ms =>
        rw [hx, hm] at h
        cases h
        have := byA_spec hm
        unfold byA at hx
        split at hx
        · cases hx; simp [this]
        · cases hx
theorem cvs_ok {s d : TypeId} {x : AVal} {v : Value} (hH : RH c h w) (hx : RV c w x v) (hm : cvsM P s d x h K) : Val P c w (convert s d v) K := by
  replace hm := hm.out
  split at hm
  · rename_i xs
    obtain ⟨hu, hd, hm⟩ := hm
    split at hu
    · rename_i e he
      split at hm
      · rename_i ns hns
        have hxs := byA_spec hns
        cases hx with
        | nil _ a cap hnil =>
          subst hnil
          have hn0 : ns = [] := by cases ns with | nil => rfl | cons _ _ => simp at hxs
          subst hn0
          refine Val.pure hH ?_ (.v _) hm
          rw [run_convert_bytes_string w s d e _ _ _ (slT_spec he) (inT_spec hu) (stT_spec hd)]
          cases a with
          | none => rfl
          | some a => exact run_bytesToString w a 0 cap [] (by simpa using run_loadCells_list (P := P) w a [] (fun j v h => by simp at h))
        | sl _ b off len cap sz f hF hlen hcap hs hc hr =>
          subst hxs
          refine Val.pure hH ?_ (.v _) hm
          rw [run_convert_bytes_string w s d e _ _ _ (slT_spec he) (inT_spec hu) (stT_spec hd)]
          refine run_bytesToString w _ len cap ns ?_
          have hlen' : len = (ns.map (Value.int .u8)).length := by rw [hlen]; simp
          rw [hlen']
          refine run_loadCells_list w _ _ (fun j u hj => ?_)
          rw [List.getElem?_map, Option.map_eq_some_iff] at hj
          obtain ⟨n, hn, rfl⟩ := hj
          have hx1 : (ns.map (fun n => AVal.v (.int .u8 n)))[j]? = some (.v (.int .u8 n)) := by rw [List.getElem?_map, hn]; rfl
          have hsz : sz = 1 := (hs j _ hx1).symm
          subst hsz
          have h1 := hc j _ 0 _ hx1 rfl
          have h2 := hr j _ 0 _ hx1 rfl
          generalize f j 0 = u at h1 h2
          cases h2
          by_cases hj0 : j = 0
          · subst hj0; simpa [Addr.add] using h1
          · simpa [Addr.add, hj0] using h1
      · exact hm.elim
    · exact hu.elim
  · exact hm.elim
end
theorem tape_setCells (b : Nat) : ∀ (vs : List Value) (o : Nat) (w : World), (w.setCells b o vs).tape = w.tape ∧ (w.setCells b o vs).heap.size = w.heap.size
  | [], _, _ => ⟨rfl, rfl⟩
  | v :: r, o, w => by
    obtain ⟨h1, h2⟩ := tape_setCells b r (o + 1) (w.setCell ⟨b, o, none⟩ v)
    exact ⟨h1.trans rfl, h2.trans (by simp [World.setCell])⟩
theorem ofV_flat (z : Value) : (ofV z).flat.length = z.cells.size ∧ ∀ (j : Nat) (a : AVal), (ofV z).flat[j]? = some a → ∃ u, z.cells[j]? = some u ∧ a = .v u := by
  cases z with
  | agg cs =>
    refine ⟨by simp [ofV, AVal.flat, Value.cells], fun j a ha => ?_⟩
    simp [ofV, AVal.flat] at ha
    obtain ⟨u, h1, rfl⟩ := ha
    exact ⟨u, by simpa [Value.cells] using h1, rfl⟩
  | _ =>
    refine ⟨rfl, fun j a ha => ?_⟩
    have hj : j = 0 := by
      have := (List.getElem?_eq_some_iff.1 ha).1
      simpa [ofV, AVal.flat] using this
    subst hj
    simp [ofV, AVal.flat] at ha
    exact ⟨_, by simp [Value.cells], ha.symm⟩
section
variable {P : Program} {c : Ctx} {w : World} {h : AHeap} {K : KA}
theorem c1_one {a : AVal} {u : Value} (hr : RV c w a u) (h1 : a.c1 = true) : u.oneCell' = true := by
  cases hr <;> first | rfl | exact h1 | cases h1
theorem whole_cells {y : AVal} {v : Value} (hy : RV c w y v) (hw : y.whole = true) :
    v.cells.size = y.flat.length ∧ (∀ (j : Nat) (a : AVal), y.flat[j]? = some a → ∃ u, v.cells[j]? = some u ∧ RV c w a u) ∧ ∀ u ∈ v.cells.toList, u.oneCell' = true := by
  have one : y.flat = [y] → v.cells = #[v] → v.cells.size = y.flat.length ∧ (∀ (j : Nat) (a : AVal), y.flat[j]? = some a → ∃ u, v.cells[j]? = some u ∧ RV c w a u) ∧ ∀ u ∈ v.cells.toList, u.oneCell' = true := by
    intro hf hv
    have hc : y.c1 = true := by
      unfold AVal.whole at hw
      rw [hf] at hw
      simpa using hw
    rw [hf, hv]
    refine ⟨rfl, fun j a ha => ?_, fun u hu => ?_⟩
    · have hj : j = 0 := by
        have := (List.getElem?_eq_some_iff.1 ha).1
        simpa using this
      subst hj
      simp at ha
      subst ha
      exact ⟨v, rfl, hy⟩
    · simp at hu
      subst hu
      exact c1_one hy hc
  cases hy with
  | agg cs vs hl hh =>
    refine ⟨hl, fun j a ha => ?_, fun u hu => ?_⟩
    · have hj : j < cs.length := (List.getElem?_eq_some_iff.1 ha).1
      have hj' : j < vs.size := by omega
      have := hh j a ha
      refine ⟨vs[j], by simp [Value.cells, hj'], ?_⟩
      simpa [hj'] using this
    · obtain ⟨j, hj, rfl⟩ := List.getElem_of_mem hu
      have hj1 : j < vs.size := by simpa [Value.cells] using hj
      have hj' : j < cs.length := by omega
      have h1 := hh j cs[j] (List.getElem?_eq_getElem hj')
      have h2 : (cs[j]).c1 = true := List.all_eq_true.1 hw _ (List.getElem_mem hj')
      have h3 := c1_one h1 h2
      simpa [hj1, Value.cells] using h3
  | v x =>
    refine one rfl ?_
    have hc : v.oneCell' = true := by simpa [AVal.whole, AVal.flat, AVal.c1] using hw
    cases v <;> first | rfl | cases hc
  | nil => exact one rfl rfl
  | sl => exact one rfl rfl
  | fp => exact one rfl rfl
  | rf => exact one rfl rfl
  | pt => exact one rfl rfl
  | ifc => exact one rfl rfl
  | fn => exact one rfl rfl
  | tup => simp [AVal.whole, AVal.flat, AVal.c1] at hw
  | dead => simp [AVal.whole, AVal.flat, AVal.c1] at hw
/-- where a cell of a row lies -/
theorem cell_ix {i i' s j j' : Nat} (h1 : j < s) (h2 : j' < s) (he : i * s + j = i' * s + j') : i = i' ∧ j = j' := by
  have hi : i = i' := by
    rcases Nat.lt_trichotomy i i' with hl | hl | hl
    · have := Nat.mul_le_mul_right s (show i + 1 ≤ i' from hl)
      rw [Nat.add_mul] at this; omega
    · exact hl
    · have := Nat.mul_le_mul_right s (show i' + 1 ≤ i from hl)
      rw [Nat.add_mul] at this; omega
  subst hi
  exact ⟨rfl, by omega⟩
theorem put_flat {x : AVal} {j : Nat} {cs : List AVal} (h1 : j + cs.length ≤ x.flat.length) (hc : cs.all AVal.c1 = true) (h0 : x.isAgg = false → 0 < cs.length) :
    (putA x j cs).flat.length = x.flat.length ∧ ∀ (q : Nat) (a : AVal), (putA x j cs).flat[q]? = some a → (j ≤ q ∧ q < j + cs.length ∧ cs[q - j]? = some a) ∨ ((q < j ∨ j + cs.length ≤ q) ∧ x.flat[q]? = some a) := by
  have one : x.isAgg = false → x.flat = [x] → putA x j cs = cs.headD .dead → (putA x j cs).flat.length = x.flat.length ∧ ∀ (q : Nat) (a : AVal), (putA x j cs).flat[q]? = some a → (j ≤ q ∧ q < j + cs.length ∧ cs[q - j]? = some a) ∨ ((q < j ∨ j + cs.length ≤ q) ∧ x.flat[q]? = some a) := by
    intro hx hf hp
    rw [hf] at h1
    simp at h1
    have := h0 hx
    match cs, this with
    | [a0], _ =>
      simp at h1
      subst h1
      have hc0 : a0.c1 = true := by simpa using hc
      have hfl : (putA x 0 [a0]).flat = [a0] := by
        rw [hp]
        show a0.flat = [a0]
        cases a0 <;> first | rfl | cases hc0
      rw [hfl, hf]
      refine ⟨rfl, fun q a hq => .inl ?_⟩
      have hq0 : q = 0 := by
        have := (List.getElem?_eq_some_iff.1 hq).1
        simpa using this
      subst hq0
      exact ⟨Nat.le_refl _, by simp, hq⟩
    | _ :: _ :: _, _ => simp at h1; omega
  cases x with
  | agg ds =>
    have h1 : j + cs.length ≤ ds.length := h1
    refine ⟨?_, fun q a hq => ?_⟩
    · show (ds.take j ++ (cs ++ ds.drop (j + cs.length))).length = ds.length
      simp; omega
    · have hq : (ds.take j ++ (cs ++ ds.drop (j + cs.length)))[q]? = some a := hq
      have hl : (ds.take j).length = j := by rw [List.length_take]; omega
      rcases Nat.lt_or_ge q j with h2 | h2
      · rw [List.getElem?_append_left (by omega), List.getElem?_take_of_lt h2] at hq
        exact .inr ⟨.inl h2, hq⟩
      · rw [List.getElem?_append_right (by omega), hl] at hq
        rcases Nat.lt_or_ge (q - j) cs.length with h3 | h3
        · rw [List.getElem?_append_left h3] at hq
          exact .inl ⟨h2, by omega, hq⟩
        · rw [List.getElem?_append_right h3, List.getElem?_drop] at hq
          refine .inr ⟨.inr (by omega), ?_⟩
          rw [show j + cs.length + (q - j - cs.length) = q by omega] at hq
          exact hq
  | _ => exact one rfl rfl rfl
theorem run_storeAt {t : TypeId} {i : TypeInfo} (hi : P.info? t = some i) {b o : Nat} {v : Value} (hs : v.cells.size = i.size) (ht : ∀ j, j < i.size → (w.cell? ⟨b, o + j, none⟩).isSome = true ∧ w.frozen? ⟨b, o + j, none⟩ = false) (h1 : ∀ u ∈ v.cells.toList, u.oneCell' = true) :
    (Instr.storeAt t (.pointer (some ⟨b, o, none⟩)) v).run P w = .ok () (w.setCells b o v.cells.toList) := by
  have := run_storeCells_cells (P := P) b o v.cells.toList 0 w (fun j hj => by simpa using (ht j (by simpa [hs] using hj)).1) (fun j hj => by simpa using (ht j (by simpa [hs] using hj)).2) h1
  simp only [Nat.add_zero] at this
  simp [Instr.storeAt, Instr.sureAddr, storeVar, sizeOf, typeInfo, hi, hs, this]
/-- what an operation that yields nothing comes to -/
def ValU (P : Program) (c : Ctx) (w : World) (s : Sem Unit) (K : KA) : Prop :=
  ∃ w' c' h', s.run P w = .ok () w' ∧ Ext c w c' w' ∧ RH c' h' w' ∧ K (.v undef) h'
theorem store_ok {t : TypeId} {x y : AVal} {vx vy : Value} (hH : RH c h w) (hx : RV c w x vx) (hy : RV c w y vy) (hm : storeM P t x y h K) : ValU P c w (Instr.storeAt t vx vy) K := by
  replace hm := hm.out
  unfold storeM_b at hm
  split at hm
  · rename_i r g i' j
    split at hm
    · rename_i g' s xs hrow
      obtain ⟨rfl, hok, hlt, hs, hpos, hwh, hj, hk⟩ := hm
      obtain ⟨i, d, hi, hd, hsz, _, _⟩ := okT_spec hok
      obtain ⟨hg, hz, hF, hR⟩ := hH.row _ _ _ _ hrow
      have hx1 := getD_some hlt
      have hlen := hR.len _ _ hx1
      obtain ⟨hcs, hcv, hc1⟩ := whole_cells hy hwh
      have hend : i' * s + s ≤ c.cap r := by
        have h1 : i' * s + s ≤ xs.length * s := by rw [← Nat.succ_mul]; exact Nat.mul_le_mul_right s hlt
        exact Nat.le_trans h1 hR.fit
      cases hx with
      | pt _ _ _ _ a _ hh =>
        obtain rfl := hh hg
        rw [hz]
        have hth : ∀ q, q < i.size → (w.cell? ⟨c.blk r, i' * s + j + q, none⟩).isSome = true ∧ w.frozen? ⟨c.blk r, i' * s + j + q, none⟩ = false := fun q hq => And.imp_right fzF.un (hR.there _ (by omega))
        have hvl : vy.cells.toList.length = y.flat.length := by rw [Array.length_toList, hcs]
        have hin : ∀ q, q < vy.cells.toList.length → (w.cell? ⟨c.blk r, i' * s + j + q, none⟩).isSome = true := fun q hq => (hth q (by omega)).1
        obtain ⟨e1, e2⟩ := tape_setCells (c.blk r) vy.cells.toList (i' * s + j) w
        have hlx : (xs.set i' (putA (xs.getD i' .dead) j y.flat)).length = xs.length := by simp
        obtain ⟨p1, p2⟩ := put_flat (x := xs.getD i' .dead) (j := j) (cs := y.flat) (by omega) hwh (fun e => hpos.resolve_right (by rw [e]; simp))
        have hset := row_set (w' := w.setCells (c.blk r) (i' * s + j) vy.cells.toList) (h' := h.set r (.row g s (xs.set i' (putA (xs.getD i' .dead) j y.flat)))) hH hrow
          (by rw [List.getElem?_set_self (List.getElem?_eq_some_iff.1 hrow).1]) (fun k hk => List.getElem?_set_ne (Ne.symm hk))
          (World.os_setCells _ _ _ _) e1 (World.output_setCells _ _ _ _) e2.symm (fun k hk hne => World.heap_setCells_other _ _ _ _ hk hne)
          (fun o ho => ⟨World.isSome_setCells _ _ _ _ _ (hR.there o ho).1, by rw [fzF_setCells]; exact (hR.there o ho).2⟩)
          (by rw [hlx]; exact hR.fit)
          (fun k x hk => by
            rcases Nat.decEq k i' with hne | rfl
            · rw [List.getElem?_set_ne (Ne.symm hne)] at hk; exact hR.len _ _ hk
            · rw [List.getElem?_set_self hlt] at hk
              cases hk
              rw [p1]; exact hlen)
          (fun k x q a hk ha => by
            rcases Nat.decEq k i' with hne | rfl
            · rw [List.getElem?_set_ne (Ne.symm hne)] at hk
              obtain ⟨v, q1, q2⟩ := hR.val _ _ _ _ hk ha
              have hql : q < s := by rw [← hR.len _ _ hk]; exact (List.getElem?_eq_some_iff.1 ha).1
              refine ⟨v, ?_, q2⟩
              rw [World.cell?_setCells_out]
              · exact q1
              · intro _ _
                show k * s + q < i' * s + j ∨ i' * s + j + vy.cells.toList.length ≤ k * s + q
                rcases Nat.lt_or_ge (k * s + q) (i' * s + j) with hlo | hlo
                · exact .inl hlo
                · rcases Nat.lt_or_ge (k * s + q) (i' * s + j + vy.cells.toList.length) with hhi | hhi
                  · obtain ⟨e, _⟩ := cell_ix (i := k) (i' := i') (j := q) (j' := k * s + q - i' * s) hql (by omega) (by omega)
                    exact absurd e hne
                  · exact .inr hhi
            · rw [List.getElem?_set_self hlt] at hk
              cases hk
              rcases p2 q a ha with ⟨q1, q2, q3⟩ | ⟨q1, q3⟩
              · obtain ⟨u, u1, u2⟩ := hcv _ _ q3
                refine ⟨u, ?_, u2⟩
                have hin2 := World.cell?_setCells_in (c.blk r) vy.cells.toList (k * s + j) w hin (q - j) (by omega)
                rw [show k * s + q = k * s + j + (q - j) by omega, hin2]
                rw [← u1]
                simp
              · obtain ⟨v, v1, v2⟩ := hR.val _ _ _ _ hx1 q3
                refine ⟨v, ?_, v2⟩
                rw [World.cell?_setCells_out]
                · exact v1
                · intro _ _
                  show k * s + q < k * s + j ∨ k * s + j + vy.cells.toList.length ≤ k * s + q
                  omega)
        exact ⟨_, c, _, run_storeAt hi (by omega) hth hc1, hset.1, hset.2, hk⟩
    · exact hm.elim
  · exact hm.elim
/-- what an operation that makes a block comes to -/
def GVal (P : Program) (c : Ctx) (w : World) (s : Sem Value) (K : KA) : Prop :=
  ∃ v w' c' x h', s.run P w = .ok v w' ∧ Ext c w c' w' ∧ RH c' h' w' ∧ RV c' w' x v ∧ K x h' ∧ Grew w w'
theorem GVal.val {s : Sem Value} (hv : GVal P c w s K) : Val P c w s K := by
  obtain ⟨v, w', c', x, h', h1, h2, h3, h4, h5, _⟩ := hv
  exact ⟨v, w', c', x, h', h1, h2, h3, h4, h5⟩
theorem grew_alloc (w1 : World) (h : w1.heap = w.heap) (o : Obj) : Grew w (w1.alloc o) := by
  refine ⟨by simp [h], fun b hb => ?_⟩
  rw [← h]; exact Below.heap_alloc w1 o b (by rw [h]; exact hb)
theorem box_ok {e : TypeId} {x : AVal} {v : Value} (hH : RH c h w) (hx : RV c w x v) (hm : boxM e x h K) : GVal P c w (Instr.box e v) K := by
  replace hm := hm.out
  obtain ⟨hwh, hm⟩ := hm
  obtain ⟨h1, h2, h3⟩ := whole_cells hx hwh
  obtain ⟨c', k1, k2, k3, k4, k5, k6, k7⟩ := new_ok (e := e) (cs := v.cells) (s := x.flat.length) (xs := [x]) hH w ⟨rfl, rfl, rfl, rfl⟩ (by simp [h1]) (fun i y hy => by
    have hi : i = 0 := by
      have := (List.getElem?_eq_some_iff.1 hy).1
      simpa using this
    subst hi
    cases hy; rfl) (fun i y j a hy ha => by
    have hi : i = 0 := by
      have := (List.getElem?_eq_some_iff.1 hy).1
      simpa using this
    subst hi
    cases hy
    simpa using h2 j a ha)
  refine ⟨.pointer (some ⟨w.heap.size, 0, none⟩), _, c', _, _, ?_, k1, k2, .pt _ _ _ _ _ k7 (fun _ => ?_), hm c.ctr, grew_alloc w rfl _⟩
  · exact rfl
  · rw [k4, k5]; simp
/-- a box that is never written -/
theorem boxF_ok {e : TypeId} {x : AVal} {v : Value} (hH : RH c h w) (hx : RV c w x v) (hm : boxFM x h K) : GVal P c w (Instr.box e v) K := by
  obtain ⟨hwh, hm⟩ := hm.out
  obtain ⟨h1, h2, h3⟩ := whole_cells hx hwh
  obtain ⟨c', k1, k2, k3, k4, k5, k6, k7⟩ := new_ok (e := e) (cs := v.cells) (s := x.flat.length) (xs := [x]) hH w ⟨rfl, rfl, rfl, rfl⟩ (by simp [h1]) (fun i y hy => by
    have hi : i = 0 := by
      have := (List.getElem?_eq_some_iff.1 hy).1
      simpa using this
    subst hi
    cases hy; rfl) (fun i y j a hy ha => by
    have hi : i = 0 := by
      have := (List.getElem?_eq_some_iff.1 hy).1
      simpa using this
    subst hi
    cases hy
    simpa using h2 j a ha)
  have hrow : (h ++ [AObj.row c.ctr x.flat.length [x]])[h.length]? = some (.row c.ctr x.flat.length [x]) := by simp
  obtain ⟨hg, hz, hF, hR⟩ := k2.row _ _ _ _ hrow
  let c2 : Ctx := { c' with F := fun b => c'.F b ∨ b = c'.blk h.length, gen := updN c'.gen h.length none }
  have hE : Ext c' (w.alloc (.cells v.cells e)) c2 (w.alloc (.cells v.cells e)) := ⟨rfl, rfl, fun _ h => .inl h, Nat.le_refl _, fun r' g' _ hr' => by
    by_cases he : r' = h.length
    · subst he; rw [show c2.gen h.length = none from updN_same _ _ _] at hr'; cases hr'
    · exact ⟨(updN_ne c'.gen none he).symm.trans hr', rfl, rfl, rfl⟩, fun _ _ => rfl⟩
  have hlt : ∀ {r : Nat} {o : AObj}, h[r]? = some o → (h ++ [AObj.row c.ctr x.flat.length [x]])[r]? = some o ∧ r ≠ h.length := fun {r o} hr => by
    have hl := (List.getElem?_eq_some_iff.1 hr).1
    exact ⟨by rw [List.getElem?_append_left hl]; exact hr, by omega⟩
  have hH2 : RH c2 h (w.alloc (.cells v.cells e)) := by
    refine ⟨k2.laid, k2.below, k2.base, fun b hb => .inl (k2.Fb b hb), fun b hb => ?_, fun r g hr => ?_, fun r g s xs hr => ?_, fun r r' g g' g1 g2 he => ?_⟩
    · rcases hb with hb | rfl
      · exact k2.Fs b hb
      · exact hR.lt
    · by_cases he : r = h.length
      · subst he; rw [show c2.gen h.length = none from updN_same _ _ _] at hr; cases hr
      · have hr : c'.gen r = some g := (updN_ne c'.gen none he).symm.trans hr
        obtain ⟨q1, xs, q2⟩ := k2.live r g hr
        refine ⟨q1, xs, ?_⟩
        have hl : r < (h ++ [AObj.row c.ctr x.flat.length [x]]).length := (List.getElem?_eq_some_iff.1 q2).1
        rw [List.length_append, List.length_singleton] at hl
        rwa [List.getElem?_append_left (by omega)] at q2
    · obtain ⟨q1, q2⟩ := hlt hr
      obtain ⟨r1, r2, r3, r4⟩ := k2.row r g s xs q1
      refine ⟨(updN_ne c'.gen none q2).trans r1, r2, fun hb => ?_, r4.lt, r4.there, r4.fit, r4.len, fun i y j a hy ha => ?_⟩
      · rcases hb with hb | hb
        · exact r3 hb
        · exact q2 (k2.inj _ _ _ _ r1 hg hb)
      · obtain ⟨u, u1, u2⟩ := r4.val i y j a hy ha
        exact ⟨u, u1, u2.mono hE⟩
    · have n1 : r ≠ h.length := fun e => by subst e; rw [show c2.gen h.length = none from updN_same _ _ _] at g1; cases g1
      have n2 : r' ≠ h.length := fun e => by subst e; rw [show c2.gen h.length = none from updN_same _ _ _] at g2; cases g2
      exact k2.inj r r' g g' ((updN_ne c'.gen none n1).symm.trans g1) ((updN_ne c'.gen none n2).symm.trans g2) he
  have hcell : ∀ (j : Nat) (a : AVal), x.flat[j]? = some a → ∃ u, (w.alloc (.cells v.cells e)).cell? ⟨w.heap.size, 0 + j, none⟩ = some u ∧ RV c' (w.alloc (.cells v.cells e)) a u := fun j a ha => by
    have := hR.val 0 x j a rfl ha
    rw [k4] at this
    simpa using this
  refine ⟨.pointer (some ⟨w.heap.size, 0, none⟩), _, c2, _, _, rfl, k1.trans hE, hH2, .fp _ _ _ (fun j => ((w.alloc (.cells v.cells e)).cell? ⟨w.heap.size, 0 + j, none⟩).getD undef) (.inr k4.symm) (fun j a ha => ?_) (fun j a ha => ?_), hm, grew_alloc w rfl _⟩
  · obtain ⟨u, u1, u2⟩ := hcell j a ha
    refine Eq.trans u1 ?_; rw [u1]; rfl
  · obtain ⟨u, u1, u2⟩ := hcell j a ha
    rw [u1]; exact u2.mono hE
theorem alloc_ok {e : TypeId} (hH : RH c h w) (hm : allocM P e h K) : GVal P c w (Instr.alloc e true (.tuple #[])) K := by
  replace hm := hm.out
  unfold allocM_b at hm
  split at hm
  · rename_i z hz
    obtain ⟨hok, hs, hm⟩ := hm
    obtain ⟨i, d, hi, hd, hsz, _, _⟩ := okT_spec hok
    obtain ⟨zv, hzv, rfl⟩ : ∃ zv, i.zero = some zv ∧ z = ofV zv := by
      unfold zrT at hz
      rw [hi] at hz
      simp at hz
      obtain ⟨zv, a, b⟩ := hz
      exact ⟨zv, a, b.symm⟩
    obtain ⟨z1, z2⟩ := ofV_flat zv
    obtain ⟨c', k1, k2, k3, k4, k5, k6, k7⟩ := new_ok (e := e) (cs := zv.cells) (s := szT P e) (xs := [ofV zv]) hH w ⟨rfl, rfl, rfl, rfl⟩ (by simp; omega) (fun i y hy => by
      have hi : i = 0 := by
        have := (List.getElem?_eq_some_iff.1 hy).1
        simpa using this
      subst hi
      cases hy; exact hs.symm) (fun i y j a hy ha => by
      have hi : i = 0 := by
        have := (List.getElem?_eq_some_iff.1 hy).1
        simpa using this
      subst hi
      cases hy
      obtain ⟨u, u1, rfl⟩ := z2 j a ha
      exact ⟨u, by simpa using u1, .v u⟩)
    refine ⟨.pointer (some ⟨w.heap.size, 0, none⟩), _, c', _, _, ?_, k1, k2, .pt _ _ _ _ _ k7 (fun _ => ?_), hm c.ctr, grew_alloc w rfl _⟩
    · simp [Instr.alloc, zeroValue, typeInfo, hi, hzv, newVar, newRow]
    · rw [k4, k5]; simp
  · exact hm.elim
end
theorem foldl_set (o : Nat) : ∀ (l : List Value) (n : Nat) (cs : Array Value), ((l.zipIdx n).foldl (fun cs (x : Value × Nat) => cs.setIfInBounds (o + x.2) x.1) cs).size = cs.size ∧
    ∀ k, o + n + l.length ≤ cs.size → ((l.zipIdx n).foldl (fun cs (x : Value × Nat) => cs.setIfInBounds (o + x.2) x.1) cs)[k]? = if o + n ≤ k ∧ k < o + n + l.length then l[k - (o + n)]? else cs[k]?
  | [], n, cs => ⟨rfl, fun k _ => by
      have : ¬ (o + n ≤ k ∧ k < o + n + ([] : List Value).length) := by simp
      rw [if_neg this]; rfl⟩
  | v :: l, n, cs => by
    obtain ⟨h1, h2⟩ := foldl_set o l (n + 1) (cs.setIfInBounds (o + n) v)
    refine ⟨h1.trans (by simp), fun k hk => ?_⟩
    simp only [List.zipIdx_cons, List.foldl_cons]
    simp only [List.length_cons] at hk ⊢
    rw [h2 k (by simp; omega)]
    by_cases hin : o + (n + 1) ≤ k ∧ k < o + (n + 1) + l.length
    · rw [if_pos hin, if_pos (by omega)]
      rw [show k - (o + n) = (k - (o + (n + 1))) + 1 by omega, List.getElem?_cons_succ]
    · rw [if_neg hin]
      by_cases he : k = o + n
      · subst he
        rw [if_pos (by omega)]
        have hlt : o + n < cs.size := by omega
        rw [Array.getElem?_setIfInBounds]
        simp [hlt]
      · rw [if_neg (by omega), Array.getElem?_setIfInBounds_ne (Ne.symm he)]
theorem splice_cells (o : Nat) (v : Array Value) (cs : Array Value) (hk : o + v.size ≤ cs.size) :
    (v.zipIdx.foldl (fun cs (x : Value × Nat) => cs.setIfInBounds (o + x.2) x.1) cs).size = cs.size ∧
    ∀ k, (v.zipIdx.foldl (fun cs (x : Value × Nat) => cs.setIfInBounds (o + x.2) x.1) cs)[k]? = if o ≤ k ∧ k < o + v.size then v[k - o]? else cs[k]? := by
  have h := foldl_set o v.toList 0 cs
  rw [← Array.foldl_toList, Array.toList_zipIdx]
  refine ⟨h.1, fun k => ?_⟩
  have := h.2 k (by simpa using hk)
  simpa using this
section
variable {P : Program} {c : Ctx} {w : World} {h : AHeap} {K : KA}
inductive RPs (c : Ctx) (w : World) : List (Nat × AVal) → List (Nat × Value) → Prop
  | nil : RPs c w [] []
  | cons (i : Nat) (x : AVal) (v : Value) (l : List (Nat × AVal)) (m : List (Nat × Value)) (h : RV c w x v) (t : RPs c w l m) : RPs c w ((i, x) :: l) ((i, v) :: m)
theorem bld_ok {pl : List (Nat × Nat)} : ∀ {ps : List (Nat × AVal)} {qs : List (Nat × Value)}, RPs c w ps qs → ∀ {zs cs : List AVal} {cells : Array Value}, cells.size = zs.length → (∀ (i : Nat) (a : AVal), zs[i]? = some a → RV c w a (cells.getD i undef)) →
    bldA pl zs ps = some cs → ∃ out, Instr.fill (pl.toArray[·]?) cells qs = some out ∧ out.size = cs.length ∧ ∀ (i : Nat) (a : AVal), cs[i]? = some a → RV c w a (out.getD i undef)
  | _, _, .nil, zs, cs, cells, hl, hv, hb => by
    simp [bldA] at hb
    subst hb
    exact ⟨cells, rfl, hl, hv⟩
  | _, _, .cons i x v l m hx hps, zs, cs, cells, hl, hv, hb => by
    simp only [bldA] at hb
    split at hb
    · rename_i o n hp
      cases hq : (Nat.beq n x.flat.length && Nat.ble (o + n) zs.length && x.whole) with
      | false => rw [hq] at hb; cases hb
      | true =>
        rw [hq] at hb
        rw [Bool.and_eq_true, Bool.and_eq_true] at hq
        obtain ⟨⟨q1, q2⟩, q3⟩ := hq
        have q1 := Nat.eq_of_beq_eq_true q1
        have q2 := Nat.le_of_ble_eq_true q2
        obtain ⟨w1, w2, _⟩ := whole_cells hx q3
        obtain ⟨f1, f2⟩ := splice_cells o v.cells cells (by omega)
        have hnew : ∀ (k : Nat) (a : AVal), (zs.take o ++ (x.flat ++ zs.drop (o + n)))[k]? = some a → RV c w a ((v.cells.zipIdx.foldl (fun cs (x : Value × Nat) => cs.setIfInBounds (o + x.2) x.1) cells).getD k undef) := by
          intro k a ha
          have hlk : k < zs.length := by
            have := (List.getElem?_eq_some_iff.1 ha).1
            simp at this; omega
          have hto : (zs.take o).length = o := by rw [List.length_take]; omega
          rw [Array.getD_eq_getD_getElem?, f2 k]
          rcases Nat.lt_or_ge k o with h2 | h2
          · rw [List.getElem?_append_left (by omega), List.getElem?_take_of_lt h2] at ha
            rw [if_neg (by omega)]
            have := hv k a ha
            rwa [Array.getD_eq_getD_getElem?] at this
          · rw [List.getElem?_append_right (by omega), hto] at ha
            rcases Nat.lt_or_ge (k - o) x.flat.length with h3 | h3
            · rw [List.getElem?_append_left h3] at ha
              rw [if_pos (by omega)]
              obtain ⟨u, u1, u2⟩ := w2 _ _ ha
              rw [u1]; exact u2
            · rw [List.getElem?_append_right h3, List.getElem?_drop] at ha
              rw [if_neg (by omega)]
              rw [show o + n + (k - o - x.flat.length) = k by omega] at ha
              have := hv k a ha
              rwa [Array.getD_eq_getD_getElem?] at this
        obtain ⟨out, o1, o2, o3⟩ := bld_ok hps (cells := v.cells.zipIdx.foldl (fun cs (x : Value × Nat) => cs.setIfInBounds (o + x.2) x.1) cells) (by rw [f1, hl]; simp; omega) hnew hb
        refine ⟨out, ?_, o2, o3⟩
        have hp' : pl.toArray[i]? = some (o, n) := by simpa using hp
        simp only [Instr.fill, hp']
        have hno : (decide (v.cells.size ≠ n) || decide (o + v.cells.size > cells.size)) = false := by
          rw [Bool.or_eq_false_iff]; exact ⟨by simp; omega, by simp; omega⟩
        simp only [hno]
        exact o1
    · cases hb
theorem build_ok {t : TypeId} {ps : List (Nat × AVal)} {qs : Array (Nat × Value)} (hH : RH c h w) (hp : RPs c w ps qs.toList) (hm : buildM P t ps h K) : PVal P c w h (Instr.build t qs) K := by
  replace hm := hm.out
  unfold buildM_b at hm
  split at hm
  · rename_i pl zs hpl hz
    split at hm
    · rename_i cs hcs
      obtain ⟨fs, hu, hfs⟩ : ∃ fs : Array Field, P.underlying t = some (.struct fs) ∧ fs.toList.mapM (fun f => (P.info? f.type).map fun i => (f.offset, i.size)) = some pl := by
        unfold plT at hpl
        split at hpl
        · exact ⟨_, ‹_›, hpl⟩
        · cases hpl
      obtain ⟨i, zv, hi, hzv, he⟩ : ∃ i zv, P.info? t = some i ∧ i.zero = some zv ∧ ofV zv = .agg zs := by
        unfold zrT at hz
        cases hi : P.info? t with
        | none => simp [hi] at hz
        | some i =>
          simp [hi] at hz
          obtain ⟨zv, a, b⟩ := hz
          exact ⟨i, zv, rfl, a, b⟩
      obtain ⟨z1, z2⟩ := ofV_flat zv
      rw [he] at z1 z2
      obtain ⟨out, o1, o2, o3⟩ := bld_ok hp (zs := zs) (cells := zv.cells) z1.symm (fun k a ha => by
        obtain ⟨u, u1, rfl⟩ := z2 k a ha
        rw [Array.getD_eq_getD_getElem?, u1]
        exact .v u) hcs
      refine .pure hH (fun w => run_build w t qs out ?_) (.agg _ _ o2 o3) hm
      unfold Program.built
      simp only [hi, hu, hzv, hfs]
      exact o1
    · exact hm.elim
  · exact hm.elim
/-- cells that hold a row -/
def Lay (c : Ctx) (w : World) (s : Nat) (xs : List AVal) (cells : Array Value) : Prop :=
  cells.size = xs.length * s ∧ (∀ (i : Nat) (x : AVal), xs[i]? = some x → x.flat.length = s) ∧ ∀ (i : Nat) (x : AVal) (j : Nat) (a : AVal), xs[i]? = some x → x.flat[j]? = some a → ∃ v, cells[i * s + j]? = some v ∧ RV c w a v
theorem lay_zeros {zv : Value} {s : Nat} (hs : zv.cells.size = s) (n : Nat) (f : Nat → Value) (hf : ∀ k, k < n * s → f k = zv.cells.getD (k % s) undef) : Lay c w s (List.replicate n (ofV zv)) ((Array.range (n * s)).map f) := by
  obtain ⟨z1, z2⟩ := ofV_flat zv
  refine ⟨by simp, fun i x hx => ?_, fun i x j a hx ha => ?_⟩
  · rw [List.getElem?_replicate] at hx
    split at hx <;> cases hx
    rw [z1, hs]
  · have hlt : i < n := by
      have := (List.getElem?_eq_some_iff.1 hx).1
      simpa using this
    rw [List.getElem?_replicate, if_pos hlt] at hx
    cases hx
    have hj : j < s := by rw [← hs, ← z1]; exact (List.getElem?_eq_some_iff.1 ha).1
    have hk : i * s + j < n * s := by
      have := Nat.mul_le_mul_right s (show i + 1 ≤ n from hlt)
      rw [Nat.add_mul] at this; omega
    obtain ⟨u, u1, rfl⟩ := z2 j a ha
    refine ⟨u, ?_, .v u⟩
    have hmod : (i * s + j) % s = j := by rw [Nat.add_comm, Nat.add_mul_mod_self_right, Nat.mod_eq_of_lt hj]
    have h3 : f (i * s + j) = u := by
      rw [hf _ hk, hmod, Array.getD_eq_getD_getElem?, u1]; rfl
    rw [Array.getElem?_map, Array.getElem?_range, if_pos hk]
    simp [h3]
theorem bldS_ok {s : Nat} : ∀ {ps : List (Nat × AVal)} {qs : List (Nat × Value)}, RPs c w ps qs → ∀ {zs xs : List AVal} {cells : Array Value}, Lay c w s zs cells →
    bldS s zs ps = some xs → ∃ out, Instr.fill (fun i => some (i * s, s)) cells qs = some out ∧ Lay c w s xs out
  | _, _, .nil, zs, xs, cells, hl, hb => by
    simp [bldS] at hb
    subst hb
    exact ⟨cells, rfl, hl⟩
  | _, _, .cons i x v l m hx hps, zs, xs, cells, hl, hb => by
    simp only [bldS] at hb
    cases hq : (Nat.beq x.flat.length s && Nat.ble (i + 1) zs.length && x.whole) with
    | false => rw [hq] at hb; cases hb
    | true =>
      rw [hq] at hb
      rw [Bool.and_eq_true, Bool.and_eq_true] at hq
      obtain ⟨⟨q1, q2⟩, q3⟩ := hq
      have q1 := Nat.eq_of_beq_eq_true q1
      have q2 := Nat.le_of_ble_eq_true q2
      obtain ⟨l1, l2, l3⟩ := hl
      obtain ⟨w1, w2, _⟩ := whole_cells hx q3
      have hend : i * s + s ≤ zs.length * s := by rw [← Nat.succ_mul]; exact Nat.mul_le_mul_right s q2
      obtain ⟨f1, f2⟩ := splice_cells (i * s) v.cells cells (by omega)
      have hlay : Lay c w s (zs.set i x) (v.cells.zipIdx.foldl (fun cs (x : Value × Nat) => cs.setIfInBounds (i * s + x.2) x.1) cells) := by
        refine ⟨by rw [f1, l1]; simp, fun k y hy => ?_, fun k y j a hy ha => ?_⟩
        · rcases Nat.decEq k i with hne | rfl
          · rw [List.getElem?_set_ne (Ne.symm hne)] at hy; exact l2 _ _ hy
          · rw [List.getElem?_set_self q2] at hy
            cases hy; exact q1
        · rw [f2]
          rcases Nat.decEq k i with hne | rfl
          · rw [List.getElem?_set_ne (Ne.symm hne)] at hy
            have hjs : j < s := by rw [← l2 _ _ hy]; exact (List.getElem?_eq_some_iff.1 ha).1
            rw [if_neg (fun hh => hne (cell_ix (i := k) (i' := i) (j := j) (j' := k * s + j - i * s) hjs (by omega) (by omega)).1)]
            exact l3 _ _ _ _ hy ha
          · rw [List.getElem?_set_self q2] at hy
            cases hy
            have hjs : j < x.flat.length := (List.getElem?_eq_some_iff.1 ha).1
            rw [if_pos (by omega), Nat.add_sub_cancel_left]
            exact w2 _ _ ha
      obtain ⟨out, o1, o2⟩ := bldS_ok hps hlay hb
      refine ⟨out, ?_, o2⟩
      simp only [Instr.fill]
      have hno : (decide (v.cells.size ≠ s) || decide (i * s + v.cells.size > cells.size)) = false := by
        rw [Bool.or_eq_false_iff]; exact ⟨by simp; omega, by simp; omega⟩
      simp only [hno]
      exact o1
theorem zrT_spec {t : TypeId} {i : TypeInfo} {z : AVal} (hi : P.info? t = some i) (hz : zrT P t = some z) : ∃ zv, i.zero = some zv ∧ z = ofV zv := by
  unfold zrT at hz
  rw [hi] at hz
  simp at hz
  obtain ⟨zv, a, b⟩ := hz
  exact ⟨zv, a, b.symm⟩
theorem newRow_ok {e s : Nat} {xs : List AVal} {cells : Array Value} (hH : RH c h w) (hl : Lay c w s xs cells) {f : Nat → AVal} {n cap : Nat} (hn : n ≤ cap) (hcap : cap * s ≤ cells.size) (hmax : cap ≤ maxLen)
    (hm : newM s xs h (fun g h' => K (.rf h.length g 0 n) h')) {sm : Sem Value} (w1 : World) (hw1 : w1.heap = w.heap ∧ w1.os = w.os ∧ w1.tape = w.tape ∧ w1.output = w.output)
    (hr : sm.run P w = .ok (.slice (some ⟨w.heap.size, 0, none⟩) n cap) (w1.alloc (.cells cells e))) : GVal P c w sm K := by
  obtain ⟨l1, l2, l3⟩ := hl
  obtain ⟨c', k1, k2, k3, k4, k5, k6, k7⟩ := new_ok (e := e) (cs := cells) (s := s) (xs := xs) hH w1 hw1 (by omega) l2 l3
  refine ⟨_, _, c', _, _, hr, k1, k2, .rf _ _ _ _ _ _ k7 (fun _ => ⟨.inr ?_, hn, hmax, ?_⟩), hm c.ctr, grew_alloc w1 hw1.1 _⟩
  · rw [k4]; simp
  · rw [k5, k6]; simpa using hcap
theorem buildSlice_ok {t : TypeId} {n : Nat} {ps : List (Nat × AVal)} {qs : Array (Nat × Value)} (hH : RH c h w) (hp : RPs c w ps qs.toList) (hm : buildSliceM P t n ps h K) : GVal P c w (Instr.buildSlice t n qs) K := by
  replace hm := hm.out
  unfold buildSliceM_b at hm
  split at hm
  · rename_i e he
    split at hm
    · rename_i z hz
      split at hm
      · rename_i xs hxs
        obtain ⟨hok, hs, hpos, hsm, hm⟩ := hm
        obtain ⟨i, d, hi, hd, hsz, _, _⟩ := okT_spec hok
        obtain ⟨zv, hzv, rfl⟩ := zrT_spec hi hz
        obtain ⟨z1, z2⟩ := ofV_flat zv
        have hzs : zv.cells.size = szT P e := by omega
        have hlay0 : Lay c w (szT P e) (List.replicate n (ofV zv)) ((Array.range (n * szT P e)).map (zv.cells[· % zv.cells.size]!)) := lay_zeros hzs n _ (fun k hk => by
          rw [hzs]
          have : k % szT P e < zv.cells.size := by rw [hzs]; exact Nat.mod_lt _ hpos
          simp [this])
        obtain ⟨out, o1, o2⟩ := bldS_ok hp hlay0 hxs
        have hlen : xs.length = n := by
          have : ∀ (ps : List (Nat × AVal)) (zs xs : List AVal), bldS (szT P e) zs ps = some xs → xs.length = zs.length := by
            intro ps
            induction ps with
            | nil => intro zs xs h; simp [bldS] at h; rw [h]
            | cons p ps ih =>
              intro zs xs h
              obtain ⟨i, y⟩ := p
              simp only [bldS] at h
              cases hq : (Nat.beq y.flat.length (szT P e) && Nat.ble (i + 1) zs.length && y.whole) with
              | false => rw [hq] at h; cases h
              | true => rw [hq] at h; rw [ih _ _ h]; simp
          rw [this _ _ _ hxs]; simp
        have hcs : n * szT P e ≤ out.size := by rw [o2.1, hlen]; exact Nat.le_refl _
        have hmx : n ≤ maxLen := by
          have : n ≤ n * szT P e := Nat.le_mul_of_pos_right n hpos
          unfold maxLen; omega
        by_cases h0 : n = 0
        · subst h0
          have hx0 : xs = [] := List.length_eq_zero_iff.1 hlen
          subst hx0
          have hps0 : ps = [] := by
            match ps, hxs with
            | [], _ => rfl
            | (i, y) :: l, hxs =>
              simp only [bldS] at hxs
              rw [show Nat.ble (i + 1) (List.replicate 0 (ofV zv)).length = false from rfl, Bool.and_false, Bool.false_and] at hxs
              cases hxs
          subst hps0
          have hqs : qs = #[] := by
            have : qs.toList = [] := by generalize qs.toList = l at hp; cases hp; rfl
            exact Array.toList_eq_nil_iff.1 this
          subst hqs
          refine newRow_ok (e := e) (cells := #[]) (f := fun _ => .dead) hH ⟨by simp, by simp, by simp⟩ (Nat.le_refl 0) (by simp) (by unfold maxLen; omega) hm w ⟨rfl, rfl, rfl, rfl⟩ ?_
          simp [Instr.buildSlice, run_underlying (slT_spec he), sizeOf, typeInfo, hi, Instr.fill, newRow, Array.range_zero']
        · have hne : ¬ n * i.size = 0 := by
            rw [hsz]; exact Nat.mul_ne_zero h0 (by omega)
          refine newRow_ok (e := e) (f := fun _ => .dead) hH o2 (Nat.le_refl n) hcs hmx hm w ⟨rfl, rfl, rfl, rfl⟩ ?_
          exact run_buildSlice w t e n qs out i zv (slT_spec he) hi hzv (by rw [hsz]; omega) hne (by rw [hsz]; exact o1)
      · exact hm.elim
    · exact hm.elim
  · exact hm.elim
theorem make_ok {t : TypeId} {x y : AVal} {vx vy : Value} (hH : RH c h w) (hx : RV c w x vx) (hy : RV c w y vy) (hm : makeM P t x y h K) : GVal P c w (Instr.makeSlice t vx vy) K := by
  replace hm := hm.out
  unfold makeM_b at hm
  split at hm
  · rename_i e k n k' m he
    split at hm
    · rename_i z hz
      obtain ⟨hok, hs, hpos, rfl, h0, hb, h63, hm⟩ := hm
      obtain ⟨i, d, hi, hd, hsz, hby, _⟩ := okT_spec hok
      obtain ⟨zv, hzv, rfl⟩ := zrT_spec hi hz
      obtain ⟨z1, z2⟩ := ofV_flat zv
      have hzs : zv.cells.size = szT P e := by omega
      cases hx; cases hy
      have hlay0 : Lay c w (szT P e) (List.replicate n.toNat (ofV zv)) (madeCells zv.cells (n.toNat * i.size)) := by
        rw [hsz]
        exact lay_zeros hzs n.toNat _ (fun k hk => by
          rw [hzs]
          have : k % szT P e < zv.cells.size := by rw [hzs]; exact Nat.mod_lt _ hpos
          simp [this])
      refine newRow_ok (e := e) (f := fun _ => .dead) hH hlay0 (Nat.le_refl _) (by rw [hlay0.1]; simp) (by unfold maxLen; omega) hm w ⟨rfl, rfl, rfl, rfl⟩ ?_
      exact run_make w t e i zv (slT_spec he) hi hzv k k' n n h0 (Int.le_refl _) (by rw [hby]; exact hb) h63
    · exact hm.elim
  · exact hm.elim
end
theorem byteCells_get (s : ByteArray) (j : Nat) : (byteCells s)[j]? = (s.data.toList.map fun b => Value.int .u8 b.toNat)[j]? := rfl
section
variable {P : Program} {c : Ctx} {w : World} {h : AHeap} {K : KA}
/-- the cells of a row of elements, one behind the other -/
def flatA (xs : List AVal) : List AVal := xs.flatMap AVal.flat
theorem flatA_length {s : Nat} : ∀ {xs : List AVal}, (∀ y ∈ xs, y.flat.length = s) → (flatA xs).length = xs.length * s
  | [], _ => by simp [flatA]
  | x :: xs, h => by
    have h1 := h x List.mem_cons_self
    have h2 := flatA_length (xs := xs) (fun y hy => h y (List.mem_cons_of_mem _ hy))
    show (x.flat ++ flatA xs).length = _
    rw [List.length_append, h1, h2, List.length_cons, Nat.add_mul]; omega
theorem flatA_get {s : Nat} : ∀ {xs : List AVal}, (∀ y ∈ xs, y.flat.length = s) → ∀ {i j : Nat} {x : AVal}, xs[i]? = some x → j < s → (flatA xs)[i * s + j]? = x.flat[j]?
  | [], _, i, j, x, hx, _ => by simp at hx
  | y :: xs, h, 0, j, x, hx, hj => by
    have h1 := h y List.mem_cons_self
    simp at hx
    subst hx
    show (y.flat ++ flatA xs)[0 * s + j]? = _
    rw [Nat.zero_mul, Nat.zero_add, List.getElem?_append_left (by omega)]
  | y :: xs, h, i + 1, j, x, hx, hj => by
    have h1 := h y List.mem_cons_self
    have hx : xs[i]? = some x := by simpa using hx
    show (y.flat ++ flatA xs)[(i + 1) * s + j]? = _
    rw [Nat.add_mul, List.getElem?_append_right (by omega)]
    rw [show i * s + 1 * s + j - y.flat.length = i * s + j by omega]
    exact flatA_get (fun z hz => h z (List.mem_cons_of_mem _ hz)) hx hj
/-- where a cell of the flat list stands -/
theorem flatA_at {s : Nat} {xs : List AVal} (h : ∀ y ∈ xs, y.flat.length = s) {k : Nat} {a : AVal} (hk : (flatA xs)[k]? = some a) : ∃ i j x, xs[i]? = some x ∧ j < s ∧ k = i * s + j ∧ x.flat[j]? = some a := by
  have hl : k < xs.length * s := by rw [← flatA_length h]; exact (List.getElem?_eq_some_iff.1 hk).1
  have hs : 0 < s := by
    rcases Nat.eq_zero_or_pos s with rfl | hp
    · simp at hl
    · exact hp
  have hi : k / s < xs.length := (Nat.div_lt_iff_lt_mul hs).2 hl
  have hj : k % s < s := Nat.mod_lt _ hs
  have he : k = k / s * s + k % s := by rw [Nat.mul_comm]; exact (Nat.div_add_mod k s).symm
  have hx := List.getElem?_eq_getElem hi
  refine ⟨k / s, k % s, xs[k / s], hx, hj, he, ?_⟩
  rw [← flatA_get h hx hj, ← he]; exact hk
/-- the cells that a value yields to append -/
theorem src_ok {tx : TypeId} {s : Nat} {y : AVal} {v : Value} {ys : List AVal} (hH : RH c h w) (hy : RV c w y v) (he : elsA h y = some ys) (htx : (slT P tx).isSome = true ∨ stT P tx = true)
    (hk : ∀ z ∈ ys, z.flat.length = s ∧ z.whole = true) :
    ∃ news : List Value, Src P s tx v ys.length news w ∧ news.length = (flatA ys).length ∧ ∀ (k : Nat) (a : AVal), (flatA ys)[k]? = some a → ∃ u, news[k]? = some u ∧ RV c w a u := by
  have hfl : ∀ z ∈ ys, z.flat.length = s := fun z hz => (hk z hz).1
  have hkd : (∃ e', P.underlying tx = some (.slice e')) ∨ P.underlying tx = some .string := htx.imp slT_some stT_spec
  -- cells that lie behind one another in one block
  have mem : ∀ (b off n cap : Nat), v = .slice (some ⟨b, off, none⟩) n cap → n = ys.length → (∀ (k : Nat) (a : AVal), (flatA ys)[k]? = some a → ∃ u, w.cell? ⟨b, off + k, none⟩ = some u ∧ RV c w a u) →
      ∃ news : List Value, Src P s tx v ys.length news w ∧ news.length = (flatA ys).length ∧ ∀ (k : Nat) (a : AVal), (flatA ys)[k]? = some a → ∃ u, news[k]? = some u ∧ RV c w a u := by
    rintro b off n cap rfl rfl hc
    have hL : ((List.range (flatA ys).length).map fun k => (w.cell? ⟨b, off + k, none⟩).getD undef).length = (flatA ys).length := by simp
    have hget : ∀ (k : Nat) (a : AVal), (flatA ys)[k]? = some a → ((List.range (flatA ys).length).map fun k => (w.cell? ⟨b, off + k, none⟩).getD undef)[k]? = some ((w.cell? ⟨b, off + k, none⟩).getD undef) := by
      intro k a ha
      have hlt := (List.getElem?_eq_some_iff.1 ha).1
      simp [hlt]
    have hnews : ∀ (j : Nat) (u : Value), ((List.range (flatA ys).length).map fun k => (w.cell? ⟨b, off + k, none⟩).getD undef)[j]? = some u → w.cell? ((⟨b, off, none⟩ : Addr).add j) = some u := by
      intro j u hu
      obtain ⟨hlt, rfl⟩ := list_of_fn.2 j u hu
      obtain ⟨u, u1, _⟩ := hc j _ (getD_some hlt)
      rw [Addr.add_mid, u1]; rfl
    have hll := (hL.trans (flatA_length hfl))
    refine ⟨_, ⟨hkd, fun _ => rfl, run_firstCells_some w s ys.length _ _ _ _ hll hnews, run_firstCells_some w.drew s ys.length _ _ _ _ hll (by simpa using hnews), hll, fun u hu => ?_⟩, hL, fun k a ha => ?_⟩
    · obtain ⟨j, hj, rfl⟩ := List.getElem_of_mem hu
      have hj' : j < (flatA ys).length := by simpa using hj
      obtain ⟨u, u1, u2⟩ := hc j _ (getD_some hj')
      obtain ⟨i, q, x, x1, x2, x3, x4⟩ := flatA_at hfl (getD_some hj')
      have hw := (hk x (List.mem_of_getElem? x1)).2
      have h1 : ((flatA ys).getD j .dead).c1 = true := List.all_eq_true.1 hw _ (List.mem_of_getElem? x4)
      simp [u1]
      exact c1_one u2 h1
    · obtain ⟨u, u1, u2⟩ := hc k a ha
      refine ⟨u, ?_, u2⟩
      rw [hget k a ha, u1]; rfl
  have nilc : ∀ ad cap, v = .slice ad 0 cap → ys = [] → ∃ news : List Value, Src P s tx v ys.length news w ∧ news.length = (flatA ys).length ∧ ∀ (k : Nat) (a : AVal), (flatA ys)[k]? = some a → ∃ u, news[k]? = some u ∧ RV c w a u := by
    rintro ad cap rfl rfl
    have hfc : ∀ w' : World, (Builtin.firstCells s 0 (.slice ad 0 cap)).run P w' = .ok ([] : List Value).toArray w' := by
      intro w'
      cases ad with
      | none => exact run_firstCells_none w' s 0 0 cap
      | some b => exact run_firstCells_some w' s 0 b 0 cap [] (by simp) (fun j u hu => by simp at hu)
    exact ⟨[], ⟨hkd, fun _ => rfl, hfc w, hfc w.drew, by simp, fun _ h => by cases h⟩, by simp [flatA], fun k a ha => by simp [flatA] at ha⟩
  cases y with
  | sl xs =>
    simp only [elsA, Option.some.injEq] at he
    subst he
    cases hy with
    | nil _ ad cap hx => exact nilc ad cap rfl hx
    | sl _ b off len cap s' f hF hlen hcap hs hc hr =>
      refine mem b off len cap rfl hlen (fun k a ha => ?_)
      obtain ⟨i, j, x, x1, x2, rfl, x4⟩ := flatA_at hfl ha
      have : s' = s := (hs i x x1).symm.trans (hfl x (List.mem_of_getElem? x1))
      subst this
      exact ⟨_, hc i x j a x1 x4, hr i x j a x1 x4⟩
  | v val =>
    cases hy
    match v, he, nilc with
    | .slice none 0 cap, he, nilc =>
      simp only [elsA, Option.some.injEq] at he
      exact nilc none cap rfl he.symm
    | .string st, he, nilc =>
      simp only [elsA, Option.some.injEq] at he
      have hlen : ys.length = st.size := by rw [← he]; simp
      have hfs : flatA ys = ys := by
        rw [← he]
        unfold flatA
        generalize st.data.toList = l
        induction l with
        | nil => rfl
        | cons a l ih =>
          rw [List.map_cons, List.flatMap_cons, ih]
          rfl
      have hfc : ∀ w' : World, (Builtin.firstCells s ys.length (.string st)).run P w' = .ok (byteCells st).toArray w' := by
        intro w'; rw [hlen]; exact firstCells_string st w'
      have hn1 : (byteCells st).length = ys.length * s := by
        rw [byteCells_length, ← hlen, ← flatA_length hfl, hfs]
      refine ⟨byteCells st, ⟨hkd, fun _ => by rw [hlen]; rfl, hfc w, hfc w.drew, hn1, fun u hu => ?_⟩, by rw [hfs, byteCells_length, hlen], fun k a ha => ?_⟩
      · obtain ⟨_, _, rfl⟩ := List.mem_map.1 hu
        rfl
      rw [hfs, ← he, List.getElem?_map, Option.map_eq_some_iff] at ha
      obtain ⟨b, hb, rfl⟩ := ha
      refine ⟨.int .u8 b.toNat, ?_, .v _⟩
      rw [byteCells_get, List.getElem?_map, hb]; rfl
  | rf r g o n =>
    simp only [elsA] at he
    split at he
    · rename_i g' s' xs hrow
      split at he
      · rename_i hh
        obtain ⟨rfl, hle⟩ := hh
        simp only [Option.some.injEq] at he
        obtain ⟨hg, hz, _, hR⟩ := hH.row _ _ _ _ hrow
        have hyl : ys.length = n := by rw [← he, List.length_take, List.length_drop]; omega
        cases hy with
        | rf _ _ _ _ a cap hlt hcond =>
          obtain ⟨ha, hl, hcm, hcc⟩ := hcond hg
          rcases Nat.eq_zero_or_pos n with rfl | hpos
          · have hys0 : ys = [] := List.length_eq_zero_iff.1 hyl
            subst hys0
            obtain ⟨b, off, sp⟩ := a
            refine ⟨[], ⟨hkd, fun _ => rfl, ?_, ?_, by simp, fun _ h => by cases h⟩, by simp [flatA], fun k a ha => by simp [flatA] at ha⟩
            · exact run_firstCells_some w s 0 _ _ _ [] (by simp) (fun j u hu => by simp at hu)
            · exact run_firstCells_some w.drew s 0 _ _ _ [] (by simp) (fun j u hu => by simp at hu)
          · have ha : a = ⟨c.blk r, o * c.sz r, none⟩ := ha.resolve_left (by omega)
            subst ha
            refine mem _ _ n cap rfl hyl.symm (fun k a hka => ?_)
            obtain ⟨i, j, x, x1, x2, rfl, x4⟩ := flatA_at hfl hka
            have hin : i < n := by rw [← hyl]; exact (List.getElem?_eq_some_iff.1 x1).1
            rw [← he, List.getElem?_take_of_lt hin, List.getElem?_drop] at x1
            obtain ⟨u, u1, u2⟩ := hR.val _ _ _ _ x1 x4
            have hs1 : s = s' := by
              rw [← hR.len _ _ x1]
              have : x ∈ ys := by rw [← he]; exact List.mem_of_getElem? (i := i) (by rw [List.getElem?_take_of_lt hin, List.getElem?_drop]; exact x1)
              exact (hfl x this).symm
            subst hs1
            refine ⟨u, ?_, u2⟩
            rw [hz, ← Nat.add_assoc, ← Nat.add_mul]; exact u1
      · cases he
    · cases he
  | _ => simp [elsA] at he
end
section
variable {P : Program} {c : Ctx} {w : World} {h : AHeap} {K : KA}
theorem lay_flat {s : Nat} {xs : List AVal} {news rest : List Value} (hfl : ∀ y ∈ xs, y.flat.length = s) (hl : news.length = (flatA xs).length) (hv : ∀ (k : Nat) (a : AVal), (flatA xs)[k]? = some a → ∃ u, news[k]? = some u ∧ RV c w a u) :
    xs.length * s ≤ (news ++ rest).length ∧ (∀ (i : Nat) (x : AVal), xs[i]? = some x → x.flat.length = s) ∧ ∀ (i : Nat) (x : AVal) (j : Nat) (a : AVal), xs[i]? = some x → x.flat[j]? = some a → ∃ v, (news ++ rest)[i * s + j]? = some v ∧ RV c w a v := by
  refine ⟨by rw [List.length_append, hl, flatA_length hfl]; omega, fun i x hx => hfl x (List.mem_of_getElem? hx), fun i x j a hx ha => ?_⟩
  have hj : j < s := by rw [← hfl x (List.mem_of_getElem? hx)]; exact (List.getElem?_eq_some_iff.1 ha).1
  obtain ⟨u, u1, u2⟩ := hv (i * s + j) a (by rw [flatA_get hfl hx hj]; exact ha)
  exact ⟨u, by rw [List.getElem?_append_left (List.getElem?_eq_some_iff.1 u1).1]; exact u1, u2⟩
theorem newRow_ok2 {e s : Nat} {xs : List AVal} {cells : Array Value} (hH : RH c h w) (hfit : xs.length * s ≤ cells.size) (hlen : ∀ (i : Nat) (x : AVal), xs[i]? = some x → x.flat.length = s)
    (hv : ∀ (i : Nat) (x : AVal) (j : Nat) (a : AVal), xs[i]? = some x → x.flat[j]? = some a → ∃ v, cells[i * s + j]? = some v ∧ RV c w a v) {n cap : Nat} (hn : n ≤ cap) (hcap : cap * s ≤ cells.size) (hmax : cap ≤ maxLen)
    (hm : newM s xs h (fun g h' => K (.rf h.length g 0 n) h')) {sm : Sem Value} (w1 : World) (hw1 : w1.heap = w.heap ∧ w1.os = w.os ∧ w1.tape = w.tape ∧ w1.output = w.output)
    (hr : sm.run P w = .ok (.slice (some ⟨w.heap.size, 0, none⟩) n cap) (w1.alloc (.cells cells e))) : Val P c w sm K := by
  obtain ⟨c', k1, k2, k3, k4, k5, k6, k7⟩ := new_ok (e := e) (cs := cells) (s := s) (xs := xs) hH w1 hw1 hfit hlen hv
  refine ⟨_, _, c', _, _, hr, k1, k2, .rf _ _ _ _ _ _ k7 (fun _ => ⟨.inr ?_, hn, hmax, ?_⟩), hm c.ctr⟩
  · rw [k4]; simp
  · rw [k5, k6]; simpa using hcap
theorem append_ok {t tx ty : TypeId} {x y : AVal} {vx vy : Value} (hH : RH c h w) (hx : RV c w x vx) (hy : RV c w y vy) (hm : appendM P t tx x y h K) : Val P c w (Builtin.append_ #[t, tx] ty #[vx, vy]) K := by
  replace hm := hm.out
  unfold appendM_b at hm
  split at hm
  · rename_i e ys he hys
    obtain ⟨hok, hpos, hz, htx, hk, hm⟩ := hm
    obtain ⟨i, d, hi, hd, hsz, hby, _⟩ := okT_spec hok
    obtain ⟨zv, hzv, hzs⟩ : ∃ zv, i.zero = some zv ∧ zv.cells.size = szT P e := by
      unfold zokT at hz
      rw [hi] at hz
      cases hq : i.zero with
      | none => simp [hq] at hz
      | some zv => simp [hq] at hz; exact ⟨zv, rfl, hz⟩
    have hu := slT_spec he
    have hfl : ∀ z ∈ ys, z.flat.length = szT P e := fun z hz => (hk z hz).1
    obtain ⟨news, hs, hnl, hnv⟩ := src_ok (s := szT P e) hH hy hys htx hk
    have hnn := hs.newsLen
    rw [← hsz] at hs
    split at hm
    · cases hx
      obtain ⟨hb, hmx, hk0, hk1⟩ := hm
      by_cases h0 : ys = []
      · subst h0
        have hn0 : news = [] := by
          apply List.length_eq_zero_iff.1
          rw [hnl]; simp [flatA]
        subst hn0
        exact .pure hH (run_append_nothing w t tx ty e i hu hi none 0 0 (Nat.le_refl _) vy hs) (.v _) (hk0 rfl)
      · have hlp : 0 < ys.length := List.length_pos_iff.2 h0
        have hrun := run_append_grow_src w t tx ty e i zv hu hi hzv none 0 0 [] (run_firstCells_none w.drew i.size 0 0 0) vy ys.length news hs (by omega) (by unfold maxLen at hmx; omega)
          (growslice_fits (by omega) (by rw [hby, Nat.zero_add]; exact hb))
        rw [Nat.zero_add] at hrun
        have hge := grownCap_ge w ys.length 0 e
        have hcm := grownCap_le_maxLen w ys.length 0 e hmx
        obtain ⟨f1, f2, f3⟩ := lay_flat (rest := (Builtin.zeroCells zv.cells (grownCap w ys.length 0 e - ys.length)).toList) hfl hnl hnv
        have hcl : (([] ++ news).toArray ++ Builtin.zeroCells zv.cells (grownCap w ys.length 0 e - ys.length)) = (news ++ (Builtin.zeroCells zv.cells (grownCap w ys.length 0 e - ys.length)).toList).toArray := by
          apply Array.ext'; simp
        rw [hcl] at hrun
        refine newRow_ok2 (e := e) hH (by simpa using f1) f2 (fun i x j a h1 h2 => by simpa using f3 i x j a h1 h2) hge ?_ hcm (hk1 h0) w.drew ⟨rfl, rfl, rfl, rfl⟩ hrun
        have hzc : (Builtin.zeroCells zv.cells (grownCap w ys.length 0 e - ys.length)).toList.length = (grownCap w ys.length 0 e - ys.length) * szT P e := by rw [Array.length_toList, size_zeroCells, hzs]
        rw [List.size_toArray, List.length_append, hnn, hzc, ← Nat.add_mul]
        exact Nat.mul_le_mul_right _ (by omega)
    · rename_i r g n
      split at hm
      · rename_i g' s xs hrow
        obtain ⟨rfl, rfl, hnx, hb, hmx, hm⟩ := hm
        obtain ⟨hg, hzz, hF, hR⟩ := hH.row _ _ _ _ hrow
        have hrl : r < h.length := (List.getElem?_eq_some_iff.1 hrow).1
        have hxs : ∀ z ∈ xs.take n, z.flat.length = szT P e := by
          intro z hz
          obtain ⟨k, hk⟩ := List.getElem?_of_mem (List.mem_of_mem_take hz)
          exact hR.len _ _ hk
        have hall : ∀ z ∈ xs.take n ++ ys, z.flat.length = szT P e := by
          intro z hz
          rcases List.mem_append.1 hz with h1 | h1
          · exact hxs z h1
          · exact hfl z h1
        have htl : (xs.take n).length = n := by rw [List.length_take]; omega
        have hfa : flatA (xs.take n ++ ys) = flatA (xs.take n) ++ flatA ys := by simp [flatA]
        have hold0 : ∀ (k : Nat) (a : AVal), (flatA (xs.take n))[k]? = some a → ∃ u, w.cell? ⟨c.blk r, k, none⟩ = some u ∧ RV c w a u := by
          intro k a hka
          obtain ⟨i, j, x, x1, x2, rfl, x4⟩ := flatA_at hxs hka
          have hin : i < n := by rw [← htl]; exact (List.getElem?_eq_some_iff.1 x1).1
          rw [List.getElem?_take_of_lt hin] at x1
          exact hR.val _ _ _ _ x1 x4
        have hset : ∀ g2, (h.set r (.row g2 (szT P e) (xs.take n ++ ys)))[r]? = some (.row g2 (szT P e) (xs.take n ++ ys)) := fun g2 => List.getElem?_set_self hrl
        have hoth : ∀ g2 k, k ≠ r → (h.set r (.row g2 (szT P e) (xs.take n ++ ys)))[k]? = h[k]? := fun g2 k hk => List.getElem?_set_ne (Ne.symm hk)
        have hlen2 : ∀ (i : Nat) (x : AVal), (xs.take n ++ ys)[i]? = some x → x.flat.length = szT P e := fun i x hx => hall x (List.mem_of_getElem? hx)
        cases hx with
        | rf _ _ _ _ a cap hlt hcond =>
          obtain ⟨ha, hl, hcm, hcc⟩ := hcond hg
          rw [Nat.zero_add, hzz] at hcc
          rw [Nat.zero_mul] at ha
          by_cases hroom : n + ys.length ≤ cap
          · by_cases hc0 : cap = 0
            · have hn0 : n = 0 := by omega
              have hy0 : ys = [] := List.length_eq_zero_iff.1 (by omega)
              subst hc0; subst hn0; subst hy0
              have hnw0 : news = [] := List.length_eq_zero_iff.1 (by rw [hnl]; simp [flatA])
              subst hnw0
              obtain ⟨c', k1, k2, k3, k4, k5, k6, k7⟩ := row_new (w' := w) (b := c.blk r) (cap := c.cap r) hH (hset c.ctr) (hoth c.ctr) rfl rfl rfl (Nat.le_refl _) (fun _ _ _ => rfl) hF hR.lt
                (fun r' g' hg' hne he => hne (hH.inj r' r g' g hg' hg he)) hR.there (by simp) hlen2 (fun i x j a h1 h2 => by simp at h1)
              refine ⟨.slice (some a) 0 0, w, c', _, _, run_append_nothing w t tx ty e i hu hi (some a) 0 0 (Nat.le_refl _) vy hs, k1, k2, .rf _ _ _ _ _ _ k7 (fun _ => ⟨.inl rfl, Nat.le_refl _, Nat.zero_le _, ?_⟩), hm c.ctr⟩
              simp
            · have ha := ha.resolve_left hc0
              subst ha
              have hend : n * szT P e + news.length ≤ c.cap r := by
                rw [hnn, ← Nat.add_mul]
                exact Nat.le_trans (Nat.mul_le_mul_right _ hroom) hcc
              have hthere : ∀ j, j < news.length → (w.cell? ⟨c.blk r, 0 + n * i.size + j, none⟩).isSome = true ∧ fzF w ⟨c.blk r, 0 + n * i.size + j, none⟩ := fun j hj => hR.there _ (by rw [hsz]; omega)
              have hrun := run_append_room_src w t tx ty e i hu hi (c.blk r) 0 n cap vy ys.length news hs hroom (fun j hj => (hthere j hj).1) (fun j hj => (hthere j hj).2.un)
              rw [hsz, Nat.zero_add] at hrun
              obtain ⟨e1, e2⟩ := tape_setCells (c.blk r) news (n * szT P e) w
              have hin : ∀ j, j < news.length → (w.cell? ⟨c.blk r, n * szT P e + j, none⟩).isSome = true := fun j hj => (hR.there _ (by omega)).1
              obtain ⟨c', k1, k2, k3, k4, k5, k6, k7⟩ := row_new (w' := w.setCells (c.blk r) (n * szT P e) news) (b := c.blk r) (cap := c.cap r) hH (hset c.ctr) (hoth c.ctr)
                (World.os_setCells _ _ _ _) e1 (World.output_setCells _ _ _ _) (Nat.le_of_eq e2.symm) (fun k hk hne => World.heap_setCells_other _ _ _ _ hk hne) hF (by rw [e2]; exact hR.lt)
                (fun r' g' hg' hne he => hne (hH.inj r' r g' g hg' hg he))
                (fun o ho => ⟨World.isSome_setCells _ _ _ _ _ (hR.there o ho).1, by rw [fzF_setCells]; exact (hR.there o ho).2⟩)
                (by rw [List.length_append, htl]; exact Nat.le_trans (Nat.mul_le_mul_right _ hroom) hcc) hlen2
                (fun i x j a h1 h2 => by
                  have hj : j < szT P e := by rw [← hlen2 i x h1]; exact (List.getElem?_eq_some_iff.1 h2).1
                  have hfg := flatA_get hall h1 hj
                  rw [h2, hfa] at hfg
                  have hfx : (flatA (xs.take n)).length = n * szT P e := by rw [flatA_length hxs, htl]
                  rcases Nat.lt_or_ge (i * szT P e + j) (n * szT P e) with hlo | hlo
                  · rw [List.getElem?_append_left (by omega)] at hfg
                    obtain ⟨u, u1, u2⟩ := hold0 _ _ hfg
                    refine ⟨u, ?_, u2⟩
                    rw [World.cell?_setCells_out]
                    · exact u1
                    · intro _ _; exact .inl hlo
                  · rw [List.getElem?_append_right (by omega), hfx] at hfg
                    obtain ⟨u, u1, u2⟩ := hnv _ _ hfg
                    refine ⟨u, ?_, u2⟩
                    have hlt2 : i * szT P e + j - n * szT P e < news.length := (List.getElem?_eq_some_iff.1 u1).1
                    have hin2 := World.cell?_setCells_in (c.blk r) news (n * szT P e) w hin _ hlt2
                    rw [show i * szT P e + j = n * szT P e + (i * szT P e + j - n * szT P e) by omega, hin2, ← u1]
                    simp [hlt2])
              refine ⟨_, _, c', _, _, hrun, k1, k2, .rf _ _ _ _ _ _ k7 (fun _ => ⟨.inr ?_, hroom, hcm, ?_⟩), hm c.ctr⟩
              · rw [k4]; simp
              · rw [k5, k6]; simpa using hcc
          · have hgt : cap < n + ys.length := by omega
            -- the cells that are copied
            obtain ⟨olds, hol, hov, hof⟩ : ∃ olds : List Value, olds.length = (flatA (xs.take n)).length ∧ (∀ (k : Nat) (a : AVal), (flatA (xs.take n))[k]? = some a → ∃ u, olds[k]? = some u ∧ RV c w a u) ∧
                (Builtin.firstCells i.size n (.slice (some a) n cap)).run P w.drew = .ok olds.toArray w.drew := by
              rcases Nat.eq_zero_or_pos n with rfl | hnp
              · exact ⟨[], by simp [flatA], fun k a hka => by simp [flatA] at hka, run_firstCells_some w.drew i.size 0 _ _ _ [] (by simp) (fun j u hu => by simp at hu)⟩
              · have ha := ha.resolve_left (by omega)
                subst ha
                have hL : ((List.range (flatA (xs.take n)).length).map fun k => (w.cell? ⟨c.blk r, k, none⟩).getD undef).length = (flatA (xs.take n)).length := by simp
                refine ⟨_, hL, fun k a hka => ?_, run_firstCells_some w.drew i.size n _ _ _ _ (by rw [hL, flatA_length hxs, htl, hsz]) (fun j u hu => ?_)⟩
                · obtain ⟨u, u1, u2⟩ := hold0 _ _ hka
                  refine ⟨u, ?_, u2⟩
                  have hlt := (List.getElem?_eq_some_iff.1 hka).1
                  simp [hlt, u1]
                · obtain ⟨hlt, rfl⟩ := list_of_fn.2 j u hu
                  obtain ⟨u, u1, _⟩ := hold0 j _ (getD_some hlt)
                  rw [Addr.add_mid, Nat.zero_add]
                  simp [u1]
            have hrun := run_append_grow_src w t tx ty e i zv hu hi hzv (some a) n cap olds hof vy ys.length news hs hgt (by unfold maxLen at hmx; omega) (growslice_fits hgt (by rw [hby]; exact hb))
            have hge := grownCap_ge w (n + ys.length) cap e
            have hcm2 := grownCap_le_maxLen w (n + ys.length) cap e hmx
            have hnl2 : (olds ++ news).length = (flatA (xs.take n ++ ys)).length := by rw [hfa, List.length_append, List.length_append, hol, hnl]
            obtain ⟨f1, f2, f3⟩ := lay_flat (c := c) (w := w) (rest := (Builtin.zeroCells zv.cells (grownCap w (n + ys.length) cap e - (n + ys.length))).toList) hall hnl2 (fun k a hka => by
              rw [hfa] at hka
              rcases Nat.lt_or_ge k (flatA (xs.take n)).length with h1 | h1
              · rw [List.getElem?_append_left h1] at hka
                obtain ⟨u, u1, u2⟩ := hov _ _ hka
                exact ⟨u, by rw [List.getElem?_append_left (by omega)]; exact u1, u2⟩
              · rw [List.getElem?_append_right h1] at hka
                obtain ⟨u, u1, u2⟩ := hnv _ _ hka
                exact ⟨u, by rw [List.getElem?_append_right (by omega), hol]; exact u1, u2⟩)
            have hcl : ((olds ++ news).toArray ++ Builtin.zeroCells zv.cells (grownCap w (n + ys.length) cap e - (n + ys.length))) = ((olds ++ news) ++ (Builtin.zeroCells zv.cells (grownCap w (n + ys.length) cap e - (n + ys.length))).toList).toArray := by
              apply Array.ext'; simp
            rw [hcl] at hrun
            generalize hcells : ((olds ++ news) ++ (Builtin.zeroCells zv.cells (grownCap w (n + ys.length) cap e - (n + ys.length))).toList) = cells at hrun f1 f3
            have hcsz : grownCap w (n + ys.length) cap e * szT P e ≤ cells.length := by
              have hzc : (Builtin.zeroCells zv.cells (grownCap w (n + ys.length) cap e - (n + ys.length))).toList.length = (grownCap w (n + ys.length) cap e - (n + ys.length)) * szT P e := by rw [Array.length_toList, size_zeroCells, hzs]
              rw [← hcells, List.length_append, hnl2, flatA_length hall, List.length_append, htl, hzc, ← Nat.add_mul]
              exact Nat.mul_le_mul_right _ (by omega)
            have hnF : ¬ c.F w.heap.size := fun hf => Nat.lt_irrefl _ (hH.Fs _ hf)
            have hnew : (w.drew.alloc (.cells cells.toArray e)).heap[w.heap.size]? = some (.cells cells.toArray e) := heap_alloc_new w.drew _
            have hcell : ∀ o, (w.drew.alloc (.cells cells.toArray e)).cell? ⟨w.heap.size, o, none⟩ = cells.toArray[o]? := fun o => World.cell?_alloc_new w.drew _ _ o
            obtain ⟨c', k1, k2, k3, k4, k5, k6, k7⟩ := row_new (w' := w.drew.alloc (.cells cells.toArray e)) (b := w.heap.size) (cap := cells.length) hH (hset c.ctr) (hoth c.ctr) rfl rfl rfl
              (by simp) (fun k hk _ => Below.heap_alloc w.drew _ k hk) hnF (by simp) (fun r' g' hg' hne he => by
                obtain ⟨_, zs, hzs'⟩ := hH.live r' g' hg'
                have := (hH.row r' g' _ zs hzs').2.2.2.lt
                omega)
              (fun o ho => ⟨by rw [hcell]; simp [ho], by unfold fzF; rw [hnew]; simp⟩) f1 hlen2 (fun i x j a h1 h2 => by
                obtain ⟨v, v1, v2⟩ := f3 i x j a h1 h2
                exact ⟨v, by rw [hcell]; simpa using v1, v2⟩)
            refine ⟨_, _, c', _, _, hrun, k1, k2, .rf _ _ _ _ _ _ k7 (fun _ => ⟨.inr ?_, hge, hcm2, ?_⟩), hm c.ctr⟩
            · rw [k4]; simp
            · rw [k5, k6]; simpa using hcsz
      · exact hm.elim
    · exact hm.elim
  · exact hm.elim
end
section
variable {P : Program} {c : Ctx} {w : World} {h : AHeap} {K : KA}
def RVo (c : Ctx) (w : World) : Option AVal → Option Value → Prop
  | none, none => True
  | some x, some v => RV c w x v
  | _, _ => False
/-- the low bound, as an Int -/
def loI : Option Value → Int | none => 0 | some (.int _ n) => n | _ => -1
def hiI (len : Nat) : Option Value → Int | none => len | some (.int _ n) => n | _ => -1
theorem lo_shape {lo : Option Value} (h : 0 ≤ loI lo) : lo = none ∨ ∃ k n, lo = some (.int k n) := by
  cases lo with
  | none => exact .inl rfl
  | some v => cases v <;> first | exact .inr ⟨_, _, rfl⟩ | (simp [loI] at h)
theorem hiI_some (n : Nat) (v : Value) : hiI n (some v) = loI (some v) := by cases v <;> rfl
theorem run_bounds {b : Bool} {len cap : Nat} {lo hi : Option Value} (h0 : 0 ≤ loI lo) (h1 : loI lo ≤ hiI len hi) (h2 : hiI len hi ≤ cap) :
    (Instr.sliceBounds b len cap lo hi none).run P w = .ok ((loI lo).toNat, (hiI len hi).toNat, cap) w := by
  have hh : hi = none ∨ ∃ k n, hi = some (.int k n) := by
    cases hi with
    | none => exact .inl rfl
    | some v => exact lo_shape (lo := some v) (by rw [hiI_some] at h1; exact Int.le_trans h0 h1)
  rcases lo_shape h0 with rfl | ⟨k, n, rfl⟩ <;> rcases hh with rfl | ⟨k', m, rfl⟩ <;> simp only [loI, hiI] at h0 h1 h2
  · simp [Instr.sliceBounds, loI, hiI]
  · have q : 0 ≤ m ∧ m ≤ (cap : Int) := ⟨h1, h2⟩
    simp [Instr.sliceBounds, Instr.sliceBound, asIntOf, loI, hiI, q]
  · have q : 0 ≤ n ∧ n ≤ (len : Int) := ⟨h0, h1⟩
    simp [Instr.sliceBounds, Instr.sliceBound, asIntOf, loI, hiI, q]
  · have q : 0 ≤ m ∧ m ≤ (cap : Int) := ⟨by omega, h2⟩
    have q2 : 0 ≤ n ∧ n ≤ ((m.toNat : Nat) : Int) := ⟨h0, by omega⟩
    have q3 : n ≤ max m 0 := by omega
    simp [Instr.sliceBounds, Instr.sliceBound, asIntOf, loI, hiI, q, h0, q3]
theorem run_sliceAt {t e : TypeId} {i : TypeInfo} (hu : P.underlying t = some (.slice e)) (hinf : P.info? e = some i) {a : Option Addr} {len cap : Nat} {lo hi : Option Value} (h0 : 0 ≤ loI lo) (h1 : loI lo ≤ hiI len hi) (h2 : hiI len hi ≤ cap) :
    (Instr.sliceAt t (.slice a len cap) lo hi none).run P w = .ok (.slice (if cap = (loI lo).toNat then a else a.map (·.add ((loI lo).toNat * i.size))) ((hiI len hi).toNat - (loI lo).toNat) (cap - (loI lo).toNat)) w := by
  have hb := run_bounds (P := P) (w := w) (b := true) (len := len) (cap := cap) h0 h1 h2
  simp [Instr.sliceAt, run_underlying hu, Instr.slice, hb, sizeOf, typeInfo, hinf]
theorem run_sliceStr {t : TypeId} (hu : P.underlying t = some .string) {s : ByteArray} {lo hi : Option Value} (h0 : 0 ≤ loI lo) (h1 : loI lo ≤ hiI s.size hi) (h2 : hiI s.size hi ≤ s.size) :
    (Instr.sliceAt t (.string s) lo hi none).run P w = .ok (.string (s.extract (loI lo).toNat (hiI s.size hi).toNat)) w := by
  have hb := run_bounds (P := P) (w := w) (b := false) (len := s.size) (cap := s.size) h0 h1 h2
  simp [Instr.sliceAt, run_underlying hu, Instr.slice, hb]
def loA : Option AVal → Int | none => 0 | some (.v (.int _ n)) => n | _ => -1
def hiA (len : Nat) : Option AVal → Int | none => len | some (.v (.int _ n)) => n | _ => -1
theorem hiA_some (n : Nat) (v : AVal) : hiA n (some v) = loA (some v) := by
  cases v with
  | v x => cases x <;> rfl
  | _ => rfl
def sliceM_b (P : Program) (t : TypeId) (x : AVal) (lo hi mx : Option AVal) (h : AHeap) (K : KA) : Prop :=
  match mx with
  | some _ => False
  | none =>
    match x with
    | .v (.string s) => stT P t = true ∧ 0 ≤ loA lo ∧ loA lo ≤ hiA s.size hi ∧ hiA s.size hi ≤ s.size ∧ K (.v (.string (s.extract (loA lo).toNat (hiA s.size hi).toNat))) h
    | .sl xs => (match slT P t with
      | some e => okT P e = true ∧ (∀ x ∈ xs, x.flat.length = szT P e) ∧ 0 ≤ loA lo ∧ loA lo ≤ hiA xs.length hi ∧ hiA xs.length hi ≤ xs.length ∧ K (.sl ((xs.drop (loA lo).toNat).take ((hiA xs.length hi).toNat - (loA lo).toNat))) h
      | none => False)
    | .rf r g o m => (match slT P t, h[r]? with
      | some e, some (.row g' s xs) => g = g' ∧ okT P e = true ∧ s = szT P e ∧ 0 ≤ loA lo ∧ loA lo ≤ hiA m hi ∧ hiA m hi ≤ m ∧ K (.rf r g (o + (loA lo).toNat) ((hiA m hi).toNat - (loA lo).toNat)) h
      | _, _ => False)
    | _ => False
structure sliceM (P : Program) (t : TypeId) (x : AVal) (lo hi mx : Option AVal) (h : AHeap) (K : KA) : Prop where
  out : sliceM_b P t x lo hi mx h K
theorem lo_eq {x : Option AVal} {v : Option Value} (hr : RVo c w x v) (h0 : 0 ≤ loA x) : loI v = loA x := by
  match x, v, hr, h0 with
  | none, none, _, _ => rfl
  | some (.v (.int k n)), some v, hr, _ => cases hr; rfl
  | some (.v (.bool _)), _, _, h0 => simp [loA] at h0
  | some (.v (.float ..)), _, _, h0 => simp [loA] at h0
  | some (.v (.complex ..)), _, _, h0 => simp [loA] at h0
  | some (.v (.string _)), _, _, h0 => simp [loA] at h0
  | some (.v (.pointer _)), _, _, h0 => simp [loA] at h0
  | some (.v (.slice ..)), _, _, h0 => simp [loA] at h0
  | some (.v (.map _)), _, _, h0 => simp [loA] at h0
  | some (.v (.chan _)), _, _, h0 => simp [loA] at h0
  | some (.v (.func ..)), _, _, h0 => simp [loA] at h0
  | some (.v .nilFunc), _, _, h0 => simp [loA] at h0
  | some (.v (.iface ..)), _, _, h0 => simp [loA] at h0
  | some (.v .nilIface), _, _, h0 => simp [loA] at h0
  | some (.v (.agg _)), _, _, h0 => simp [loA] at h0
  | some (.v (.tuple _)), _, _, h0 => simp [loA] at h0
  | some (.agg _), _, _, h0 => simp [loA] at h0
  | some (.sl _), _, _, h0 => simp [loA] at h0
  | some (.fp _), _, _, h0 => simp [loA] at h0
  | some (.rf ..), _, _, h0 => simp [loA] at h0
  | some (.pt ..), _, _, h0 => simp [loA] at h0
  | some (.tup _), _, _, h0 => simp [loA] at h0
  | some (.ifc ..), _, _, h0 => simp [loA] at h0
  | some (.fn ..), _, _, h0 => simp [loA] at h0
  | some .dead, _, _, h0 => simp [loA] at h0
theorem hi_eq {n : Nat} {x : Option AVal} {v : Option Value} (hr : RVo c w x v) (h0 : 0 ≤ hiA n x) : hiI n v = hiA n x := by
  match x, v, hr with
  | none, none, _ => rfl
  | some y, some u, hr =>
    rw [hiA_some] at h0 ⊢
    rw [hiI_some]
    exact lo_eq (c := c) (w := w) (x := some y) (v := some u) hr h0
theorem slice_ok {t : TypeId} {x : AVal} {lo hi' mx : Option AVal} {vx : Value} {vlo vhi vmx : Option Value} (hH : RH c h w) (hx : RV c w x vx) (hlo : RVo c w lo vlo) (hhi : RVo c w hi' vhi) (hmx : RVo c w mx vmx)
    (hm : sliceM P t x lo hi' mx h K) : PVal P c w h (Instr.sliceAt t vx vlo vhi vmx) K := by
  replace hm := hm.out
  unfold sliceM_b at hm
  split at hm
  · exact hm.elim
  · cases vmx with
    | some _ => exact hmx.elim
    | none =>
      split at hm
      · rename_i s
        obtain ⟨hs, h0, h1, h2, hk⟩ := hm
        have e1 := lo_eq hlo h0
        have e2 := hi_eq hhi (Int.le_trans h0 h1)
        cases hx
        refine .pure hH (fun _ => run_sliceStr (stT_spec hs) (by rw [e1]; exact h0) (by rw [e1, e2]; exact h1) (by rw [e2]; exact h2)) ?_ hk
        rw [e1, e2]; exact .v _
      · rename_i xs
        split at hm
        · rename_i e he
          obtain ⟨hok, hsz, h0, h1, h2, hk⟩ := hm
          have e1 := lo_eq hlo h0
          have e2 := hi_eq hhi (Int.le_trans h0 h1)
          obtain ⟨i, d, hi, hd, his, _, _⟩ := okT_spec hok
          cases hx with
          | nil _ ad cap hxs =>
            subst hxs
            simp only [List.length_nil] at h1 h2 e2
            refine .pure hH (fun _ => run_sliceAt (slT_spec he) hi (by rw [e1]; exact h0) (by rw [e1, e2]; exact h1) (by rw [e2]; omega)) ?_ hk
            rw [e1, e2]
            have hz : (hiA 0 hi').toNat - (loA lo).toNat = 0 := by omega
            simp only [List.length_nil]
            rw [hz]
            exact .nil _ _ _ (by simp)
          | sl _ b off len cap s f hF hlen hcap hs hc hr =>
            refine .pure hH (fun _ => run_sliceAt (slT_spec he) hi (by rw [e1]; exact h0) (by rw [e1, hlen, e2]; exact h1) (by rw [hlen, e2]; omega)) ?_ hk
            rw [e1, hlen, e2]
            have hget : ∀ (k : Nat) (x : AVal), ((xs.drop (loA lo).toNat).take ((hiA xs.length hi').toNat - (loA lo).toNat))[k]? = some x → xs[(loA lo).toNat + k]? = some x ∧ k < (hiA xs.length hi').toNat - (loA lo).toNat := by
              intro k x hk
              have hlt : k < (hiA xs.length hi').toNat - (loA lo).toNat := by
                have := (List.getElem?_eq_some_iff.1 hk).1
                rw [List.length_take] at this; omega
              rw [List.getElem?_take_of_lt hlt, List.getElem?_drop] at hk
              exact ⟨hk, hlt⟩
            have hln : (hiA xs.length hi').toNat - (loA lo).toNat = ((xs.drop (loA lo).toNat).take ((hiA xs.length hi').toNat - (loA lo).toNat)).length := by
              rw [List.length_take, List.length_drop]; omega
            by_cases hcl : cap = (loA lo).toNat
            · rw [if_pos hcl]
              refine .sl _ b off _ _ s (fun i j => f ((loA lo).toNat + i) j) hF hln (by omega) (fun i x hi => hs _ _ (hget _ _ hi).1) (fun i x j a h1 h2 => ?_) (fun i x j a h1 h2 => hr _ _ _ _ (hget _ _ h1).1 h2)
              have := (hget _ _ h1).2
              omega
            · rw [if_neg hcl]
              show RV c w _ (.slice (some (Addr.add ⟨b, off, none⟩ ((loA lo).toNat * i.size))) _ _)
              rw [Addr.add_mid]
              refine .sl _ b _ _ _ s (fun i j => f ((loA lo).toNat + i) j) hF hln (by omega) (fun i x hi => hs _ _ (hget _ _ hi).1) (fun k x j a h1 h2 => ?_) (fun i x j a h1 h2 => hr _ _ _ _ (hget _ _ h1).1 h2)
              obtain ⟨g1, g2⟩ := hget _ _ h1
              have hss : i.size = s := by rw [his, ← hsz x (List.mem_of_getElem? g1)]; exact hs _ _ g1
              have := hc _ _ _ _ g1 h2
              rw [hss, ← this]
              congr 2
              rw [Nat.add_mul]; omega
        · exact hm.elim
      · rename_i r g o m
        split at hm
        · rename_i e g' s xs he hrow
          obtain ⟨rfl, hok, rfl, h0, h1, h2, hk⟩ := hm
          have e1 := lo_eq hlo h0
          have e2 := hi_eq hhi (Int.le_trans h0 h1)
          obtain ⟨i, d, hi, hd, his, _, _⟩ := okT_spec hok
          obtain ⟨hg, hz, _, hR⟩ := hH.row _ _ _ _ hrow
          cases hx with
          | rf _ _ _ _ a cap hlt hcond =>
            obtain ⟨ha, hl, hcm, hcc⟩ := hcond hg
            refine .pure hH (fun _ => run_sliceAt (slT_spec he) hi (by rw [e1]; exact h0) (by rw [e1, e2]; exact h1) (by rw [e2]; omega)) ?_ hk
            rw [e1, e2]
            have hfit : (o + (loA lo).toNat + (cap - (loA lo).toNat)) * c.sz r ≤ c.cap r := by
              rw [show o + (loA lo).toNat + (cap - (loA lo).toNat) = o + cap by omega]; exact hcc
            by_cases hcl : cap = (loA lo).toNat
            · rw [if_pos hcl]
              exact .rf _ _ _ _ _ _ hlt (fun _ => ⟨.inl (by omega), by omega, by omega, hfit⟩)
            · rw [if_neg hcl]
              show RV c w _ (.slice (some (Addr.add a ((loA lo).toNat * i.size))) _ _)
              refine .rf _ _ _ _ _ _ hlt (fun _ => ⟨.inr ?_, by omega, by omega, hfit⟩)
              have ha := ha.resolve_left (by omega)
              rw [ha, Addr.add_mid, his, ← hz, Nat.add_mul]
        · exact hm.elim
      · exact hm.elim
end
def ev (env : Env) : Operand → AVal
  | .tmp t => env t
  | .const v => .v v
  | .global _ => .dead
  | .func f => .fn f [] []
def fnT (P : Program) (f : FuncId) : Bool := match P.funcs[f]? with | some fn => fn.name != "runtime.NumGoroutine" && fn.body.isSome | none => false
def gdM (x : AVal) (A B : Prop) : Prop := match x with | .v (.bool b) => bcase b A B | _ => False
structure clM (P : Program) (g : FuncId) (xs : List AVal) (h : AHeap) [K : Bd KA] : Prop where
  fn : fnT P g = true
  out : @callM K.p P g xs h K.f
theorem cl_fn {P : Program} {g : FuncId} {xs : List AVal} {h : AHeap} {K : Bd KA} (hc : @clM P g xs h K) : fnT P g = true := @clM.fn P g xs h K hc
theorem cl_out {P : Program} {g : FuncId} {xs : List AVal} {h : AHeap} {K : Bd KA} (hc : @clM P g xs h K) : @callM K.p P g xs h K.f := @clM.out P g xs h K hc
theorem cl_of {Pn : Pk} {P : Program} {g : FuncId} {xs : List AVal} {h : AHeap} {K : KA} (hf : fnT P g = true) (hc : callM P g xs h K) : @clM P g xs h ⟨K⟩ := @clM.mk P g xs h ⟨K⟩ hf hc
/-- what does not panic -/
theorem callM_old {P : Program} {g : FuncId} {xs : List AVal} {h : AHeap} {K : KA} (hc : callM P g xs h K) : ∀ c w vs, RH c h w → RVs c w xs vs → Calls P g vs w fun e w' => ∃ v c' x h', e = .returned v ∧ Ext c w c' w' ∧ RH c' h' w' ∧ RV c' w' x v ∧ K x h' := fun c w vs hH hv => (hc c w vs hH hv).mono fun e w' he => by
  rcases he with he | ⟨_, _, _, _, _, _, _, _, hp⟩
  · exact he
  · exact hp.elim
theorem callM_new {Pn : Pk} {P : Program} {g : FuncId} {xs : List AVal} {h : AHeap} {K : KA} (hc : ∀ c w vs, RH c h w → RVs c w xs vs → Calls P g vs w fun e w' => ∃ v c' x h', e = .returned v ∧ Ext c w c' w' ∧ RH c' h' w' ∧ RV c' w' x v ∧ K x h') : callM P g xs h K := fun c w vs hH hv => (hc c w vs hH hv).mono fun e w' he => .inl he
theorem cl_lift {Pn : Pk} {P : Program} {g : FuncId} {xs : List AVal} {h : AHeap} {K : KA} (hc : @clM P g xs h (@Bd.mk KA K noPk)) : @clM P g xs h ⟨K⟩ := cl_of (cl_fn hc) (callM_new (callM_old (cl_out hc)))
def callV [Pn : Pk] (P : Program) (f : AVal) (xs : List AVal) (h : AHeap) (K : KA) : Prop := match f with | .fn g fst caps => @clM P g (fst ++ (xs ++ caps)) h ⟨K⟩ | _ => False
def memB : Option Nat → List Nat → Bool
  | none, _ => false
  | some _, [] => false
  | some d, a :: l => Nat.beq a d || memB (some d) l
def adOp [Pn : Pk] (P : Program) (bx : List Nat) (o : Oper) (env : Env) (h : AHeap) (K : KA) : Prop :=
  match o.op with
  | .move x => K (ev env x) h
  | .assign x => K (ev env x) h
  | .pick c a b => pickM (ev env c) (ev env a) (ev env b) h K
  | .alloc e => allocM P e h K
  | .box e x => bif memB o.dst bx then boxFM (ev env x) h K else boxM e (ev env x) h K
  | .build t ps => buildM P t (ps.toList.map fun p => (p.1, ev env p.2)) h K
  | .buildSlice t n ps => buildSliceM P t n (ps.toList.map fun p => (p.1, ev env p.2)) h K
  | .load t x => bif memB o.dst bx then loadFM P t (ev env x) h K else loadM P t (ev env x) h K
  | .store t x y => storeM P t (ev env x) (ev env y) h K
  | .nilCheck x => nilChkM (ev env x) h K
  | .binOp op t x y _ => binO P op t (ev env x) y (ev env y) h K
  | .makeFunc f us vs => mkFnM f (us.toList.map (ev env)) (vs.toList.map (ev env)) h K
  | .makeInterface t x => mkIfM P t (ev env x) h K
  | .typeAssert x _ t ok => taM P t ok (ev env x) h K
  | .unOp op _ x => unM op (ev env x) h K
  | .convert s d x => bif memB o.dst bx then cvsM P s d (ev env x) h K else convM P s d (ev env x) h K
  | .makeSlice t x y => makeM P t (ev env x) (ev env y) h K
  | .slice t x lo hi mx => sliceM P t (ev env x) (lo.map (ev env)) (hi.map (ev env)) (mx.map (ev env)) h K
  | .fieldAddr t x f => fldAddrM P t (ev env x) f h K
  | .field t x f => fieldM P t (ev env x) f h K
  | .indexAddr t x i => ixAddrM P t (ev env x) (ev env i) h K
  | .index t x i => idxM P t (ev env x) (ev env i) h K
  | .extract x i => extractM (ev env x) i h K
  | .panic x => panM (ev env x) h
  | .call c =>
    match c.callee with
    | .value f => callV P (ev env f) (c.args.toList.map (ev env)) h K
    | .builtin b => (match b, c.argTypes.toList, c.args.toList with
      | .len, [t], [x] => lenM P t (ev env x) h K
      | .append, [t, tx], [x, y] => appendM P t tx (ev env x) (ev env y) h K
      | .max, [_, _], [x, y] => maxM (ev env x) (ev env y) h K
      | .min, [_, _], [x, y] => minM (ev env x) (ev env y) h K
      | _, _, _ => False)
    | _ => False
  | _ => False
def adPut (nt : Nat) (dst : Option Tmp) (env : Env) (x : AVal) (K : Env → Prop) : Prop :=
  match dst with
  | none => K env
  | some d => bif Nat.blt d nt then K (upd env d x) else False
def memN (d : Nat) : List Nat → Bool
  | [] => false
  | a :: l => Nat.beq a d || memN d l
def remN (d : Nat) : List Nat → List Nat
  | [] => []
  | a :: l => bif Nat.beq a d then remN d l else a :: remN d l
def remO (d : Option Nat) (l : List Nat) : List Nat := match d with | some d => remN d l | none => l
def addO (d : Option Nat) (l : List Nat) : List Nat := match d with | some d => d :: l | none => l
/-- sk: the temporaries that surely hold nothing -/
def adOps [Pn : Pk] (P : Program) (bx : List Nat) (nt : Nat) (ops : Array Oper) : List Oper → List Nat → Env → AHeap → (Env → AHeap → Prop) → Prop
  | [], _, env, h, K => K env h
  | o :: l, sk, env, h, K =>
    match o.guard with
    | none => adOp P bx o env h (fun x h' => adPut nt o.dst env x (fun env' => adOps P bx nt ops l (remO o.dst sk) env' h' K))
    | some (j, want) =>
      match (ops[j]?).bind (·.dst) with
      | none => False
      | some t =>
        bif memN t sk then adPut nt o.dst env (.v undef) (fun env' => adOps P bx nt ops l (addO o.dst sk) env' h K)
        else gdM (env t)
            (bif want then adOp P bx o (upd env t (.v (.bool true))) h (fun x h' => adPut nt o.dst (upd env t (.v (.bool true))) x (fun env' => adOps P bx nt ops l (remO o.dst sk) env' h' K))
             else adPut nt o.dst (upd env t (.v (.bool true))) (.v undef) (fun env' => adOps P bx nt ops l (addO o.dst sk) env' h K))
            (bif want then adPut nt o.dst (upd env t (.v (.bool false))) (.v undef) (fun env' => adOps P bx nt ops l (addO o.dst sk) env' h K)
             else adOp P bx o (upd env t (.v (.bool false))) h (fun x h' => adPut nt o.dst (upd env t (.v (.bool false))) x (fun env' => adOps P bx nt ops l (remO o.dst sk) env' h' K)))
section
variable {P : Program} {c : Ctx} {w : World} {h : AHeap}
theorem ev_ok {env : Env} {a : Act} {nt : Nat} (hE : RE c w env a nt) (x : Operand) : RV c w (ev env x) (a.eval x) := by
  cases x with
  | tmp t => exact hE.2 t
  | const v => exact .v v
  | global g => exact .dead _
  | func f => exact .fn f [] [] #[] #[] rfl (fun i a h => by simp at h) rfl (fun i a h => by simp at h)
theorem evs_ok {env : Env} {a : Act} {nt : Nat} (hE : RE c w env a nt) (xs : Array Operand) : RVs c w (xs.toList.map (ev env)) (xs.map a.eval) := by
  refine ⟨by simp, fun i y hy => ?_⟩
  rw [List.getElem?_map, Option.map_eq_some_iff] at hy
  obtain ⟨o, ho, rfl⟩ := hy
  have : (xs.map a.eval).getD i undef = a.eval o := by
    rw [Array.getElem?_toList] at ho
    simp [Array.getD_eq_getD_getElem?, ho]
  rw [this]
  exact ev_ok hE o
theorem evp_ok {env : Env} {a : Act} {nt : Nat} (hE : RE c w env a nt) : ∀ (ps : List (Nat × Operand)), RPs c w (ps.map fun p => (p.1, ev env p.2)) (ps.map fun p => (p.1, a.eval p.2))
  | [] => .nil
  | (i, x) :: ps => .cons i _ _ _ _ (ev_ok hE x) (evp_ok hE ps)
theorem evo_ok {env : Env} {a : Act} {nt : Nat} (hE : RE c w env a nt) (x : Option Operand) : RVo c w (x.map (ev env)) (x.map a.eval) := by
  cases x with
  | none => trivial
  | some x => exact ev_ok hE x
/-- what follows an operation -/
def Nxt (P : Program) (c : Ctx) (w : World) (a : Act) (dst : Option Tmp) (K : KA) (next : Act → World → Prop) : Prop :=
  ∀ c' w' x v h', Ext c w c' w' → RH c' h' w' → RV c' w' x v → K x h' → next (a.put dst v) w'
theorem Val.upon {K : KA} {o : Oper} {a : Act} {next : Act → World → Prop} {Q : Exit → Act → World → Prop} {s : Sem Value} (hv : Val P c w s K) (hn : Nxt P c w a o.dst K next) (ho : execOp a.eval o = (do Pure.pure (.value (← s)))) : o.wp P a w next Q := by
  obtain ⟨v, w', c', x, h', hr, h1, h2, h3, h4⟩ := hv
  unfold Oper.wp
  rw [ho, Sem.run_bind, hr]
  exact hn c' w' x v h' h1 h2 h3 h4
theorem ValU.upon {K : KA} {o : Oper} {a : Act} {next : Act → World → Prop} {Q : Exit → Act → World → Prop} {s : Sem Unit} (hv : ValU P c w s K) (hn : Nxt P c w a o.dst K next) (ho : execOp a.eval o = (do s; Pure.pure .skip)) : o.wp P a w next Q := by
  obtain ⟨w', c', h', hr, h1, h2, h4⟩ := hv
  unfold Oper.wp
  rw [ho, Sem.run_bind, hr]
  exact hn c' w' _ _ h' h1 h2 (.v undef) h4
theorem nil_ofList {α : Type} {xs : Array α} (h : xs.toList = []) : xs = #[] := Array.toList_eq_nil_iff.1 h
theorem arr_ofList {α : Type} {xs : Array α} {l : List α} (h : xs.toList = l) : xs = l.toArray := by rw [← h]
theorem RVs.app {xs ys : List AVal} {us vs : Array Value} (h1 : RVs c w xs us) (h2 : RVs c w ys vs) : RVs c w (xs ++ ys) (us ++ vs) := by
  refine ⟨by rw [Array.size_append, List.length_append, h1.1, h2.1], fun i y hy => ?_⟩
  rcases Nat.lt_or_ge i xs.length with hlt | hge
  · rw [List.getElem?_append_left hlt] at hy
    have : (us ++ vs).getD i undef = us.getD i undef := by
      rw [Array.getD_eq_getD_getElem?, Array.getD_eq_getD_getElem?, Array.getElem?_append_left (by rw [h1.1]; exact hlt)]
    rw [this]; exact h1.2 i y hy
  · rw [List.getElem?_append_right hge] at hy
    have : (us ++ vs).getD i undef = vs.getD (i - xs.length) undef := by
      rw [Array.getD_eq_getD_getElem?, Array.getD_eq_getD_getElem?, Array.getElem?_append_right (by rw [h1.1]; exact hge), h1.1]
    rw [this]; exact h2.2 _ y hy
theorem call_ok [Pn : Pk] {K : KA} {o : Oper} {a : Act} {nt : Nat} {env : Env} {next : Act → World → Prop} {Q : Exit → Act → World → Prop} {cl : Call} {f : Operand} {g : FuncId} {fst caps : List AVal} (hH : RH c h w) (hE : RE c w env a nt)
    (ho : o.op = .call cl) (hf : cl.callee = .value f) (hg : ev env f = .fn g fst caps) (hfn : fnT P g = true) (hm : callM P g (fst ++ (cl.args.toList.map (ev env) ++ caps)) h K) (hP : ∀ c' w' x v h', Ext c w c' w' → RH c' h' w' → RV c' w' x v → Pn.f x h' → Q (.panic [{ v, recovered := false }]) a w') (hn : Nxt P c w a o.dst K next) : o.wp P a w next Q := by
  have h1 := ev_ok hE f
  rw [hg] at h1
  generalize hfv : a.eval f = fv at h1
  cases h1 with
  | fn _ _ _ us vs hl1 hh1 hl hh =>
    obtain ⟨fn, hfun, hname, hbody⟩ : ∃ fn, P.funcs[g]? = some fn ∧ fn.name ≠ "runtime.NumGoroutine" ∧ fn.body ≠ none := by
      unfold fnT at hfn
      split at hfn
      · rename_i fn hq
        rw [Bool.and_eq_true] at hfn
        exact ⟨fn, hq, by simpa using hfn.1, fun he => by rw [he] at hfn; simp at hfn⟩
      · cases hfn
    have hrun : (execOp a.eval o).run P w = .ok (.enter g (us ++ cl.args.map a.eval ++ vs)) w := by
      unfold execOp
      rw [ho]
      simp [resolve, hf, hfv, Deferred.ofValue, invoke, callFunc, program, Sem.run, hfun, hname, hbody]
    unfold Oper.wp
    rw [hrun]
    rw [Array.append_assoc]
    show Calls P g (us ++ (cl.args.map a.eval ++ vs)) w _
    refine (hm c w _ hH (RVs.app ⟨hl1, hh1⟩ (RVs.app (evs_ok hE cl.args) ⟨hl, hh⟩))).mono ?_
    rintro e w' (⟨v, c', x, h', rfl, h1, h2, h3, h4⟩ | ⟨v, c', x, h', rfl, h1, h2, h3, h4⟩)
    · exact hn c' w' x v h' h1 h2 h3 h4
    · exact hP c' w' x v h' h1 h2 h3 h4
set_option maxHeartbeats 1000000 in
theorem op_ok [Pn : Pk] {bx : List Nat} {K : KA} {o : Oper} {a : Act} {nt : Nat} {env : Env} {next : Act → World → Prop} {Q : Exit → Act → World → Prop} (hH : RH c h w) (hE : RE c w env a nt) (hm : adOp P bx o env h K) (hP : ∀ c' w' x v h', Ext c w c' w' → RH c' h' w' → RV c' w' x v → Pn.f x h' → Q (.panic [{ v, recovered := false }]) a w') (hn : Nxt P c w a o.dst K next) : o.wp P a w next Q := by
  obtain ⟨dst, op, type, pos, after, guard⟩ := o
  cases op with
  | move x => exact hn c w _ _ h (Ext.refl _ _) hH (ev_ok hE x) hm
  | assign x => exact hn c w _ _ h (Ext.refl _ _) hH (ev_ok hE x) hm
  | pick x y z => exact ((pick_ok hH (ev_ok hE x) (ev_ok hE y) (ev_ok hE z) hm).val hH).upon hn (by simp [execOp])
  | alloc e => exact (alloc_ok hH hm).val.upon hn rfl
  | box e x =>
    have hm : (bif memB dst bx then boxFM (ev env x) h K else boxM e (ev env x) h K) := hm
    cases hb : memB dst bx with
    | true => rw [hb] at hm; exact (boxF_ok hH (ev_ok hE x) hm).val.upon hn rfl
    | false => rw [hb] at hm; exact (box_ok hH (ev_ok hE x) hm).val.upon hn rfl
  | build t ps =>
    have hm : buildM P t (ps.toList.map fun p => (p.1, ev env p.2)) h K := hm
    have hp : RPs c w (ps.toList.map fun p => (p.1, ev env p.2)) (ps.map fun p => (p.1, a.eval p.2)).toList := by
      rw [Array.toList_map]; exact evp_ok hE ps.toList
    exact ((build_ok hH hp hm).val hH).upon hn rfl
  | buildSlice t n ps =>
    have hm : buildSliceM P t n (ps.toList.map fun p => (p.1, ev env p.2)) h K := hm
    have hp : RPs c w (ps.toList.map fun p => (p.1, ev env p.2)) (ps.map fun p => (p.1, a.eval p.2)).toList := by
      rw [Array.toList_map]; exact evp_ok hE ps.toList
    exact (buildSlice_ok hH hp hm).val.upon hn rfl
  | load t x =>
    have hm : (bif memB dst bx then loadFM P t (ev env x) h K else loadM P t (ev env x) h K) := hm
    have hm : loadM P t (ev env x) h K := by
      cases hb : memB dst bx with
      | true => rw [hb] at hm; exact loadFM.to hm
      | false => rw [hb] at hm; exact hm
    exact (load_ok hH (ev_ok hE x) hm).upon hn rfl
  | store t x y => exact (store_ok hH (ev_ok hE x) (ev_ok hE y) hm).upon hn rfl
  | nilCheck x =>
    have hm : nilChkM (ev env x) h K := hm
    have hx := ev_ok hE x
    have key : ∀ v, a.eval x = v → (∀ nm fst cp, v ≠ .func (.method nm) fst cp) → v ≠ .pointer none → v ≠ .nilIface → v ≠ .nilFunc → RV c w (ev env x) v → K (ev env x) h → Oper.wp P { dst, op := .nilCheck x, type, pos, after, guard } a w next Q := by
      intro v hv h1 h2 h3 h4 h5 h6
      unfold Oper.wp execOp
      simp only [hv]
      cases v with
      | pointer q => cases q with
        | none => exact absurd rfl h2
        | some q => exact hn c w _ _ h (Ext.refl _ _) hH h5 h6
      | nilIface => exact absurd rfl h3
      | nilFunc => exact absurd rfl h4
      | func fn fst cp => cases fn with
        | method nm => exact absurd rfl (h1 _ _ _)
        | _ => exact hn c w _ _ h (Ext.refl _ _) hH h5 h6
      | _ => exact hn c w _ _ h (Ext.refl _ _) hH h5 h6
    replace hm := hm.out
    unfold nilChkM_b at hm
    split at hm
    · rename_i y hy
      rw [hy] at hx key hm
      generalize hv : a.eval x = v at hx
      cases hx with
      | fp _ b off f hF hc hr => exact key _ hv (by simp) (by simp) (by simp) (by simp) (.fp _ b off f hF hc hr) hm
    · rename_i r g i j hy
      rw [hy] at hx key hm
      generalize hv : a.eval x = v at hx
      cases hx with
      | pt _ _ _ _ q h1 h2 => exact key _ hv (by simp) (by simp) (by simp) (by simp) (.pt _ _ _ _ q h1 h2) hm
    · rename_i f fst caps hy
      rw [hy] at hx key hm
      generalize hv : a.eval x = v at hx
      cases hx with
      | fn _ _ _ us vs a1 a2 a3 a4 => exact key _ hv (by simp) (by simp) (by simp) (by simp) (.fn _ _ _ us vs a1 a2 a3 a4) hm
    · exact hm.elim
  | binOp op t x y ty => exact ((binO_ok (ox := x) (oy := y) hH (ev_ok hE x) (ev_ok hE y) (fun u hu => by subst hu; rfl) hm).val hH).upon hn rfl
  | makeFunc f us vs => exact ((mkFn_ok hH (evs_ok hE us) (evs_ok hE vs) hm).val hH).upon hn rfl
  | makeInterface t x => exact ((mkIf_ok hH (ev_ok hE x) hm).val hH).upon hn rfl
  | typeAssert x s t ok => exact ((ta_ok hH (ev_ok hE x) hm).val hH).upon hn rfl
  | unOp op t x => exact ((un_ok hH (ev_ok hE x) hm).val hH).upon hn rfl
  | convert s d x =>
    have hm : (bif memB dst bx then cvsM P s d (ev env x) h K else convM P s d (ev env x) h K) := hm
    cases hb : memB dst bx with
    | true => rw [hb] at hm; exact (cvs_ok hH (ev_ok hE x) hm).upon hn rfl
    | false => rw [hb] at hm; exact (conv_ok hH (ev_ok hE x) hm).upon hn rfl
  | makeSlice t x y => exact (make_ok hH (ev_ok hE x) (ev_ok hE y) hm).val.upon hn rfl
  | slice t x lo hi mx => exact ((slice_ok hH (ev_ok hE x) (evo_ok hE lo) (evo_ok hE hi) (evo_ok hE mx) hm).val hH).upon hn rfl
  | fieldAddr t x f => exact ((fldAddr_ok hH (ev_ok hE x) hm).val hH).upon hn rfl
  | field t x f => exact ((field_ok hH (ev_ok hE x) hm).val hH).upon hn rfl
  | indexAddr t x i => exact ((ixAddr_ok hH (ev_ok hE x) (ev_ok hE i) hm).val hH).upon hn rfl
  | index t x i => exact ((idx_ok hH (ev_ok hE x) (ev_ok hE i) hm).val hH).upon hn rfl
  | extract x i => exact ((extract_ok hH (ev_ok hE x) hm).val hH).upon hn rfl
  | call cl =>
    obtain ⟨callee, args, argTypes⟩ := cl
    cases callee with
    | value f =>
      have hm : callV P (ev env f) (args.toList.map (ev env)) h K := hm
      unfold callV at hm
      split at hm
      · rename_i g fst caps hg
        exact call_ok hH hE rfl rfl hg (cl_fn hm) (cl_out hm) hP hn
      · exact hm.elim
    | builtin b =>
      simp only [adOp] at hm
      split at hm
      · rename_i t x e1 e2
        obtain rfl := arr_ofList e1
        obtain rfl := arr_ofList e2
        exact ((len_ok (ty := type) hH (ev_ok hE x) hm).val hH).upon hn (by simp [execOp, resolve, invoke, builtin])
      · rename_i t tx x y e1 e2
        obtain rfl := arr_ofList e1
        obtain rfl := arr_ofList e2
        exact (append_ok (ty := type) hH (ev_ok hE x) (ev_ok hE y) hm).upon hn (by simp [execOp, resolve, invoke, builtin])
      · rename_i t tx x y e1 e2
        obtain rfl := arr_ofList e1
        obtain rfl := arr_ofList e2
        exact ((max_ok (ts := #[t, tx]) (ty := type) hH (ev_ok hE x) (ev_ok hE y) hm).val hH).upon hn (by simp [execOp, resolve, invoke, builtin])
      · rename_i t tx x y e1 e2
        obtain rfl := arr_ofList e1
        obtain rfl := arr_ofList e2
        exact ((min_ok (ts := #[t, tx]) (ty := type) hH (ev_ok hE x) (ev_ok hE y) hm).val hH).upon hn (by simp [execOp, resolve, invoke, builtin])
      · exact hm.elim
    | invoke r m => exact hm.elim
  | panic x =>
    have hm : panM (ev env x) h := hm
    have hx := ev_ok hE x
    replace hm := hm.out
    split at hm
    · rename_i t y hy
      rw [hy] at hx hm
      generalize hv : a.eval x = v at hx
      have hx0 := hx
      cases hx with
      | ifc _ _ u hu =>
        unfold Oper.wp execOp
        simp only [hv]
        exact hP c w _ _ h (Ext.refl _ _) hH hx0 hm
    · exact hm.elim
  | _ => exact hm.elim
end
abbrev tt : AVal := .v (.bool true)
abbrev ff : AVal := .v (.bool false)
abbrev und : AVal := .v undef
abbrev i64 (n : Int) : AVal := .v (.int .i64 n)
abbrev i32 (n : Int) : AVal := .v (.int .i32 n)
abbrev u32 (n : Int) : AVal := .v (.int .u32 n)
abbrev u64 (n : Int) : AVal := .v (.int .u64 n)
abbrev u8 (n : Int) : AVal := .v (.int .u8 n)
abbrev bl (b : Bool) : AVal := .v (.bool b)
/-! ### steps, as rules -/
section
variable {P : Program} {h : AHeap} {K : KA}
theorem binM_int (op : BinOp) (t : TypeId) (k k' : IntKind) (a b : Int) : binM P op t (.v (.int k a)) (.v (.int k' b)) h K = (okI op k k' b ∧ K (.v (binI op k a b)) h) := propext ⟨fun h => h.out, fun h => ⟨h⟩⟩
theorem binM_bool (op : BinOp) (t : TypeId) (a b : Bool) : binM P op t (.v (.bool a)) (.v (.bool b)) h K = (blT P t = true ∧ eqM op (a == b) h K) := propext ⟨fun h => h.out, fun h => ⟨h⟩⟩
theorem binM_str (op : BinOp) (t : TypeId) (a b : ByteArray) : binM P op t (.v (.string a)) (.v (.string b)) h K = eqM op (a.toList == b.toList) h K := propext ⟨fun h => h.out, fun h => ⟨h⟩⟩
theorem binM_nil (op : BinOp) (t : TypeId) (n m n' m' : Nat) : binM P op t (.v (.slice none n m)) (.v (.slice none n' m')) h K = ((slT P t).isSome = true ∧ eqM op true h K) := propext ⟨fun h => h.out, fun h => ⟨h⟩⟩
theorem binM_sl (op : BinOp) (t : TypeId) (xs : List AVal) (n' m' : Nat) : binM P op t (.sl xs) (.v (.slice none n' m')) h K = ((slT P t).isSome = true ∧ xs ≠ [] ∧ eqM op false h K) := propext ⟨fun h => h.out, fun h => ⟨h⟩⟩
theorem binM_rf (op : BinOp) (t : TypeId) (r g o n n' m' : Nat) : binM P op t (.rf r g o n) (.v (.slice none n' m')) h K = ((slT P t).isSome = true ∧ eqM op false h K) := propext ⟨fun h => h.out, fun h => ⟨h⟩⟩
theorem binM_fp (op : BinOp) (t : TypeId) (x : AVal) : binM P op t (.fp x) (.v (.pointer none)) h K = (ptT P t = true ∧ eqM op false h K) := propext ⟨fun h => h.out, fun h => ⟨h⟩⟩
theorem binM_pt (op : BinOp) (t : TypeId) (r g i j : Nat) : binM P op t (.pt r g i j) (.v (.pointer none)) h K = (ptT P t = true ∧ eqM op false h K) := propext ⟨fun h => h.out, fun h => ⟨h⟩⟩
theorem eqM_eql (b : Bool) : eqM .eql b h K = K (.v (.bool b)) h := rfl
theorem eqM_neq (b : Bool) : eqM .neq b h K = K (.v (.bool !b)) h := rfl
@[simp] theorem okI_add (k k' b) : okI .add k k' b = (k = k') := rfl
@[simp] theorem okI_sub (k k' b) : okI .sub k k' b = (k = k') := rfl
@[simp] theorem okI_mul (k k' b) : okI .mul k k' b = (k = k') := rfl
@[simp] theorem okI_quo (k k' b) : okI .quo k k' b = (k = k' ∧ b ≠ 0) := rfl
@[simp] theorem okI_rem (k k' b) : okI .rem k k' b = (k = k' ∧ b ≠ 0) := rfl
@[simp] theorem okI_and (k k' b) : okI .and k k' b = (k = k') := rfl
@[simp] theorem okI_or (k k' b) : okI .or k k' b = (k = k') := rfl
@[simp] theorem okI_xor (k k' b) : okI .xor k k' b = (k = k') := rfl
@[simp] theorem okI_eql (k k' b) : okI .eql k k' b = (k = k') := rfl
@[simp] theorem okI_neq (k k' b) : okI .neq k k' b = (k = k') := rfl
@[simp] theorem okI_lss (k k' b) : okI .lss k k' b = (k = k') := rfl
@[simp] theorem okI_leq (k k' b) : okI .leq k k' b = (k = k') := rfl
@[simp] theorem okI_gtr (k k' b) : okI .gtr k k' b = (k = k') := rfl
@[simp] theorem okI_geq (k k' b) : okI .geq k k' b = (k = k') := rfl
@[simp] theorem okI_shl (k k' b) : okI .shl k k' b = (0 ≤ b) := rfl
@[simp] theorem okI_shr (k k' b) : okI .shr k k' b = (0 ≤ b) := rfl
@[simp] theorem binI_add (k a b) : binI .add k a b = .int k (k.wrap (a + b)) := rfl
@[simp] theorem binI_sub (k a b) : binI .sub k a b = .int k (k.wrap (a - b)) := rfl
@[simp] theorem binI_mul (k a b) : binI .mul k a b = .int k (k.wrap (a * b)) := rfl
@[simp] theorem binI_quo (k a b) : binI .quo k a b = .int k (k.wrap (a.tdiv b)) := rfl
@[simp] theorem binI_rem (k a b) : binI .rem k a b = .int k (a.tmod b) := rfl
@[simp] theorem binI_eql (k a b) : binI .eql k a b = .bool (decide (a = b)) := by simp [binI]; rfl
@[simp] theorem binI_neq (k a b) : binI .neq k a b = .bool (decide (a ≠ b)) := by simp [binI]; rfl
@[simp] theorem binI_lss (k a b) : binI .lss k a b = .bool (decide (a < b)) := rfl
@[simp] theorem binI_leq (k a b) : binI .leq k a b = .bool (decide (a ≤ b)) := rfl
@[simp] theorem binI_gtr (k a b) : binI .gtr k a b = .bool (decide (b < a)) := rfl
@[simp] theorem binI_geq (k a b) : binI .geq k a b = .bool (decide (b ≤ a)) := rfl
theorem gdM_bl (b : Bool) (A B : Prop) : gdM (.v (.bool b)) A B = ((b = true → A) ∧ (b = false → B)) := by
  cases b <;> simp [gdM, bcase]
theorem unM_not (b : Bool) : unM .not (.v (.bool b)) h K = K (.v (.bool !b)) h := propext ⟨fun h => h.out, fun h => ⟨h⟩⟩
theorem unM_neg (k : IntKind) (n : Int) : unM .neg (.v (.int k n)) h K = K (.v (.int k (k.wrap (0 - n)))) h := propext ⟨fun h => h.out, fun h => ⟨h⟩⟩
theorem cvsM_sl (s d : TypeId) (xs : List AVal) : cvsM P s d (.sl xs) h K = ((match slT P s with | some e => inT P e = some .u8 | none => False) ∧ stT P d = true ∧ (match xs.mapM byA with | some ns => K (.v (.string (ns.foldl (fun r n => r.push (UInt8.ofNat n.toNat)) ByteArray.empty))) h | none => False)) := propext ⟨fun h => h.out, fun h => ⟨h⟩⟩
theorem panM_ifc [Pn : Pk] (t : Nat) (x : AVal) : panM (.ifc t x) h = Pn.f (.ifc t x) h := propext ⟨fun h => h.out, fun h => ⟨h⟩⟩
theorem convM_rf (s d : TypeId) (r g o n : Nat) : convM P s d (.rf r g o n) h K = (s = d ∧ 0 < n ∧ (match slT P d with | some e => inT P e = some .u8 | none => False) ∧ (match h[r]? with | some (.row g' s' _) => g = g' ∧ s' = 1 ∧ K (.rf r g o n) h | _ => False)) := propext ⟨fun h => h.out, fun h => ⟨h⟩⟩
theorem convM_int (s d : TypeId) (k : IntKind) (n : Int) : convM P s d (.v (.int k n)) h K = (match inT P d with | some k => okT P s = true ∧ K (.v (.int k (k.wrap n))) h | none => False) := propext ⟨fun h => h.out, fun h => ⟨h⟩⟩
theorem maxM_int (k k' : IntKind) (a b : Int) : maxM (.v (.int k a)) (.v (.int k' b)) h K = K (.v (.int k (max a b))) h := propext ⟨fun h => h.out, fun h => ⟨h⟩⟩
theorem minM_int (k k' : IntKind) (a b : Int) : minM (.v (.int k a)) (.v (.int k' b)) h K = K (.v (.int k (min a b))) h := propext ⟨fun h => h.out, fun h => ⟨h⟩⟩
theorem mkFnM_f (f : FuncId) (us vs : List AVal) : mkFnM (.func f) us vs h K = K (.fn f us vs) h := propext ⟨fun h => h.out, fun h => ⟨h⟩⟩
theorem mkIfM_eq (t : TypeId) (x : AVal) : mkIfM P t x h K = (ncT P t = true ∧ K (.ifc t x) h) := propext ⟨fun h => h.out, fun h => ⟨h⟩⟩
theorem taM_ifc (t : TypeId) (u : TypeId) (y : AVal) : taM P t true (.ifc u y) h K = (ncT P t = true ∧ bif Nat.beq u t then K (.tup [y, .v (.bool true)]) h else (match zrT P t with | some z => K (.tup [z, .v (.bool false)]) h | none => False)) := propext ⟨fun h => h.out, fun h => ⟨h⟩⟩
theorem taM_nil (t : TypeId) : taM P t true (.v .nilIface) h K = (ncT P t = true ∧ (match zrT P t with | some z => K (.tup [z, .v (.bool false)]) h | none => False)) := propext ⟨fun h => h.out, fun h => ⟨h⟩⟩
theorem taM_one (t : TypeId) (u : TypeId) (y : AVal) : taM P t false (.ifc u y) h K = (ncT P t = true ∧ Nat.beq u t = true ∧ K y h) := propext ⟨fun h => h.out, fun h => ⟨h⟩⟩
theorem nilM_nil (op : BinOp) (t : TypeId) : nilM P op t (.v .nilIface) h K = (ifT P t = true ∧ eqM op true h K) := propext ⟨fun h => h.out, fun h => ⟨h⟩⟩
theorem nilM_ifc (op : BinOp) (t u : TypeId) (x : AVal) : nilM P op t (.ifc u x) h K = (ifT P t = true ∧ eqM op false h K) := propext ⟨fun h => h.out, fun h => ⟨h⟩⟩
theorem nilFM_nil (op : BinOp) (t : TypeId) : nilFM P op t (.v .nilFunc) h K = (fuT P t = true ∧ eqM op true h K) := propext ⟨fun h => h.out, fun h => ⟨h⟩⟩
theorem nilFM_fn (op : BinOp) (t : TypeId) (f : FuncId) (us vs : List AVal) : nilFM P op t (.fn f us vs) h K = (fuT P t = true ∧ eqM op false h K) := propext ⟨fun h => h.out, fun h => ⟨h⟩⟩
theorem boxFM_eq (x : AVal) : boxFM x h K = (x.whole = true ∧ K (.fp x) h) := propext ⟨fun h => h.out, fun h => ⟨h⟩⟩
theorem sliceM_sl (t : TypeId) (xs : List AVal) (lo hi : Option AVal) : sliceM P t (.sl xs) lo hi none h K = (match slT P t with
      | some e => okT P e = true ∧ (∀ x ∈ xs, x.flat.length = szT P e) ∧ 0 ≤ loA lo ∧ loA lo ≤ hiA xs.length hi ∧ hiA xs.length hi ≤ xs.length ∧ K (.sl ((xs.drop (loA lo).toNat).take ((hiA xs.length hi).toNat - (loA lo).toNat))) h
      | none => False) := propext ⟨fun h => h.out, fun h => ⟨h⟩⟩
theorem sliceM_str (t : TypeId) (s : ByteArray) (lo hi : Option AVal) : sliceM P t (.v (.string s)) lo hi none h K = (stT P t = true ∧ 0 ≤ loA lo ∧ loA lo ≤ hiA s.size hi ∧ hiA s.size hi ≤ s.size ∧ K (.v (.string (s.extract (loA lo).toNat (hiA s.size hi).toNat))) h) := propext ⟨fun h => h.out, fun h => ⟨h⟩⟩
theorem sliceM_rf (t : TypeId) (r g o m : Nat) (lo hi : Option AVal) : sliceM P t (.rf r g o m) lo hi none h K = (match slT P t, h[r]? with
      | some e, some (.row g' s xs) => g = g' ∧ okT P e = true ∧ s = szT P e ∧ 0 ≤ loA lo ∧ loA lo ≤ hiA m hi ∧ hiA m hi ≤ m ∧ K (.rf r g (o + (loA lo).toNat) ((hiA m hi).toNat - (loA lo).toNat)) h
      | _, _ => False) := propext ⟨fun h => h.out, fun h => ⟨h⟩⟩
@[simp] theorem loA_no : loA none = 0 := rfl
@[simp] theorem loA_int (k : IntKind) (n : Int) : loA (some (.v (.int k n))) = n := rfl
@[simp] theorem hiA_no (len : Nat) : hiA len none = len := rfl
@[simp] theorem hiA_int (len : Nat) (k : IntKind) (n : Int) : hiA len (some (.v (.int k n))) = n := rfl
theorem pickM_bl (b : Bool) (x y : AVal) : pickM (.v (.bool b)) x y h K = ((b = true → K x h) ∧ (b = false → K y h)) := by
  cases b <;> simp [pickM]
theorem lenM_sl (t : TypeId) (xs : List AVal) : lenM P t (.sl xs) h K = ((slT P t).isSome = true ∧ K (i64 xs.length) h) := propext ⟨fun h => h.out, fun h => ⟨h⟩⟩
theorem lenM_rf (t : TypeId) (r g o n : Nat) : lenM P t (.rf r g o n) h K = ((slT P t).isSome = true ∧ K (i64 n) h) := propext ⟨fun h => h.out, fun h => ⟨h⟩⟩
theorem lenM_nil (t : TypeId) (n m : Nat) : lenM P t (.v (.slice none n m)) h K = ((slT P t).isSome = true ∧ K (i64 n) h) := propext ⟨fun h => h.out, fun h => ⟨h⟩⟩
theorem lenM_str (t : TypeId) (s : ByteArray) : lenM P t (.v (.string s)) h K = (stT P t = true ∧ K (i64 s.size) h) := propext ⟨fun h => h.out, fun h => ⟨h⟩⟩
theorem nilChkM_fp (x : AVal) : nilChkM (.fp x) h K = K (.fp x) h := propext ⟨fun h => h.out, fun h => ⟨h⟩⟩
theorem nilChkM_pt (r g i j : Nat) : nilChkM (.pt r g i j) h K = K (.pt r g i j) h := propext ⟨fun h => h.out, fun h => ⟨h⟩⟩
theorem nilChkM_fn (f : Nat) (m l : List AVal) : nilChkM (.fn f m l) h K = K (.fn f m l) h := propext ⟨fun h => h.out, fun h => ⟨h⟩⟩
theorem ixAddrM_sl (t : TypeId) (xs : List AVal) (k : IntKind) (n : Int) : ixAddrM P t (.sl xs) (.v (.int k n)) h K =
    (match slT P t with | some e => okT P e = true ∧ 0 ≤ n ∧ n < xs.length ∧ szT P e = (xs.getD n.toNat .dead).flat.length ∧ K (.fp (xs.getD n.toNat .dead)) h | none => False) := propext ⟨fun h => h.out, fun h => ⟨h⟩⟩
theorem ixAddrM_rf (t : TypeId) (r g o m : Nat) (k : IntKind) (n : Int) : ixAddrM P t (.rf r g o m) (.v (.int k n)) h K =
    (match slT P t with | some e => (match h[r]? with | some (.row g' s xs) => g = g' ∧ okT P e = true ∧ szT P e = s ∧ 0 ≤ n ∧ n < m ∧ K (.pt r g (o + n.toNat) 0) h | _ => False) | none => False) := propext ⟨fun h => h.out, fun h => ⟨h⟩⟩
theorem ixAddrM_fp (t : TypeId) (y : AVal) (k : IntKind) (n : Int) : ixAddrM P t (.fp y) (.v (.int k n)) h K =
    (match arT P t with | some (m, e) => okT P e = true ∧ 0 < szT P e ∧ 0 ≤ n ∧ n < m ∧ n.toNat * szT P e + szT P e ≤ y.flat.length ∧ (agT P e = false → szT P e = 1) ∧ (agT P e = false → (y.flat.getD (n.toNat * szT P e) .dead).isAgg = false) ∧ K (.fp (subA (agT P e) (szT P e) y (n.toNat * szT P e))) h | none => False) := propext ⟨fun h => h.out, fun h => ⟨h⟩⟩
theorem ixAddrM_pt (t : TypeId) (r g a b : Nat) (k : IntKind) (n : Int) : ixAddrM P t (.pt r g a b) (.v (.int k n)) h K =
    (match arT P t with | some (m, e) => okT P e = true ∧ 0 ≤ n ∧ n < m ∧ K (.pt r g a (b + n.toNat * szT P e)) h | none => False) := propext ⟨fun h => h.out, fun h => ⟨h⟩⟩
theorem fldAddrM_fp (t : TypeId) (y : AVal) (f : Nat) : fldAddrM P t (.fp y) f h K =
    (match fdT P t f with | some (o, e) => okT P e = true ∧ 0 < szT P e ∧ o + szT P e ≤ y.flat.length ∧ (agT P e = false → (y.flat.getD o .dead).isAgg = false) ∧ K (.fp (subA (agT P e) (szT P e) y o)) h | none => False) := propext ⟨fun h => h.out, fun h => ⟨h⟩⟩
theorem fldAddrM_pt (t : TypeId) (r g i j : Nat) (f : Nat) : fldAddrM P t (.pt r g i j) f h K =
    (match fdT P t f with | some (o, e) => okT P e = true ∧ 0 < szT P e ∧ K (.pt r g i (j + o)) h | none => False) := propext ⟨fun h => h.out, fun h => ⟨h⟩⟩
theorem loadM_fp (t : TypeId) (y : AVal) : loadM P t (.fp y) h K = (okT P t = true ∧ agT P t = y.isAgg ∧ szT P t = y.flat.length ∧ K y h) := propext ⟨fun h => h.out, fun h => ⟨h⟩⟩
theorem loadFM_fp (t : TypeId) (y : AVal) : loadFM P t (.fp y) h K = (okT P t = true ∧ agT P t = y.isAgg ∧ szT P t = y.flat.length ∧ K y h) := propext ⟨fun h => h.out, fun h => ⟨h⟩⟩
theorem loadM_pt (t : TypeId) (r g i j : Nat) : loadM P t (.pt r g i j) h K = (match h[r]? with
    | some (.row g' s xs) => g = g' ∧ okT P t = true ∧ i < xs.length ∧ j + szT P t ≤ (xs.getD i .dead).flat.length ∧ (agT P t = false → szT P t = 1) ∧ K (subA (agT P t) (szT P t) (xs.getD i .dead) j) h
    | _ => False) := propext ⟨fun h => h.out, fun h => ⟨h⟩⟩
theorem storeM_pt (t : TypeId) (r g i j : Nat) (y : AVal) : storeM P t (.pt r g i j) y h K = (match h[r]? with
    | some (.row g' s xs) => g = g' ∧ okT P t = true ∧ i < xs.length ∧ szT P t = y.flat.length ∧ (0 < y.flat.length ∨ (xs.getD i .dead).isAgg = true) ∧ y.whole = true ∧ j + y.flat.length ≤ s ∧ K (.v undef) (h.set r (.row g s (xs.set i (putA (xs.getD i .dead) j y.flat))))
    | _ => False) := propext ⟨fun h => h.out, fun h => ⟨h⟩⟩
theorem boxM_eq (e : TypeId) (x : AVal) : boxM e x h K = (x.whole = true ∧ ∀ g, K (.pt h.length g 0 0) (h ++ [.row g x.flat.length [x]])) := propext ⟨fun h => h.out, fun h => ⟨h⟩⟩
theorem allocM_eq (e : TypeId) : allocM P e h K = (match zrT P e with | some z => okT P e = true ∧ szT P e = z.flat.length ∧ ∀ g, K (.pt h.length g 0 0) (h ++ [.row g (szT P e) [z]]) | none => False) := propext ⟨fun h => h.out, fun h => ⟨h⟩⟩
theorem buildM_eq (t : TypeId) (ps : List (Nat × AVal)) : buildM P t ps h K = (match plT P t, zrT P t with
  | some pl, some (.agg zs) => (match bldA pl zs ps with | some cs => K (.agg cs) h | none => False)
  | _, _ => False) := propext ⟨fun h => h.out, fun h => ⟨h⟩⟩
theorem buildSliceM_eq (t : TypeId) (n : Nat) (ps : List (Nat × AVal)) : buildSliceM P t n ps h K = (match slT P t with
  | some e => (match zrT P e with
    | some z => (match bldS (szT P e) (List.replicate n z) ps with
      | some xs => okT P e = true ∧ szT P e = z.flat.length ∧ 0 < szT P e ∧ n * szT P e ≤ 16777216 ∧ ∀ g, K (.rf h.length g 0 n) (h ++ [.row g (szT P e) xs])
      | none => False)
    | none => False)
  | none => False) := propext ⟨fun h => h.out, fun h => ⟨h⟩⟩
theorem makeM_eq (t : TypeId) (k k' : IntKind) (n m : Int) : makeM P t (.v (.int k n)) (.v (.int k' m)) h K = (match slT P t with
  | some e => (match zrT P e with
    | some z => okT P e = true ∧ szT P e = z.flat.length ∧ 0 < szT P e ∧ n = m ∧ 0 ≤ n ∧ (byT P e : Int) * n ≤ 281474976710656 ∧ n ≤ 9223372036854775807 ∧ ∀ g, K (.rf h.length g 0 n.toNat) (h ++ [.row g (szT P e) (List.replicate n.toNat z)])
    | none => False)
  | none => False) := propext ⟨fun h => by have := h.out; unfold makeM_b at this; split at this <;> rename_i q _ _ <;> simp_all [newM], fun h => ⟨by unfold makeM_b; revert h; cases slT P t <;> simp [newM]⟩⟩
@[simp] theorem bldA_nil (pl : List (Nat × Nat)) (cs : List AVal) : bldA pl cs [] = some cs := rfl
theorem b3 (a b c d : Nat) (w : Bool) : (Nat.beq a b && Nat.ble c d && w) = decide (a = b ∧ c ≤ d ∧ w = true) := by
  rw [Bool.eq_iff_iff]; simp [Nat.beq_eq, Nat.ble_eq, and_assoc]
@[simp] theorem bldA_cons (pl : List (Nat × Nat)) (cs : List AVal) (i : Nat) (y : AVal) (l : List (Nat × AVal)) : bldA pl cs ((i, y) :: l) = (match pl[i]? with
    | some (o, n) => if n = y.flat.length ∧ o + n ≤ cs.length ∧ y.whole = true then bldA pl (cs.take o ++ (y.flat ++ cs.drop (o + n))) l else none
    | none => none) := by
  rw [bldA]
  split
  · rw [b3, Bool.cond_decide]
  · rfl
@[simp] theorem bldS_cons (n : Nat) (xs : List AVal) (i : Nat) (y : AVal) (l : List (Nat × AVal)) : bldS n xs ((i, y) :: l) = if y.flat.length = n ∧ i + 1 ≤ xs.length ∧ y.whole = true then bldS n (xs.set i y) l else none := by
  rw [bldS, b3, Bool.cond_decide]
@[simp] theorem bldS_nil (n : Nat) (cs : List AVal) : bldS n cs [] = some cs := rfl
theorem appendM_rf (t tx : TypeId) (r g n : Nat) (y : AVal) : appendM P t tx (.rf r g 0 n) y h K = (match slT P t, elsA h y with
  | some e, some ys => okT P e = true ∧ 0 < szT P e ∧ zokT P e = true ∧ ((slT P tx).isSome = true ∨ stT P tx = true) ∧ (∀ y ∈ ys, y.flat.length = szT P e ∧ y.whole = true) ∧
     (match h[r]? with
       | some (.row g' s xs) => g = g' ∧ s = szT P e ∧ n ≤ xs.length ∧ (n + ys.length) * byT P e ≤ 140737488355328 ∧ n + ys.length ≤ maxLen ∧
         (∀ g2, K (.rf r g2 0 (n + ys.length)) (h.set r (.row g2 s (xs.take n ++ ys))))
       | _ => False)
  | _, _ => False) := propext ⟨fun h => h.out, fun h => ⟨h⟩⟩
theorem appendM_nil (t tx : TypeId) (y : AVal) : appendM P t tx nilS y h K = (match slT P t, elsA h y with
  | some e, some ys => okT P e = true ∧ 0 < szT P e ∧ zokT P e = true ∧ ((slT P tx).isSome = true ∨ stT P tx = true) ∧ (∀ y ∈ ys, y.flat.length = szT P e ∧ y.whole = true) ∧
     (ys.length * byT P e ≤ 140737488355328 ∧ ys.length ≤ maxLen ∧ (ys = [] → K nilS h) ∧ (ys ≠ [] → ∀ g, K (.rf h.length g 0 ys.length) (h ++ [.row g (szT P e) ys])))
  | _, _ => False) := propext ⟨fun h => h.out, fun h => ⟨h⟩⟩
@[simp] theorem elsA_sl (xs : List AVal) : elsA h (.sl xs) = some xs := rfl
@[simp] theorem elsA_nil (n : Nat) : elsA h (.v (.slice none 0 n)) = some [] := rfl
@[simp] theorem elsA_str (s : ByteArray) : elsA h (.v (.string s)) = some (s.data.toList.map fun b => .v (.int .u8 b.toNat)) := rfl
@[simp] theorem elsA_rf (r g o n : Nat) : elsA h (.rf r g o n) = (match h[r]? with | some (.row g' _ xs) => if g = g' ∧ o + n ≤ xs.length then some ((xs.drop o).take n) else none | _ => none) := rfl
theorem idxM_str (t : TypeId) (s : ByteArray) (k : IntKind) (n : Int) : idxM P t (.v (.string s)) (.v (.int k n)) h K = (stT P t = true ∧ 0 ≤ n ∧ n < s.size ∧ K (.v (.int .u8 (s.data.getD n.toNat 0).toNat)) h) := propext ⟨fun h => h.out, fun h => ⟨h⟩⟩
theorem idxM_agg (t : TypeId) (cs : List AVal) (k : IntKind) (n : Int) : idxM P t (.agg cs) (.v (.int k n)) h K = (match arT P t with | some (m, e) => okT P e = true ∧ 0 ≤ n ∧ n < m ∧ n.toNat * szT P e + szT P e ≤ cs.length ∧ (agT P e = false → szT P e = 1) ∧ K (subA (agT P e) (szT P e) (.agg cs) (n.toNat * szT P e)) h | none => False) := propext ⟨fun h => h.out, fun h => ⟨h⟩⟩
theorem fieldM_agg (t : TypeId) (cs : List AVal) (f : Nat) : fieldM P t (.agg cs) f h K = (match fdT P t f with
  | some (o, e) => okT P e = true ∧ o + szT P e ≤ cs.length ∧ (agT P e = false → szT P e = 1) ∧ K (subA (agT P e) (szT P e) (.agg cs) o) h
  | none => False) := propext ⟨fun h => by have := h.out; unfold fieldM_b at this; revert this; cases fdT P t f <;> simp, fun h => ⟨by unfold fieldM_b; revert h; cases fdT P t f <;> simp⟩⟩
theorem extractM_tup (xs : List AVal) (i : Nat) : extractM (.tup xs) i h K = (i < xs.length ∧ K (xs.getD i .dead) h) := propext ⟨fun h => h.out, fun h => ⟨h⟩⟩
@[simp] theorem newM_eq (s : Nat) (xs : List AVal) (K : Nat → AHeap → Prop) : newM s xs h K = ∀ g, K g (h ++ [.row g s xs]) := rfl
@[simp] theorem flat_agg (cs : List AVal) : (AVal.agg cs).flat = cs := rfl
@[simp] theorem flat_v (x : Value) : (AVal.v x).flat = [.v x] := rfl
@[simp] theorem flat_sl (x : List AVal) : (AVal.sl x).flat = [.sl x] := rfl
@[simp] theorem flat_fp (x : AVal) : (AVal.fp x).flat = [.fp x] := rfl
@[simp] theorem flat_rf (r g o n : Nat) : (AVal.rf r g o n).flat = [.rf r g o n] := rfl
@[simp] theorem flat_pt (r g o n : Nat) : (AVal.pt r g o n).flat = [.pt r g o n] := rfl
@[simp] theorem isAgg_agg (cs : List AVal) : (AVal.agg cs).isAgg = true := rfl
@[simp] theorem isAgg_v (x : Value) : (AVal.v x).isAgg = false := rfl
@[simp] theorem isAgg_sl (x : List AVal) : (AVal.sl x).isAgg = false := rfl
@[simp] theorem isAgg_fp (x : AVal) : (AVal.fp x).isAgg = false := rfl
@[simp] theorem isAgg_rf (r g o n : Nat) : (AVal.rf r g o n).isAgg = false := rfl
@[simp] theorem isAgg_pt (r g o n : Nat) : (AVal.pt r g o n).isAgg = false := rfl
@[simp] theorem subA_t (n : Nat) (y : AVal) (j : Nat) : subA true n y j = .agg ((y.flat.drop j).take n) := rfl
@[simp] theorem subA_f (n : Nat) (y : AVal) (j : Nat) : subA false n y j = y.flat.getD j .dead := rfl
@[simp] theorem putA_agg (ds : List AVal) (j : Nat) (cs : List AVal) : putA (.agg ds) j cs = .agg (ds.take j ++ (cs ++ ds.drop (j + cs.length))) := rfl
@[simp] theorem putA_v (x : Value) (j : Nat) (cs : List AVal) : putA (.v x) j cs = cs.headD .dead := rfl
@[simp] theorem whole_eq (x : AVal) : x.whole = x.flat.all AVal.c1 := rfl
@[simp] theorem c1_int (k : IntKind) (n : Int) : (AVal.v (.int k n)).c1 = true := rfl
@[simp] theorem c1_bool (b : Bool) : (AVal.v (.bool b)).c1 = true := rfl
@[simp] theorem c1_str (b : ByteArray) : (AVal.v (.string b)).c1 = true := rfl
@[simp] theorem c1_nil (a n m) : (AVal.v (.slice a n m)).c1 = true := rfl
@[simp] theorem c1_sl (x : List AVal) : (AVal.sl x).c1 = true := rfl
@[simp] theorem c1_fp (x : AVal) : (AVal.fp x).c1 = true := rfl
@[simp] theorem c1_rf (r g o n : Nat) : (AVal.rf r g o n).c1 = true := rfl
@[simp] theorem c1_pt (r g o n : Nat) : (AVal.pt r g o n).c1 = true := rfl
theorem w64 {n : Int} (h0 : -9223372036854775808 ≤ n) (h1 : n < 9223372036854775808) : IntKind.i64.wrap n = n := by rw [IntKind.wrap_i64]; omega
@[simp] theorem get_app0 (h l : AHeap) : (h ++ l)[h.length]? = l[0]? := by rw [List.getElem?_append_right (Nat.le_refl _), Nat.sub_self]
@[simp] theorem get_app (h l : AHeap) (k : Nat) : (h ++ l)[h.length + k]? = l[k]? := by rw [List.getElem?_append_right (by omega), Nat.add_sub_cancel_left]
@[simp] theorem set_app0 (h l : AHeap) (o : AObj) : (h ++ l).set h.length o = h ++ l.set 0 o := by rw [List.set_append_right _ _ (Nat.le_refl _), Nat.sub_self]
@[simp] theorem set_app (h l : AHeap) (o : AObj) (k : Nat) : (h ++ l).set (h.length + k) o = h ++ l.set k o := by rw [List.set_append_right _ _ (by omega), Nat.add_sub_cancel_left]
theorem map_getD {α : Type} (f : α → AVal) (d : α) {xs : List α} {n : Nat} (hn : n < xs.length) : (xs.map f).getD n .dead = f (xs.getD n d) := by
  simp [List.getD_eq_getElem?_getD, List.getElem?_map, List.getElem?_eq_getElem hn]
end
/-! ### the steps, bundled: given to simp as ↓go -/
theorem go : (∀ (P : Program) (h : AHeap) (K : KA) (op : BinOp) (t : TypeId) (k k' : IntKind) (a b : Int), binM P op t (.v (.int k a)) (.v (.int k' b)) h K = (okI op k k' b ∧ K (.v (binI op k a b)) h)) ∧
  (∀ (P : Program) (h : AHeap) (K : KA) (op : BinOp) (t : TypeId) (a b : Bool), binM P op t (.v (.bool a)) (.v (.bool b)) h K = (blT P t = true ∧ eqM op (a == b) h K)) ∧
  (∀ (P : Program) (h : AHeap) (K : KA) (op : BinOp) (t : TypeId) (a b : ByteArray), binM P op t (.v (.string a)) (.v (.string b)) h K = eqM op (a.toList == b.toList) h K) ∧
  (∀ (P : Program) (h : AHeap) (K : KA) (op : BinOp) (t : TypeId) (n m n' m' : Nat), binM P op t (.v (.slice none n m)) (.v (.slice none n' m')) h K = ((slT P t).isSome = true ∧ eqM op true h K)) ∧
  (∀ (P : Program) (h : AHeap) (K : KA) (op : BinOp) (t : TypeId) (xs : List AVal) (n' m' : Nat), binM P op t (.sl xs) (.v (.slice none n' m')) h K = ((slT P t).isSome = true ∧ xs ≠ [] ∧ eqM op false h K)) ∧
  (∀ (P : Program) (h : AHeap) (K : KA) (op : BinOp) (t : TypeId) (r g o n n' m' : Nat), binM P op t (.rf r g o n) (.v (.slice none n' m')) h K = ((slT P t).isSome = true ∧ eqM op false h K)) ∧
  (∀ (P : Program) (h : AHeap) (K : KA) (op : BinOp) (t : TypeId) (x : AVal), binM P op t (.fp x) (.v (.pointer none)) h K = (ptT P t = true ∧ eqM op false h K)) ∧
  (∀ (P : Program) (h : AHeap) (K : KA) (op : BinOp) (t : TypeId) (r g i j : Nat), binM P op t (.pt r g i j) (.v (.pointer none)) h K = (ptT P t = true ∧ eqM op false h K)) ∧
  (∀ (h : AHeap) (K : KA) (b : Bool), eqM .eql b h K = K (.v (.bool b)) h) ∧
  (∀ (h : AHeap) (K : KA) (b : Bool), eqM .neq b h K = K (.v (.bool !b)) h) ∧
  (∀ (b : Bool) (A B : Prop), gdM (.v (.bool b)) A B = ((b = true → A) ∧ (b = false → B))) ∧
  (∀ (h : AHeap) (K : KA) (b : Bool), unM .not (.v (.bool b)) h K = K (.v (.bool !b)) h) ∧
  (∀ (h : AHeap) (K : KA) (k : IntKind) (n : Int), unM .neg (.v (.int k n)) h K = K (.v (.int k (k.wrap (0 - n)))) h) ∧
  (∀ (P : Program) (h : AHeap) (K : KA) (s d : TypeId) (xs : List AVal), cvsM P s d (.sl xs) h K = ((match slT P s with | some e => inT P e = some .u8 | none => False) ∧ stT P d = true ∧ (match xs.mapM byA with | some ns => K (.v (.string (ns.foldl (fun r n => r.push (UInt8.ofNat n.toNat)) ByteArray.empty))) h | none => False))) ∧
  (∀ (P : Program) (h : AHeap) (K : KA) (s d : TypeId) (r g o n : Nat), convM P s d (.rf r g o n) h K = (s = d ∧ 0 < n ∧ (match slT P d with | some e => inT P e = some .u8 | none => False) ∧ (match h[r]? with | some (.row g' s' _) => g = g' ∧ s' = 1 ∧ K (.rf r g o n) h | _ => False))) ∧
  (∀ (P : Program) (h : AHeap) (K : KA) (s d : TypeId) (k : IntKind) (n : Int), convM P s d (.v (.int k n)) h K = (match inT P d with | some k => okT P s = true ∧ K (.v (.int k (k.wrap n))) h | none => False)) ∧
  (∀ (h : AHeap) (K : KA) (k k' : IntKind) (a b : Int), maxM (.v (.int k a)) (.v (.int k' b)) h K = K (.v (.int k (max a b))) h) ∧
  (∀ (h : AHeap) (K : KA) (k k' : IntKind) (a b : Int), minM (.v (.int k a)) (.v (.int k' b)) h K = K (.v (.int k (min a b))) h) ∧
  (∀ (h : AHeap) (K : KA) (f : FuncId) (us vs : List AVal), mkFnM (.func f) us vs h K = K (.fn f us vs) h) ∧
  (∀ (P : Program) (h : AHeap) (K : KA) (t : TypeId) (x : AVal), mkIfM P t x h K = (ncT P t = true ∧ K (.ifc t x) h)) ∧
  (∀ (P : Program) (h : AHeap) (K : KA) (t : TypeId) (u : TypeId) (y : AVal), taM P t true (.ifc u y) h K = (ncT P t = true ∧ bif Nat.beq u t then K (.tup [y, .v (.bool true)]) h else (match zrT P t with | some z => K (.tup [z, .v (.bool false)]) h | none => False))) ∧
  (∀ (P : Program) (h : AHeap) (K : KA) (t : TypeId), taM P t true (.v .nilIface) h K = (ncT P t = true ∧ (match zrT P t with | some z => K (.tup [z, .v (.bool false)]) h | none => False))) ∧
  (∀ (P : Program) (h : AHeap) (K : KA) (t : TypeId) (u : TypeId) (y : AVal), taM P t false (.ifc u y) h K = (ncT P t = true ∧ Nat.beq u t = true ∧ K y h)) ∧
  (∀ (P : Program) (h : AHeap) (K : KA) (op : BinOp) (t : TypeId), nilM P op t (.v .nilIface) h K = (ifT P t = true ∧ eqM op true h K)) ∧
  (∀ (P : Program) (h : AHeap) (K : KA) (op : BinOp) (t u : TypeId) (x : AVal), nilM P op t (.ifc u x) h K = (ifT P t = true ∧ eqM op false h K)) ∧
  (∀ (P : Program) (h : AHeap) (K : KA) (op : BinOp) (t : TypeId), nilFM P op t (.v .nilFunc) h K = (fuT P t = true ∧ eqM op true h K)) ∧
  (∀ (P : Program) (h : AHeap) (K : KA) (op : BinOp) (t : TypeId) (f : FuncId) (us vs : List AVal), nilFM P op t (.fn f us vs) h K = (fuT P t = true ∧ eqM op false h K)) ∧
  (∀ (h : AHeap) (K : KA) (x : AVal), boxFM x h K = (x.whole = true ∧ K (.fp x) h)) ∧
  (∀ (P : Program) (h : AHeap) (K : KA) (t : TypeId) (xs : List AVal) (lo hi : Option AVal), sliceM P t (.sl xs) lo hi none h K = (match slT P t with
      | some e => okT P e = true ∧ (∀ x ∈ xs, x.flat.length = szT P e) ∧ 0 ≤ loA lo ∧ loA lo ≤ hiA xs.length hi ∧ hiA xs.length hi ≤ xs.length ∧ K (.sl ((xs.drop (loA lo).toNat).take ((hiA xs.length hi).toNat - (loA lo).toNat))) h
      | none => False)) ∧
  (∀ (P : Program) (h : AHeap) (K : KA) (t : TypeId) (s : ByteArray) (lo hi : Option AVal), sliceM P t (.v (.string s)) lo hi none h K = (stT P t = true ∧ 0 ≤ loA lo ∧ loA lo ≤ hiA s.size hi ∧ hiA s.size hi ≤ s.size ∧ K (.v (.string (s.extract (loA lo).toNat (hiA s.size hi).toNat))) h)) ∧
  (∀ (P : Program) (h : AHeap) (K : KA) (t : TypeId) (r g o m : Nat) (lo hi : Option AVal), sliceM P t (.rf r g o m) lo hi none h K = (match slT P t, h[r]? with
      | some e, some (.row g' s xs) => g = g' ∧ okT P e = true ∧ s = szT P e ∧ 0 ≤ loA lo ∧ loA lo ≤ hiA m hi ∧ hiA m hi ≤ m ∧ K (.rf r g (o + (loA lo).toNat) ((hiA m hi).toNat - (loA lo).toNat)) h
      | _, _ => False)) ∧
  (∀ (h : AHeap) (K : KA) (b : Bool) (x y : AVal), pickM (.v (.bool b)) x y h K = ((b = true → K x h) ∧ (b = false → K y h))) ∧
  (∀ (P : Program) (h : AHeap) (K : KA) (t : TypeId) (xs : List AVal), lenM P t (.sl xs) h K = ((slT P t).isSome = true ∧ K (i64 xs.length) h)) ∧
  (∀ (P : Program) (h : AHeap) (K : KA) (t : TypeId) (r g o n : Nat), lenM P t (.rf r g o n) h K = ((slT P t).isSome = true ∧ K (i64 n) h)) ∧
  (∀ (P : Program) (h : AHeap) (K : KA) (t : TypeId) (n m : Nat), lenM P t (.v (.slice none n m)) h K = ((slT P t).isSome = true ∧ K (i64 n) h)) ∧
  (∀ (P : Program) (h : AHeap) (K : KA) (t : TypeId) (s : ByteArray), lenM P t (.v (.string s)) h K = (stT P t = true ∧ K (i64 s.size) h)) ∧
  (∀ (h : AHeap) (K : KA) (x : AVal), nilChkM (.fp x) h K = K (.fp x) h) ∧
  (∀ (h : AHeap) (K : KA) (r g i j : Nat), nilChkM (.pt r g i j) h K = K (.pt r g i j) h) ∧
  (∀ (h : AHeap) (K : KA) (f : Nat) (m l : List AVal), nilChkM (.fn f m l) h K = K (.fn f m l) h) ∧
  (∀ (P : Program) (h : AHeap) (K : KA) (t : TypeId) (xs : List AVal) (k : IntKind) (n : Int), ixAddrM P t (.sl xs) (.v (.int k n)) h K =
    (match slT P t with | some e => okT P e = true ∧ 0 ≤ n ∧ n < xs.length ∧ szT P e = (xs.getD n.toNat .dead).flat.length ∧ K (.fp (xs.getD n.toNat .dead)) h | none => False)) ∧
  (∀ (P : Program) (h : AHeap) (K : KA) (t : TypeId) (r g o m : Nat) (k : IntKind) (n : Int), ixAddrM P t (.rf r g o m) (.v (.int k n)) h K =
    (match slT P t with | some e => (match h[r]? with | some (.row g' s xs) => g = g' ∧ okT P e = true ∧ szT P e = s ∧ 0 ≤ n ∧ n < m ∧ K (.pt r g (o + n.toNat) 0) h | _ => False) | none => False)) ∧
  (∀ (P : Program) (h : AHeap) (K : KA) (t : TypeId) (y : AVal) (k : IntKind) (n : Int), ixAddrM P t (.fp y) (.v (.int k n)) h K =
    (match arT P t with | some (m, e) => okT P e = true ∧ 0 < szT P e ∧ 0 ≤ n ∧ n < m ∧ n.toNat * szT P e + szT P e ≤ y.flat.length ∧ (agT P e = false → szT P e = 1) ∧ (agT P e = false → (y.flat.getD (n.toNat * szT P e) .dead).isAgg = false) ∧ K (.fp (subA (agT P e) (szT P e) y (n.toNat * szT P e))) h | none => False)) ∧
  (∀ (P : Program) (h : AHeap) (K : KA) (t : TypeId) (r g a b : Nat) (k : IntKind) (n : Int), ixAddrM P t (.pt r g a b) (.v (.int k n)) h K =
    (match arT P t with | some (m, e) => okT P e = true ∧ 0 ≤ n ∧ n < m ∧ K (.pt r g a (b + n.toNat * szT P e)) h | none => False)) ∧
  (∀ (P : Program) (h : AHeap) (K : KA) (t : TypeId) (y : AVal) (f : Nat), fldAddrM P t (.fp y) f h K =
    (match fdT P t f with | some (o, e) => okT P e = true ∧ 0 < szT P e ∧ o + szT P e ≤ y.flat.length ∧ (agT P e = false → (y.flat.getD o .dead).isAgg = false) ∧ K (.fp (subA (agT P e) (szT P e) y o)) h | none => False)) ∧
  (∀ (P : Program) (h : AHeap) (K : KA) (t : TypeId) (r g i j : Nat) (f : Nat), fldAddrM P t (.pt r g i j) f h K =
    (match fdT P t f with | some (o, e) => okT P e = true ∧ 0 < szT P e ∧ K (.pt r g i (j + o)) h | none => False)) ∧
  (∀ (P : Program) (h : AHeap) (K : KA) (t : TypeId) (y : AVal), loadM P t (.fp y) h K = (okT P t = true ∧ agT P t = y.isAgg ∧ szT P t = y.flat.length ∧ K y h)) ∧
  (∀ (P : Program) (h : AHeap) (K : KA) (t : TypeId) (y : AVal), loadFM P t (.fp y) h K = (okT P t = true ∧ agT P t = y.isAgg ∧ szT P t = y.flat.length ∧ K y h)) ∧
  (∀ (P : Program) (h : AHeap) (K : KA) (t : TypeId) (r g i j : Nat), loadM P t (.pt r g i j) h K = (match h[r]? with
    | some (.row g' s xs) => g = g' ∧ okT P t = true ∧ i < xs.length ∧ j + szT P t ≤ (xs.getD i .dead).flat.length ∧ (agT P t = false → szT P t = 1) ∧ K (subA (agT P t) (szT P t) (xs.getD i .dead) j) h
    | _ => False)) ∧
  (∀ (P : Program) (h : AHeap) (K : KA) (t : TypeId) (r g i j : Nat) (y : AVal), storeM P t (.pt r g i j) y h K = (match h[r]? with
    | some (.row g' s xs) => g = g' ∧ okT P t = true ∧ i < xs.length ∧ szT P t = y.flat.length ∧ (0 < y.flat.length ∨ (xs.getD i .dead).isAgg = true) ∧ y.whole = true ∧ j + y.flat.length ≤ s ∧ K (.v undef) (h.set r (.row g s (xs.set i (putA (xs.getD i .dead) j y.flat))))
    | _ => False)) ∧
  (∀ (h : AHeap) (K : KA) (e : TypeId) (x : AVal), boxM e x h K = (x.whole = true ∧ ∀ g, K (.pt h.length g 0 0) (h ++ [.row g x.flat.length [x]]))) ∧
  (∀ (P : Program) (h : AHeap) (K : KA) (e : TypeId), allocM P e h K = (match zrT P e with | some z => okT P e = true ∧ szT P e = z.flat.length ∧ ∀ g, K (.pt h.length g 0 0) (h ++ [.row g (szT P e) [z]]) | none => False)) ∧
  (∀ (P : Program) (h : AHeap) (K : KA) (t : TypeId) (ps : List (Nat × AVal)), buildM P t ps h K = (match plT P t, zrT P t with
  | some pl, some (.agg zs) => (match bldA pl zs ps with | some cs => K (.agg cs) h | none => False)
  | _, _ => False)) ∧
  (∀ (P : Program) (h : AHeap) (K : KA) (t : TypeId) (n : Nat) (ps : List (Nat × AVal)), buildSliceM P t n ps h K = (match slT P t with
  | some e => (match zrT P e with
    | some z => (match bldS (szT P e) (List.replicate n z) ps with
      | some xs => okT P e = true ∧ szT P e = z.flat.length ∧ 0 < szT P e ∧ n * szT P e ≤ 16777216 ∧ ∀ g, K (.rf h.length g 0 n) (h ++ [.row g (szT P e) xs])
      | none => False)
    | none => False)
  | none => False)) ∧
  (∀ (P : Program) (h : AHeap) (K : KA) (t : TypeId) (k k' : IntKind) (n m : Int), makeM P t (.v (.int k n)) (.v (.int k' m)) h K = (match slT P t with
  | some e => (match zrT P e with
    | some z => okT P e = true ∧ szT P e = z.flat.length ∧ 0 < szT P e ∧ n = m ∧ 0 ≤ n ∧ (byT P e : Int) * n ≤ 281474976710656 ∧ n ≤ 9223372036854775807 ∧ ∀ g, K (.rf h.length g 0 n.toNat) (h ++ [.row g (szT P e) (List.replicate n.toNat z)])
    | none => False)
  | none => False)) ∧
  (∀ (P : Program) (h : AHeap) (K : KA) (t tx : TypeId) (r g n : Nat) (y : AVal), appendM P t tx (.rf r g 0 n) y h K = (match slT P t, elsA h y with
  | some e, some ys => okT P e = true ∧ 0 < szT P e ∧ zokT P e = true ∧ ((slT P tx).isSome = true ∨ stT P tx = true) ∧ (∀ y ∈ ys, y.flat.length = szT P e ∧ y.whole = true) ∧
     (match h[r]? with
       | some (.row g' s xs) => g = g' ∧ s = szT P e ∧ n ≤ xs.length ∧ (n + ys.length) * byT P e ≤ 140737488355328 ∧ n + ys.length ≤ maxLen ∧
         (∀ g2, K (.rf r g2 0 (n + ys.length)) (h.set r (.row g2 s (xs.take n ++ ys))))
       | _ => False)
  | _, _ => False)) ∧
  (∀ (P : Program) (h : AHeap) (K : KA) (t tx : TypeId) (y : AVal), appendM P t tx nilS y h K = (match slT P t, elsA h y with
  | some e, some ys => okT P e = true ∧ 0 < szT P e ∧ zokT P e = true ∧ ((slT P tx).isSome = true ∨ stT P tx = true) ∧ (∀ y ∈ ys, y.flat.length = szT P e ∧ y.whole = true) ∧
     (ys.length * byT P e ≤ 140737488355328 ∧ ys.length ≤ maxLen ∧ (ys = [] → K nilS h) ∧ (ys ≠ [] → ∀ g, K (.rf h.length g 0 ys.length) (h ++ [.row g (szT P e) ys])))
  | _, _ => False)) ∧
  (∀ (P : Program) (h : AHeap) (K : KA) (t : TypeId) (s : ByteArray) (k : IntKind) (n : Int), idxM P t (.v (.string s)) (.v (.int k n)) h K = (stT P t = true ∧ 0 ≤ n ∧ n < s.size ∧ K (.v (.int .u8 (s.data.getD n.toNat 0).toNat)) h)) ∧
  (∀ (P : Program) (h : AHeap) (K : KA) (t : TypeId) (cs : List AVal) (k : IntKind) (n : Int), idxM P t (.agg cs) (.v (.int k n)) h K = (match arT P t with | some (m, e) => okT P e = true ∧ 0 ≤ n ∧ n < m ∧ n.toNat * szT P e + szT P e ≤ cs.length ∧ (agT P e = false → szT P e = 1) ∧ K (subA (agT P e) (szT P e) (.agg cs) (n.toNat * szT P e)) h | none => False)) ∧
  (∀ (P : Program) (h : AHeap) (K : KA) (t : TypeId) (cs : List AVal) (f : Nat), fieldM P t (.agg cs) f h K = (match fdT P t f with
  | some (o, e) => okT P e = true ∧ o + szT P e ≤ cs.length ∧ (agT P e = false → szT P e = 1) ∧ K (subA (agT P e) (szT P e) (.agg cs) o) h
  | none => False)) ∧
  (∀ (h : AHeap) (K : KA) (xs : List AVal) (i : Nat), extractM (.tup xs) i h K = (i < xs.length ∧ K (xs.getD i .dead) h)) :=
  ⟨by intros; exact binM_int ..,
   by intros; exact binM_bool ..,
   by intros; exact binM_str ..,
   by intros; exact binM_nil ..,
   by intros; exact binM_sl ..,
   by intros; exact binM_rf ..,
   by intros; exact binM_fp ..,
   by intros; exact binM_pt ..,
   by intros; exact eqM_eql ..,
   by intros; exact eqM_neq ..,
   by intros; exact gdM_bl ..,
   by intros; exact unM_not ..,
   by intros; exact unM_neg ..,
   by intros; exact cvsM_sl ..,
   by intros; exact convM_rf ..,
   by intros; exact convM_int ..,
   by intros; exact maxM_int ..,
   by intros; exact minM_int ..,
   by intros; exact mkFnM_f ..,
   by intros; exact mkIfM_eq ..,
   by intros; exact taM_ifc ..,
   by intros; exact taM_nil ..,
   by intros; exact taM_one ..,
   by intros; exact nilM_nil ..,
   by intros; exact nilM_ifc ..,
   by intros; exact nilFM_nil ..,
   by intros; exact nilFM_fn ..,
   by intros; exact boxFM_eq ..,
   by intros; exact sliceM_sl ..,
   by intros; exact sliceM_str ..,
   by intros; exact sliceM_rf ..,
   by intros; exact pickM_bl ..,
   by intros; exact lenM_sl ..,
   by intros; exact lenM_rf ..,
   by intros; exact lenM_nil ..,
   by intros; exact lenM_str ..,
   by intros; exact nilChkM_fp ..,
   by intros; exact nilChkM_pt ..,
   by intros; exact nilChkM_fn ..,
   by intros; exact ixAddrM_sl ..,
   by intros; exact ixAddrM_rf ..,
   by intros; exact ixAddrM_fp ..,
   by intros; exact ixAddrM_pt ..,
   by intros; exact fldAddrM_fp ..,
   by intros; exact fldAddrM_pt ..,
   by intros; exact loadM_fp ..,
   by intros; exact loadFM_fp ..,
   by intros; exact loadM_pt ..,
   by intros; exact storeM_pt ..,
   by intros; exact boxM_eq ..,
   by intros; exact allocM_eq ..,
   by intros; exact buildM_eq ..,
   by intros; exact buildSliceM_eq ..,
   by intros; exact makeM_eq ..,
   by intros; exact appendM_rf ..,
   by intros; exact appendM_nil ..,
   by intros; exact idxM_str ..,
   by intros; exact idxM_agg ..,
   by intros; exact fieldM_agg ..,
   by intros; exact extractM_tup ..⟩
end Go.Proofs.YtkfpoagnchahkaaGreat.A
