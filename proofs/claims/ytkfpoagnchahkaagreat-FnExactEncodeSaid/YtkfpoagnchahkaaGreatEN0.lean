/- Of this session: over the abstract machine. -/
import Derived.Test.YtkfpoagnchahkaaGreatProg
import Derived.Test.YtkfpoagnchahkaaGreatA
import Derived.Test.YtkfpoagnchahkaaGreatB
import Derived.Test.YtkfpoagnchahkaaGreatD
import Derived.Test.YtkfpoagnchahkaaGreatT
import Derived.Test.YtkfpoagnchahkaaGreatO
import Derived.Test.YtkfpoagnchahkaaGreatOT
import Derived.Test.YtkfpoagnchahkaaGreatP1
import Derived.Test.YtkfpoagnchahkaaGreatP2
import Derived.Test.YtkfpoagnchahkaaGreatP3
import Derived.Test.YtkfpoagnchahkaaGreatP4
import Derived.Test.YtkfpoagnchahkaaGreatP5
namespace Go.Proofs.YtkfpoagnchahkaaGreat.A
open Go Go.RowKit
set_option linter.unusedVariables false
set_option linter.unusedSimpArgs false
set_option maxRecDepth 100000
set_option maxHeartbeats 1000000
/-! ### numbers as bytes, and the document of a program -/
def byteAt (v : Int) (i : Nat) : Int := IntKind.u8.wrap ((IntKind.u64.wrap v).fdiv (2 ^ (8 * i)))
def putB (v : Int) (n : Nat) : List Int := (List.range n).map (byteAt v)
@[simp] theorem putB_len (v : Int) (n : Nat) : (putB v n).length = n := by simp [putB]
theorem putB_succ (v : Int) (n : Nat) : putB v (n + 1) = putB v n ++ [byteAt v n] := by simp [putB, List.range_succ]
def putL (n : Nat) (xs : List Int) : List Int := xs.flatMap (fun x => putB x n)
def encReg (r : List Int) : List Int := putB r.length 2 ++ putL 1 r
def encCon (c : MConst) : List Int := putB c.ty 1 ++ putB (IntKind.i64.wrap c.word) 4
def encIns (x : MInstr) : List Int := putB x.op 1 ++ putB x.a 1 ++ putB x.b 2 ++ putB x.c 4
def encHead (f : MFunc) : List Int := putB f.params.length 1 ++ putL 1 f.params ++ putB f.result 1 ++ putB f.locals.length 1 ++ putL 1 f.locals ++ putB f.code.length 2
def encFun (f : MFunc) : List Int := encHead f ++ f.code.flatMap encIns
def encCer (c : MCert) : List Int := putB c.func 2 ++ putB c.head 2 ++ putB c.counter 1 ++ putB (IntKind.i64.wrap c.init) 4
def enc1 : List Int := [80, 76, 67, 49] ++ putB 1 2
def enc2 (p : MProgram) : List Int := enc1 ++ p.regions.flatMap encReg ++ putB p.consts.length 2
def enc3 (p : MProgram) : List Int := enc2 p ++ p.consts.flatMap encCon ++ putB p.funcs.length 2
def enc4 (p : MProgram) : List Int := enc3 p ++ p.funcs.flatMap encFun ++ putB p.certs.length 2
def encBody (p : MProgram) : List Int := enc4 p ++ p.certs.flatMap encCer
theorem flat_take {α : Type} {xs : List α} {i : Nat} {x : α} (h : xs[i]? = some x) (f : α → List Int) : (xs.take (i + 1)).flatMap f = (xs.take i).flatMap f ++ f x := by
  rw [List.take_add_one, h]; simp
theorem flat_le {α : Type} {f : α → List Int} {g : α → Nat} {c : Nat} (hf : ∀ x, (f x).length ≤ c * (1 + g x)) : ∀ xs : List α, (xs.flatMap f).length ≤ c * szL g xs
  | [] => by simp
  | x :: xs => by
    have h1 := flat_le hf xs
    have h2 := hf x
    rw [List.flatMap_cons, List.length_append]
    have e : c * szL g (x :: xs) = c * (1 + g x) + c * szL g xs := by
      rw [← Nat.mul_add]; congr 1; simp [szL]; omega
    omega
theorem szL_take {α : Type} (g : α → Nat) (xs : List α) (i : Nat) : szL g (xs.take i) ≤ szL g xs := by
  unfold szL
  have h1 : (xs.take i).length ≤ xs.length := by simp; omega
  have h2 : ((xs.take i).map g).sum ≤ (xs.map g).sum := by
    conv => rhs; rw [← List.take_append_drop i xs]
    rw [List.map_append, List.sum_append]; omega
  omega
theorem flat_take_le {α : Type} {f : α → List Int} {g : α → Nat} {c : Nat} (hf : ∀ x, (f x).length ≤ c * (1 + g x)) (xs : List α) (i : Nat) : ((xs.take i).flatMap f).length ≤ c * szL g xs :=
  Nat.le_trans (flat_le hf _) (Nat.mul_le_mul_left c (szL_take g xs i))
theorem putL_len (n : Nat) (xs : List Int) : (putL n xs).length = n * xs.length := by
  unfold putL
  induction xs with
  | nil => simp
  | cons x xs ih => rw [List.flatMap_cons, List.length_append, ih, putB_len, List.length_cons, Nat.mul_succ]; omega
theorem encReg_le (r : List Int) : (encReg r).length ≤ 8 * (1 + szL (fun _ => 0) r) := by
  unfold encReg; rw [List.length_append, putL_len, putB_len, szL_zero]; omega
theorem encCon_le (c : MConst) : (encCon c).length ≤ 8 * (1 + 0) := by simp [encCon]
theorem encIns_le (c : MInstr) : (encIns c).length ≤ 8 * (1 + 0) := by simp [encIns]
theorem encCer_le (c : MCert) : (encCer c).length ≤ 16 * (1 + 0) := by simp [encCer]
theorem encHead_le (f : MFunc) : (encHead f).length ≤ 5 + f.params.length + f.locals.length := by
  unfold encHead; simp [putL_len]; omega
theorem encFun_le (f : MFunc) : (encFun f).length ≤ 8 * (1 + szFunc f) := by
  have h1 := encHead_le f
  have h2 := flat_le encIns_le f.code
  unfold encFun szFunc
  rw [List.length_append]
  rw [szL_zero] at h2 ⊢
  rw [szL_zero, szL_zero]
  omega
theorem enc_len {p : MProgram} (hs : szProgram p ≤ 1048576) : (enc2 p).length ≤ 10000000 ∧ (enc3 p).length ≤ 20000000 ∧ (enc4 p).length ≤ 30000000 ∧ (encBody p).length ≤ 50000000 ∧
    (∀ i, ((p.regions.take i).flatMap encReg).length ≤ 8388608) ∧ (∀ i, ((p.consts.take i).flatMap encCon).length ≤ 8388608) ∧ (∀ i, ((p.funcs.take i).flatMap encFun).length ≤ 8388608) ∧ (∀ i, ((p.certs.take i).flatMap encCer).length ≤ 16777216) := by
  unfold szProgram at hs
  have a1 := flat_le encReg_le p.regions
  have a2 := flat_le encCon_le p.consts
  have a3 := flat_le encFun_le p.funcs
  have a4 := flat_le encCer_le p.certs
  have b1 := flat_take_le encReg_le p.regions
  have b2 := flat_take_le encCon_le p.consts
  have b3 := flat_take_le encFun_le p.funcs
  have b4 := flat_take_le encCer_le p.certs
  have e1 : enc1.length = 6 := by simp [enc1]
  unfold encBody enc4 enc3 enc2
  simp only [List.length_append, putB_len, e1]
  refine ⟨by omega, by omega, by omega, by omega, fun i => ?_, fun i => ?_, fun i => ?_, fun i => ?_⟩
  · have := b1 i; omega
  · have := b2 i; omega
  · have := b3 i; omega
  · have := b4 i; omega
theorem byteAt_wf (v : Int) (i : Nat) : 0 ≤ byteAt v i ∧ byteAt v i ≤ 255 := by
  unfold byteAt
  simp [IntKind.wrap, IntKind.bits, IntKind.signed]
  omega
def okB (bs : List Int) : Prop := ∀ b ∈ bs, 0 ≤ b ∧ b ≤ 255
theorem okB.app {a b : List Int} (ha : okB a) (hb : okB b) : okB (a ++ b) := fun x hx => (List.mem_append.1 hx).elim (ha x) (hb x)
theorem okB_putB (v : Int) (n : Nat) : okB (putB v n) := fun x hx => by
  obtain ⟨i, _, rfl⟩ := List.mem_map.1 hx
  exact byteAt_wf v i
theorem okB_flat {α : Type} {f : α → List Int} (hf : ∀ x, okB (f x)) (xs : List α) : okB (xs.flatMap f) := fun b hb => by
  obtain ⟨x, _, hx⟩ := List.mem_flatMap.1 hb
  exact hf x b hx
theorem okB_putL (n : Nat) (xs : List Int) : okB (putL n xs) := okB_flat (fun x => okB_putB x n) xs
theorem okB_body (p : MProgram) : okB (encBody p) := by
  have h0 : okB [80, 76, 67, 49] := fun x hx => by simp at hx; omega
  have hr : ∀ r, okB (encReg r) := fun r => (okB_putB _ _).app (okB_putL _ _)
  have hc : ∀ r, okB (encCon r) := fun r => (okB_putB _ _).app (okB_putB _ _)
  have hi : ∀ r, okB (encIns r) := fun r => (((okB_putB _ _).app (okB_putB _ _)).app (okB_putB _ _)).app (okB_putB _ _)
  have he : ∀ r, okB (encCer r) := fun r => (((okB_putB _ _).app (okB_putB _ _)).app (okB_putB _ _)).app (okB_putB _ _)
  have hh : ∀ r, okB (encHead r) := fun r => (((((okB_putB _ _).app (okB_putL _ _)).app (okB_putB _ _)).app (okB_putB _ _)).app (okB_putL _ _)).app (okB_putB _ _)
  have hf : ∀ r, okB (encFun r) := fun r => (hh r).app (okB_flat hi _)
  exact ((((((((h0.app (okB_putB _ _)).app (okB_flat hr _)).app (okB_putB _ _)).app (okB_flat hc _)).app (okB_putB _ _)).app (okB_flat hf _)).app (okB_putB _ _)).app (okB_flat he _))
/-! the remainder, bit by bit and by half bytes -/
def crcC : BitVec 32 := 0xedb88320#32
def hf (x : BitVec 32) : BitVec 32 := (x >>> 1) ^^^ (if x.getLsbD 0 then crcC else 0#32)
def hfN : Nat → BitVec 32 → BitVec 32
  | 0, x => x
  | n + 1, x => hf (hfN n x)
theorem hf_xor (a b : BitVec 32) : hf (a ^^^ b) = hf a ^^^ hf b := by
  unfold hf
  rw [BitVec.ushiftRight_xor_distrib, BitVec.getLsbD_xor]
  cases a.getLsbD 0 <;> cases b.getLsbD 0 <;> simp <;> (try ac_rfl)
  · rw [show a >>> 1 ^^^ crcC ^^^ (b >>> 1 ^^^ crcC) = (a >>> 1 ^^^ b >>> 1) ^^^ (crcC ^^^ crcC) by ac_rfl, BitVec.xor_self, BitVec.xor_zero]
theorem hfN_xor (n : Nat) (a b : BitVec 32) : hfN n (a ^^^ b) = hfN n a ^^^ hfN n b := by
  induction n with
  | zero => rfl
  | succ n ih => simp only [hfN]; rw [ih, hf_xor]
theorem hf_even {x : BitVec 32} (h : x.getLsbD 0 = false) : hf x = x >>> 1 := by
  unfold hf; rw [h]; simp
/-- where the n lowest bits are none, n steps shift -/
theorem hfN_low (n : Nat) (x : BitVec 32) (h : ∀ i, i < n → x.getLsbD i = false) : hfN n x = x >>> n := by
  induction n with
  | zero => simp [hfN]
  | succ n ih =>
    simp only [hfN]
    rw [ih (fun i hi => h i (by omega)), hf_even]
    · rw [← BitVec.shiftRight_add]
    · rw [BitVec.getLsbD_ushiftRight]; exact h n (by omega)
theorem hfN_add (m n : Nat) (x : BitVec 32) : hfN (m + n) x = hfN m (hfN n x) := by
  induction m with
  | zero => simp [hfN]
  | succ m ih => rw [Nat.succ_add]; simp only [hfN]; rw [ih]
/-- a half byte: a shift, and what the lowest four bits make -/
theorem hf4_table (x : BitVec 32) : hfN 4 x = (x >>> 4) ^^^ hfN 4 (x &&& 15#32) := by
  have e : x = ((x >>> 4) <<< 4) ^^^ (x &&& 15#32) := by
    apply BitVec.eq_of_getLsbD_eq
    intro i hi
    rw [BitVec.getLsbD_xor, BitVec.getLsbD_shiftLeft, BitVec.getLsbD_ushiftRight, BitVec.getLsbD_and]
    by_cases h : i < 4
    · have : (15#32).getLsbD i = true := by
        rcases (show i = 0 ∨ i = 1 ∨ i = 2 ∨ i = 3 by omega) with rfl | rfl | rfl | rfl <;> rfl
      simp [h, this]
    · have : (15#32).getLsbD i = false := by
        have h2 : (15 : Nat) < 2 ^ i := Nat.lt_of_lt_of_le (by decide : 15 < 2 ^ 4) (Nat.pow_le_pow_right (by decide) (by omega))
        simp [BitVec.getLsbD_ofNat, Nat.testBit_lt_two_pow h2]
      have h3 : 4 + (i - 4) = i := by omega
      rw [this, h3]; simp [h, hi]
  conv => lhs; rw [e]
  rw [hfN_xor]
  congr 1
  rw [hfN_low]
  · apply BitVec.eq_of_getLsbD_eq
    intro i hi
    rw [BitVec.getLsbD_ushiftRight, BitVec.getLsbD_shiftLeft, BitVec.getLsbD_ushiftRight]
    by_cases h : 4 + i < 32
    · have h3 : 4 + (4 + i - 4) = 4 + i := by omega
      simp [h]
    · simp [h, BitVec.getLsbD_of_ge x (4 + i) (by omega)]
  · intro i hi
    rw [BitVec.getLsbD_shiftLeft]; simp [hi]
/-- one byte -/
def crcByte (r : BitVec 32) (b : BitVec 32) : BitVec 32 := hfN 8 (r ^^^ b)
theorem crcByte_halves (r b : BitVec 32) : crcByte r b = (let y := r ^^^ b; let z := (y >>> 4) ^^^ hfN 4 (y &&& 15#32); (z >>> 4) ^^^ hfN 4 (z &&& 15#32)) := by
  simp only [crcByte]
  rw [show (8 : Nat) = 4 + 4 from rfl, hfN_add, hf4_table (hfN 4 _), hf4_table (r ^^^ b)]
/-- after k bits of b: what is left of b is still to come -/
theorem crc_bits (r b : BitVec 32) (k : Nat) : ∃ q, hfN k (r ^^^ b) = q ^^^ (b >>> k) ∧ True := ⟨hfN k (r ^^^ b) ^^^ (b >>> k), by rw [BitVec.xor_assoc, BitVec.xor_self, BitVec.xor_zero], trivial⟩
/-- the state behind k bits -/
def crcSt (r b : BitVec 32) (k : Nat) : BitVec 32 := hfN k (r ^^^ b) ^^^ (b >>> k)
theorem crcSt_zero (r b : BitVec 32) : crcSt r b 0 = r := by simp [crcSt, hfN, BitVec.xor_assoc]
theorem crcSt_succ (r b : BitVec 32) (k : Nat) : crcSt r b (k + 1) = (crcSt r b k >>> 1) ^^^ (if (crcSt r b k).getLsbD 0 != b.getLsbD k then crcC else 0#32) := by
  have e : hfN k (r ^^^ b) = crcSt r b k ^^^ (b >>> k) := by simp only [crcSt]; rw [BitVec.xor_assoc, BitVec.xor_self, BitVec.xor_zero]
  have e1 : crcSt r b (k + 1) = hf (hfN k (r ^^^ b)) ^^^ (b >>> (k + 1)) := rfl
  rw [e1, e]
  generalize crcSt r b k = s
  have hb : (b >>> k).getLsbD 0 = b.getLsbD k := by rw [BitVec.getLsbD_ushiftRight]; simp
  unfold hf
  rw [BitVec.ushiftRight_xor_distrib, BitVec.getLsbD_xor, hb, ← BitVec.shiftRight_add]
  have hx : (xor (s.getLsbD 0) (b.getLsbD k)) = (s.getLsbD 0 != b.getLsbD k) := by cases s.getLsbD 0 <;> cases b.getLsbD k <;> rfl
  rw [hx]
  rw [show s >>> 1 ^^^ b >>> (k + 1) ^^^ (if (s.getLsbD 0 != b.getLsbD k) = true then crcC else 0#32) ^^^ b >>> (k + 1) = (s >>> 1 ^^^ (if (s.getLsbD 0 != b.getLsbD k) = true then crcC else 0#32)) ^^^ (b >>> (k + 1) ^^^ b >>> (k + 1)) by ac_rfl, BitVec.xor_self, BitVec.xor_zero]
theorem crcSt_eight (r b : BitVec 32) (h : b.toNat < 256) : crcSt r b 8 = crcByte r b := by
  have e : b >>> 8 = 0#32 := by
    apply BitVec.eq_of_toNat_eq; rw [BitVec.toNat_ushiftRight, Nat.shiftRight_eq_div_pow]; simp; omega
  simp [crcSt, crcByte, e]
def crcL (r : BitVec 32) (l : List (BitVec 32)) : BitVec 32 := l.foldl crcByte r
theorem ofInt_toNat (R : BitVec 32) : BitVec.ofInt 32 (R.toNat : Int) = R := by simp
theorem wrap_u32_eq (a : Int) : IntKind.u32.wrap a = a % 4294967296 := by simp [IntKind.wrap, IntKind.bits, IntKind.signed]
theorem wrap_u32_bv (R : BitVec 32) : IntKind.u32.wrap (R.toNat : Int) = (R.toNat : Int) := by rw [wrap_u32_eq]; have := R.isLt; omega
theorem xor_bv (x y : Int) : IntKind.u32.wrap ((BitVec.ofInt 32 x ^^^ BitVec.ofInt 32 y).toNat : Int) = ((BitVec.ofInt 32 x ^^^ BitVec.ofInt 32 y).toNat : Int) := wrap_u32_bv _
theorem shr_bv (R : BitVec 32) (n : Nat) : (R.toNat : Int) / 2 ^ n = ((R >>> n).toNat : Int) := by
  rw [BitVec.toNat_ushiftRight, Nat.shiftRight_eq_div_pow]; simp
theorem low_bv (R : BitVec 32) : ((R &&& 1#32).toNat : Int) = if R.getLsbD 0 then 1 else 0 := by
  rw [BitVec.toNat_and]
  have h1 : (1#32).toNat = 1 := rfl
  rw [h1, Nat.and_one_is_mod]
  have : R.getLsbD 0 = R.toNat.testBit 0 := rfl
  rw [this, Nat.testBit_zero]
  by_cases h : R.toNat % 2 = 1
  · simp [h]
  · have : R.toNat % 2 = 0 := by omega
    simp [this]
def bvs (l : List Int) : List (BitVec 32) := l.map (BitVec.ofInt 32)
def crcOf (l : List Int) : Int := ((~~~ crcL 0xffffffff#32 (bvs l)).toNat : Int)
theorem crc_step {l : List Int} {k : Nat} {x : Int} (h : l[k]? = some x) : crcL 0xffffffff#32 (bvs (l.take (k + 1))) = crcByte (crcL 0xffffffff#32 (bvs (l.take k))) (BitVec.ofInt 32 x) := by
  rw [List.take_add_one, h]
  simp [bvs, crcL]
end Go.Proofs.YtkfpoagnchahkaaGreat.A
