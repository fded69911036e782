/- Of this session: over the abstract machine. -/
import Derived.Test.YtkfpoagnchahkaaGreatProg
import Derived.Test.YtkfpoagnchahkaaGreatA
import Derived.Test.YtkfpoagnchahkaaGreatB
import Derived.Test.YtkfpoagnchahkaaGreatD
import Derived.Test.YtkfpoagnchahkaaGreatT
import Derived.Test.YtkfpoagnchahkaaGreatO
import Derived.Test.YtkfpoagnchahkaaGreatOT
import Derived.Test.YtkfpoagnchahkaaGreatP1
import Derived.Test.YtkfpoagnchahkaaGreatP2
import Derived.Test.YtkfpoagnchahkaaGreatP3
import Derived.Test.YtkfpoagnchahkaaGreatP4
import Derived.Test.YtkfpoagnchahkaaGreatP5
namespace Go.Proofs.YtkfpoagnchahkaaGreat.A
open Go Go.RowKit
set_option linter.unusedVariables false
set_option linter.unusedSimpArgs false
set_option maxRecDepth 100000
set_option maxHeartbeats 1000000
def okB (bs : List Int) : Prop := ∀ b ∈ bs, 0 ≤ b ∧ b ≤ 255
theorem okB.app {a b : List Int} (ha : okB a) (hb : okB b) : okB (a ++ b) := fun x hx => (List.mem_append.1 hx).elim (ha x) (hb x)
/-! the remainder, bit by bit and by half bytes -/
def crcC : BitVec 32 := 0xedb88320#32
def hf (x : BitVec 32) : BitVec 32 := (x >>> 1) ^^^ (if x.getLsbD 0 then crcC else 0#32)
def hfN : Nat → BitVec 32 → BitVec 32
  | 0, x => x
  | n + 1, x => hf (hfN n x)
theorem hf_xor (a b : BitVec 32) : hf (a ^^^ b) = hf a ^^^ hf b := by
  unfold hf
  rw [BitVec.ushiftRight_xor_distrib, BitVec.getLsbD_xor]
  cases a.getLsbD 0 <;> cases b.getLsbD 0 <;> simp <;> (try ac_rfl)
  · rw [show a >>> 1 ^^^ crcC ^^^ (b >>> 1 ^^^ crcC) = (a >>> 1 ^^^ b >>> 1) ^^^ (crcC ^^^ crcC) by ac_rfl, BitVec.xor_self, BitVec.xor_zero]
theorem hfN_xor (n : Nat) (a b : BitVec 32) : hfN n (a ^^^ b) = hfN n a ^^^ hfN n b := by
  induction n with
  | zero => rfl
  | succ n ih => simp only [hfN]; rw [ih, hf_xor]
theorem hf_even {x : BitVec 32} (h : x.getLsbD 0 = false) : hf x = x >>> 1 := by
  unfold hf; rw [h]; simp
/-- where the n lowest bits are none, n steps shift -/
theorem hfN_low (n : Nat) (x : BitVec 32) (h : ∀ i, i < n → x.getLsbD i = false) : hfN n x = x >>> n := by
  induction n with
  | zero => simp [hfN]
  | succ n ih =>
    simp only [hfN]
    rw [ih (fun i hi => h i (by omega)), hf_even]
    · rw [← BitVec.shiftRight_add]
    · rw [BitVec.getLsbD_ushiftRight]; exact h n (by omega)
theorem hfN_add (m n : Nat) (x : BitVec 32) : hfN (m + n) x = hfN m (hfN n x) := by
  induction m with
  | zero => simp [hfN]
  | succ m ih => rw [Nat.succ_add]; simp only [hfN]; rw [ih]
/-- a half byte: a shift, and what the lowest four bits make -/
theorem hf4_table (x : BitVec 32) : hfN 4 x = (x >>> 4) ^^^ hfN 4 (x &&& 15#32) := by
  have e : x = ((x >>> 4) <<< 4) ^^^ (x &&& 15#32) := by
    apply BitVec.eq_of_getLsbD_eq
    intro i hi
    rw [BitVec.getLsbD_xor, BitVec.getLsbD_shiftLeft, BitVec.getLsbD_ushiftRight, BitVec.getLsbD_and]
    by_cases h : i < 4
    · have : (15#32).getLsbD i = true := by
        rcases (show i = 0 ∨ i = 1 ∨ i = 2 ∨ i = 3 by omega) with rfl | rfl | rfl | rfl <;> rfl
      simp [h, this]
    · have : (15#32).getLsbD i = false := by
        have h2 : (15 : Nat) < 2 ^ i := Nat.lt_of_lt_of_le (by decide : 15 < 2 ^ 4) (Nat.pow_le_pow_right (by decide) (by omega))
        simp [BitVec.getLsbD_ofNat, Nat.testBit_lt_two_pow h2]
      have h3 : 4 + (i - 4) = i := by omega
      rw [this, h3]; simp [h, hi]
  conv => lhs; rw [e]
  rw [hfN_xor]
  congr 1
  rw [hfN_low]
  · apply BitVec.eq_of_getLsbD_eq
    intro i hi
    rw [BitVec.getLsbD_ushiftRight, BitVec.getLsbD_shiftLeft, BitVec.getLsbD_ushiftRight]
    by_cases h : 4 + i < 32
    · have h3 : 4 + (4 + i - 4) = 4 + i := by omega
      simp [h]
    · simp [h, BitVec.getLsbD_of_ge x (4 + i) (by omega)]
  · intro i hi
    rw [BitVec.getLsbD_shiftLeft]; simp [hi]
/-- one byte -/
def crcByte (r : BitVec 32) (b : BitVec 32) : BitVec 32 := hfN 8 (r ^^^ b)
theorem crcByte_halves (r b : BitVec 32) : crcByte r b = (let y := r ^^^ b; let z := (y >>> 4) ^^^ hfN 4 (y &&& 15#32); (z >>> 4) ^^^ hfN 4 (z &&& 15#32)) := by
  simp only [crcByte]
  rw [show (8 : Nat) = 4 + 4 from rfl, hfN_add, hf4_table (hfN 4 _), hf4_table (r ^^^ b)]
/-- after k bits of b: what is left of b is still to come -/
theorem crc_bits (r b : BitVec 32) (k : Nat) : ∃ q, hfN k (r ^^^ b) = q ^^^ (b >>> k) ∧ True := ⟨hfN k (r ^^^ b) ^^^ (b >>> k), by rw [BitVec.xor_assoc, BitVec.xor_self, BitVec.xor_zero], trivial⟩
/-- the state behind k bits -/
def crcSt (r b : BitVec 32) (k : Nat) : BitVec 32 := hfN k (r ^^^ b) ^^^ (b >>> k)
theorem crcSt_zero (r b : BitVec 32) : crcSt r b 0 = r := by simp [crcSt, hfN, BitVec.xor_assoc]
theorem crcSt_succ (r b : BitVec 32) (k : Nat) : crcSt r b (k + 1) = (crcSt r b k >>> 1) ^^^ (if (crcSt r b k).getLsbD 0 != b.getLsbD k then crcC else 0#32) := by
  have e : hfN k (r ^^^ b) = crcSt r b k ^^^ (b >>> k) := by simp only [crcSt]; rw [BitVec.xor_assoc, BitVec.xor_self, BitVec.xor_zero]
  have e1 : crcSt r b (k + 1) = hf (hfN k (r ^^^ b)) ^^^ (b >>> (k + 1)) := rfl
  rw [e1, e]
  generalize crcSt r b k = s
  have hb : (b >>> k).getLsbD 0 = b.getLsbD k := by rw [BitVec.getLsbD_ushiftRight]; simp
  unfold hf
  rw [BitVec.ushiftRight_xor_distrib, BitVec.getLsbD_xor, hb, ← BitVec.shiftRight_add]
  have hx : (xor (s.getLsbD 0) (b.getLsbD k)) = (s.getLsbD 0 != b.getLsbD k) := by cases s.getLsbD 0 <;> cases b.getLsbD k <;> rfl
  rw [hx]
  rw [show s >>> 1 ^^^ b >>> (k + 1) ^^^ (if (s.getLsbD 0 != b.getLsbD k) = true then crcC else 0#32) ^^^ b >>> (k + 1) = (s >>> 1 ^^^ (if (s.getLsbD 0 != b.getLsbD k) = true then crcC else 0#32)) ^^^ (b >>> (k + 1) ^^^ b >>> (k + 1)) by ac_rfl, BitVec.xor_self, BitVec.xor_zero]
theorem crcSt_eight (r b : BitVec 32) (h : b.toNat < 256) : crcSt r b 8 = crcByte r b := by
  have e : b >>> 8 = 0#32 := by
    apply BitVec.eq_of_toNat_eq; rw [BitVec.toNat_ushiftRight, Nat.shiftRight_eq_div_pow]; simp; omega
  simp [crcSt, crcByte, e]
def crcL (r : BitVec 32) (l : List (BitVec 32)) : BitVec 32 := l.foldl crcByte r
theorem ofInt_toNat (R : BitVec 32) : BitVec.ofInt 32 (R.toNat : Int) = R := by simp
theorem wrap_u32_eq (a : Int) : IntKind.u32.wrap a = a % 4294967296 := by simp [IntKind.wrap, IntKind.bits, IntKind.signed]
theorem wrap_u32_bv (R : BitVec 32) : IntKind.u32.wrap (R.toNat : Int) = (R.toNat : Int) := by rw [wrap_u32_eq]; have := R.isLt; omega
theorem xor_bv (x y : Int) : IntKind.u32.wrap ((BitVec.ofInt 32 x ^^^ BitVec.ofInt 32 y).toNat : Int) = ((BitVec.ofInt 32 x ^^^ BitVec.ofInt 32 y).toNat : Int) := wrap_u32_bv _
theorem shr_bv (R : BitVec 32) (n : Nat) : (R.toNat : Int) / 2 ^ n = ((R >>> n).toNat : Int) := by
  rw [BitVec.toNat_ushiftRight, Nat.shiftRight_eq_div_pow]; simp
theorem low_bv (R : BitVec 32) : ((R &&& 1#32).toNat : Int) = if R.getLsbD 0 then 1 else 0 := by
  rw [BitVec.toNat_and]
  have h1 : (1#32).toNat = 1 := rfl
  rw [h1, Nat.and_one_is_mod]
  have : R.getLsbD 0 = R.toNat.testBit 0 := rfl
  rw [this, Nat.testBit_zero]
  by_cases h : R.toNat % 2 = 1
  · simp [h]
  · have : R.toNat % 2 = 0 := by omega
    simp [this]
def bvs (l : List Int) : List (BitVec 32) := l.map (BitVec.ofInt 32)
def crcOf (l : List Int) : Int := ((~~~ crcL 0xffffffff#32 (bvs l)).toNat : Int)
theorem crc_step {l : List Int} {k : Nat} {x : Int} (h : l[k]? = some x) : crcL 0xffffffff#32 (bvs (l.take (k + 1))) = crcByte (crcL 0xffffffff#32 (bvs (l.take k))) (BitVec.ofInt 32 x) := by
  rw [List.take_add_one, h]
  simp [bvs, crcL]
@[simp] theorem natA_u64 (k : Nat) : natA (.v (.int .u64 (k : Int))) = k := by simp [natA]
@[simp] theorem natA_u64s (k : Nat) : natA (.v (.int .u64 ((k : Int) + 1))) = k + 1 := by simp [natA]
theorem unM_xor32 (n : Int) (h : AHeap) (K : KA) : unM .xor (u32 n) h K = K (u32 (xorI .u32 4294967295 n)) h := propext ⟨fun h => h.out, fun h => ⟨h⟩⟩
theorem fdiv_nat (n m : Nat) : ((n : Int)).fdiv (m : Int) = ((n / m : Nat) : Int) := by
  rw [Int.fdiv_eq_ediv_of_nonneg _ (by omega)]; simp
theorem shr_bv' (R : BitVec 32) (n : Nat) : (R.toNat : Int).fdiv (2 ^ n) = ((R >>> n).toNat : Int) := by
  have e : (2 : Int) ^ n = ((2 ^ n : Nat) : Int) := by simp
  rw [e, fdiv_nat, BitVec.toNat_ushiftRight, Nat.shiftRight_eq_div_pow]
theorem xorI_bv (a b : BitVec 32) : xorI .u32 (a.toNat : Int) (b.toNat : Int) = ((a ^^^ b).toNat : Int) := by
  unfold xorI
  rw [show IntKind.u32.bits = 32 from rfl, ofInt_toNat, ofInt_toNat]; exact wrap_u32_bv _
theorem not_bv (R : BitVec 32) : xorI .u32 4294967295 (R.toNat : Int) = ((~~~ R).toNat : Int) := by
  have := xorI_bv (BitVec.allOnes 32) R
  rw [BitVec.allOnes_xor, show ((BitVec.allOnes 32).toNat : Int) = 4294967295 by decide] at this
  exact this
theorem andI_bv (a b : BitVec 32) : andI .u32 (a.toNat : Int) (b.toNat : Int) = ((a &&& b).toNat : Int) := by
  unfold andI
  rw [show IntKind.u32.bits = 32 from rfl, ofInt_toNat, ofInt_toNat]; exact wrap_u32_bv _
theorem andI_low (R : BitVec 32) : andI .u32 (R.toNat : Int) 1 = if R.getLsbD 0 then 1 else 0 := by
  have := andI_bv R 1#32
  rw [show ((1#32).toNat : Int) = 1 from rfl] at this
  rw [this]; exact low_bv R
theorem xorI_C (R : BitVec 32) : xorI .u32 (R.toNat : Int) 3988292384 = ((R ^^^ crcC).toNat : Int) := xorI_bv R crcC
theorem byte_bv {x : Int} (h0 : 0 ≤ x ∧ x ≤ 255) : (BitVec.ofInt 32 x).toNat = x.toNat := by
  obtain ⟨n, rfl⟩ := Int.eq_ofNat_of_zero_le h0.1
  rw [BitVec.ofInt_natCast, BitVec.toNat_ofNat]; simp; omega
theorem bit_of {x : Int} (h0 : 0 ≤ x ∧ x ≤ 255) (j : Nat) : IntKind.u32.wrap (x.fdiv (2 ^ j)) = ((BitVec.ofInt 32 x >>> j).toNat : Int) := by
  rw [← shr_bv', byte_bv h0, Int.toNat_of_nonneg h0.1]
  obtain ⟨n, rfl⟩ := Int.eq_ofNat_of_zero_le h0.1
  have e : (2 : Int) ^ j = ((2 ^ j : Nat) : Int) := by simp
  rw [e, fdiv_nat, wrap_u32_eq]
  have hd : n / 2 ^ j ≤ n := Nat.div_le_self _ _
  generalize n / 2 ^ j = q at *
  omega
theorem wu64 {n : Int} (h0 : 0 ≤ n) (h1 : n < 18446744073709551616) : IntKind.u64.wrap n = n := by
  simp [IntKind.wrap, IntKind.bits, IntKind.signed]; omega
theorem S_specCrc {bs : List Int} {h : AHeap} {Q : KA} (hl : bs.length ≤ 1099511627776) (hw : okB bs) (hq : Q (u32 (crcOf bs)) h) : @clM Tryz.prog 37 [encL u8 bs] h ⟨Q⟩ := by
  refine cl_of fn_spec_Crc (D_spec_Crc_of ?_)
  unfold D_spec_Crc
  refine lp_inv (fun s h' => h = h' ∧ ∃ i : Nat, i ≤ bs.length ∧ s = [u32 ((crcL 0xffffffff#32 (bvs (bs.take i))).toNat : Int), i64 i, encL u8 bs]) (fun s _ => bs.length - natA (nthA s 1)) (Wk.refl ⟨rfl, 0, by omega, rfl⟩) ?_
  rintro _ _ ⟨rfl, i, hi, rfl⟩
  simp [↓go]
  refine ⟨fun hlt => ?_, fun hge => ?_⟩
  · obtain ⟨x, hx⟩ : ∃ x, bs[i]? = some x := ⟨_, List.getElem?_eq_getElem hlt⟩
    obtain ⟨_, hxl⟩ := List.getElem?_eq_some_iff.1 hx
    have hb := hw x (List.mem_of_getElem? hx)
    have hstep := crc_step hx
    generalize crcL 0xffffffff#32 (bvs (bs.take i)) = R at *
    refine lp_inv (fun s h' => h = h' ∧ ∃ k : Nat, k ≤ 8 ∧ s = [u32 ((crcSt R (BitVec.ofInt 32 x) k).toNat : Int), encL u8 bs, i64 i, u64 k]) (fun s _ => 8 - natA (nthA s 3)) (Wk.refl ⟨rfl, 0, by omega, by rw [crcSt_zero]; rfl⟩) ?_
    rintro _ _ ⟨rfl, k, hk, rfl⟩
    simp [↓go]
    refine ⟨fun hk8 => ?_, fun hk8 => ?_⟩
    · refine jn_cut (fun s h' => h = h' ∧ s = [u32 ((crcSt R (BitVec.ofInt 32 x) (k + 1)).toNat : Int), encL u8 bs, i64 i, u64 k]) ?_ ?_
      · simp [↓go, hx, hxl, hlt]
        have hm : min k IntKind.u8.bits = k := by simp [IntKind.bits]; omega
        have hm1 : min 1 IntKind.u32.bits = 1 := rfl
        rw [hm, hm1, bit_of hb, andI_low, andI_low, shr_bv', xorI_C]
        have hs := crcSt_succ R (BitVec.ofInt 32 x) k
        have hg : (BitVec.ofInt 32 x >>> k).getLsbD 0 = (BitVec.ofInt 32 x).getLsbD k := by rw [BitVec.getLsbD_ushiftRight]; simp
        rw [hg]
        generalize crcSt R (BitVec.ofInt 32 x) k = T at *
        refine ⟨fun hne => wk_ex ⟨rfl, ?_⟩, fun he => wk_ex ⟨rfl, ?_⟩⟩
        · have hd : (T.getLsbD 0 != (BitVec.ofInt 32 x).getLsbD k) = true := by
            cases h1 : T.getLsbD 0 <;> cases h2 : (BitVec.ofInt 32 x).getLsbD k <;> rw [h1, h2] at hne <;> simp at hne ⊢
          rw [hs, hd, if_pos rfl]
        · have hd : (T.getLsbD 0 != (BitVec.ofInt 32 x).getLsbD k) = false := by
            cases h1 : T.getLsbD 0 <;> cases h2 : (BitVec.ofInt 32 x).getLsbD k <;> rw [h1, h2] at he <;> simp at he ⊢
          rw [hs, hd, if_neg (by simp), BitVec.xor_zero]
      · rintro _ _ ⟨rfl, rfl⟩
        simp [↓go]
        rw [wu64 (by omega) (by omega)]
        exact wk_ex ⟨⟨rfl, k + 1, by omega, rfl⟩, by simp; omega⟩
    · obtain rfl : k = 8 := by omega
      rw [crcSt_eight _ _ (by rw [byte_bv hb]; omega), ← hstep]
      rw [w64 (by omega) (by omega)]
      exact wk_ex ⟨⟨rfl, i + 1, by omega, rfl⟩, by simp; omega⟩
  · obtain rfl : i = bs.length := by omega
    rw [List.take_length, unM_xor32, not_bv]
    exact retW_ex hq
def tabV (k : Nat) : List AVal := (List.range 16).map fun i => u32 (if i < k then ((hfN 4 (BitVec.ofNat 32 i)).toNat : Int) else 0)
theorem tabV_len (k : Nat) : (tabV k).length = 16 := by simp [tabV]
theorem tabV_get (k i : Nat) (h : i < 16) : (tabV k)[i]? = some (u32 (if i < k then ((hfN 4 (BitVec.ofNat 32 i)).toNat : Int) else 0)) := by simp [tabV, h]
theorem tabV_set {k : Nat} (h : k < 16) : (tabV k).take k ++ (u32 ((hfN 4 (BitVec.ofNat 32 k)).toNat : Int) :: (tabV k).drop (k + 1)) = tabV (k + 1) := by
  have e := List.set_eq_take_append_cons_drop (i := k) (l := tabV k) (a := u32 ((hfN 4 (BitVec.ofNat 32 k)).toNat : Int))
  rw [if_pos (by rw [tabV_len]; exact h)] at e
  rw [← e]
  apply List.ext_getElem?
  intro i
  rw [List.getElem?_set, tabV_len]
  by_cases hi : i < 16
  · rw [tabV_get k i hi, tabV_get (k + 1) i hi]
    by_cases e : k = i
    · subst e; simp [h]
    · by_cases h2 : i < k
      · simp [e, h2, show i < k + 1 by omega]
      · simp [e, h2, show ¬ i < k + 1 by omega]
  · have h1 : (tabV k)[i]? = none := by rw [List.getElem?_eq_none_iff, tabV_len]; omega
    have h2 : (tabV (k + 1))[i]? = none := by rw [List.getElem?_eq_none_iff, tabV_len]; omega
    rw [h1, h2]
    by_cases e : k = i
    · omega
    · simp [e]
theorem tabV_c1 (k : Nat) : ∀ x ∈ tabV k, x.c1 = true := fun x hx => by
  obtain ⟨i, _, rfl⟩ := List.mem_map.1 hx
  rfl
theorem half_look (Y : BitVec 32) : ∃ i : Nat, i < 16 ∧ andI .u32 (Y.toNat : Int) 15 = (i : Int) ∧ (tabV 16)[i]? = some (u32 ((hfN 4 (Y &&& 15#32)).toNat : Int)) := by
  have h15 : (Y &&& 15#32).toNat < 16 := by
    rw [BitVec.toNat_and]
    exact Nat.lt_of_le_of_lt Nat.and_le_right (by decide)
  have ha := andI_bv Y 15#32
  rw [show ((15#32).toNat : Int) = 15 from rfl] at ha
  refine ⟨(Y &&& 15#32).toNat, h15, ha, ?_⟩
  rw [tabV_get 16 _ h15, if_pos h15]
  simp
theorem S_halves {h : AHeap} {Q : KA} (hq : Q (.agg (tabV 16)) h) : @clM Tryz.prog 94 [] h ⟨Q⟩ := by
  refine cl_wk ?_
  refine cl_of fn_impl_halves (D_impl_halves_of ?_)
  unfold D_impl_halves
  simp [↓go]
  intro g1 g2
  refine lp_inv (fun s h' => ∃ k : Nat, k ≤ 16 ∧ h' = h ++ [.row g1 16 [.agg (tabV 0)], .row g2 16 [.agg (tabV k)]] ∧ s = [.pt h.length g1 0 0, .pt (h.length + 1) g2 0 0, i64 k]) (fun s _ => 16 - natA (nthA s 2)) (Wk.refl ⟨0, by omega, rfl, rfl⟩) ?_
  rintro _ _ ⟨k, hk, rfl, rfl⟩
  simp [↓go]
  refine ⟨fun hlt => ?_, fun hge => ?_⟩
  · refine lp_inv (fun s h' => h' = h ++ [.row g1 16 [.agg (tabV 0)], .row g2 16 [.agg (tabV k)]] ∧ ∃ m : Nat, m ≤ 4 ∧ s = [.pt h.length g1 0 0, .pt (h.length + 1) g2 0 0, i64 k, u32 ((hfN m (BitVec.ofNat 32 k)).toNat : Int), i64 k, i64 m]) (fun s _ => 4 - natA (nthA s 5)) (Wk.refl ⟨rfl, 0, by omega, ?_⟩) ?_
    · have e : ((BitVec.ofNat 32 k).toNat : Int) = IntKind.u32.wrap (k : Int) := by rw [wrap_u32_eq]; simp
      simp only [hfN]; rw [e]; rfl
    rintro _ _ ⟨rfl, m, hm, rfl⟩
    simp [↓go]
    refine ⟨fun hm4 => ?_, fun hm4 => ?_⟩
    · refine jn_cut (fun s h' => h' = h ++ [.row g1 16 [.agg (tabV 0)], .row g2 16 [.agg (tabV k)]] ∧ s = [.pt h.length g1 0 0, .pt (h.length + 1) g2 0 0, i64 k, u32 ((hfN (m + 1) (BitVec.ofNat 32 k)).toNat : Int), i64 k, i64 m]) ?_ ?_
      · simp [↓go]
        have hm1 : min 1 IntKind.u32.bits = 1 := rfl
        rw [hm1, andI_low, shr_bv', xorI_C]
        have hs : hfN (m + 1) (BitVec.ofNat 32 k) = hf (hfN m (BitVec.ofNat 32 k)) := rfl
        generalize hfN m (BitVec.ofNat 32 k) = T at *
        unfold hf at hs
        refine ⟨fun hne => wk_ex ⟨rfl, ?_⟩, fun he => wk_ex ⟨rfl, ?_⟩⟩
        · have hd : T.getLsbD 0 = true := by
            cases h1 : T.getLsbD 0 <;> rw [h1] at hne <;> simp at hne ⊢
          rw [hs, hd, if_pos rfl]
        · have hd : T.getLsbD 0 = false := by
            cases h1 : T.getLsbD 0 <;> rw [h1] at he <;> simp at he ⊢
          rw [hs, hd, if_neg (by simp), BitVec.xor_zero]
      · rintro _ _ ⟨rfl, rfl⟩
        simp [↓go]
        rw [w64 (by omega) (by omega)]
        exact wk_ex ⟨⟨rfl, m + 1, by omega, rfl⟩, by simp; omega⟩
    · obtain rfl : m = 4 := by omega
      rw [tabV_set (by omega), w64 (by omega) (by omega)]
      exact ⟨hlt, by omega, wk_ex ⟨⟨k + 1, by omega, rfl, rfl⟩, by simp; omega⟩⟩
  · obtain rfl : k = 16 := by omega
    have ht : (tabV 16).take 16 = tabV 16 := List.take_of_length_le (by rw [tabV_len]; omega)
    have hd : (tabV 0).drop 16 = [] := List.drop_eq_nil_of_le (by rw [tabV_len]; omega)
    simp [↓go, tabV_len, ht, hd]
    refine ⟨fun x hx => ?_, retW_ex (Wk.drop (Wk.refl hq))⟩
    obtain ⟨i, _, rfl⟩ := List.mem_map.1 hx
    rfl
theorem S_implCrc {bs : List Int} {h : AHeap} {Q : KA} (hl : bs.length ≤ 1099511627776) (hw : okB bs) (hq : Q (u32 (crcOf bs)) h) : @clM Tryz.prog 45 [encL u8 bs] h ⟨Q⟩ := by
  refine cl_wk ?_
  refine cl_of fn_impl_Crc (D_impl_Crc_of ?_)
  unfold D_impl_Crc
  refine S_halves ?_
  simp [↓go, tabV_len]
  intro g
  refine ⟨tabV_c1 16, ?_⟩
  refine lp_inv (fun s h' => h' = h ++ [.row g 16 [.agg (tabV 16)]] ∧ ∃ i : Nat, i ≤ bs.length ∧ s = [u32 ((crcL 0xffffffff#32 (bvs (bs.take i))).toNat : Int), i64 i, .pt h.length g 0 0, encL u8 bs, i64 bs.length]) (fun s _ => bs.length - natA (nthA s 1)) (Wk.refl ⟨rfl, 0, by omega, rfl⟩) ?_
  rintro _ _ ⟨rfl, i, hi, rfl⟩
  simp [↓go]
  refine ⟨fun hlt => ?_, fun hge => ?_⟩
  · obtain ⟨x, hx⟩ : ∃ x, bs[i]? = some x := ⟨_, List.getElem?_eq_getElem hlt⟩
    obtain ⟨_, hxl⟩ := List.getElem?_eq_some_iff.1 hx
    have hb := hw x (List.mem_of_getElem? hx)
    have hstep := crc_step hx
    generalize crcL 0xffffffff#32 (bvs (bs.take i)) = R at *
    have hwx : IntKind.u32.wrap x = ((BitVec.ofInt 32 x).toNat : Int) := by rw [byte_bv hb, wrap_u32_eq]; omega
    have hm4 : min 4 IntKind.u32.bits = 4 := rfl
    obtain ⟨j, hj, e1, e2⟩ := half_look (R ^^^ BitVec.ofInt 32 x)
    obtain ⟨j2, hj2, e3, e4⟩ := half_look ((R ^^^ BitVec.ofInt 32 x) >>> 4 ^^^ hfN 4 ((R ^^^ BitVec.ofInt 32 x) &&& 15#32))
    have hh := crcByte_halves R (BitVec.ofInt 32 x)
    simp [↓go, hx, hxl, hlt]
    rw [hwx, xorI_bv, e1, hm4, shr_bv']
    rw [show ((j : Int)).toNat = j from rfl, e2, tabV_len]
    refine ⟨by omega, by omega, by omega, ?_⟩
    simp only [Option.getD_some]
    simp only at hh
    rw [hh] at hstep
    clear hh e1 e2 hwx
    generalize R ^^^ BitVec.ofInt 32 x = Y at *
    generalize hfN 4 (Y &&& 15#32) = T at *
    generalize Y >>> 4 = Y4 at *
    simp [↓go]
    rw [xorI_bv, e3, hm4, shr_bv']
    rw [show ((j2 : Int)).toNat = j2 from rfl, e4, tabV_len]
    refine ⟨by omega, by omega, by omega, ?_⟩
    simp only [Option.getD_some]
    clear e3 e4
    generalize Y4 ^^^ T = Z at *
    generalize hfN 4 (Z &&& 15#32) = U at *
    generalize Z >>> 4 = Z4 at *
    simp [↓go]
    rw [xorI_bv, w64 (by omega) (by omega), ← hstep]
    exact wk_ex ⟨⟨rfl, i + 1, by omega, rfl⟩, by simp; omega⟩
  · obtain rfl : i = bs.length := by omega
    rw [List.take_length, unM_xor32, not_bv]
    exact retW_ex (Wk.drop (Wk.refl hq))
/-! ### reading numbers, and a program, off bytes -/
def leNum : List Int → Int
  | [] => 0
  | b :: l => b + 256 * leNum l
def gtN (n : Nat) (r : List Int) : Option (Int × List Int) := if n ≤ r.length then some (IntKind.i64.wrap (leNum (r.take n)), r.drop n) else none
def gtMany {α : Type} (f : List Int → Option (α × List Int)) : Nat → List Int → Option (List α × List Int)
  | 0, r => some ([], r)
  | k + 1, r => match f r with
    | none => none
    | some (v, r') => match gtMany f k r' with
      | none => none
      | some (vs, r'') => some (v :: vs, r'')
def gtInstr (r : List Int) : Option (MInstr × List Int) :=
  (gtN 1 r).bind fun a => (gtN 1 a.2).bind fun b => (gtN 2 b.2).bind fun c => (gtN 4 c.2).bind fun d => some (⟨a.1, b.1, c.1, d.1⟩, d.2)
def gtTypes (n : Nat) (r : List Int) : Option (List Int × List Int) := (gtN n r).bind fun a => gtMany (gtN 1) a.1.toNat a.2
def gtFunc (r : List Int) : Option (MFunc × List Int) :=
  (gtTypes 1 r).bind fun a => (gtN 1 a.2).bind fun b => (gtTypes 1 b.2).bind fun c => (gtN 2 c.2).bind fun d => (gtMany gtInstr d.1.toNat d.2).bind fun e => some (⟨a.1, b.1, c.1, e.1⟩, e.2)
def gtConst (r : List Int) : Option (MConst × List Int) := (gtN 1 r).bind fun a => (gtN 4 a.2).bind fun b => some (⟨a.1, IntKind.u32.wrap b.1⟩, b.2)
def gtCert (r : List Int) : Option (MCert × List Int) :=
  (gtN 2 r).bind fun a => (gtN 2 a.2).bind fun b => (gtN 1 b.2).bind fun c => (gtN 4 c.2).bind fun d => some (⟨a.1, b.1, c.1, IntKind.u32.wrap d.1⟩, d.2)
def gtCount {α : Type} (f : List Int → Option (α × List Int)) (r : List Int) : Option (List α × List Int) := (gtN 2 r).bind fun k => gtMany f k.1.toNat k.2
def gtProg (r : List Int) : Option (MProgram × List Int) :=
  (gtMany (gtTypes 2) 3 r).bind fun a => (gtCount gtConst a.2).bind fun b => (gtCount gtFunc b.2).bind fun c => (gtCount gtCert c.2).bind fun d => some (⟨a.1, b.1, c.1, d.1⟩, d.2)
/-! what is read is no longer than what it is read off -/
theorem gtN_le {n : Nat} {r r' : List Int} {v : Int} (h : gtN n r = some (v, r')) : r'.length + n = r.length := by
  unfold gtN at h
  split at h
  · cases h; simp; omega
  · cases h
theorem gtMany_le {α : Type} {f : List Int → Option (α × List Int)} {g : α → Nat} (hf : ∀ {r r' : List Int} {v : α}, f r = some (v, r') → 1 + g v + r'.length ≤ r.length) :
    ∀ {k : Nat} {r r' : List Int} {vs : List α}, gtMany f k r = some (vs, r') → szL g vs + r'.length ≤ r.length ∧ vs.length = k
  | 0, r, r', vs, h => by cases h; simp [szL]
  | k + 1, r, r', vs, h => by
    unfold gtMany at h
    split at h
    · cases h
    · rename_i v r1 h1
      split at h
      · cases h
      · rename_i ws r2 h2
        cases h
        have a := hf h1
        obtain ⟨b, c⟩ := gtMany_le hf h2
        refine ⟨?_, by simp [c]⟩
        have e : szL g (v :: ws) = 1 + g v + szL g ws := by simp [szL]; omega
        omega
theorem gtN1_le {r r' : List Int} {v : Int} (h : gtN 1 r = some (v, r')) : 1 + (fun _ : Int => 0) v + r'.length ≤ r.length := by have := gtN_le h; simp; omega
theorem gtTypes_le {n : Nat} {r r' : List Int} {vs : List Int} (hn : 1 ≤ n) (h : gtTypes n r = some (vs, r')) : 1 + szL (fun _ => 0) vs + r'.length ≤ r.length := by
  unfold gtTypes at h
  obtain ⟨⟨a, r1⟩, h1, h⟩ := Option.bind_eq_some_iff.1 h
  have e1 := gtN_le h1
  obtain ⟨e2, _⟩ := gtMany_le gtN1_le h
  simp only at *; omega
theorem gtInstr_le {r r' : List Int} {v : MInstr} (h : gtInstr r = some (v, r')) : 1 + (fun _ : MInstr => 0) v + r'.length ≤ r.length := by
  unfold gtInstr at h
  obtain ⟨⟨a, r1⟩, h1, h⟩ := Option.bind_eq_some_iff.1 h
  obtain ⟨⟨b, r2⟩, h2, h⟩ := Option.bind_eq_some_iff.1 h
  obtain ⟨⟨c, r3⟩, h3, h⟩ := Option.bind_eq_some_iff.1 h
  obtain ⟨⟨d, r4⟩, h4, h⟩ := Option.bind_eq_some_iff.1 h
  cases h
  have e1 := gtN_le h1
  have e2 := gtN_le h2
  have e3 := gtN_le h3
  have e4 := gtN_le h4
  simp only at *; omega
theorem gtConst_le {r r' : List Int} {v : MConst} (h : gtConst r = some (v, r')) : 1 + (fun _ : MConst => 0) v + r'.length ≤ r.length := by
  unfold gtConst at h
  obtain ⟨⟨a, r1⟩, h1, h⟩ := Option.bind_eq_some_iff.1 h
  obtain ⟨⟨b, r2⟩, h2, h⟩ := Option.bind_eq_some_iff.1 h
  cases h
  have e1 := gtN_le h1
  have e2 := gtN_le h2
  simp only at *; omega
theorem gtCert_le {r r' : List Int} {v : MCert} (h : gtCert r = some (v, r')) : 1 + (fun _ : MCert => 0) v + r'.length ≤ r.length := by
  unfold gtCert at h
  obtain ⟨⟨a, r1⟩, h1, h⟩ := Option.bind_eq_some_iff.1 h
  obtain ⟨⟨b, r2⟩, h2, h⟩ := Option.bind_eq_some_iff.1 h
  obtain ⟨⟨c, r3⟩, h3, h⟩ := Option.bind_eq_some_iff.1 h
  obtain ⟨⟨d, r4⟩, h4, h⟩ := Option.bind_eq_some_iff.1 h
  cases h
  have e1 := gtN_le h1
  have e2 := gtN_le h2
  have e3 := gtN_le h3
  have e4 := gtN_le h4
  simp only at *; omega
theorem gtFunc_le {r r' : List Int} {v : MFunc} (h : gtFunc r = some (v, r')) : 1 + szFunc v + r'.length ≤ r.length := by
  unfold gtFunc at h
  obtain ⟨⟨a, r1⟩, h1, h⟩ := Option.bind_eq_some_iff.1 h
  obtain ⟨⟨b, r2⟩, h2, h⟩ := Option.bind_eq_some_iff.1 h
  obtain ⟨⟨c, r3⟩, h3, h⟩ := Option.bind_eq_some_iff.1 h
  obtain ⟨⟨d, r4⟩, h4, h⟩ := Option.bind_eq_some_iff.1 h
  obtain ⟨⟨e, r5⟩, h5, h⟩ := Option.bind_eq_some_iff.1 h
  cases h
  have e1 := gtTypes_le (by omega) h1
  have e2 := gtN_le h2
  have e3 := gtTypes_le (by omega) h3
  have e4 := gtN_le h4
  have e5 := (gtMany_le gtInstr_le h5).1
  unfold szFunc
  simp only at *; omega
theorem gtCount_le {α : Type} {f : List Int → Option (α × List Int)} {g : α → Nat} (hf : ∀ {r r' : List Int} {v : α}, f r = some (v, r') → 1 + g v + r'.length ≤ r.length) {r r' : List Int} {vs : List α} (h : gtCount f r = some (vs, r')) : szL g vs + r'.length ≤ r.length := by
  unfold gtCount at h
  obtain ⟨⟨a, r1⟩, h1, h⟩ := Option.bind_eq_some_iff.1 h
  have e1 := gtN_le h1
  have e2 := (gtMany_le hf h).1
  simp only at *; omega
theorem gtProg_le {r r' : List Int} {p : MProgram} (h : gtProg r = some (p, r')) : szProgram p + r'.length ≤ r.length := by
  unfold gtProg at h
  obtain ⟨⟨a, r1⟩, h1, h⟩ := Option.bind_eq_some_iff.1 h
  obtain ⟨⟨b, r2⟩, h2, h⟩ := Option.bind_eq_some_iff.1 h
  obtain ⟨⟨c, r3⟩, h3, h⟩ := Option.bind_eq_some_iff.1 h
  obtain ⟨⟨d, r4⟩, h4, h⟩ := Option.bind_eq_some_iff.1 h
  cases h
  have e1 := (gtMany_le (g := szL (fun _ => 0)) (gtTypes_le (by omega)) h1).1
  have e2 := gtCount_le gtConst_le h2
  have e3 := gtCount_le gtFunc_le h3
  have e4 := gtCount_le gtCert_le h4
  unfold szProgram
  simp only at *; omega
/-- a loop that reads: what is read so far, and what is left -/
theorem gtMany_step {α : Type} {f : List Int → Option (α × List Int)} {k : Nat} {r r' : List Int} {v : α} (h : f r = some (v, r')) : gtMany f (k + 1) r = (gtMany f k r').map (fun x => (v :: x.1, x.2)) := by
  conv => lhs; unfold gtMany
  rw [h]
  simp only
  cases h2 : gtMany f k r' with
  | none => rfl
  | some x => obtain ⟨vs, r2⟩ := x; rfl
theorem gtMany_none {α : Type} {f : List Int → Option (α × List Int)} {k : Nat} {r : List Int} (h : f r = none) : gtMany f (k + 1) r = none := by
  unfold gtMany; rw [h]
/-- acc is read, k are to come off r: together tot -/
def GtI {α : Type} (f : List Int → Option (α × List Int)) (tot : Option (List α × List Int)) (acc : List α) (k : Nat) (r : List Int) : Prop := tot = (gtMany f k r).map (fun x => (acc ++ x.1, x.2))
theorem GtI.start {α : Type} {f : List Int → Option (α × List Int)} {k : Nat} {r : List Int} : GtI f (gtMany f k r) [] k r := by
  unfold GtI
  cases gtMany f k r with
  | none => rfl
  | some x => rfl
theorem GtI.step {α : Type} {f : List Int → Option (α × List Int)} {tot : Option (List α × List Int)} {acc : List α} {k : Nat} {r r' : List Int} {v : α} (h : GtI f tot acc (k + 1) r) (hv : f r = some (v, r')) : GtI f tot (acc ++ [v]) k r' := by
  unfold GtI at *
  rw [h, gtMany_step hv, Option.map_map]
  congr 1
  funext x
  simp
theorem GtI.bad {α : Type} {f : List Int → Option (α × List Int)} {tot : Option (List α × List Int)} {acc : List α} {k : Nat} {r : List Int} (h : GtI f tot acc (k + 1) r) (hv : f r = none) : tot = none := by
  unfold GtI at h
  rw [h, gtMany_none hv]; rfl
theorem GtI.fin {α : Type} {f : List Int → Option (α × List Int)} {tot : Option (List α × List Int)} {acc : List α} {r : List Int} (h : GtI f tot acc 0 r) : tot = some (acc, r) := by
  unfold GtI at h
  rw [h]; simp [gtMany]
end Go.Proofs.YtkfpoagnchahkaaGreat.A
