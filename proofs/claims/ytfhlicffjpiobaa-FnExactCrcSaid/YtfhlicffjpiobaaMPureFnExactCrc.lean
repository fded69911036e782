/- Proved: the pure statement of the law FnExactCrc (over numbers and lists); no condition beside those of the statement. -/
import Derived.Test.YtfhlicffjpiobaaGvCrc
import Derived.Test.YtfhlicffjpiobaaM1
namespace Go.Proofs.Ytfhlicffjpiobaa.Pure
open Go.RowKit Go.Proofs.Ytfhlicffjpiobaa.M Go.Proofs.YtfhlicffjpiobaaW.PrintWords Go.Proofs.YtfhlicffjpiobaaW.PrintLast
-- BODY
set_option linter.unusedVariables false
set_option linter.unusedSimpArgs false
theorem wf_i64 {a : Int} (h : (Lit.int .i64 a).wf = true) : -9223372036854775808 ≤ a ∧ a ≤ 9223372036854775807 := by
  simpa [Lit.wf, IntKind.min, IntKind.max, IntKind.signed, IntKind.bits] using h
theorem wf_u32 {a : Int} (h : (Lit.int .u32 a).wf = true) : 0 ≤ a ∧ a ≤ 4294967295 := by
  simpa [Lit.wf, IntKind.min, IntKind.max, IntKind.signed, IntKind.bits] using h
theorem wf_u8 {a : Int} (h : (Lit.int .u8 a).wf = true) : 0 ≤ a ∧ a ≤ 255 := by
  simpa [Lit.wf, IntKind.min, IntKind.max, IntKind.signed, IntKind.bits] using h
theorem w64 {a : Int} (h0 : -9223372036854775808 ≤ a) (h1 : a ≤ 9223372036854775807) : wrap64 a = a := by unfold wrap64; omega
theorem wrap_u64_eq (a : Int) : IntKind.u64.wrap a = a % 18446744073709551616 := by simp [IntKind.wrap, IntKind.bits, IntKind.signed]
theorem wu64 {a : Int} (h0 : 0 ≤ a) (h1 : a ≤ 18446744073709551615) : IntKind.u64.wrap a = a := by rw [wrap_u64_eq]; omega
theorem wraps_u64 (n : Int) (h0 : 0 ≤ n) (h1 : n < 2 ^ 64) : IntKind.u64.wrap n = n := wu64 h0 (by omega)
theorem bits_or_comm (k : IntKind) (x y : Int) : Go.bits .or k x y = Go.bits .or k y x := by
  simp only [Go.bits]; rw [BitVec.or_comm]
theorem rd_mem {l : List Int} {P : Int → Prop} (h : ∀ x ∈ l, P x) (i : Int) (h1 : i.toNat < l.length) : P (rd l i) := by
  unfold rd; rw [List.getD_eq_getElem?_getD, List.getElem?_eq_getElem h1]; exact h _ (List.getElem_mem h1)
theorem toB_l0 (l : List Int) (hn : l.length ≤ 140737488351232) (d : Nat) : ∀ (k i : Nat) (o : List Int), i + d = l.length → o.length = l.length → o.take i = l.take i → d < k → laws_toByteS.l0 k l o (i : Int) = some l := by
  induction d with
  | zero =>
    intro k i o hi ho ht hk
    obtain ⟨k, rfl⟩ : ∃ m, k = m + 1 := ⟨k - 1, by omega⟩
    simp only [laws_toByteS.l0]; rw [if_neg (by omega)]
    rw [List.take_of_length_le (by omega), List.take_of_length_le (by omega)] at ht
    rw [ht]
  | succ d ih =>
    intro k i o hi ho ht hk
    obtain ⟨k, rfl⟩ : ∃ m, k = m + 1 := ⟨k - 1, by omega⟩
    simp only [laws_toByteS.l0]; rw [if_pos (by omega), if_pos (by omega), if_pos (by omega)]
    rw [w64 (by omega) (by omega)]
    refine ih k (i + 1) _ (by omega) (by simpa using ho) ?_ (by omega)
    simp only [Int.toNat_natCast, rd]
    rw [List.take_succ_eq_append_getElem (by simp; omega), List.take_succ_eq_append_getElem (by omega)]
    rw [List.take_set_of_le (by omega), ht]
    simp [List.getD_eq_getElem?_getD, List.getElem?_eq_getElem (show i < l.length by omega)]
theorem toB_f (l : List Int) (hn : l.length ≤ 140737488351232) (k : Nat) (hk : l.length < k) : laws_toByteS.f k l = some l := by
  unfold laws_toByteS.f
  rw [if_pos (by omega), if_pos (by omega)]
  exact toB_l0 l hn l.length k 0 _ (by omega) (by simp) (by simp) hk
theorem eqB_l0 (l : List Int) (hn : l.length ≤ 140737488351232) (d : Nat) : ∀ (k i : Nat), i + d = l.length → d < k → laws_eqByteS.l0 k l l (i : Int) = some true := by
  induction d with
  | zero =>
    intro k i hi hk
    obtain ⟨k, rfl⟩ : ∃ m, k = m + 1 := ⟨k - 1, by omega⟩
    simp only [laws_eqByteS.l0]; rw [if_neg (by omega)]
  | succ d ih =>
    intro k i hi hk
    obtain ⟨k, rfl⟩ : ∃ m, k = m + 1 := ⟨k - 1, by omega⟩
    simp only [laws_eqByteS.l0]; rw [if_pos (by omega), if_pos (by omega), if_pos (by omega)]
    rw [w64 (by omega) (by omega)]
    exact ih k (i + 1) (by omega) (by omega)
theorem eqB_f (l : List Int) (hn : l.length ≤ 140737488351232) (k : Nat) (hk : l.length < k) : laws_eqByteS.f k l l = some true := by
  unfold laws_eqByteS.f
  rw [if_pos rfl]
  exact eqB_l0 l hn l.length k 0 (by omega) hk
theorem bit_of (x : Int) (h0 : 0 ≤ x) (h1 : x ≤ 255) (j : Nat) (hj : j ≤ 8) : (shr .u8 x (j : Int)) % 4294967296 = ((BitVec.ofInt 32 x >>> j).toNat : Int) := by
  obtain ⟨n, rfl⟩ := Int.eq_ofNat_of_zero_le h0
  have hn : n < 256 := by omega
  unfold shr
  have hm : min (j : Int).toNat IntKind.u8.bits = j := by simp [IntKind.bits]; omega
  rw [hm, BitVec.ofInt_natCast, BitVec.toNat_ushiftRight, Nat.shiftRight_eq_div_pow, BitVec.toNat_ofNat, Nat.mod_eq_of_lt (by omega)]
  have hd : n / 2 ^ j ≤ n := Nat.div_le_self _ _
  have e : ((n : Int) / 2 ^ j) = ((n / 2 ^ j : Nat) : Int) := by simp
  rw [e]
  clear e hm h0 h1
  generalize n / 2 ^ j = q at *
  omega
theorem low_one (R : BitVec 32) : Go.bits .and .u32 (R.toNat : Int) 1 = if R.getLsbD 0 then 1 else 0 := by
  rw [bits_and_bv, ofInt_toNat]; exact low_bv R
theorem spec_crc_l1 (l : List Int) (hn : l.length ≤ 140737488351232) (hw : ∀ x ∈ l, (Lit.int .u8 x).wf = true) (i : Nat) (hi : i < l.length) (R : BitVec 32) (k d : Nat) :
    ∀ j, j + d = 8 → spec_Crc.l1 (k + d + 1) l ((crcSt R (BitVec.ofInt 32 (rd l i)) j).toNat : Int) i j = spec_Crc.l0 k l ((crcSt R (BitVec.ofInt 32 (rd l i)) 8).toNat : Int) ((i + 1 : Nat) : Int) := by
  induction d with
  | zero =>
    intro j hj
    obtain rfl : j = 8 := by omega
    simp only [Nat.add_zero, spec_Crc.l1]
    rw [if_neg (by omega), w64 (by omega) (by omega)]
    rfl
  | succ d ih =>
    intro j hj
    have hb := wf_u8 (rd_mem hw (i : Int) (by simpa using hi))
    obtain ⟨K, hK⟩ : ∃ K, K = k + d + 1 := ⟨_, rfl⟩
    rw [show k + (d + 1) + 1 = K + 1 by omega]
    simp only [spec_Crc.l1]
    rw [if_pos (by omega), if_pos (by omega), if_pos (by omega), if_pos (by omega), bit_of _ hb.1 hb.2 j (by omega), low_one, low_one]
    rw [wu64 (by omega) (by omega)]
    have hs := crcSt_succ R (BitVec.ofInt 32 (rd l i)) j
    have hl : (BitVec.ofInt 32 (rd l i) >>> j).getLsbD 0 = (BitVec.ofInt 32 (rd l i)).getLsbD j := by rw [BitVec.getLsbD_ushiftRight]; simp
    rw [hl]
    have e2 := shr_bv (crcSt R (BitVec.ofInt 32 (rd l i)) j) 1
    rw [show (2 : Int) ^ 1 = 2 from rfl] at e2
    rw [e2]
    have := ih (j + 1) (by omega)
    rw [← hK] at this
    have ej : ((j : Int) + 1) = ((j + 1 : Nat) : Int) := by omega
    rw [ej, ← this, hs]
    rw [bits_xor_bv, ofInt_toNat]
    have hC : BitVec.ofInt 32 3988292384 = crcC := by decide
    rw [hC]
    cases (crcSt R (BitVec.ofInt 32 (rd l i)) j).getLsbD 0 <;> cases (BitVec.ofInt 32 (rd l i)).getLsbD j <;> simp
theorem spec_crc_l0 (l : List Int) (hn : l.length ≤ 140737488351232) (hw : ∀ x ∈ l, (Lit.int .u8 x).wf = true) (e d : Nat) :
    ∀ i, i + d = l.length → spec_Crc.l0 (10 * d + 1 + e) l ((crcL 0xffffffff#32 (bvs (l.take i))).toNat : Int) i = some (crcV l) := by
  induction d with
  | zero =>
    intro i hi
    rw [show 10 * 0 + 1 + e = e + 1 by omega]
    simp only [spec_Crc.l0]
    rw [if_neg (by omega), bits_not_bv, List.take_of_length_le (by omega)]
    rfl
  | succ d ih =>
    intro i hi
    obtain ⟨K, hK⟩ : ∃ K, K = (10 * d + 1 + e) + 8 + 1 := ⟨_, rfl⟩
    rw [show 10 * (d + 1) + 1 + e = K + 1 by omega]
    simp only [spec_Crc.l0]
    rw [if_pos (by omega)]
    have h1 := spec_crc_l1 l hn hw i (by omega) (crcL 0xffffffff#32 (bvs (l.take i))) (10 * d + 1 + e) 8 0 (by omega)
    have hb := wf_u8 (rd_mem hw (i : Int) (by simp; omega))
    rw [crcSt_zero, crcSt_eight _ _ (by rw [BitVec.toNat_ofInt]; omega), ← crc_step l i (by omega) _ rfl] at h1
    rw [ih (i + 1) (by omega), ← hK] at h1
    exact h1
theorem spec_crc_f (l : List Int) (hn : l.length ≤ 140737488351232) (hw : ∀ x ∈ l, (Lit.int .u8 x).wf = true) (k : Nat) (hk : 10 * l.length + 1 ≤ k) : spec_Crc.f k l = some (crcV l) := by
  obtain ⟨e, rfl⟩ : ∃ e, k = 10 * l.length + 1 + e := ⟨k - (10 * l.length + 1), by omega⟩
  have := spec_crc_l0 l hn hw e l.length 0 (by omega)
  exact this
theorem FnExactCrc : laws_FnExactCrc.Pure := by
  intro l _ hr hl
  have hlen : l.length ≤ 140737488351232 := by omega
  refine ⟨10 * l.length + 20, ?_⟩
  unfold laws_FnExactCrc.f
  by_cases c : (l.length : Int) > 1048576
  · rw [if_pos c]
  rw [if_neg c, toB_f l hlen _ (by omega)]
  simp only [Option.bind_some]
  rw [spec_crc_f l hlen hl _ (by omega)]
  simp [impl_Crc.f, eqB_f l hlen (10 * l.length + 20) (by omega)]

end Go.Proofs.Ytfhlicffjpiobaa.Pure
