/- Of this session: over the abstract machine. -/
import Derived.Test.YtkfpoagnchahkaaGreatProg
import Derived.Test.YtkfpoagnchahkaaGreatA
import Derived.Test.YtkfpoagnchahkaaGreatB
import Derived.Test.YtkfpoagnchahkaaGreatD
import Derived.Test.YtkfpoagnchahkaaGreatT
import Derived.Test.YtkfpoagnchahkaaGreatO
import Derived.Test.YtkfpoagnchahkaaGreatOT
import Derived.Test.YtkfpoagnchahkaaGreatP1
import Derived.Test.YtkfpoagnchahkaaGreatP2
import Derived.Test.YtkfpoagnchahkaaGreatP3
import Derived.Test.YtkfpoagnchahkaaGreatP4
import Derived.Test.YtkfpoagnchahkaaGreatP5
import Derived.Test.YtkfpoagnchahkaaGreatEN0
namespace Go.Proofs.YtkfpoagnchahkaaGreat.A
open Go Go.RowKit
set_option linter.unusedVariables false
set_option linter.unusedSimpArgs false
set_option maxRecDepth 100000
set_option maxHeartbeats 1000000
@[simp] theorem natA_u64 (k : Nat) : natA (.v (.int .u64 (k : Int))) = k := by simp [natA]
@[simp] theorem natA_u64s (k : Nat) : natA (.v (.int .u64 ((k : Int) + 1))) = k + 1 := by simp [natA]
theorem unM_xor32 (n : Int) (h : AHeap) (K : KA) : unM .xor (u32 n) h K = K (u32 (xorI .u32 4294967295 n)) h := propext ⟨fun h => h.out, fun h => ⟨h⟩⟩
theorem fdiv_nat (n m : Nat) : ((n : Int)).fdiv (m : Int) = ((n / m : Nat) : Int) := by
  rw [Int.fdiv_eq_ediv_of_nonneg _ (by omega)]; simp
theorem shr_bv' (R : BitVec 32) (n : Nat) : (R.toNat : Int).fdiv (2 ^ n) = ((R >>> n).toNat : Int) := by
  have e : (2 : Int) ^ n = ((2 ^ n : Nat) : Int) := by simp
  rw [e, fdiv_nat, BitVec.toNat_ushiftRight, Nat.shiftRight_eq_div_pow]
theorem xorI_bv (a b : BitVec 32) : xorI .u32 (a.toNat : Int) (b.toNat : Int) = ((a ^^^ b).toNat : Int) := by
  unfold xorI
  rw [show IntKind.u32.bits = 32 from rfl, ofInt_toNat, ofInt_toNat]; exact wrap_u32_bv _
theorem not_bv (R : BitVec 32) : xorI .u32 4294967295 (R.toNat : Int) = ((~~~ R).toNat : Int) := by
  have := xorI_bv (BitVec.allOnes 32) R
  rw [BitVec.allOnes_xor, show ((BitVec.allOnes 32).toNat : Int) = 4294967295 by decide] at this
  exact this
theorem andI_bv (a b : BitVec 32) : andI .u32 (a.toNat : Int) (b.toNat : Int) = ((a &&& b).toNat : Int) := by
  unfold andI
  rw [show IntKind.u32.bits = 32 from rfl, ofInt_toNat, ofInt_toNat]; exact wrap_u32_bv _
theorem andI_low (R : BitVec 32) : andI .u32 (R.toNat : Int) 1 = if R.getLsbD 0 then 1 else 0 := by
  have := andI_bv R 1#32
  rw [show ((1#32).toNat : Int) = 1 from rfl] at this
  rw [this]; exact low_bv R
theorem xorI_C (R : BitVec 32) : xorI .u32 (R.toNat : Int) 3988292384 = ((R ^^^ crcC).toNat : Int) := xorI_bv R crcC
theorem byte_bv {x : Int} (h0 : 0 ≤ x ∧ x ≤ 255) : (BitVec.ofInt 32 x).toNat = x.toNat := by
  obtain ⟨n, rfl⟩ := Int.eq_ofNat_of_zero_le h0.1
  rw [BitVec.ofInt_natCast, BitVec.toNat_ofNat]; simp; omega
theorem bit_of {x : Int} (h0 : 0 ≤ x ∧ x ≤ 255) (j : Nat) : IntKind.u32.wrap (x.fdiv (2 ^ j)) = ((BitVec.ofInt 32 x >>> j).toNat : Int) := by
  rw [← shr_bv', byte_bv h0, Int.toNat_of_nonneg h0.1]
  obtain ⟨n, rfl⟩ := Int.eq_ofNat_of_zero_le h0.1
  have e : (2 : Int) ^ j = ((2 ^ j : Nat) : Int) := by simp
  rw [e, fdiv_nat, wrap_u32_eq]
  have hd : n / 2 ^ j ≤ n := Nat.div_le_self _ _
  generalize n / 2 ^ j = q at *
  omega
theorem wu64 {n : Int} (h0 : 0 ≤ n) (h1 : n < 18446744073709551616) : IntKind.u64.wrap n = n := by
  simp [IntKind.wrap, IntKind.bits, IntKind.signed]; omega
theorem S_specCrc {bs : List Int} {h : AHeap} {Q : KA} (hl : bs.length ≤ 1099511627776) (hw : okB bs) (hq : Q (u32 (crcOf bs)) h) : @clM Tryz.prog 37 [encL u8 bs] h ⟨Q⟩ := by
  refine cl_of fn_spec_Crc (D_spec_Crc_of ?_)
  unfold D_spec_Crc
  refine lp_inv (fun s h' => h = h' ∧ ∃ i : Nat, i ≤ bs.length ∧ s = [u32 ((crcL 0xffffffff#32 (bvs (bs.take i))).toNat : Int), i64 i, encL u8 bs]) (fun s _ => bs.length - natA (nthA s 1)) (Wk.refl ⟨rfl, 0, by omega, rfl⟩) ?_
  rintro _ _ ⟨rfl, i, hi, rfl⟩
  simp [↓go]
  refine ⟨fun hlt => ?_, fun hge => ?_⟩
  · obtain ⟨x, hx⟩ : ∃ x, bs[i]? = some x := ⟨_, List.getElem?_eq_getElem hlt⟩
    obtain ⟨_, hxl⟩ := List.getElem?_eq_some_iff.1 hx
    have hb := hw x (List.mem_of_getElem? hx)
    have hstep := crc_step hx
    generalize crcL 0xffffffff#32 (bvs (bs.take i)) = R at *
    refine lp_inv (fun s h' => h = h' ∧ ∃ k : Nat, k ≤ 8 ∧ s = [u32 ((crcSt R (BitVec.ofInt 32 x) k).toNat : Int), encL u8 bs, i64 i, u64 k]) (fun s _ => 8 - natA (nthA s 3)) (Wk.refl ⟨rfl, 0, by omega, by rw [crcSt_zero]; rfl⟩) ?_
    rintro _ _ ⟨rfl, k, hk, rfl⟩
    simp [↓go]
    refine ⟨fun hk8 => ?_, fun hk8 => ?_⟩
    · refine jn_cut (fun s h' => h = h' ∧ s = [u32 ((crcSt R (BitVec.ofInt 32 x) (k + 1)).toNat : Int), encL u8 bs, i64 i, u64 k]) ?_ ?_
      · simp [↓go, hx, hxl, hlt]
        have hm : min k IntKind.u8.bits = k := by simp [IntKind.bits]; omega
        have hm1 : min 1 IntKind.u32.bits = 1 := rfl
        rw [hm, hm1, bit_of hb, andI_low, andI_low, shr_bv', xorI_C]
        have hs := crcSt_succ R (BitVec.ofInt 32 x) k
        have hg : (BitVec.ofInt 32 x >>> k).getLsbD 0 = (BitVec.ofInt 32 x).getLsbD k := by rw [BitVec.getLsbD_ushiftRight]; simp
        rw [hg]
        generalize crcSt R (BitVec.ofInt 32 x) k = T at *
        refine ⟨fun hne => wk_ex ⟨rfl, ?_⟩, fun he => wk_ex ⟨rfl, ?_⟩⟩
        · have hd : (T.getLsbD 0 != (BitVec.ofInt 32 x).getLsbD k) = true := by
            cases h1 : T.getLsbD 0 <;> cases h2 : (BitVec.ofInt 32 x).getLsbD k <;> rw [h1, h2] at hne <;> simp at hne ⊢
          rw [hs, hd, if_pos rfl]
        · have hd : (T.getLsbD 0 != (BitVec.ofInt 32 x).getLsbD k) = false := by
            cases h1 : T.getLsbD 0 <;> cases h2 : (BitVec.ofInt 32 x).getLsbD k <;> rw [h1, h2] at he <;> simp at he ⊢
          rw [hs, hd, if_neg (by simp), BitVec.xor_zero]
      · rintro _ _ ⟨rfl, rfl⟩
        simp [↓go]
        rw [wu64 (by omega) (by omega)]
        exact wk_ex ⟨⟨rfl, k + 1, by omega, rfl⟩, by simp; omega⟩
    · obtain rfl : k = 8 := by omega
      rw [crcSt_eight _ _ (by rw [byte_bv hb]; omega), ← hstep]
      rw [w64 (by omega) (by omega)]
      exact wk_ex ⟨⟨rfl, i + 1, by omega, rfl⟩, by simp; omega⟩
  · obtain rfl : i = bs.length := by omega
    rw [List.take_length, unM_xor32, not_bv]
    exact retW_ex hq
def tabV (k : Nat) : List AVal := (List.range 16).map fun i => u32 (if i < k then ((hfN 4 (BitVec.ofNat 32 i)).toNat : Int) else 0)
theorem tabV_len (k : Nat) : (tabV k).length = 16 := by simp [tabV]
theorem tabV_get (k i : Nat) (h : i < 16) : (tabV k)[i]? = some (u32 (if i < k then ((hfN 4 (BitVec.ofNat 32 i)).toNat : Int) else 0)) := by simp [tabV, h]
theorem tabV_set {k : Nat} (h : k < 16) : (tabV k).take k ++ (u32 ((hfN 4 (BitVec.ofNat 32 k)).toNat : Int) :: (tabV k).drop (k + 1)) = tabV (k + 1) := by
  have e := List.set_eq_take_append_cons_drop (i := k) (l := tabV k) (a := u32 ((hfN 4 (BitVec.ofNat 32 k)).toNat : Int))
  rw [if_pos (by rw [tabV_len]; exact h)] at e
  rw [← e]
  apply List.ext_getElem?
  intro i
  rw [List.getElem?_set, tabV_len]
  by_cases hi : i < 16
  · rw [tabV_get k i hi, tabV_get (k + 1) i hi]
    by_cases e : k = i
    · subst e; simp [h]
    · by_cases h2 : i < k
      · simp [e, h2, show i < k + 1 by omega]
      · simp [e, h2, show ¬ i < k + 1 by omega]
  · have h1 : (tabV k)[i]? = none := by rw [List.getElem?_eq_none_iff, tabV_len]; omega
    have h2 : (tabV (k + 1))[i]? = none := by rw [List.getElem?_eq_none_iff, tabV_len]; omega
    rw [h1, h2]
    by_cases e : k = i
    · omega
    · simp [e]
theorem tabV_c1 (k : Nat) : ∀ x ∈ tabV k, x.c1 = true := fun x hx => by
  obtain ⟨i, _, rfl⟩ := List.mem_map.1 hx
  rfl
theorem half_look (Y : BitVec 32) : ∃ i : Nat, i < 16 ∧ andI .u32 (Y.toNat : Int) 15 = (i : Int) ∧ (tabV 16)[i]? = some (u32 ((hfN 4 (Y &&& 15#32)).toNat : Int)) := by
  have h15 : (Y &&& 15#32).toNat < 16 := by
    rw [BitVec.toNat_and]
    exact Nat.lt_of_le_of_lt Nat.and_le_right (by decide)
  have ha := andI_bv Y 15#32
  rw [show ((15#32).toNat : Int) = 15 from rfl] at ha
  refine ⟨(Y &&& 15#32).toNat, h15, ha, ?_⟩
  rw [tabV_get 16 _ h15, if_pos h15]
  simp
theorem S_halves {h : AHeap} {Q : KA} (hq : Q (.agg (tabV 16)) h) : @clM Tryz.prog 94 [] h ⟨Q⟩ := by
  refine cl_wk ?_
  refine cl_of fn_impl_halves (D_impl_halves_of ?_)
  unfold D_impl_halves
  simp [↓go]
  intro g1 g2
  refine lp_inv (fun s h' => ∃ k : Nat, k ≤ 16 ∧ h' = h ++ [.row g1 16 [.agg (tabV 0)], .row g2 16 [.agg (tabV k)]] ∧ s = [.pt h.length g1 0 0, .pt (h.length + 1) g2 0 0, i64 k]) (fun s _ => 16 - natA (nthA s 2)) (Wk.refl ⟨0, by omega, rfl, rfl⟩) ?_
  rintro _ _ ⟨k, hk, rfl, rfl⟩
  simp [↓go]
  refine ⟨fun hlt => ?_, fun hge => ?_⟩
  · refine lp_inv (fun s h' => h' = h ++ [.row g1 16 [.agg (tabV 0)], .row g2 16 [.agg (tabV k)]] ∧ ∃ m : Nat, m ≤ 4 ∧ s = [.pt h.length g1 0 0, .pt (h.length + 1) g2 0 0, i64 k, u32 ((hfN m (BitVec.ofNat 32 k)).toNat : Int), i64 k, i64 m]) (fun s _ => 4 - natA (nthA s 5)) (Wk.refl ⟨rfl, 0, by omega, ?_⟩) ?_
    · have e : ((BitVec.ofNat 32 k).toNat : Int) = IntKind.u32.wrap (k : Int) := by rw [wrap_u32_eq]; simp
      simp only [hfN]; rw [e]; rfl
    rintro _ _ ⟨rfl, m, hm, rfl⟩
    simp [↓go]
    refine ⟨fun hm4 => ?_, fun hm4 => ?_⟩
    · refine jn_cut (fun s h' => h' = h ++ [.row g1 16 [.agg (tabV 0)], .row g2 16 [.agg (tabV k)]] ∧ s = [.pt h.length g1 0 0, .pt (h.length + 1) g2 0 0, i64 k, u32 ((hfN (m + 1) (BitVec.ofNat 32 k)).toNat : Int), i64 k, i64 m]) ?_ ?_
      · simp [↓go]
        have hm1 : min 1 IntKind.u32.bits = 1 := rfl
        rw [hm1, andI_low, shr_bv', xorI_C]
        have hs : hfN (m + 1) (BitVec.ofNat 32 k) = hf (hfN m (BitVec.ofNat 32 k)) := rfl
        generalize hfN m (BitVec.ofNat 32 k) = T at *
        unfold hf at hs
        refine ⟨fun hne => wk_ex ⟨rfl, ?_⟩, fun he => wk_ex ⟨rfl, ?_⟩⟩
        · have hd : T.getLsbD 0 = true := by
            cases h1 : T.getLsbD 0 <;> rw [h1] at hne <;> simp at hne ⊢
          rw [hs, hd, if_pos rfl]
        · have hd : T.getLsbD 0 = false := by
            cases h1 : T.getLsbD 0 <;> rw [h1] at he <;> simp at he ⊢
          rw [hs, hd, if_neg (by simp), BitVec.xor_zero]
      · rintro _ _ ⟨rfl, rfl⟩
        simp [↓go]
        rw [w64 (by omega) (by omega)]
        exact wk_ex ⟨⟨rfl, m + 1, by omega, rfl⟩, by simp; omega⟩
    · obtain rfl : m = 4 := by omega
      rw [tabV_set (by omega), w64 (by omega) (by omega)]
      exact ⟨hlt, by omega, wk_ex ⟨⟨k + 1, by omega, rfl, rfl⟩, by simp; omega⟩⟩
  · obtain rfl : k = 16 := by omega
    have ht : (tabV 16).take 16 = tabV 16 := List.take_of_length_le (by rw [tabV_len]; omega)
    have hd : (tabV 0).drop 16 = [] := List.drop_eq_nil_of_le (by rw [tabV_len]; omega)
    simp [↓go, tabV_len, ht, hd]
    refine ⟨fun x hx => ?_, retW_ex (Wk.drop (Wk.refl hq))⟩
    obtain ⟨i, _, rfl⟩ := List.mem_map.1 hx
    rfl
theorem S_implCrc {bs : List Int} {h : AHeap} {Q : KA} (hl : bs.length ≤ 1099511627776) (hw : okB bs) (hq : Q (u32 (crcOf bs)) h) : @clM Tryz.prog 45 [encL u8 bs] h ⟨Q⟩ := by
  refine cl_wk ?_
  refine cl_of fn_impl_Crc (D_impl_Crc_of ?_)
  unfold D_impl_Crc
  refine S_halves ?_
  simp [↓go, tabV_len]
  intro g
  refine ⟨tabV_c1 16, ?_⟩
  refine lp_inv (fun s h' => h' = h ++ [.row g 16 [.agg (tabV 16)]] ∧ ∃ i : Nat, i ≤ bs.length ∧ s = [u32 ((crcL 0xffffffff#32 (bvs (bs.take i))).toNat : Int), i64 i, .pt h.length g 0 0, encL u8 bs, i64 bs.length]) (fun s _ => bs.length - natA (nthA s 1)) (Wk.refl ⟨rfl, 0, by omega, rfl⟩) ?_
  rintro _ _ ⟨rfl, i, hi, rfl⟩
  simp [↓go]
  refine ⟨fun hlt => ?_, fun hge => ?_⟩
  · obtain ⟨x, hx⟩ : ∃ x, bs[i]? = some x := ⟨_, List.getElem?_eq_getElem hlt⟩
    obtain ⟨_, hxl⟩ := List.getElem?_eq_some_iff.1 hx
    have hb := hw x (List.mem_of_getElem? hx)
    have hstep := crc_step hx
    generalize crcL 0xffffffff#32 (bvs (bs.take i)) = R at *
    have hwx : IntKind.u32.wrap x = ((BitVec.ofInt 32 x).toNat : Int) := by rw [byte_bv hb, wrap_u32_eq]; omega
    have hm4 : min 4 IntKind.u32.bits = 4 := rfl
    obtain ⟨j, hj, e1, e2⟩ := half_look (R ^^^ BitVec.ofInt 32 x)
    obtain ⟨j2, hj2, e3, e4⟩ := half_look ((R ^^^ BitVec.ofInt 32 x) >>> 4 ^^^ hfN 4 ((R ^^^ BitVec.ofInt 32 x) &&& 15#32))
    have hh := crcByte_halves R (BitVec.ofInt 32 x)
    simp [↓go, hx, hxl, hlt]
    rw [hwx, xorI_bv, e1, hm4, shr_bv']
    rw [show ((j : Int)).toNat = j from rfl, e2, tabV_len]
    refine ⟨by omega, by omega, by omega, ?_⟩
    simp only [Option.getD_some]
    simp only at hh
    rw [hh] at hstep
    clear hh e1 e2 hwx
    generalize R ^^^ BitVec.ofInt 32 x = Y at *
    generalize hfN 4 (Y &&& 15#32) = T at *
    generalize Y >>> 4 = Y4 at *
    simp [↓go]
    rw [xorI_bv, e3, hm4, shr_bv']
    rw [show ((j2 : Int)).toNat = j2 from rfl, e4, tabV_len]
    refine ⟨by omega, by omega, by omega, ?_⟩
    simp only [Option.getD_some]
    clear e3 e4
    generalize Y4 ^^^ T = Z at *
    generalize hfN 4 (Z &&& 15#32) = U at *
    generalize Z >>> 4 = Z4 at *
    simp [↓go]
    rw [xorI_bv, w64 (by omega) (by omega), ← hstep]
    exact wk_ex ⟨⟨rfl, i + 1, by omega, rfl⟩, by simp; omega⟩
  · obtain rfl : i = bs.length := by omega
    rw [List.take_length, unM_xor32, not_bv]
    exact retW_ex (Wk.drop (Wk.refl hq))
end Go.Proofs.YtkfpoagnchahkaaGreat.A
