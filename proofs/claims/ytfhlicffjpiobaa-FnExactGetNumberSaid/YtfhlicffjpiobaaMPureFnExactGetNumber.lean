/- Proved: the pure statement of the law FnExactGetNumber (over numbers and lists); no condition beside those of the statement. -/
import Derived.Test.YtfhlicffjpiobaaMFnExactGetNumberx2
namespace Go.Proofs.Ytfhlicffjpiobaa.Pure
open Go.RowKit Go.Proofs.Ytfhlicffjpiobaa.MFnExactGetNumber Go.Proofs.YtfhlicffjpiobaaW.PrintWords Go.Proofs.YtfhlicffjpiobaaW.PrintLast

-- BODY
theorem wf_i64 {a : Int} (h : (Lit.int .i64 a).wf = true) : -9223372036854775808 ≤ a ∧ a ≤ 9223372036854775807 := by
  simpa [Lit.wf, IntKind.min, IntKind.max, IntKind.signed, IntKind.bits] using h
theorem wf_u32 {a : Int} (h : (Lit.int .u32 a).wf = true) : 0 ≤ a ∧ a ≤ 4294967295 := by
  simpa [Lit.wf, IntKind.min, IntKind.max, IntKind.signed, IntKind.bits] using h
theorem wf_u8 {a : Int} (h : (Lit.int .u8 a).wf = true) : 0 ≤ a ∧ a ≤ 255 := by
  simpa [Lit.wf, IntKind.min, IntKind.max, IntKind.signed, IntKind.bits] using h
theorem w64 {a : Int} (h0 : -9223372036854775808 ≤ a) (h1 : a ≤ 9223372036854775807) : wrap64 a = a := by unfold wrap64; omega
theorem wrap_u64_eq (a : Int) : IntKind.u64.wrap a = a % 18446744073709551616 := by simp [IntKind.wrap, IntKind.bits, IntKind.signed]
theorem wu64 {a : Int} (h0 : 0 ≤ a) (h1 : a ≤ 18446744073709551615) : IntKind.u64.wrap a = a := by rw [wrap_u64_eq]; omega
theorem wraps_u64 (n : Int) (h0 : 0 ≤ n) (h1 : n < 2 ^ 64) : IntKind.u64.wrap n = n := wu64 h0 (by omega)
theorem bits_or_comm (k : IntKind) (x y : Int) : Go.bits .or k x y = Go.bits .or k y x := by
  simp only [Go.bits]; rw [BitVec.or_comm]
theorem rd_mem {l : List Int} {P : Int → Prop} (h : ∀ x ∈ l, P x) (i : Int) (h1 : i.toNat < l.length) : P (rd l i) := by
  unfold rd; rw [List.getD_eq_getElem?_getD, List.getElem?_eq_getElem h1]; exact h _ (List.getElem_mem h1)
theorem toB_l0 (l : List Int) (hn : l.length ≤ 140737488351232) (d : Nat) : ∀ (k i : Nat) (o : List Int), i + d = l.length → o.length = l.length → o.take i = l.take i → d < k → laws_toByteS.l0 k l o (i : Int) = some l := by
  induction d with
  | zero =>
    intro k i o hi ho ht hk
    obtain ⟨k, rfl⟩ : ∃ m, k = m + 1 := ⟨k - 1, by omega⟩
    simp only [laws_toByteS.l0]; rw [if_neg (by omega)]
    rw [List.take_of_length_le (by omega), List.take_of_length_le (by omega)] at ht
    rw [ht]
  | succ d ih =>
    intro k i o hi ho ht hk
    obtain ⟨k, rfl⟩ : ∃ m, k = m + 1 := ⟨k - 1, by omega⟩
    simp only [laws_toByteS.l0]; rw [if_pos (by omega), if_pos (by omega), if_pos (by omega)]
    rw [w64 (by omega) (by omega)]
    refine ih k (i + 1) _ (by omega) (by simpa using ho) ?_ (by omega)
    simp only [Int.toNat_natCast, rd]
    rw [List.take_succ_eq_append_getElem (by simp; omega), List.take_succ_eq_append_getElem (by omega)]
    rw [List.take_set_of_le (by omega), ht]
    simp [List.getD_eq_getElem?_getD, List.getElem?_eq_getElem (show i < l.length by omega)]
theorem toB_f (l : List Int) (hn : l.length ≤ 140737488351232) (k : Nat) (hk : l.length < k) : laws_toByteS.f k l = some l := by
  unfold laws_toByteS.f
  rw [if_pos (by omega), if_pos (by omega)]
  exact toB_l0 l hn l.length k 0 _ (by omega) (by simp) (by simp) hk
theorem eqB_l0 (l : List Int) (hn : l.length ≤ 140737488351232) (d : Nat) : ∀ (k i : Nat), i + d = l.length → d < k → laws_eqByteS.l0 k l l (i : Int) = some true := by
  induction d with
  | zero =>
    intro k i hi hk
    obtain ⟨k, rfl⟩ : ∃ m, k = m + 1 := ⟨k - 1, by omega⟩
    simp only [laws_eqByteS.l0]; rw [if_neg (by omega)]
  | succ d ih =>
    intro k i hi hk
    obtain ⟨k, rfl⟩ : ∃ m, k = m + 1 := ⟨k - 1, by omega⟩
    simp only [laws_eqByteS.l0]; rw [if_pos (by omega), if_pos (by omega), if_pos (by omega)]
    rw [w64 (by omega) (by omega)]
    exact ih k (i + 1) (by omega) (by omega)
theorem eqB_f (l : List Int) (hn : l.length ≤ 140737488351232) (k : Nat) (hk : l.length < k) : laws_eqByteS.f k l l = some true := by
  unfold laws_eqByteS.f
  rw [if_pos rfl]
  exact eqB_l0 l hn l.length k 0 (by omega) hk
/-- the number that i bytes from a on make -/
def lowV (x : List Int) (a : Int) : Nat → Int
  | 0 => 0
  | i + 1 => lowV x a i + rd x (a + i) * 256 ^ i
def highV (x : List Int) (a : Int) (n : Nat) : Nat → Int
  | 0 => 0
  | d + 1 => rd x (a + ((n - (d + 1) : Nat) : Int)) + 256 * highV x a n d
theorem lowV_bd (x : List Int) (a : Int) (hx : ∀ i : Int, 0 ≤ rd x i ∧ rd x i ≤ 255) (i : Nat) : 0 ≤ lowV x a i ∧ lowV x a i < 256 ^ i := by
  induction i with
  | zero => simp [lowV]
  | succ i ih =>
    have h := hx (a + i)
    have hp : (0 : Int) < 256 ^ i := Int.pow_pos (by decide)
    simp only [lowV]
    have e : (256 : Int) ^ (i + 1) = 256 * 256 ^ i := by rw [Int.pow_succ]; omega
    rw [e]
    have h1 : 0 ≤ rd x (a + i) * 256 ^ i := Int.mul_nonneg h.1 (by omega)
    have h2 : rd x (a + i) * 256 ^ i ≤ 255 * 256 ^ i := Int.mul_le_mul_of_nonneg_right h.2 (by omega)
    omega
theorem highV_bd (x : List Int) (a : Int) (n : Nat) (hx : ∀ i : Int, 0 ≤ rd x i ∧ rd x i ≤ 255) (d : Nat) : 0 ≤ highV x a n d ∧ highV x a n d < 256 ^ d := by
  induction d with
  | zero => simp [highV]
  | succ d ih =>
    have h := hx (a + ((n - (d + 1) : Nat) : Int))
    simp only [highV]
    have e : (256 : Int) ^ (d + 1) = 256 * 256 ^ d := by rw [Int.pow_succ]; omega
    rw [e]
    omega
theorem low_high (x : List Int) (a : Int) (n : Nat) (d : Nat) : ∀ i, i + d = n → lowV x a i + 256 ^ i * highV x a n d = lowV x a n := by
  induction d with
  | zero => intro i hi; obtain rfl : i = n := by omega
            simp [highV]
  | succ d ih =>
    intro i hi
    have := ih (i + 1) (by omega)
    rw [← this]
    simp only [lowV, highV]
    have e : n - (d + 1) = i := by omega
    rw [e, Int.mul_add, Int.pow_succ]
    rw [Int.mul_comm (rd x (a + i)) (256 ^ i), Int.mul_assoc]
    omega
theorem rd_bd {l : List Int} (h : ∀ x ∈ l, (Lit.int .u8 x).wf = true) (i : Int) : 0 ≤ rd l i ∧ rd l i ≤ 255 := by
  by_cases h1 : i.toNat < l.length
  · exact wf_u8 (rd_mem h i h1)
  · unfold rd; rw [List.getD_eq_getElem?_getD, List.getElem?_eq_none (by omega)]; decide
theorem spec_l0 (x : List Int) (hn : x.length ≤ 140737488351232) (hx : ∀ i : Int, 0 ≤ rd x i ∧ rd x i ≤ 255) (a : Int) (n : Nat) (ha : 0 ≤ a) (h8 : n ≤ 8) (han : a + n ≤ x.length) (d : Nat) :
    ∀ (k i : Nat), i + d = n → d < k → spec_GetNumber.l0 k x a n (lowV x a i) i = some (true, wrap64 (lowV x a n)) := by
  induction d with
  | zero =>
    intro k i hi hk
    obtain ⟨k, rfl⟩ : ∃ m, k = m + 1 := ⟨k - 1, by omega⟩
    obtain rfl : i = n := by omega
    simp only [spec_GetNumber.l0]; rw [if_neg (by omega)]
  | succ d ih =>
    intro k i hi hk
    obtain ⟨k, rfl⟩ : ∃ m, k = m + 1 := ⟨k - 1, by omega⟩
    have hi7 : i ≤ 7 := by omega
    simp only [spec_GetNumber.l0]
    rw [if_pos (by omega), w64 (a := a + i) (by omega) (by omega), if_pos (by omega), if_pos (by omega)]
    rw [wu64 (a := (i : Int)) (by omega) (by omega), wu64 (a := 8 * (i : Int)) (by omega) (by omega), if_pos (by omega)]
    have hb := hx (a + i)
    have hl := lowV_bd x a hx i
    rw [wu64 (a := rd x (a + i)) (by omega) (by omega), w64 (a := (i : Int) + 1) (by omega) (by omega)]
    have e : Go.bits .or .u64 (lowV x a i) (shl .u64 (rd x (a + i)) (8 * (i : Int))) = lowV x a (i + 1) := by
      have es : shl .u64 (rd x (a + i)) (8 * (i : Int)) = rd x (a + i) * 256 ^ i := by
        unfold shl
        have : min (8 * (i : Int)).toNat IntKind.u64.bits = 8 * i := by simp [IntKind.bits]; omega
        rw [this, Int.pow_mul]
        have h7 : i = 0 ∨ i = 1 ∨ i = 2 ∨ i = 3 ∨ i = 4 ∨ i = 5 ∨ i = 6 ∨ i = 7 := by omega
        rcases h7 with rfl | rfl | rfl | rfl | rfl | rfl | rfl | rfl <;> (rw [wu64] <;> omega)
      rw [es, bits_or_comm]
      have hj : Go.bits .or .u64 (rd x (a + i) * 256 ^ i) (lowV x a i) = rd x (a + i) * 256 ^ i + lowV x a i := by
        have h7 : i = 0 ∨ i = 1 ∨ i = 2 ∨ i = 3 ∨ i = 4 ∨ i = 5 ∨ i = 6 ∨ i = 7 := by omega
        refine bits_join .u64 64 (by decide) wraps_u64 (8 * i) _ _ ?_ ?_ ?_ hl.1 ?_ ?_
        all_goals clear ih es
        all_goals rcases h7 with rfl | rfl | rfl | rfl | rfl | rfl | rfl | rfl <;> simp only [Nat.reduceMul, Int.reducePow] at * <;> omega
      rw [hj]; simp only [lowV]; omega
    rw [e]
    exact ih k (i + 1) (by omega) (by omega)
theorem impl_l0 (x : List Int) (hn : x.length ≤ 140737488351232) (hx : ∀ i : Int, 0 ≤ rd x i ∧ rd x i ≤ 255) (a : Int) (n : Nat) (ha : 0 ≤ a) (h8 : n ≤ 8) (han : a + n ≤ x.length) (j : Nat) :
    ∀ (k d : Nat), d + j = n → j < k → impl_GetNumber.l0 k x a (highV x a n d) ((j : Int) - 1) = some (true, wrap64 (highV x a n n)) := by
  induction j with
  | zero =>
    intro k d hi hk
    obtain ⟨k, rfl⟩ : ∃ m, k = m + 1 := ⟨k - 1, by omega⟩
    obtain rfl : d = n := by omega
    simp only [impl_GetNumber.l0]; rw [if_neg (by omega)]
  | succ j ih =>
    intro k d hi hk
    obtain ⟨k, rfl⟩ : ∃ m, k = m + 1 := ⟨k - 1, by omega⟩
    have hi7 : d ≤ 7 := by omega
    have ej : ((j + 1 : Nat) : Int) - 1 = j := by omega
    rw [ej]
    simp only [impl_GetNumber.l0]
    rw [if_pos (by omega), w64 (a := a + j) (by omega) (by omega), if_pos (by omega), if_pos (by omega)]
    have hb := hx (a + j)
    have hl := highV_bd x a n hx d
    have hs : highV x a n d * 256 ≤ 18446744073709551615 ∧ highV x a n d * 256 % 256 = 0 := by
      have h7 : d = 0 ∨ d = 1 ∨ d = 2 ∨ d = 3 ∨ d = 4 ∨ d = 5 ∨ d = 6 ∨ d = 7 := by omega
      rcases h7 with rfl | rfl | rfl | rfl | rfl | rfl | rfl | rfl <;> simp only [Int.reducePow] at * <;> omega
    rw [wu64 (a := rd x (a + j)) (by omega) (by omega), w64 (a := (j : Int) - 1) (by omega) (by omega), wu64 (a := highV x a n d * 256) (by omega) (by omega)]
    have hj : Go.bits .or .u64 (highV x a n d * 256) (rd x (a + j)) = highV x a n (d + 1) := by
      rw [bits_join .u64 64 (by decide) wraps_u64 8 _ _ (by omega) (by omega) (by omega) (by omega) (by omega) (by omega)]
      simp only [highV]
      have e : n - (d + 1) = j := by omega
      rw [e]; omega
    rw [hj]
    exact ih k (d + 1) (by omega) (by omega)
theorem getn_same (x : List Int) (hn : x.length ≤ 140737488351232) (hx : ∀ v ∈ x, (Lit.int .u8 v).wf = true) (a n : Int) (ha : (Lit.int .i64 a).wf = true) (hw : (Lit.int .i64 n).wf = true) :
    ∀ k, 12 ≤ k → ∃ r, spec_GetNumber.f k x a n = some r ∧ impl_GetNumber.f k x a n = some r := by
  intro k hk
  obtain ⟨k, rfl⟩ : ∃ m, k = m + 1 := ⟨k - 1, by omega⟩
  have h1 := wf_i64 ha
  have h2 := wf_i64 hw
  unfold spec_GetNumber.f impl_GetNumber.f
  by_cases c1 : n < 1
  · exact ⟨_, by rw [if_pos c1]; simp only [spec_GetNumber.j0]; rfl, by rw [if_pos c1]; simp only [impl_GetNumber.j0]; rfl⟩
  by_cases c2 : n > 8
  · exact ⟨_, by rw [if_neg c1, if_pos c2]; simp only [spec_GetNumber.j0]; rfl, by rw [if_neg c1, if_pos c2]; simp only [impl_GetNumber.j0]; rfl⟩
  by_cases c3 : a < 0
  · exact ⟨_, by rw [if_neg c1, if_neg c2, if_pos c3]; simp only [spec_GetNumber.j0]; rfl, by rw [if_neg c1, if_neg c2, if_pos c3]; simp only [impl_GetNumber.j0]; rfl⟩
  rw [if_neg c1, if_neg c2, if_neg c3, if_neg c1, if_neg c2, if_neg c3, w64 (by omega) (by omega)]
  by_cases c4 : a > x.length
  · rw [if_pos c4]
    have : decide (a > (x.length : Int) - n) = true := by simp; omega
    rw [this]
    exact ⟨_, by simp only [spec_GetNumber.j0]; rfl, by simp only [impl_GetNumber.j0]; rfl⟩
  rw [if_neg c4, w64 (by omega) (by omega)]
  by_cases c5 : a > (x.length : Int) - n
  · have e1 : decide (a > (x.length : Int) - n) = true := by simpa using c5
    have e2 : decide ((x.length : Int) - a < n) = true := by simp; omega
    rw [e1, e2]
    exact ⟨_, by simp only [spec_GetNumber.j0]; rfl, by simp only [impl_GetNumber.j0]; rfl⟩
  have e1 : decide (a > (x.length : Int) - n) = false := by simpa using c5
  have e2 : decide ((x.length : Int) - a < n) = false := by simp; omega
  rw [e1, e2]
  simp only [spec_GetNumber.j0, impl_GetNumber.j0]
  obtain ⟨m, rfl⟩ : ∃ m : Nat, n = m := ⟨n.toNat, by omega⟩
  refine ⟨(true, wrap64 (lowV x a m)), ?_, ?_⟩
  · exact spec_l0 x hn (rd_bd hx) a m (by omega) (by omega) (by omega) m k 0 (by omega) (by omega)
  · rw [w64 (by omega) (by omega)]
    have := impl_l0 x hn (rd_bd hx) a m (by omega) (by omega) (by omega) m k 0 (by omega) (by omega)
    simp only [highV] at this
    simp only [Bool.false_eq_true, if_false]
    rw [this]
    have h := low_high x a m m 0 (by omega)
    simp only [lowV] at h
    have e : highV x a m m = lowV x a m := by omega
    rw [e]
theorem FnExactGetNumber : laws_FnExactGetNumber.Pure := by
  intro l a n _ hr hl ha hn
  have hlen : l.length ≤ 140737488351232 := by omega
  refine ⟨l.length + 20, ?_⟩
  unfold laws_FnExactGetNumber.f
  by_cases c : (l.length : Int) > 1048576
  · rw [if_pos c]
  rw [if_neg c, toB_f l hlen _ (by omega)]
  obtain ⟨r, h1, h2⟩ := getn_same l hlen hl a n ha hn (l.length + 20) (by omega)
  simp only [Option.bind_some]
  rw [h1, h2]
  simp only [Option.bind_some, laws_eqNumberResult.f]
  simp [eqB_f l hlen (l.length + 20) (by omega)]

end Go.Proofs.Ytfhlicffjpiobaa.Pure
