/- Proved: the pure statement of the law FnNumbers (over numbers and lists); no condition beside those of the statement. -/
import Derived.Test.YtfhlicffjpiobabGvCrc
import Derived.Test.YtfhlicffjpiobabM3
namespace Go.Proofs.Ytfhlicffjpiobab.Pure
open Go.RowKit Go.Proofs.Ytfhlicffjpiobab.M Go.Proofs.YtfhlicffjpiobabW.PrintWords Go.Proofs.YtfhlicffjpiobabW.PrintLast
-- BODY
set_option linter.unusedVariables false
set_option linter.unusedSimpArgs false
theorem wf_i64 {a : Int} (h : (Lit.int .i64 a).wf = true) : -9223372036854775808 ≤ a ∧ a ≤ 9223372036854775807 := by
  simpa [Lit.wf, IntKind.min, IntKind.max, IntKind.signed, IntKind.bits] using h
theorem wf_u32 {a : Int} (h : (Lit.int .u32 a).wf = true) : 0 ≤ a ∧ a ≤ 4294967295 := by
  simpa [Lit.wf, IntKind.min, IntKind.max, IntKind.signed, IntKind.bits] using h
theorem wf_u8 {a : Int} (h : (Lit.int .u8 a).wf = true) : 0 ≤ a ∧ a ≤ 255 := by
  simpa [Lit.wf, IntKind.min, IntKind.max, IntKind.signed, IntKind.bits] using h
theorem w64 {a : Int} (h0 : -9223372036854775808 ≤ a) (h1 : a ≤ 9223372036854775807) : wrap64 a = a := by unfold wrap64; omega
theorem wrap_u64_eq (a : Int) : IntKind.u64.wrap a = a % 18446744073709551616 := by simp [IntKind.wrap, IntKind.bits, IntKind.signed]
theorem wu64 {a : Int} (h0 : 0 ≤ a) (h1 : a ≤ 18446744073709551615) : IntKind.u64.wrap a = a := by rw [wrap_u64_eq]; omega
theorem wraps_u64 (n : Int) (h0 : 0 ≤ n) (h1 : n < 2 ^ 64) : IntKind.u64.wrap n = n := wu64 h0 (by omega)
theorem bits_or_comm (k : IntKind) (x y : Int) : Go.bits .or k x y = Go.bits .or k y x := by
  simp only [Go.bits]; rw [BitVec.or_comm]
theorem rd_mem {l : List Int} {P : Int → Prop} (h : ∀ x ∈ l, P x) (i : Int) (h1 : i.toNat < l.length) : P (rd l i) := by
  unfold rd; rw [List.getD_eq_getElem?_getD, List.getElem?_eq_getElem h1]; exact h _ (List.getElem_mem h1)
/-- the number that i bytes from a on make -/
def lowV (x : List Int) (a : Int) : Nat → Int
  | 0 => 0
  | i + 1 => lowV x a i + rd x (a + i) * 256 ^ i
def highV (x : List Int) (a : Int) (n : Nat) : Nat → Int
  | 0 => 0
  | d + 1 => rd x (a + ((n - (d + 1) : Nat) : Int)) + 256 * highV x a n d
theorem lowV_bd (x : List Int) (a : Int) (hx : ∀ i : Int, 0 ≤ rd x i ∧ rd x i ≤ 255) (i : Nat) : 0 ≤ lowV x a i ∧ lowV x a i < 256 ^ i := by
  induction i with
  | zero => simp [lowV]
  | succ i ih =>
    have h := hx (a + i)
    have hp : (0 : Int) < 256 ^ i := Int.pow_pos (by decide)
    simp only [lowV]
    have e : (256 : Int) ^ (i + 1) = 256 * 256 ^ i := by rw [Int.pow_succ]; omega
    rw [e]
    have h1 : 0 ≤ rd x (a + i) * 256 ^ i := Int.mul_nonneg h.1 (by omega)
    have h2 : rd x (a + i) * 256 ^ i ≤ 255 * 256 ^ i := Int.mul_le_mul_of_nonneg_right h.2 (by omega)
    omega
theorem highV_bd (x : List Int) (a : Int) (n : Nat) (hx : ∀ i : Int, 0 ≤ rd x i ∧ rd x i ≤ 255) (d : Nat) : 0 ≤ highV x a n d ∧ highV x a n d < 256 ^ d := by
  induction d with
  | zero => simp [highV]
  | succ d ih =>
    have h := hx (a + ((n - (d + 1) : Nat) : Int))
    simp only [highV]
    have e : (256 : Int) ^ (d + 1) = 256 * 256 ^ d := by rw [Int.pow_succ]; omega
    rw [e]
    omega
theorem low_high (x : List Int) (a : Int) (n : Nat) (d : Nat) : ∀ i, i + d = n → lowV x a i + 256 ^ i * highV x a n d = lowV x a n := by
  induction d with
  | zero => intro i hi; obtain rfl : i = n := by omega
            simp [highV]
  | succ d ih =>
    intro i hi
    have := ih (i + 1) (by omega)
    rw [← this]
    simp only [lowV, highV]
    have e : n - (d + 1) = i := by omega
    rw [e, Int.mul_add, Int.pow_succ]
    rw [Int.mul_comm (rd x (a + i)) (256 ^ i), Int.mul_assoc]
    omega
theorem rd_bd {l : List Int} (h : ∀ x ∈ l, (Lit.int .u8 x).wf = true) (i : Int) : 0 ≤ rd l i ∧ rd l i ≤ 255 := by
  by_cases h1 : i.toNat < l.length
  · exact wf_u8 (rd_mem h i h1)
  · unfold rd; rw [List.getD_eq_getElem?_getD, List.getElem?_eq_none (by omega)]; decide
theorem impl_l0 (x : List Int) (hn : x.length ≤ 140737488351232) (hx : ∀ i : Int, 0 ≤ rd x i ∧ rd x i ≤ 255) (a : Int) (n : Nat) (ha : 0 ≤ a) (h8 : n ≤ 8) (han : a + n ≤ x.length) (j : Nat) :
    ∀ (k d : Nat), d + j = n → j < k → impl_GetNumber.l0 k x a (highV x a n d) ((j : Int) - 1) = some (true, wrap64 (highV x a n n)) := by
  induction j with
  | zero =>
    intro k d hi hk
    obtain ⟨k, rfl⟩ : ∃ m, k = m + 1 := ⟨k - 1, by omega⟩
    obtain rfl : d = n := by omega
    simp only [impl_GetNumber.l0]; rw [if_neg (by omega)]
  | succ j ih =>
    intro k d hi hk
    obtain ⟨k, rfl⟩ : ∃ m, k = m + 1 := ⟨k - 1, by omega⟩
    have hi7 : d ≤ 7 := by omega
    have ej : ((j + 1 : Nat) : Int) - 1 = j := by omega
    rw [ej]
    simp only [impl_GetNumber.l0]
    rw [if_pos (by omega), w64 (a := a + j) (by omega) (by omega), if_pos (by omega), if_pos (by omega)]
    have hb := hx (a + j)
    have hl := highV_bd x a n hx d
    have hs : highV x a n d * 256 ≤ 18446744073709551615 ∧ highV x a n d * 256 % 256 = 0 := by
      have h7 : d = 0 ∨ d = 1 ∨ d = 2 ∨ d = 3 ∨ d = 4 ∨ d = 5 ∨ d = 6 ∨ d = 7 := by omega
      rcases h7 with rfl | rfl | rfl | rfl | rfl | rfl | rfl | rfl <;> simp only [Int.reducePow] at * <;> omega
    rw [wu64 (a := rd x (a + j)) (by omega) (by omega), w64 (a := (j : Int) - 1) (by omega) (by omega), wu64 (a := highV x a n d * 256) (by omega) (by omega)]
    have hj : Go.bits .or .u64 (highV x a n d * 256) (rd x (a + j)) = highV x a n (d + 1) := by
      rw [bits_join .u64 64 (by decide) wraps_u64 8 _ _ (by omega) (by omega) (by omega) (by omega) (by omega) (by omega)]
      simp only [highV]
      have e : n - (d + 1) = j := by omega
      rw [e]; omega
    rw [hj]
    exact ih k (d + 1) (by omega) (by omega)
theorem getn_ok (x : List Int) (hn : x.length ≤ 140737488351232) (hx : ∀ i : Int, 0 ≤ rd x i ∧ rd x i ≤ 255) (a : Int) (m : Nat) (ha : 0 ≤ a) (h1 : 1 ≤ m ∧ m ≤ 8) (han : a + m ≤ x.length) (k : Nat) (hk : 12 ≤ k) : impl_GetNumber.f k x a m = some (true, wrap64 (lowV x a m)) := by
  obtain ⟨k, rfl⟩ : ∃ m, k = m + 1 := ⟨k - 1, by omega⟩
  unfold impl_GetNumber.f
  rw [if_neg (by omega), if_neg (by omega), if_neg (by omega), if_neg (by omega), w64 (by omega) (by omega)]
  have e2 : decide ((x.length : Int) - a < (m : Int)) = false := by simp; omega
  rw [e2]
  simp only [impl_GetNumber.j0]
  rw [w64 (by omega) (by omega)]
  have := impl_l0 x hn hx a m (by omega) (by omega) (by omega) m k 0 (by omega) (by omega)
  simp only [highV] at this
  simp only [Bool.false_eq_true, if_false]
  rw [this]
  have h := low_high x a m m 0 (by omega)
  simp only [lowV] at h
  have e : highV x a m m = lowV x a m := by omega
  rw [e]
theorem tmod_range {a n : Int} (ha : 0 ≤ a) (hn : 0 < n) : 0 ≤ Int.tmod a n ∧ Int.tmod a n < n := ⟨Int.tmod_nonneg _ ha, Int.tmod_lt_of_pos _ hn⟩
theorem tdiv_range {a n : Int} (ha : 0 ≤ a) (hn : 0 < n) : 0 ≤ Int.tdiv a n ∧ Int.tdiv a n ≤ a := by
  rw [Int.tdiv_eq_ediv_of_nonneg ha]
  exact ⟨Int.ediv_nonneg ha (by omega), Int.ediv_le_self _ ha⟩
/-- l1Next answers, in its range -/
theorem next_ok (l : List Int) (hw : ∀ x ∈ l, (Lit.int .u8 x).wf = true) (hlen : l.length ≤ 140737488351232) (a s n : Int) (ha : 0 ≤ a) (ha1 : a ≤ 1000000) (hn : 1 ≤ n) (hn1 : n ≤ 1000) :
    ∃ v, spec_l1Next.f l a s n = some (v, a + 1, s) ∧ 0 ≤ v ∧ v < n := by
  unfold spec_l1Next.f
  rw [w64 (a := a + 1) (by omega) (by omega), show a + 1 - 1 = a by omega, w64 (a := a) (by omega) (by omega), if_neg (by omega)]
  by_cases hl : (l.length : Int) = 0
  · rw [if_pos hl, if_neg (by omega), w64 (by omega) (by omega)]
    exact ⟨_, rfl, tmod_range (by omega) (by omega)⟩
  · rw [if_neg hl]
    have m1 := tmod_range (a := a) (n := (l.length : Int)) ha (by omega)
    have d1 := tdiv_range (a := a) (n := (l.length : Int)) ha (by omega)
    have b1 := rd_bd hw (Int.tmod a l.length)
    rw [if_pos m1.1, if_pos m1.2]
    rw [w64 (a := a + 1) (by omega) (by omega), w64 (a := rd l (Int.tmod a l.length)) (by omega) (by omega), w64 (a := Int.tdiv a l.length) (by omega) (by omega), w64 (a := Int.tdiv a l.length * 37) (by omega) (by omega), w64 (a := rd l (Int.tmod a l.length) + Int.tdiv a l.length * 37) (by omega) (by omega)]
    by_cases h2 : n > 200
    · have m2 := tmod_range (a := a + 1) (n := (l.length : Int)) (by omega) (by omega)
      have b2 := rd_bd hw (Int.tmod (a + 1) l.length)
      rw [if_pos h2, if_pos m2.1, if_pos m2.2, if_neg (by omega)]
      rw [w64 (a := rd l (Int.tmod (a + 1) l.length)) (by omega) (by omega), w64 (a := rd l (Int.tmod (a + 1) l.length) * 13) (by omega) (by omega), w64 (a := (rd l (Int.tmod a l.length) + Int.tdiv a l.length * 37) * 251) (by omega) (by omega), w64 (a := (rd l (Int.tmod a l.length) + Int.tdiv a l.length * 37) * 251 + rd l (Int.tmod (a + 1) l.length) * 13) (by omega) (by omega), w64 (by omega) (by omega)]
      exact ⟨_, rfl, tmod_range (by omega) (by omega)⟩
    · rw [if_neg h2, if_neg (by omega)]
      exact ⟨_, rfl, tmod_range (by omega) (by omega)⟩
theorem word_ok (l : List Int) (hw : ∀ x ∈ l, (Lit.int .u8 x).wf = true) (hlen : l.length ≤ 140737488351232) (a s : Int) (ha : 0 ≤ a) (ha1 : a ≤ 999990) :
    ∃ v b, spec_l1Word.f l a s = some (v, b, s) ∧ a ≤ b ∧ b ≤ a + 4 := by
  unfold spec_l1Word.f
  obtain ⟨v1, e1, h1, _⟩ := next_ok l hw hlen a s 4 ha (by omega) (by omega) (by omega)
  rw [e1]
  simp only [Option.bind_some]
  by_cases c0 : v1 = 0
  · rw [if_pos c0]
    obtain ⟨v2, e2, h2, h3⟩ := next_ok l hw hlen (a + 1) s 8 (by omega) (by omega) (by omega) (by omega)
    rw [e2]
    simp only [Option.bind_some]
    rw [if_pos h2, if_pos (by simpa using h3)]
    exact ⟨_, _, rfl, by omega, by omega⟩
  rw [if_neg c0]
  by_cases c1 : v1 = 1
  · rw [if_pos c1]
    obtain ⟨v2, e2, _, _⟩ := next_ok l hw hlen (a + 1) s 256 (by omega) (by omega) (by omega) (by omega)
    obtain ⟨v3, e3, _, _⟩ := next_ok l hw hlen (a + 1 + 1) s 256 (by omega) (by omega) (by omega) (by omega)
    obtain ⟨v4, e4, _, _⟩ := next_ok l hw hlen (a + 1 + 1 + 1) s 256 (by omega) (by omega) (by omega) (by omega)
    rw [e2]; simp only [Option.bind_some]
    rw [e3]; simp only [Option.bind_some]
    rw [e4]; simp only [Option.bind_some]
    exact ⟨_, _, rfl, by omega, by omega⟩
  rw [if_neg c1]
  obtain ⟨v2, e2, _, _⟩ := next_ok l hw hlen (a + 1) s 12 (by omega) (by omega) (by omega) (by omega)
  rw [e2]; simp only [Option.bind_some]
  exact ⟨_, _, rfl, by omega, by omega⟩
theorem source_ok (l : List Int) (hlen : l.length ≤ 140737488351232) : ∃ s, spec_l1Source.f l = some (l, 0, s) := by
  unfold spec_l1Source.f
  split <;> exact ⟨_, rfl⟩
theorem bytes_ok (l : List Int) (hw : ∀ x ∈ l, (Lit.int .u8 x).wf = true) (hlen : l.length ≤ 140737488351232) (n : Nat) (hn : n ≤ 1000) (s : Int) (d : Nat) :
    ∀ (k i : Nat) (o : List Int) (a : Int), i + d = n → o.length = i → (∀ x ∈ o, (Lit.int .u8 x).wf = true) → 0 ≤ a → a ≤ 900000 + i → d < k →
      ∃ r b, spec_l1Bytes.l0 k n o i l a s = some (r, b, s) ∧ r.length = n ∧ (∀ x ∈ r, (Lit.int .u8 x).wf = true) := by
  induction d with
  | zero =>
    intro k i o a hi ho hwo ha ha1 hk
    obtain ⟨k, rfl⟩ : ∃ m, k = m + 1 := ⟨k - 1, by omega⟩
    simp only [spec_l1Bytes.l0]; rw [if_neg (by omega)]
    exact ⟨_, _, rfl, by omega, hwo⟩
  | succ d ih =>
    intro k i o a hi ho hwo ha ha1 hk
    obtain ⟨k, rfl⟩ : ∃ m, k = m + 1 := ⟨k - 1, by omega⟩
    simp only [spec_l1Bytes.l0]
    obtain ⟨v, e, h0, h1⟩ := next_ok l hw hlen a s 256 ha (by omega) (by omega) (by omega)
    rw [if_pos (by omega), e]
    simp only [Option.bind_some]
    rw [if_pos (by omega), w64 (by omega) (by omega)]
    refine ih k (i + 1) _ (a + 1) (by omega) (by simp [ho]) ?_ (by omega) (by omega) (by omega)
    intro x hx
    rcases List.mem_append.1 hx with h | h
    · exact hwo x h
    · simp at h
      subst h
      simp only [Lit.wf, IntKind.min, IntKind.max, IntKind.signed, IntKind.bits, Bool.and_eq_true, decide_eq_true_eq]
      simp; omega
theorem lwAt_ok (l : List Int) (hw : ∀ x ∈ l, (Lit.int .u8 x).wf = true) (hlen : l.length ≤ 140737488351232) (i n : Int) (hi : 0 ≤ i) (hi1 : i ≤ 1000000) (hn : n ≤ 140737488351232) :
    ∃ v, laws_lwAt.f l i n = some v ∧ 0 ≤ v ∧ (1 ≤ n → v < n) := by
  unfold laws_lwAt.f
  by_cases h1 : n ≤ 1
  · rw [if_pos h1]; exact ⟨0, rfl, by omega, fun h => by omega⟩
  rw [if_neg h1]
  by_cases hl : (l.length : Int) = 0
  · rw [if_pos hl, if_neg (by omega), w64 (by omega) (by omega)]
    have := tmod_range (a := i * 7) (n := n) (by omega) (by omega)
    exact ⟨_, rfl, this.1, fun _ => this.2⟩
  · rw [if_neg hl]
    have m1 := tmod_range (a := i) (n := (l.length : Int)) hi (by omega)
    have d1 := tdiv_range (a := i) (n := (l.length : Int)) hi (by omega)
    have b1 := rd_bd hw (Int.tmod i l.length)
    rw [if_pos m1.1, if_pos m1.2, if_neg (by omega)]
    rw [w64 (a := rd l (Int.tmod i l.length)) (by omega) (by omega), w64 (a := Int.tdiv i l.length) (by omega) (by omega), w64 (a := Int.tdiv i l.length * 3) (by omega) (by omega), w64 (by omega) (by omega)]
    have := tmod_range (a := rd l (Int.tmod i l.length) + Int.tdiv i l.length * 3) (n := n) (by omega) (by omega)
    exact ⟨_, rfl, this.1, fun _ => this.2⟩
def pnAt (v : Int) (i : Nat) : Int := (shr .u64 v (8 * (i : Int))) % 256
def pnL (v : Int) (n : Nat) : List Int := (List.range n).map (pnAt v)
theorem pnL_len (v : Int) (n : Nat) : (pnL v n).length = n := by simp [pnL]
theorem pnL_succ (v : Int) (n : Nat) : pnL v (n + 1) = pnL v n ++ [pnAt v n] := by simp [pnL, List.range_succ]
theorem impl_put_l0 (v n : Nat) (hn : n ≤ 8) (d : Nat) : ∀ (k i : Nat) (o : List Int), i + d = n → o.length = n → o.take i = (pnL v n).take i → d < k → impl_lowFirst_uint64.l0 k v o n i = some (pnL v n) := by
  induction d with
  | zero =>
    intro k i o hi ho ht hk
    obtain ⟨k, rfl⟩ : ∃ m, k = m + 1 := ⟨k - 1, by omega⟩
    obtain rfl : i = n := by omega
    simp only [impl_lowFirst_uint64.l0]; rw [if_neg (by omega)]
    rw [List.take_of_length_le (by omega), List.take_of_length_le (by rw [pnL_len]; omega)] at ht
    rw [ht]
  | succ d ih =>
    intro k i o hi ho ht hk
    obtain ⟨k, rfl⟩ : ∃ m, k = m + 1 := ⟨k - 1, by omega⟩
    simp only [impl_lowFirst_uint64.l0]
    rw [w64 (a := 8 * (i : Int)) (by omega) (by omega), w64 (a := (i : Int) + 1) (by omega) (by omega), if_pos (by omega), if_pos (by omega), if_pos (by omega), if_pos (by omega)]
    refine ih k (i + 1) _ (by omega) (by simpa using ho) ?_ (by omega)
    simp only [Int.toNat_natCast]
    rw [List.take_succ_eq_append_getElem (by simp; omega), List.take_succ_eq_append_getElem (by rw [pnL_len]; omega)]
    rw [List.take_set_of_le (by omega), ht]
    simp [pnL, pnAt]
theorem put_ok (a : Int) (m : Nat) (k : Nat) (hk : 12 ≤ k) :
    ∃ l : List Int, l.length ≤ 8 ∧ impl_PutNumber.f k a m = some l ∧ (m < 1 ∨ 8 < m → l = []) ∧ (1 ≤ m → m ≤ 8 → l = pnL (IntKind.u64.wrap a) m) := by
  unfold impl_PutNumber.f
  by_cases c1 : (m : Int) < 1
  · exact ⟨[], by simp, by rw [if_pos c1], fun _ => rfl, fun h => by omega⟩
  by_cases c2 : (m : Int) > 8
  · exact ⟨[], by simp, by rw [if_neg c1, if_pos c2], fun _ => rfl, fun _ h => by omega⟩
  obtain ⟨v, hv⟩ : ∃ v : Nat, IntKind.u64.wrap a = v := ⟨(IntKind.u64.wrap a).toNat, by rw [wrap_u64_eq]; omega⟩
  rw [if_neg c1, if_neg c2, hv]
  have hm : m ≤ 8 := by omega
  refine ⟨pnL v m, by rw [pnL_len]; omega, ?_, fun h => by omega, fun _ _ => rfl⟩
  unfold impl_lowFirst_uint64.f
  rw [if_pos (by omega), if_pos (by omega)]
  simp only [Option.bind_some, List.length_replicate, Int.toNat_natCast]
  have := impl_put_l0 v m hm m k 0 (List.replicate m 0) (by omega) (by simp) (by simp) (by omega)
  simp only [Int.natCast_zero] at this
  rw [this]; rfl
/-- what is put is what is got -/
theorem low_of_put (V : Int) (h0 : 0 ≤ V) (h1 : V < 18446744073709551616) (x : List Int) (t n : Nat) (hn : n ≤ 8) (hx : ∀ i, i < n → rd x ((t : Int) + i) = pnAt V i) (i : Nat) (hi : i ≤ n) : lowV x t i = V % 256 ^ i := by
  induction i with
  | zero => simp [lowV]
  | succ i ih =>
    simp only [lowV]
    rw [ih (by omega), hx i (by omega)]
    unfold pnAt shr
    have hm : min (8 * (i : Int)).toNat IntKind.u64.bits = 8 * i := by simp [IntKind.bits]; omega
    rw [hm]
    have h7 : i = 0 ∨ i = 1 ∨ i = 2 ∨ i = 3 ∨ i = 4 ∨ i = 5 ∨ i = 6 ∨ i = 7 := by omega
    clear ih hx hm
    rcases h7 with rfl | rfl | rfl | rfl | rfl | rfl | rfl | rfl <;> simp only [Nat.reduceMul, Int.reducePow, Nat.reduceAdd, Nat.zero_add] <;> omega
theorem xor_ne (a : Int) (s : Nat) (hs : s < 8) (h0 : 0 ≤ a) (h1 : a ≤ 255) : BitVec.ofInt 32 a ≠ BitVec.ofInt 32 (Go.bits .xor .u8 a (shl .u8 1 (s : Int))) := by
  intro he
  have hx : Go.bits .xor .u8 a (shl .u8 1 (s : Int)) = ((BitVec.ofInt 8 a ^^^ BitVec.ofInt 8 (shl .u8 1 (s : Int))).toNat : Int) := by
    unfold Go.bits
    rw [IntKind.wrap_u8]
    have h256 := (BitVec.ofInt 8 a ^^^ BitVec.ofInt 8 (shl .u8 1 (s : Int))).isLt
    show ((BitVec.ofInt 8 a ^^^ BitVec.ofInt 8 (shl .u8 1 (s : Int))).toNat : Int) % 256 = _
    omega
  rw [hx] at he
  obtain ⟨n, rfl⟩ := Int.eq_ofNat_of_zero_le h0
  generalize hb : BitVec.ofInt 8 (shl .u8 1 (s : Int)) = b at he
  have hb0 : b ≠ 0#8 := by
    rw [← hb]
    have h7 : s = 0 ∨ s = 1 ∨ s = 2 ∨ s = 3 ∨ s = 4 ∨ s = 5 ∨ s = 6 ∨ s = 7 := by omega
    rcases h7 with rfl | rfl | rfl | rfl | rfl | rfl | rfl | rfl <;> decide
  have hn : n < 256 := by omega
  have h2 := congrArg BitVec.toNat he
  have hlt := (BitVec.ofInt 8 (n : Int) ^^^ b).isLt
  simp only [BitVec.ofInt_natCast, BitVec.toNat_ofNat, Int.ofNat_eq_natCast] at h2 hlt
  rw [Nat.mod_eq_of_lt (by omega), Nat.mod_eq_of_lt (by omega)] at h2
  have h3 : BitVec.ofNat 8 n = BitVec.ofNat 8 n ^^^ b := by
    apply BitVec.eq_of_toNat_eq
    rw [BitVec.toNat_ofNat, Nat.mod_eq_of_lt (by omega)]
    exact h2
  have h4 := congrArg (fun z => BitVec.ofNat 8 n ^^^ z) h3
  simp only [BitVec.xor_self, ← BitVec.xor_assoc, BitVec.zero_xor] at h4
  exact hb0 h4.symm
theorem crc_check : crcV [49, 50, 51, 52, 53, 54, 55, 56, 57] = 3421780262 := by decide +kernel
theorem crcV_ne (c : List Int) (i : Nat) (hi : i < c.length) (v : Int) (h : BitVec.ofInt 32 (rd c i) ≠ BitVec.ofInt 32 v) : crcV c ≠ crcV (c.set i v) := by
  intro he
  unfold crcV at he
  have h1 : ∀ (a b : BitVec 32), ((~~~a).toNat : Int) = ((~~~b).toNat : Int) → a = b := by
    intro a b hab
    have : ~~~a = ~~~b := BitVec.eq_of_toNat_eq (by exact_mod_cast hab)
    have := congrArg (fun z => ~~~z) this
    simpa using this
  have h2 := h1 _ _ he
  have e1 : bvs c = bvs (c.take i) ++ BitVec.ofInt 32 (rd c i) :: bvs (c.drop (i + 1)) := by
    have e0 : c = c.take i ++ c[i] :: c.drop (i + 1) := by rw [← List.drop_eq_getElem_cons hi, List.take_append_drop]
    have er : rd c (i : Int) = c[i] := by simp [rd, List.getD_eq_getElem?_getD, List.getElem?_eq_getElem hi]
    refine (congrArg bvs e0).trans ?_
    rw [er]
    simp only [bvs, List.map_append, List.map_cons]
  have e2 : bvs (c.set i v) = bvs (c.take i) ++ BitVec.ofInt 32 v :: bvs (c.drop (i + 1)) := by
    rw [List.set_eq_take_append_cons_drop, if_pos hi]
    simp [bvs]
  rw [e1, e2] at h2
  exact crc_differs _ _ _ h h2
theorem numbers_j1 (l : List Int) (hw : ∀ x ∈ l, (Lit.int .u8 x).wf = true) (hlen : l.length ≤ 140737488351232) (k : Nat) (hk : 100 ≤ k) : laws_FnNumbers.j1 k l false = some true := by
  obtain ⟨k, rfl⟩ : ∃ m, k = m + 1 := ⟨k - 1, by omega⟩
  simp only [laws_FnNumbers.j1]
  have hd : ∃ c, spec_DrawCrc.f k l = some c ∧ c.length ≤ 100 ∧ (∀ x ∈ c, (Lit.int .u8 x).wf = true) := by
    unfold spec_DrawCrc.f spec_l1Chance.f
    obtain ⟨s, es⟩ := source_ok l hlen
    obtain ⟨v1, e1, _, _⟩ := next_ok l hw hlen 0 s 6 (by omega) (by omega) (by omega) (by omega)
    rw [es]; simp only [Option.bind_some]
    rw [e1]; simp only [Option.bind_some]
    by_cases c : (v1 == 0) = true
    · rw [if_pos c]
      refine ⟨_, rfl, by simp, ?_⟩
      intro x hx
      simp at hx
      rcases hx with rfl | rfl | rfl | rfl | rfl | rfl | rfl | rfl | rfl <;> rfl
    · rw [if_neg c]
      obtain ⟨v2, e2, h2, h3⟩ := next_ok l hw hlen (0 + 1) s 60 (by omega) (by omega) (by omega) (by omega)
      rw [e2]; simp only [Option.bind_some]
      obtain ⟨m, rfl⟩ : ∃ m : Nat, v2 = m := ⟨v2.toNat, by omega⟩
      obtain ⟨r, b, er, hr, hwr⟩ := bytes_ok l hw hlen m (by omega) s m k 0 [] (0 + 1 + 1) (by omega) rfl (by simp) (by omega) (by omega) (by omega)
      unfold spec_l1Bytes.f
      simp only [Int.natCast_zero] at er
      rw [er]; simp only [Option.bind_some]
      exact ⟨_, rfl, by omega, hwr⟩
  obtain ⟨c, ec, hc, hwc⟩ := hd
  rw [ec]
  simp only [Bool.false_eq_true, if_false, Option.bind_some, List.nil_append, List.length_nil, Nat.zero_add, impl_Crc.f]
  by_cases h0 : (c.length : Int) = 0
  · rw [if_pos h0]
    have : c = [] := List.eq_nil_of_length_eq_zero (by omega)
    subst this
    rfl
  · rw [if_neg h0, if_pos (by omega)]
    obtain ⟨t, et, ht0, ht1⟩ := lwAt_ok l hw hlen 3 (c.length : Int) (by omega) (by omega) (by omega)
    obtain ⟨u, eu, hu0, hu1⟩ := lwAt_ok l hw hlen 4 8 (by omega) (by omega) (by omega)
    have ht2 := ht1 (by omega)
    have hu2 := hu1 (by omega)
    rw [et]; simp only [Option.bind_some]
    rw [if_pos ht0, if_pos ht2, eu]; simp only [Option.bind_some]
    rw [wu64 (by omega) (by omega), if_pos hu0]
    obtain ⟨ti, rfl⟩ : ∃ m : Nat, t = m := ⟨t.toNat, by omega⟩
    obtain ⟨ui, rfl⟩ : ∃ m : Nat, u = m := ⟨u.toNat, by omega⟩
    have hb := wf_u8 (rd_mem hwc (ti : Int) (by simp; omega))
    have hne := crcV_ne c ti (by omega) _ (xor_ne (rd c ti) ui (by omega) hb.1 hb.2)
    rw [Int.toNat_natCast, if_neg hne, crc_check]
    rfl
theorem wrap_u64_wrap64 (a : Int) : IntKind.u64.wrap (wrap64 a) = IntKind.u64.wrap a := by rw [wrap_u64_eq, wrap_u64_eq]; unfold wrap64; omega
theorem bits_i64_range (op : BinOp) (x y : Int) : -9223372036854775808 ≤ Go.bits op .i64 x y ∧ Go.bits op .i64 x y ≤ 9223372036854775807 := by
  simp only [Go.bits]
  generalize (BitVec.toNat _ : Int) = z
  rw [IntKind.wrap_i64]
  omega
theorem FnNumbers : laws_FnNumbers.Pure := by
  intro l _ hr hw
  have hlen : l.length ≤ 140737488351232 := by omega
  refine ⟨200, ?_⟩
  unfold laws_FnNumbers.f
  by_cases c : (l.length : Int) > 1048576
  · rw [if_pos c]
  rw [if_neg c]
  have hd : ∃ v n, spec_DrawPutNumber.f l = some (v, n) ∧ 0 ≤ n ∧ n < 10 ∧ -9223372036854775808 ≤ v ∧ v ≤ 9223372036854775807 := by
    unfold spec_DrawPutNumber.f
    obtain ⟨s, es⟩ := source_ok l hlen
    rw [es]; simp only [Option.bind_some]
    obtain ⟨v1, b1, e1, h1, h2⟩ := word_ok l hw hlen 0 s (by omega) (by omega)
    rw [e1]; simp only [Option.bind_some]
    obtain ⟨v2, b2, e2, h3, h4⟩ := word_ok l hw hlen b1 s (by omega) (by omega)
    rw [e2]; simp only [Option.bind_some]
    obtain ⟨v3, e3, h5, h6⟩ := next_ok l hw hlen b2 s 10 (by omega) (by omega) (by omega) (by omega)
    rw [e3]; simp only [Option.bind_some]
    exact ⟨_, _, rfl, h5, h6, bits_i64_range _ _ _⟩
  obtain ⟨v, n, ed, hn0, hn1, hv0, hv1⟩ := hd
  rw [ed]
  simp only [Option.bind_some]
  obtain ⟨m, rfl⟩ : ∃ m : Nat, n = m := ⟨n.toNat, by omega⟩
  obtain ⟨b, hb8, hbf, hbn, hbp⟩ := put_ok v m 200 (by omega)
  rw [hbf]
  simp only [Option.bind_some]
  by_cases hout : m < 1 ∨ 8 < m
  · have hb0 : b = [] := hbn hout
    subst hb0
    rcases hout with h | h
    · rw [if_pos (by omega)]; simp only [laws_FnNumbers.j0]; rfl
    · rw [if_neg (by omega)]
      have : decide ((m : Int) > 8) = true := by simp; omega
      rw [this]; simp only [laws_FnNumbers.j0]; rfl
  have hin : 1 ≤ m ∧ m ≤ 8 := by omega
  rw [if_neg (by omega)]
  have : decide ((m : Int) > 8) = false := by simp; omega
  rw [this]
  have hbv := hbp hin.1 hin.2
  have hbl : b.length = m := by rw [hbv, pnL_len]
  obtain ⟨t, et, ht0, ht1⟩ := lwAt_ok l hw hlen 0 4 (by omega) (by omega) (by omega)
  have ht2 := ht1 (by omega)
  obtain ⟨q, rfl⟩ : ∃ q : Nat, t = q := ⟨t.toNat, by omega⟩
  obtain ⟨V, hV⟩ : ∃ V, V = IntKind.u64.wrap v := ⟨_, rfl⟩
  have hVr : 0 ≤ V ∧ V < 18446744073709551616 := by rw [hV, wrap_u64_eq]; omega
  have hx : ∀ i, i < m → rd (List.replicate q 0 ++ b ++ [7]) ((q : Int) + i) = pnAt V i := by
    intro i hi
    unfold rd
    rw [List.getD_eq_getElem?_getD, show ((q : Int) + i).toNat = q + i by omega, List.getElem?_append_left (by simp; omega), List.getElem?_append_right (by simp), List.length_replicate, Nat.add_sub_cancel_left, hbv, ← hV]
    simp [pnL, hi]
  have hxr : ∀ i : Int, 0 ≤ rd (List.replicate q 0 ++ b ++ [7]) i ∧ rd (List.replicate q 0 ++ b ++ [7]) i ≤ 255 := by
    apply rd_bd
    intro x hx
    simp only [List.mem_append, List.mem_replicate, List.mem_singleton] at hx
    have hwf : ∀ z : Int, 0 ≤ z → z ≤ 255 → (Lit.int .u8 z).wf = true := by
      intro z h0 h1
      simp only [Lit.wf, IntKind.min, IntKind.max, IntKind.signed, IntKind.bits, Bool.and_eq_true, decide_eq_true_eq]
      simp; omega
    rcases hx with (⟨_, rfl⟩ | hx) | rfl
    · exact hwf _ (by omega) (by omega)
    · rw [hbv] at hx
      simp only [pnL, List.mem_map, List.mem_range] at hx
      obtain ⟨i, _, rfl⟩ := hx
      unfold pnAt
      exact hwf _ (by omega) (by omega)
    · exact hwf _ (by omega) (by omega)
  have hlow := low_of_put V hVr.1 hVr.2 (List.replicate q 0 ++ b ++ [7]) q m hin.2 hx m (Nat.le_refl _)
  have hget : ∀ k, 12 ≤ k → impl_GetNumber.f k (List.replicate q 0 ++ b ++ [7]) q m = some (true, wrap64 (V % 256 ^ m)) := by
    intro k hk
    rw [← hlow]
    exact getn_ok _ (by simp; omega) hxr q m (by omega) hin (by simp; omega) k hk
  have hj1 : ∀ k, 100 ≤ k → laws_FnNumbers.j1 k l false = some true := numbers_j1 l hw hlen
  obtain ⟨K, hK, hK2⟩ : ∃ K, 200 = K + 1 ∧ 150 ≤ K := ⟨199, rfl, by omega⟩
  rw [hK]
  simp only [laws_FnNumbers.j0]
  rw [if_neg (by simp), et]
  simp only [Option.bind_some]
  rw [if_pos ht0, if_pos (by omega)]
  simp only [Int.toNat_natCast]
  rw [if_pos (by simp; omega), if_pos (by simp; omega), hget K (by omega)]
  simp only [Option.bind_some, if_true]
  rw [if_pos (by omega)]
  by_cases h8 : m = 8
  · subst h8
    rw [if_neg (by decide), if_pos (by decide)]
    have e : wrap64 (V % 256 ^ 8) = v := by rw [hV, wrap_u64_eq]; unfold wrap64; omega
    rw [e]
    simp
    exact hj1 K (by omega)
  · have hm7 : m ≤ 7 := by omega
    rw [if_pos (by omega), wu64 (a := (m : Int)) (by omega) (by omega), wu64 (a := 8 * (m : Int)) (by omega) (by omega), if_pos (by omega)]
    have hmask : IntKind.u64.wrap (wrap64 (V % 256 ^ m)) = Go.bits .and .u64 (IntKind.u64.wrap v) (IntKind.u64.wrap ((shl .u64 1 (8 * (m : Int))) - 1)) := by
      have es : shl .u64 1 (8 * (m : Int)) = 2 ^ (8 * m) := by
        unfold shl
        have : min (8 * (m : Int)).toNat IntKind.u64.bits = 8 * m := by simp [IntKind.bits]; omega
        rw [this]
        have h7 : m = 1 ∨ m = 2 ∨ m = 3 ∨ m = 4 ∨ m = 5 ∨ m = 6 ∨ m = 7 := by omega
        rcases h7 with rfl | rfl | rfl | rfl | rfl | rfl | rfl <;> (rw [wu64] <;> simp only [Nat.reduceMul, Int.reducePow] <;> omega)
      have ew : IntKind.u64.wrap ((2 : Int) ^ (8 * m) - 1) = 2 ^ (8 * m) - 1 := by
        have h7 : m = 1 ∨ m = 2 ∨ m = 3 ∨ m = 4 ∨ m = 5 ∨ m = 6 ∨ m = 7 := by omega
        rcases h7 with rfl | rfl | rfl | rfl | rfl | rfl | rfl <;> (rw [wu64] <;> simp only [Nat.reduceMul, Int.reducePow] <;> omega)
      rw [es, ew, ← hV, bits_mask .u64 64 (by decide) wraps_u64 (8 * m) (by omega) V hVr.1 (by simpa using hVr.2), wrap_u64_wrap64, wrap_u64_eq]
      have h7 : m = 1 ∨ m = 2 ∨ m = 3 ∨ m = 4 ∨ m = 5 ∨ m = 6 ∨ m = 7 := by omega
      rcases h7 with rfl | rfl | rfl | rfl | rfl | rfl | rfl <;> simp only [Nat.reduceMul, Int.reducePow] <;> omega
    rw [if_pos hmask, if_neg (by omega)]
    exact hj1 K (by omega)

end Go.Proofs.Ytfhlicffjpiobab.Pure
