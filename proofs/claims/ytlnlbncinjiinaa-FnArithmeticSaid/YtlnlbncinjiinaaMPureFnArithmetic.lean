/- Proved: the pure statement of the law FnArithmetic (over numbers and lists); no condition beside those of the statement. -/
import Derived.Test.YtlnlbncinjiinaaGvCompute
import Derived.Test.YtlnlbncinjiinaaM3
namespace Go.Proofs.Ytlnlbncinjiinaa.Pure
open Go.RowKit Go.Proofs.Ytlnlbncinjiinaa.M Go.Proofs.YtlnlbncinjiinaaW.PrintWords Go.Proofs.YtlnlbncinjiinaaW.PrintLast
-- BODY
set_option linter.unusedVariables false
set_option linter.unusedSimpArgs false
theorem wf_i64 {a : Int} (h : (Lit.int .i64 a).wf = true) : -9223372036854775808 ≤ a ∧ a ≤ 9223372036854775807 := by
  simpa [Lit.wf, IntKind.min, IntKind.max, IntKind.signed, IntKind.bits] using h
theorem wf_u32 {a : Int} (h : (Lit.int .u32 a).wf = true) : 0 ≤ a ∧ a ≤ 4294967295 := by
  simpa [Lit.wf, IntKind.min, IntKind.max, IntKind.signed, IntKind.bits] using h
theorem wf_u8 {a : Int} (h : (Lit.int .u8 a).wf = true) : 0 ≤ a ∧ a ≤ 255 := by
  simpa [Lit.wf, IntKind.min, IntKind.max, IntKind.signed, IntKind.bits] using h
theorem w64 {a : Int} (h0 : -9223372036854775808 ≤ a) (h1 : a ≤ 9223372036854775807) : wrap64 a = a := by unfold wrap64; omega
theorem wrap_u64_eq (a : Int) : IntKind.u64.wrap a = a % 18446744073709551616 := by simp [IntKind.wrap, IntKind.bits, IntKind.signed]
theorem wu64 {a : Int} (h0 : 0 ≤ a) (h1 : a ≤ 18446744073709551615) : IntKind.u64.wrap a = a := by rw [wrap_u64_eq]; omega
theorem wraps_u64 (n : Int) (h0 : 0 ≤ n) (h1 : n < 2 ^ 64) : IntKind.u64.wrap n = n := wu64 h0 (by omega)
theorem bits_or_comm (k : IntKind) (x y : Int) : Go.bits .or k x y = Go.bits .or k y x := by
  simp only [Go.bits]; rw [BitVec.or_comm]
theorem rd_mem {l : List Int} {P : Int → Prop} (h : ∀ x ∈ l, P x) (i : Int) (h1 : i.toNat < l.length) : P (rd l i) := by
  unfold rd; rw [List.getD_eq_getElem?_getD, List.getElem?_eq_getElem h1]; exact h _ (List.getElem_mem h1)
theorem rd_bd {l : List Int} (h : ∀ x ∈ l, (Lit.int .u8 x).wf = true) (i : Int) : 0 ≤ rd l i ∧ rd l i ≤ 255 := by
  by_cases h1 : i.toNat < l.length
  · exact wf_u8 (rd_mem h i h1)
  · unfold rd; rw [List.getD_eq_getElem?_getD, List.getElem?_eq_none (by omega)]; decide
theorem tmod_range {a n : Int} (ha : 0 ≤ a) (hn : 0 < n) : 0 ≤ Int.tmod a n ∧ Int.tmod a n < n := ⟨Int.tmod_nonneg _ ha, Int.tmod_lt_of_pos _ hn⟩
theorem tdiv_range {a n : Int} (ha : 0 ≤ a) (hn : 0 < n) : 0 ≤ Int.tdiv a n ∧ Int.tdiv a n ≤ a := by
  rw [Int.tdiv_eq_ediv_of_nonneg ha]
  exact ⟨Int.ediv_nonneg ha (by omega), Int.ediv_le_self _ ha⟩
/-- l1Next answers, in its range -/
theorem next_ok (l : List Int) (hw : ∀ x ∈ l, (Lit.int .u8 x).wf = true) (hlen : l.length ≤ 140737488351232) (a s n : Int) (ha : 0 ≤ a) (ha1 : a ≤ 1000000) (hn : 1 ≤ n) (hn1 : n ≤ 1000) :
    ∃ v, spec_l1Next.f l a s n = some (v, a + 1, s) ∧ 0 ≤ v ∧ v < n := by
  unfold spec_l1Next.f
  rw [w64 (a := a + 1) (by omega) (by omega), show a + 1 - 1 = a by omega, w64 (a := a) (by omega) (by omega), if_neg (by omega)]
  by_cases hl : (l.length : Int) = 0
  · rw [if_pos hl, if_neg (by omega), w64 (by omega) (by omega)]
    exact ⟨_, rfl, tmod_range (by omega) (by omega)⟩
  · rw [if_neg hl]
    have m1 := tmod_range (a := a) (n := (l.length : Int)) ha (by omega)
    have d1 := tdiv_range (a := a) (n := (l.length : Int)) ha (by omega)
    have b1 := rd_bd hw (Int.tmod a l.length)
    rw [if_pos m1.1, if_pos m1.2]
    rw [w64 (a := a + 1) (by omega) (by omega), w64 (a := rd l (Int.tmod a l.length)) (by omega) (by omega), w64 (a := Int.tdiv a l.length) (by omega) (by omega), w64 (a := Int.tdiv a l.length * 37) (by omega) (by omega), w64 (a := rd l (Int.tmod a l.length) + Int.tdiv a l.length * 37) (by omega) (by omega)]
    by_cases h2 : n > 200
    · have m2 := tmod_range (a := a + 1) (n := (l.length : Int)) (by omega) (by omega)
      have b2 := rd_bd hw (Int.tmod (a + 1) l.length)
      rw [if_pos h2, if_pos m2.1, if_pos m2.2, if_neg (by omega)]
      rw [w64 (a := rd l (Int.tmod (a + 1) l.length)) (by omega) (by omega), w64 (a := rd l (Int.tmod (a + 1) l.length) * 13) (by omega) (by omega), w64 (a := (rd l (Int.tmod a l.length) + Int.tdiv a l.length * 37) * 251) (by omega) (by omega), w64 (a := (rd l (Int.tmod a l.length) + Int.tdiv a l.length * 37) * 251 + rd l (Int.tmod (a + 1) l.length) * 13) (by omega) (by omega), w64 (by omega) (by omega)]
      exact ⟨_, rfl, tmod_range (by omega) (by omega)⟩
    · rw [if_neg h2, if_neg (by omega)]
      exact ⟨_, rfl, tmod_range (by omega) (by omega)⟩
theorem bits_or_range (x y : Int) : 0 ≤ Go.bits .or .u32 x y ∧ Go.bits .or .u32 x y ≤ 4294967295 := by
  have h : Go.bits .or .u32 x y = ((BitVec.ofInt 32 x ||| BitVec.ofInt 32 y).toNat : Int) := by
    have := wrap_u32_bvC (BitVec.ofInt 32 x ||| BitVec.ofInt 32 y)
    unfold Go.bits; exact this
  rw [h]
  have := (BitVec.ofInt 32 x ||| BitVec.ofInt 32 y).isLt
  omega
theorem word_ok (l : List Int) (hw : ∀ x ∈ l, (Lit.int .u8 x).wf = true) (hlen : l.length ≤ 140737488351232) (a s : Int) (ha : 0 ≤ a) (ha1 : a ≤ 999990) :
    ∃ v b, spec_l1Word.f l a s = some (v, b, s) ∧ a ≤ b ∧ b ≤ a + 4 ∧ 0 ≤ v ∧ v ≤ 4294967295 := by
  unfold spec_l1Word.f
  obtain ⟨v1, e1, h1, _⟩ := next_ok l hw hlen a s 4 ha (by omega) (by omega) (by omega)
  rw [e1]
  simp only [Option.bind_some]
  by_cases c0 : v1 = 0
  · rw [if_pos c0]
    obtain ⟨v2, e2, h2, h3⟩ := next_ok l hw hlen (a + 1) s 8 (by omega) (by omega) (by omega) (by omega)
    rw [e2]
    simp only [Option.bind_some]
    rw [if_pos h2, if_pos (by simpa using h3)]
    refine ⟨_, _, rfl, by omega, by omega, ?_⟩
    have : v2 = 0 ∨ v2 = 1 ∨ v2 = 2 ∨ v2 = 3 ∨ v2 = 4 ∨ v2 = 5 ∨ v2 = 6 ∨ v2 = 7 := by omega
    rcases this with rfl | rfl | rfl | rfl | rfl | rfl | rfl | rfl <;> decide
  rw [if_neg c0]
  by_cases c1 : v1 = 1
  · rw [if_pos c1]
    obtain ⟨v2, e2, _, _⟩ := next_ok l hw hlen (a + 1) s 256 (by omega) (by omega) (by omega) (by omega)
    obtain ⟨v3, e3, _, _⟩ := next_ok l hw hlen (a + 1 + 1) s 256 (by omega) (by omega) (by omega) (by omega)
    obtain ⟨v4, e4, _, _⟩ := next_ok l hw hlen (a + 1 + 1 + 1) s 256 (by omega) (by omega) (by omega) (by omega)
    rw [e2]; simp only [Option.bind_some]
    rw [e3]; simp only [Option.bind_some]
    rw [e4]; simp only [Option.bind_some]
    exact ⟨_, _, rfl, by omega, by omega, bits_or_range _ _⟩
  rw [if_neg c1]
  obtain ⟨v2, e2, _, _⟩ := next_ok l hw hlen (a + 1) s 12 (by omega) (by omega) (by omega) (by omega)
  rw [e2]; simp only [Option.bind_some]
  exact ⟨_, _, rfl, by omega, by omega, by omega⟩
theorem source_ok (l : List Int) (hlen : l.length ≤ 140737488351232) : ∃ s, spec_l1Source.f l = some (l, 0, s) := by
  unfold spec_l1Source.f
  split <;> exact ⟨_, rfl⟩
theorem chance_ok (l : List Int) (hw : ∀ x ∈ l, (Lit.int .u8 x).wf = true) (hlen : l.length ≤ 140737488351232) (a s n : Int) (ha : 0 ≤ a) (ha1 : a ≤ 1000000) (hn : 1 ≤ n) (hn1 : n ≤ 1000) :
    ∃ c, spec_l1Chance.f l a s n = some (c, a + 1, s) := by
  unfold spec_l1Chance.f
  obtain ⟨v, e, _⟩ := next_ok l hw hlen a s n ha ha1 hn hn1
  rw [e]
  exact ⟨_, rfl⟩
theorem drawcompute_ok (l : List Int) (hw : ∀ x ∈ l, (Lit.int .u8 x).wf = true) (hlen : l.length ≤ 140737488351232) :
    ∃ o t x y, spec_DrawCompute.f l = some (o, t, x, y) ∧ 0 ≤ x ∧ x ≤ 4294967295 ∧ 0 ≤ y ∧ y ≤ 4294967295 := by
  unfold spec_DrawCompute.f
  obtain ⟨s, es⟩ := source_ok l hlen
  rw [es]; simp only [Option.bind_some]
  obtain ⟨v1, e1, _⟩ := next_ok l hw hlen 0 s 15 (by omega) (by omega) (by omega) (by omega)
  rw [e1]; simp only [Option.bind_some]
  obtain ⟨c, ec⟩ := chance_ok l hw hlen (0 + 1) s 15 (by omega) (by omega) (by omega) (by omega)
  rw [ec]; simp only [Option.bind_some]
  cases c with
  | true =>
    rw [if_pos rfl]
    obtain ⟨v2, e2, _⟩ := next_ok l hw hlen (0 + 1 + 1) s 32 (by omega) (by omega) (by omega) (by omega)
    rw [e2]; simp only [Option.bind_some]
    obtain ⟨v3, e3, h3, h4⟩ := next_ok l hw hlen (0 + 1 + 1 + 1) s 8 (by omega) (by omega) (by omega) (by omega)
    rw [e3]; simp only [Option.bind_some]
    rw [if_pos h3, if_pos (by simpa using h4)]
    obtain ⟨x, b, ex, hb0, hb1, x0, x1⟩ := word_ok l hw hlen (0 + 1 + 1 + 1 + 1) s (by omega) (by omega)
    rw [ex]; simp only [Option.bind_some]
    obtain ⟨y, b2, ey, _, _, y0, y1⟩ := word_ok l hw hlen b s (by omega) (by omega)
    rw [ey]; simp only [Option.bind_some]
    exact ⟨_, _, _, _, rfl, x0, x1, y0, y1⟩
  | false =>
    rw [if_neg (by decide)]
    obtain ⟨v3, e3, h3, h4⟩ := next_ok l hw hlen (0 + 1 + 1) s 8 (by omega) (by omega) (by omega) (by omega)
    rw [e3]; simp only [Option.bind_some]
    rw [if_pos h3, if_pos (by simpa using h4)]
    obtain ⟨x, b, ex, hb0, hb1, x0, x1⟩ := word_ok l hw hlen (0 + 1 + 1 + 1) s (by omega) (by omega)
    rw [ex]; simp only [Option.bind_some]
    obtain ⟨y, b2, ey, _, _, y0, y1⟩ := word_ok l hw hlen b s (by omega) (by omega)
    rw [ey]; simp only [Option.bind_some]
    exact ⟨_, _, _, _, rfl, x0, x1, y0, y1⟩
theorem w32_in {z : Int} (h0 : 0 ≤ z) (h1 : z ≤ 4294967295) : wrap32 z = if z ≤ 2147483647 then z else z - 4294967296 := by
  unfold wrap32; split <;> omega
theorem w32_modA (z : Int) : wrap32 z % 4294967296 = z % 4294967296 := by unfold wrap32; omega
theorem div_mod_law {x y : Int} {t : Int} (ht : t = 2 ∨ t = 3) (x0 : 0 ≤ x) (x1 : x ≤ 4294967295) (y0 : 0 ≤ y) (y1 : y ≤ 4294967295) (hy : y ≠ 0) :
    (((divT t x y * y) % 4294967296) + remT t x y) % 4294967296 = x := by
  rcases ht with rfl | rfl
  · have hY : wrap32 y ≠ 0 := by unfold wrap32; omega
    have hq : (divT 2 x y) % 4294967296 = (Int.tdiv (wrap32 x) (wrap32 y)) % 4294967296 := by
      unfold divT
      rw [if_pos rfl, if_neg hY]
      by_cases hm : wrap32 y = -1
      · rw [if_pos hm, hm, Int.tdiv_neg, Int.tdiv_one, w32_modA, Int.emod_emod_of_dvd _ (Int.dvd_refl _)]
      · rw [if_neg hm, w32_modA, Int.emod_emod_of_dvd _ (Int.dvd_refl _)]
    have hm : (remT 2 x y) % 4294967296 = (Int.tmod (wrap32 x) (wrap32 y)) % 4294967296 := by
      unfold remT
      rw [if_pos rfl, if_neg hY]
      by_cases hm : wrap32 y = -1
      · rw [if_pos hm, hm, Int.tmod_neg, Int.tmod_one]
      · rw [if_neg hm, Int.emod_emod_of_dvd _ (Int.dvd_refl _)]
    have e : Int.tdiv (wrap32 x) (wrap32 y) * wrap32 y + Int.tmod (wrap32 x) (wrap32 y) = wrap32 x := Int.tdiv_mul_add_tmod _ _
    have h1 : (divT 2 x y * y) % 4294967296 = (Int.tdiv (wrap32 x) (wrap32 y) * wrap32 y) % 4294967296 := by
      rw [Int.mul_emod, hq, ← w32_modA y, ← Int.mul_emod]
    rw [h1, Int.add_emod, hm, Int.emod_emod_of_dvd _ (Int.dvd_refl _), ← Int.add_emod, e, w32_modA]
    omega
  · unfold divT remT
    rw [if_neg (by omega), if_pos rfl, if_neg hy, if_neg (by omega), if_pos rfl, if_neg hy]
    rw [Int.tdiv_eq_ediv_of_nonneg x0, Int.tmod_eq_emod_of_nonneg x0]
    have h1 := Int.ediv_nonneg x0 y0
    have h2 := Int.ediv_le_self y x0
    have e := Int.mul_ediv_add_emod x y
    have h3 := Int.emod_nonneg x hy
    have h4 : 0 ≤ y * (x / y) := Int.mul_nonneg y0 h1
    rw [Int.emod_eq_of_lt h1 (by omega), Int.mul_comm (x / y) y, Int.emod_eq_of_lt h4 (by omega), e]
    omega
theorem xor_self_law (x : Int) (x0 : 0 ≤ x) (x1 : x ≤ 4294967295) : Go.bits .xor .u32 4294967295 (Go.bits .xor .u32 4294967295 x) = x := by
  have hx : ∀ a b : Int, Go.bits .xor .u32 a b = ((BitVec.ofInt 32 a ^^^ BitVec.ofInt 32 b).toNat : Int) := fun a b => by
    have := wrap_u32_bvC (BitVec.ofInt 32 a ^^^ BitVec.ofInt 32 b)
    unfold Go.bits; exact this
  rw [hx, hx]
  have back : ∀ R : BitVec 32, BitVec.ofInt 32 ((R.toNat : Nat) : Int) = R := fun R => by simp
  rw [back, ← BitVec.xor_assoc, BitVec.xor_self, BitVec.zero_xor]
  simp
  omega
theorem xor_and_or (x y : Int) : Go.bits .xor .u32 (Go.bits .and .u32 x y) (Go.bits .or .u32 x y) = Go.bits .xor .u32 x y := by
  have hx : ∀ a b : Int, Go.bits .xor .u32 a b = ((BitVec.ofInt 32 a ^^^ BitVec.ofInt 32 b).toNat : Int) := fun a b => by
    have := wrap_u32_bvC (BitVec.ofInt 32 a ^^^ BitVec.ofInt 32 b)
    unfold Go.bits; exact this
  have ho : Go.bits .or .u32 x y = ((BitVec.ofInt 32 x ||| BitVec.ofInt 32 y).toNat : Int) := by
    have := wrap_u32_bvC (BitVec.ofInt 32 x ||| BitVec.ofInt 32 y)
    unfold Go.bits; exact this
  rw [ho, bits_and_bvC, hx, hx]
  have back : ∀ R : BitVec 32, BitVec.ofInt 32 ((R.toNat : Nat) : Int) = R := fun R => by simp
  rw [back, back]
  congr 2
  apply BitVec.eq_of_getLsbD_eq
  intro i hi
  simp only [BitVec.getLsbD_xor, BitVec.getLsbD_and, BitVec.getLsbD_or]
  cases (BitVec.ofInt 32 x).getLsbD i <;> cases (BitVec.ofInt 32 y).getLsbD i <;> rfl
theorem num_on {t : Int} (ht : t = 2 ∨ t = 3) (v : Int) : onNumbersT t v = v := by unfold onNumbersT; rw [if_pos ht]
theorem eqT_in {t : Int} (ht : t = 2 ∨ t = 3) (x y : Int) : eqT t x y = flagT (x == y) := by unfold eqT; rw [if_pos (by omega)]
theorem order_law {x y : Int} {t : Int} (ht : t = 2 ∨ t = 3) (x0 : 0 ≤ x) (x1 : x ≤ 4294967295) (y0 : 0 ≤ y) (y1 : y ≤ 4294967295) :
    ((((lessT t x y + lessT t y x) % 4294967296) + eqT t x y) % 4294967296) = 1 := by
  have hw : (wrap32 x < wrap32 y ↔ wrap32 x < wrap32 y) ∧ (x = y ↔ wrap32 x = wrap32 y) := ⟨Iff.rfl, by unfold wrap32; omega⟩
  rw [eqT_in ht]
  have f : ∀ p : Prop, [Decidable p] → flagT (decide p) = if p then 1 else 0 := fun p _ => by unfold flagT; by_cases h : p <;> simp [h]
  have g : flagT (x == y) = if x = y then 1 else 0 := by unfold flagT; by_cases h : x = y <;> simp [h]
  rcases ht with rfl | rfl
  · unfold lessT
    rw [if_pos rfl, if_pos rfl, f, f, g]
    by_cases h1 : wrap32 x < wrap32 y
    · rw [if_pos h1, if_neg (by omega), if_neg (by rw [hw.2]; omega)]; rfl
    · by_cases h2 : wrap32 y < wrap32 x
      · rw [if_neg h1, if_pos h2, if_neg (by rw [hw.2]; omega)]; rfl
      · rw [if_neg h1, if_neg h2, if_pos (by rw [hw.2]; omega)]; rfl
  · unfold lessT
    rw [if_neg (by omega), if_pos rfl, if_neg (by omega), if_pos rfl, f, f, g]
    by_cases h1 : x < y
    · rw [if_pos h1, if_neg (by omega), if_neg (by omega)]; rfl
    · by_cases h2 : y < x
      · rw [if_neg h1, if_pos h2, if_neg (by omega)]; rfl
      · rw [if_neg h1, if_neg h2, if_pos (by omega)]; rfl
theorem ar_round (x y t : Int) (ht : t = 2 ∨ t = 3) (x0 : 0 ≤ x) (x1 : x ≤ 4294967295) (y0 : 0 ≤ y) (y1 : y ≤ 4294967295) (k : Nat) :
    laws_FnArithmetic.l0 (k + 2) x y t = laws_FnArithmetic.l0 k x y (t + 1) := by
  have hj : laws_FnArithmetic.j1 (k + 1) x y t false = laws_FnArithmetic.l0 k x y (t + 1) := by
    simp only [laws_FnArithmetic.j1]
    rw [if_neg (by decide)]
    show (if ((((lessT t x y + lessT t y x) % 4294967296) + eqT t x y) % 4294967296) = 1 then laws_FnArithmetic.l0 k x y (wrap64 (t + 1)) else some false) = _
    rw [if_pos (order_law ht x0 x1 y0 y1)]
    have : wrap64 (t + 1) = t + 1 := by unfold wrap64; omega
    rw [this]
  simp only [laws_FnArithmetic.l0]
  rw [if_pos (by omega)]
  show (if onNumbersT t ((onNumbersT t ((x + y) % 4294967296) - y) % 4294967296) = x then _ else _) = _
  rw [num_on ht, num_on ht, if_pos (by omega)]
  by_cases hy : y = 0
  · rw [if_pos hy]
    have hw : wrap32 0 = 0 := by unfold wrap32; omega
    have hq : divT t x y = 0 := by subst hy; unfold divT; rcases ht with rfl | rfl <;> simp [hw]
    have hm : remT t x y = 0 := by subst hy; unfold remT; rcases ht with rfl | rfl <;> simp [hw]
    show (if divT t x y = 0 then laws_FnArithmetic.j1 (k + 1) x y t (remT t x y != 0) else _) = _
    rw [if_pos hq, hm]
    exact hj
  · rw [if_neg hy]
    show (if onNumbersT t ((onNumbersT t ((divT t x y * y) % 4294967296) + remT t x y) % 4294967296) = x then laws_FnArithmetic.j1 (k + 1) x y t false else _) = _
    rw [num_on ht, num_on ht, if_pos (div_mod_law ht x0 x1 y0 y1 hy)]
    exact hj
theorem ar_end (x y : Int) (x0 : 0 ≤ x) (x1 : x ≤ 4294967295) (y0 : 0 ≤ y) (y1 : y ≤ 4294967295) (k : Nat) :
    laws_FnArithmetic.l0 (k + 2) x y 4 = some true := by
  simp only [laws_FnArithmetic.l0]
  rw [if_neg (by omega)]
  show (if Go.bits .xor .u32 (Go.bits .and .u32 x y) (Go.bits .or .u32 x y) = Go.bits .xor .u32 x y then _ else _) = _
  rw [if_pos (xor_and_or x y)]
  show (if Go.bits .xor .u32 4294967295 (Go.bits .xor .u32 4294967295 x) = x then _ else _) = _
  rw [if_pos (xor_self_law x x0 x1)]
  have h31 : Go.bits .and .u32 32 31 = 0 := by decide
  show (if (x * 2 ^ (Go.bits .and .u32 32 31).toNat) % 4294967296 = x then _ else _) = _
  rw [h31, if_pos (by simp; omega)]
  show (if (-x) % 4294967296 = (0 - x) % 4294967296 then _ else _) = _
  rw [if_pos (by rw [Int.zero_sub])]
  show (if (0 : Int) = 0 then ((impl_Convert.f (k + 1) 2 1 x).bind fun t241 => some (t241 == flagT (eqT 3 x 0 == 0))) else some false) = _
  rw [if_pos rfl]
  have hc : impl_Convert.f (k + 1) 2 1 x = some (flagT (eqT 3 x 0 == 0)) := by
    have e : eqT 3 x 0 = flagT (x == 0) := eqT_in (Or.inr rfl) x 0
    rw [e]
    show (impl_flag.f (x != 0)).bind _ = _
    rw [flag_f]
    by_cases h : x = 0
    · subst h; rfl
    · have h1 : (x == 0) = false := by simpa using h
      have h2 : (x != 0) = true := by simpa using h
      rw [h1, h2]; rfl
  rw [hc]
  simp
theorem FnArithmetic : laws_FnArithmetic.Pure := by
  intro l _ hlen hw
  refine ⟨6, ?_⟩
  unfold laws_FnArithmetic.f
  split
  · rfl
  · obtain ⟨o, t, x, y, e, x0, x1, y0, y1⟩ := drawcompute_ok l hw (by omega)
    rw [e]
    show laws_FnArithmetic.l0 6 x y 2 = some true
    rw [ar_round x y 2 (Or.inl rfl) x0 x1 y0 y1 4, show (2 : Int) + 1 = 3 from rfl, ar_round x y 3 (Or.inr rfl) x0 x1 y0 y1 2]
    exact ar_end x y x0 x1 y0 y1 0

end Go.Proofs.Ytlnlbncinjiinaa.Pure
