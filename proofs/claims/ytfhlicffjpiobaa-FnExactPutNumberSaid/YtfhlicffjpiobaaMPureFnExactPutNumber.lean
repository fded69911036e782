/- Proved: the pure statement of the law FnExactPutNumber (over numbers and lists); no condition beside those of the statement. -/
import Derived.Test.YtfhlicffjpiobaaMFnExactPutNumberx2
namespace Go.Proofs.Ytfhlicffjpiobaa.Pure
open Go.RowKit Go.Proofs.Ytfhlicffjpiobaa.MFnExactPutNumber Go.Proofs.YtfhlicffjpiobaaW.PrintWords Go.Proofs.YtfhlicffjpiobaaW.PrintLast

-- BODY
set_option linter.unusedVariables false
set_option linter.unusedSimpArgs false
theorem wf_i64 {a : Int} (h : (Lit.int .i64 a).wf = true) : -9223372036854775808 ≤ a ∧ a ≤ 9223372036854775807 := by
  simpa [Lit.wf, IntKind.min, IntKind.max, IntKind.signed, IntKind.bits] using h
theorem wf_u32 {a : Int} (h : (Lit.int .u32 a).wf = true) : 0 ≤ a ∧ a ≤ 4294967295 := by
  simpa [Lit.wf, IntKind.min, IntKind.max, IntKind.signed, IntKind.bits] using h
theorem wf_u8 {a : Int} (h : (Lit.int .u8 a).wf = true) : 0 ≤ a ∧ a ≤ 255 := by
  simpa [Lit.wf, IntKind.min, IntKind.max, IntKind.signed, IntKind.bits] using h
theorem w64 {a : Int} (h0 : -9223372036854775808 ≤ a) (h1 : a ≤ 9223372036854775807) : wrap64 a = a := by unfold wrap64; omega
theorem wrap_u64_eq (a : Int) : IntKind.u64.wrap a = a % 18446744073709551616 := by simp [IntKind.wrap, IntKind.bits, IntKind.signed]
theorem wu64 {a : Int} (h0 : 0 ≤ a) (h1 : a ≤ 18446744073709551615) : IntKind.u64.wrap a = a := by rw [wrap_u64_eq]; omega
theorem wraps_u64 (n : Int) (h0 : 0 ≤ n) (h1 : n < 2 ^ 64) : IntKind.u64.wrap n = n := wu64 h0 (by omega)
theorem bits_or_comm (k : IntKind) (x y : Int) : Go.bits .or k x y = Go.bits .or k y x := by
  simp only [Go.bits]; rw [BitVec.or_comm]
theorem rd_mem {l : List Int} {P : Int → Prop} (h : ∀ x ∈ l, P x) (i : Int) (h1 : i.toNat < l.length) : P (rd l i) := by
  unfold rd; rw [List.getD_eq_getElem?_getD, List.getElem?_eq_getElem h1]; exact h _ (List.getElem_mem h1)
theorem eqB_l0 (l : List Int) (hn : l.length ≤ 140737488351232) (d : Nat) : ∀ (k i : Nat), i + d = l.length → d < k → laws_eqByteS.l0 k l l (i : Int) = some true := by
  induction d with
  | zero =>
    intro k i hi hk
    obtain ⟨k, rfl⟩ : ∃ m, k = m + 1 := ⟨k - 1, by omega⟩
    simp only [laws_eqByteS.l0]; rw [if_neg (by omega)]
  | succ d ih =>
    intro k i hi hk
    obtain ⟨k, rfl⟩ : ∃ m, k = m + 1 := ⟨k - 1, by omega⟩
    simp only [laws_eqByteS.l0]; rw [if_pos (by omega), if_pos (by omega), if_pos (by omega)]
    rw [w64 (by omega) (by omega)]
    exact ih k (i + 1) (by omega) (by omega)
theorem eqB_f (l : List Int) (hn : l.length ≤ 140737488351232) (k : Nat) (hk : l.length < k) : laws_eqByteS.f k l l = some true := by
  unfold laws_eqByteS.f
  rw [if_pos rfl]
  exact eqB_l0 l hn l.length k 0 (by omega) hk
def mkB (c : Int) (n : Nat) : List Int := (List.range n).map fun (i : Nat) => (c + (i : Int)) % 256
theorem mkB_len (c : Int) (n : Nat) : (mkB c n).length = n := by simp [mkB]
theorem mkB_at (c : Int) (n i : Nat) (h : i < n) : (mkB c n)[i]'(by simpa [mkB] using h) = (c + i) % 256 := by simp [mkB]
theorem markB_l0 (c : Int) (n : Nat) (hc : 0 ≤ c) (hc1 : c ≤ 140737488351232) (hn : n ≤ 140737488351232) (d : Nat) : ∀ (k i : Nat) (o : List Int), i + d = n → o.length = n → o.take i = (mkB c n).take i → d < k → laws_markByteS.l0 k o (c + i) (i : Int) = some (c + n, mkB c n) := by
  induction d with
  | zero =>
    intro k i o hi ho ht hk
    obtain ⟨k, rfl⟩ : ∃ m, k = m + 1 := ⟨k - 1, by omega⟩
    obtain rfl : i = n := by omega
    simp only [laws_markByteS.l0]; rw [if_neg (by omega)]
    rw [List.take_of_length_le (by omega), List.take_of_length_le (by rw [mkB_len]; omega)] at ht
    rw [ht]
  | succ d ih =>
    intro k i o hi ho ht hk
    obtain ⟨k, rfl⟩ : ∃ m, k = m + 1 := ⟨k - 1, by omega⟩
    simp only [laws_markByteS.l0]; rw [if_pos (by omega), if_pos (by omega)]
    rw [w64 (by omega) (by omega), w64 (by omega) (by omega)]
    have e : c + (i : Int) + 1 = c + ((i + 1 : Nat) : Int) := by omega
    rw [e]
    refine ih k (i + 1) _ (by omega) (by simpa using ho) ?_ (by omega)
    simp only [Int.toNat_natCast]
    rw [List.take_succ_eq_append_getElem (by simp; omega), List.take_succ_eq_append_getElem (by rw [mkB_len]; omega)]
    rw [List.take_set_of_le (by omega), ht, mkB_at c n i (by omega)]
    simp
theorem markB_f (l : List Int) (c : Int) (hc : 0 ≤ c) (hc1 : c ≤ 140737488351232) (hn : l.length ≤ 140737488351232) (k : Nat) (hk : l.length < k) : laws_markByteS.f k l c = some (c + l.length, mkB c l.length) := by
  unfold laws_markByteS.f
  have := markB_l0 c l.length hc hc1 hn l.length k 0 l (by omega) rfl (by simp) hk
  simpa using this
theorem heldB_l0 (c : Int) (n : Nat) (hc : 0 ≤ c) (hc1 : c ≤ 140737488351232) (hn : n ≤ 140737488351232) (d : Nat) : ∀ (k i : Nat), i + d = n → d < k → laws_heldByteS.l0 k (mkB c n) (c + i) (i : Int) = some (c + n) := by
  induction d with
  | zero =>
    intro k i hi hk
    obtain ⟨k, rfl⟩ : ∃ m, k = m + 1 := ⟨k - 1, by omega⟩
    obtain rfl : i = n := by omega
    simp only [laws_heldByteS.l0]; rw [if_neg (by rw [mkB_len]; omega)]
  | succ d ih =>
    intro k i hi hk
    obtain ⟨k, rfl⟩ : ∃ m, k = m + 1 := ⟨k - 1, by omega⟩
    simp only [laws_heldByteS.l0]; rw [if_pos (by rw [mkB_len]; omega), if_pos (by omega)]
    have e1 : rd (mkB c n) (i : Int) = (c + i) % 256 := by
      unfold rd; rw [List.getD_eq_getElem?_getD, Int.toNat_natCast, List.getElem?_eq_getElem (by rw [mkB_len]; omega)]
      simp [mkB_at c n i (by omega)]
    rw [if_pos e1, w64 (by omega) (by omega), w64 (by omega) (by omega)]
    have e : c + (i : Int) + 1 = c + ((i + 1 : Nat) : Int) := by omega
    rw [e]
    exact ih k (i + 1) (by omega) (by omega)
theorem heldB_f (c : Int) (n : Nat) (hc : 0 ≤ c) (hc1 : c ≤ 140737488351232) (hn : n ≤ 140737488351232) (k : Nat) (hk : n < k) : laws_heldByteS.f k (mkB c n) c = some (c + n) := by
  unfold laws_heldByteS.f
  have := heldB_l0 c n hc hc1 hn n k 0 (by omega) hk
  simpa using this
def pnAt (v : Int) (i : Nat) : Int := (shr .u64 v (8 * (i : Int))) % 256
def pnL (v : Int) (n : Nat) : List Int := (List.range n).map (pnAt v)
theorem pnL_len (v : Int) (n : Nat) : (pnL v n).length = n := by simp [pnL]
theorem pnL_succ (v : Int) (n : Nat) : pnL v (n + 1) = pnL v n ++ [pnAt v n] := by simp [pnL, List.range_succ]
theorem spec_put_l0 (v n : Nat) (a : Int) (hv : IntKind.u64.wrap a = v) (hn : n ≤ 8) (d : Nat) : ∀ (k i : Nat), i + d = n → d < k → spec_PutNumber.l0 k a n (pnL v i) i = some (pnL v n) := by
  induction d with
  | zero =>
    intro k i hi hk
    obtain ⟨k, rfl⟩ : ∃ m, k = m + 1 := ⟨k - 1, by omega⟩
    obtain rfl : i = n := by omega
    simp only [spec_PutNumber.l0]; rw [if_neg (by omega)]
  | succ d ih =>
    intro k i hi hk
    obtain ⟨k, rfl⟩ : ∃ m, k = m + 1 := ⟨k - 1, by omega⟩
    simp only [spec_PutNumber.l0]; rw [if_pos (by omega), wu64 (a := (i : Int)) (by omega) (by omega), wu64 (a := 8 * (i : Int)) (by omega) (by omega), if_pos (by omega), if_pos (by rw [pnL_len]; omega), hv, w64 (by omega) (by omega)]
    have := ih k (i + 1) (by omega) (by omega)
    rw [pnL_succ] at this
    exact this
theorem impl_put_l0 (v n : Nat) (hn : n ≤ 8) (d : Nat) : ∀ (k i : Nat) (o : List Int), i + d = n → o.length = n → o.take i = (pnL v n).take i → d < k → impl_lowFirst_uint64.l0 k v o n i = some (pnL v n) := by
  induction d with
  | zero =>
    intro k i o hi ho ht hk
    obtain ⟨k, rfl⟩ : ∃ m, k = m + 1 := ⟨k - 1, by omega⟩
    obtain rfl : i = n := by omega
    simp only [impl_lowFirst_uint64.l0]; rw [if_neg (by omega)]
    rw [List.take_of_length_le (by omega), List.take_of_length_le (by rw [pnL_len]; omega)] at ht
    rw [ht]
  | succ d ih =>
    intro k i o hi ho ht hk
    obtain ⟨k, rfl⟩ : ∃ m, k = m + 1 := ⟨k - 1, by omega⟩
    simp only [impl_lowFirst_uint64.l0]
    rw [w64 (a := 8 * (i : Int)) (by omega) (by omega), w64 (a := (i : Int) + 1) (by omega) (by omega), if_pos (by omega), if_pos (by omega), if_pos (by omega), if_pos (by omega)]
    refine ih k (i + 1) _ (by omega) (by simpa using ho) ?_ (by omega)
    simp only [Int.toNat_natCast]
    rw [List.take_succ_eq_append_getElem (by simp; omega), List.take_succ_eq_append_getElem (by rw [pnL_len]; omega)]
    rw [List.take_set_of_le (by omega), ht]
    simp [pnL, pnAt]
theorem put_same (a n : Int) (hn : (Lit.int .i64 n).wf = true) (k : Nat) (hk : 12 ≤ k) :
    ∃ l : List Int, l.length ≤ 8 ∧ spec_PutNumber.f k a n = some l ∧ impl_PutNumber.f k a n = some l ∧ (l = [] ∨ (1 ≤ n ∧ n ≤ 8 ∧ l = pnL (IntKind.u64.wrap a) n.toNat)) ∧ (1 ≤ n → n ≤ 8 → l = pnL (IntKind.u64.wrap a) n.toNat) := by
  obtain ⟨k, rfl⟩ : ∃ m, k = m + 1 := ⟨k - 1, by omega⟩
  have h2 := wf_i64 hn
  unfold spec_PutNumber.f impl_PutNumber.f
  simp only [Option.bind_some]
  by_cases c1 : n < 1
  · exact ⟨[], by simp, by rw [if_pos c1]; simp only [spec_PutNumber.j0]; rfl, by rw [if_pos c1], .inl rfl, fun h => by omega⟩
  by_cases c2 : n > 8
  · have : decide (n > 8) = true := by simpa using c2
    exact ⟨[], by simp, by rw [if_neg c1, this]; simp only [spec_PutNumber.j0]; rfl, by rw [if_neg c1, if_pos c2], .inl rfl, fun h h' => by omega⟩
  have e2 : decide (n > 8) = false := by simpa using c2
  obtain ⟨m, rfl⟩ : ∃ m : Nat, n = m := ⟨n.toNat, by omega⟩
  obtain ⟨v, hv⟩ : ∃ v : Nat, IntKind.u64.wrap a = v := ⟨(IntKind.u64.wrap a).toNat, by rw [wrap_u64_eq]; omega⟩
  rw [if_neg c1, if_neg c1, if_neg c2, e2, hv]
  have hm : m ≤ 8 := by omega
  refine ⟨pnL v m, by rw [pnL_len]; omega, ?_, ?_, .inr ⟨by omega, by omega, by simp⟩, fun _ _ => by simp⟩
  · simp only [spec_PutNumber.j0, Bool.false_eq_true, if_false]
    have := spec_put_l0 v m a hv hm m k 0 (by omega) (by omega)
    simpa [pnL] using this
  · unfold impl_lowFirst_uint64.f
    rw [if_pos (by omega), if_pos (by omega)]
    simp only [Option.bind_some, List.length_replicate, Int.toNat_natCast]
    have := impl_put_l0 v m hm m (k + 1) 0 (List.replicate m 0) (by omega) (by simp) (by simp) (by omega)
    simp only [Int.natCast_zero] at this
    rw [this]; rfl
theorem FnExactPutNumber : laws_FnExactPutNumber.Pure := by
  intro a n ha hn
  obtain ⟨l, h8, h1, h2, _, _⟩ := put_same a n hn 20 (by omega)
  refine ⟨20, ?_⟩
  unfold laws_FnExactPutNumber.f
  rw [h1, h2]
  simp only [Option.bind_some]
  rw [eqB_f l (by omega) 20 (by omega), markB_f l 1 (by omega) (by omega) (by omega) 20 (by omega)]
  simp only [Option.bind_some, if_true]
  rw [heldB_f 1 l.length (by omega) (by omega) (by omega) 20 (by omega)]
  simp only [Option.bind_some, if_true]
  rw [if_neg (by omega)]
  simp
  omega

end Go.Proofs.Ytfhlicffjpiobaa.Pure
