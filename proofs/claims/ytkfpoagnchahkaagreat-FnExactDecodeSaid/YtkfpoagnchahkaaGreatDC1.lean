/- Of this session: over the abstract machine. -/
import Derived.Test.YtkfpoagnchahkaaGreatProg
import Derived.Test.YtkfpoagnchahkaaGreatA
import Derived.Test.YtkfpoagnchahkaaGreatB
import Derived.Test.YtkfpoagnchahkaaGreatD
import Derived.Test.YtkfpoagnchahkaaGreatT
import Derived.Test.YtkfpoagnchahkaaGreatO
import Derived.Test.YtkfpoagnchahkaaGreatOT
import Derived.Test.YtkfpoagnchahkaaGreatP1
import Derived.Test.YtkfpoagnchahkaaGreatP2
import Derived.Test.YtkfpoagnchahkaaGreatP3
import Derived.Test.YtkfpoagnchahkaaGreatP4
import Derived.Test.YtkfpoagnchahkaaGreatP5
import Derived.Test.YtkfpoagnchahkaaGreatDC0
namespace Go.Proofs.YtkfpoagnchahkaaGreat.A
open Go Go.RowKit
set_option linter.unusedVariables false
set_option linter.unusedSimpArgs false
set_option maxRecDepth 100000
set_option maxHeartbeats 1000000
/-! ### GetNumber -/
theorem leNum_nat : ∀ {l : List Int}, okB l → ∃ n : Nat, leNum l = n ∧ n < 2 ^ (8 * l.length)
  | [], _ => ⟨0, rfl, by simp⟩
  | b :: l, h => by
    obtain ⟨m, h1, h2⟩ := leNum_nat (l := l) (fun x hx => h x (List.mem_cons_of_mem _ hx))
    obtain ⟨hb0, hb1⟩ := h b List.mem_cons_self
    refine ⟨b.toNat + 256 * m, ?_, ?_⟩
    · show b + 256 * leNum l = _
      rw [h1]; omega
    · rw [List.length_cons, Nat.mul_succ, Nat.pow_add]
      have : b.toNat ≤ 255 := by omega
      have e : 2 ^ 8 = 256 := rfl
      rw [e]
      have h3 : m + 1 ≤ 2 ^ (8 * l.length) := h2
      have h4 := Nat.mul_le_mul_right 256 h3
      omega
theorem leNum_app : ∀ (l : List Int) (b : Int), leNum (l ++ [b]) = leNum l + b * 2 ^ (8 * l.length)
  | [], b => by simp [leNum]
  | a :: l, b => by
    show a + 256 * leNum (l ++ [b]) = a + 256 * leNum l + b * 2 ^ (8 * (a :: l).length)
    rw [leNum_app l b, List.length_cons, Nat.mul_succ, Int.pow_add]
    have e : (2 : Int) ^ 8 = 256 := rfl
    rw [e, Int.mul_add, Int.add_assoc]
    congr 2
    rw [← Int.mul_assoc, Int.mul_comm 256 b, Int.mul_assoc, Int.mul_comm 256]
theorem orI_nat {a b : Nat} (ha : a < 18446744073709551616) (hb : b < 18446744073709551616) : orI .u64 (a : Int) (b : Int) = ((a ||| b : Nat) : Int) := by
  unfold orI
  rw [show IntKind.u64.bits = 64 from rfl, BitVec.ofInt_natCast, BitVec.ofInt_natCast, BitVec.toNat_or, BitVec.toNat_ofNat, BitVec.toNat_ofNat, Nat.mod_eq_of_lt (by simpa using ha), Nat.mod_eq_of_lt (by simpa using hb)]
  have h := Nat.or_lt_two_pow (n := 64) (by simpa using ha) (by simpa using hb)
  exact wu64 (by omega) (by omega)
/-- a byte above what is there -/
theorem or_high {a b i : Nat} (ha : a < 2 ^ i) : a ||| (b * 2 ^ i) = a + b * 2 ^ i := by
  have := Nat.shiftLeft_add_eq_or_of_lt ha b
  rw [Nat.shiftLeft_eq] at this
  rw [Nat.or_comm, ← this, Nat.add_comm]
theorem num_eq {bs : List Int} {at' n : Nat} (h : at' + n ≤ bs.length) : gtN n (bs.drop at') = some (IntKind.i64.wrap (leNum ((bs.drop at').take n)), bs.drop (at' + n)) := by
  unfold gtN
  rw [if_pos (by rw [List.length_drop]; omega), List.drop_drop]
theorem num_none {bs : List Int} {at' n : Nat} (ha : at' ≤ bs.length) (h : bs.length < at' + n) : gtN n (bs.drop at') = none := by
  unfold gtN
  rw [if_neg (by rw [List.length_drop]; omega)]
/-- the step of the loop that sets a byte above what is there -/
theorem or_step {m i : Nat} {x : Int} (hm : m < 2 ^ (8 * i)) (hi : i < 8) (hx : 0 ≤ x ∧ x ≤ 255) : orI .u64 (m : Int) (IntKind.u64.wrap (IntKind.u64.wrap x * 2 ^ min (IntKind.u64.wrap (8 * IntKind.u64.wrap (i : Int))).toNat IntKind.u64.bits)) = (m : Int) + x * 2 ^ (8 * i) := by
  obtain ⟨b, rfl⟩ := Int.eq_ofNat_of_zero_le hx.1
  have e1 : min (8 * (i : Int)).toNat IntKind.u64.bits = 8 * i := by rw [show IntKind.u64.bits = 64 from rfl]; omega
  rw [wu64 (n := (b : Int)) (by omega) (by omega), wu64 (n := (i : Int)) (by omega) (by omega), wu64 (n := 8 * (i : Int)) (by omega) (by omega), e1]
  have hp : 2 ^ (8 * i) ≤ 2 ^ 56 := Nat.pow_le_pow_right (by omega) (by omega)
  have hbp : b * 2 ^ (8 * i) ≤ 255 * 2 ^ 56 := Nat.mul_le_mul (by omega) hp
  have e2 : ((b : Int) * 2 ^ (8 * i)) = ((b * 2 ^ (8 * i) : Nat) : Int) := by simp
  have hn : (255 * 2 ^ 56 : Nat) = 18374686479671623680 := by decide
  have hn2 : (2 ^ 56 : Nat) = 72057594037927936 := by decide
  rw [e2, wu64 (by omega) (by omega), orI_nat (by omega) (by omega), or_high hm]
  simp
/-- what GetNumber tells -/
def numV (o : Option (Int × List Int)) : AVal := match o with | some x => .agg [tt, i64 x.1] | none => .agg [ff, i64 0]
theorem S_specGet {bs : List Int} {a n : Nat} {h : AHeap} {Q : KA} (hl : bs.length ≤ 1099511627776) (hw : okB bs) (ha : a ≤ bs.length) (hn : 1 ≤ n ∧ n ≤ 8) (hq : Q (numV (gtN n (bs.drop a))) h) : @clM Tryz.prog 54 [encL u8 bs, i64 a, i64 n] h ⟨Q⟩ := by
  refine cl_wk ?_
  refine cl_of fn_spec_GetNumber (D_spec_GetNumber_of ?_)
  unfold D_spec_GetNumber
  simp [↓go]
  intro g
  refine jn_cut (fun s h' => h' = h ++ [.row g 2 [.agg [ff, i64 0]]] ∧ s = [.pt h.length g 0 0, i64 a, encL u8 bs, i64 n, bl (decide (bs.length < a + n))]) ?_ ?_
  · simp [↓go]
    refine ⟨fun hh => by omega, fun _ => ⟨fun hh => by omega, fun _ => ⟨fun hh => by omega, ?_⟩⟩⟩
    rw [w64 (n := (bs.length : Int) - n) (by omega) (by omega)]
    refine wk_ex ⟨rfl, ?_⟩
    have e : decide ((bs.length : Int) - n < a) = decide (bs.length < a + n) := by
      by_cases hh : bs.length < a + n
      · rw [decide_eq_true hh, decide_eq_true]; omega
      · rw [decide_eq_false hh, decide_eq_false]; omega
    rw [e]
  rintro _ _ ⟨rfl, rfl⟩
  by_cases hb : bs.length < a + n
  · rw [num_none ha hb] at hq
    simp [↓go, hb]
    exact retW_ex (Wk.drop (Wk.refl hq))
  · rw [num_eq (by omega)] at hq
    simp [↓go, hb]
    have hTl : (bs.drop a).length = bs.length - a := by simp
    refine lp_inv (fun s h' => h' = h ++ [.row g 2 [.agg [ff, i64 0]]] ∧ ∃ i : Nat, i ≤ n ∧ s = [.pt h.length g 0 0, u64 (leNum ((bs.drop a).take i)), i64 i, i64 a, encL u8 bs, i64 n]) (fun s _ => n - natA (nthA s 2)) (Wk.refl ⟨rfl, 0, by omega, rfl⟩) ?_
    rintro _ _ ⟨rfl, i, hi, rfl⟩
    simp [↓go]
    refine ⟨fun hlt => ?_, fun hge => ?_⟩
    · obtain ⟨x, hx⟩ : ∃ x, bs[a + i]? = some x := ⟨_, List.getElem?_eq_getElem (by omega)⟩
      obtain ⟨hxl0, hxl⟩ := List.getElem?_eq_some_iff.1 hx
      have hxb := hw x (List.mem_of_getElem? hx)
      have htk : (bs.drop a).take (i + 1) = (bs.drop a).take i ++ [x] := by
        rw [List.take_add_one, List.getElem?_drop, hx]; rfl
      have hokT : okB ((bs.drop a).take i) := fun y hy => hw y (List.mem_of_mem_drop (List.mem_of_mem_take hy))
      obtain ⟨m, hm1, hm2⟩ := leNum_nat hokT
      have hli : ((bs.drop a).take i).length = i := by simp; omega
      have hap := leNum_app ((bs.drop a).take i) x
      rw [hli] at hm2 hap
      rw [← htk, hm1] at hap
      rw [hm1]
      have ht : ((a : Int) + i).toNat = a + i := by omega
      rw [w64 (n := (a : Int) + i) (by omega) (by omega)]
      simp [↓go, ht, hx, hxl, hxl0]
      rw [or_step hm2 (by omega) hxb, ← hap, w64 (n := (i : Int) + 1) (by omega) (by omega)]
      have hnn : 0 ≤ IntKind.u64.wrap (8 * IntKind.u64.wrap (i : Int)) := by
        rw [wu64 (n := (i : Int)) (by omega) (by omega), wu64 (n := 8 * (i : Int)) (by omega) (by omega)]; omega
      exact ⟨by omega, by omega, hnn, wk_ex ⟨⟨rfl, i + 1, by omega, rfl⟩, by simp; omega⟩⟩
    · obtain rfl : n = i := by omega
      exact retW_ex (Wk.drop (Wk.refl hq))
/-- the step of the loop that sets a byte below what is there -/
theorem or_low {m j : Nat} {x : Int} (hm : m < 2 ^ (8 * j)) (hj : j < 8) (hx : 0 ≤ x ∧ x ≤ 255) : orI .u64 (IntKind.u64.wrap ((m : Int) * 2 ^ min 8 IntKind.u64.bits)) (IntKind.u64.wrap x) = x + 256 * (m : Int) := by
  obtain ⟨b, rfl⟩ := Int.eq_ofNat_of_zero_le hx.1
  have e1 : min 8 IntKind.u64.bits = 8 := rfl
  have hp : 2 ^ (8 * j) ≤ 2 ^ 56 := Nat.pow_le_pow_right (by omega) (by omega)
  have hn2 : (2 ^ 56 : Nat) = 72057594037927936 := by decide
  have e2 : ((m : Int) * 2 ^ 8) = ((m * 2 ^ 8 : Nat) : Int) := by simp
  rw [e1, e2, wu64 (n := (b : Int)) (by omega) (by omega), wu64 (by omega) (by omega), orI_nat (by omega) (by omega), Nat.or_comm, or_high (i := 8) (by omega)]
  omega
theorem S_implGet {bs : List Int} {a n : Nat} {h : AHeap} {Q : KA} (hl : bs.length ≤ 1099511627776) (hw : okB bs) (ha : a ≤ bs.length) (hn : 1 ≤ n ∧ n ≤ 8) (hq : Q (numV (gtN n (bs.drop a))) h) : @clM Tryz.prog 56 [encL u8 bs, i64 a, i64 n] h ⟨Q⟩ := by
  refine cl_wk ?_
  refine cl_of fn_impl_GetNumber (D_impl_GetNumber_of ?_)
  unfold D_impl_GetNumber
  simp [↓go]
  intro g
  refine jn_cut (fun s h' => h' = h ++ [.row g 2 [.agg [ff, i64 0]]] ∧ s = [.pt h.length g 0 0, i64 a, encL u8 bs, i64 n, bl (decide (bs.length < a + n))]) ?_ ?_
  · simp [↓go]
    refine ⟨fun hh => by omega, fun _ => ⟨fun hh => by omega, fun _ => ⟨fun hh => by omega, fun hh => by omega, fun _ => ?_⟩⟩⟩
    rw [w64 (n := (bs.length : Int) - a) (by omega) (by omega)]
    refine wk_ex ⟨rfl, ?_⟩
    have e : decide ((bs.length : Int) - a < n) = decide (bs.length < a + n) := by
      by_cases hh : bs.length < a + n
      · rw [decide_eq_true hh, decide_eq_true]; omega
      · rw [decide_eq_false hh, decide_eq_false]; omega
    rw [e]
  rintro _ _ ⟨rfl, rfl⟩
  by_cases hb : bs.length < a + n
  · rw [num_none ha hb] at hq
    simp [↓go, hb]
    exact retW_ex (Wk.drop (Wk.refl hq))
  · rw [num_eq (by omega)] at hq
    simp [↓go, hb]
    rw [w64 (n := (n : Int) - 1) (by omega) (by omega)]
    refine lp_inv (fun s h' => h' = h ++ [.row g 2 [.agg [ff, i64 0]]] ∧ ∃ i : Nat, i ≤ n ∧ s = [.pt h.length g 0 0, u64 (leNum (((bs.drop a).take n).drop i)), i64 ((i : Int) - 1), i64 a, encL u8 bs]) (fun s _ => natA (nthA s 2) + (match nthA s 2 with | .v (.int _ k) => if k < 0 then 0 else 1 | _ => 0)) (Wk.refl ⟨rfl, n, by omega, by rw [List.drop_eq_nil_of_le (by simp; omega)]; rfl⟩) ?_
    rintro _ _ ⟨rfl, i, hi, rfl⟩
    simp [↓go]
    refine ⟨fun hlt => ?_, fun hge => ?_⟩
    · obtain ⟨j, rfl⟩ : ∃ j, i = j + 1 := ⟨i - 1, by omega⟩
      obtain ⟨x, hx⟩ : ∃ x, bs[a + j]? = some x := ⟨_, List.getElem?_eq_getElem (by omega)⟩
      obtain ⟨hxl0, hxl⟩ := List.getElem?_eq_some_iff.1 hx
      have hxb := hw x (List.mem_of_getElem? hx)
      have hxt : ((bs.drop a).take n)[j]? = some x := by rw [List.getElem?_take, if_pos (by omega), List.getElem?_drop]; exact hx
      have hdr : ((bs.drop a).take n).drop j = x :: ((bs.drop a).take n).drop (j + 1) := by
        obtain ⟨h1, h2⟩ := List.getElem?_eq_some_iff.1 hxt
        rw [List.drop_eq_getElem_cons h1, h2]
      have hokT : okB (((bs.drop a).take n).drop (j + 1)) := fun y hy => hw y (List.mem_of_mem_drop (List.mem_of_mem_take (List.mem_of_mem_drop hy)))
      obtain ⟨m, hm1, hm2⟩ := leNum_nat hokT
      have hli : (((bs.drop a).take n).drop (j + 1)).length = n - (j + 1) := by simp; omega
      rw [hli] at hm2
      have hle : leNum (((bs.drop a).take n).drop j) = x + 256 * (m : Int) := by rw [hdr]; show x + 256 * leNum _ = _; rw [hm1]
      rw [hm1]
      have ej : (((j + 1 : Nat) : Int) - 1) = j := by omega
      have ht : ((a : Int) + j).toNat = a + j := by omega
      rw [ej, w64 (n := (a : Int) + j) (by omega) (by omega), ht]
      simp only [hx, Option.map_some, Option.getD_some]
      simp [↓go]
      rw [or_low hm2 (by omega) hxb, ← hle, w64 (n := (j : Int) - 1) (by omega) (by omega)]
      refine ⟨by omega, by omega, wk_ex ⟨⟨rfl, j, by omega, rfl⟩, ?_⟩⟩
      simp
      split <;> split <;> omega
    · obtain rfl : i = 0 := by omega
      rw [List.drop_zero]
      exact retW_ex (Wk.drop (Wk.refl hq))
end Go.Proofs.YtkfpoagnchahkaaGreat.A
