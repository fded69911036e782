/- Of this session: over the abstract machine. -/
import Derived.Test.YtkfpoagnchahkaaGreatProg
import Derived.Test.YtkfpoagnchahkaaGreatA
import Derived.Test.YtkfpoagnchahkaaGreatB
import Derived.Test.YtkfpoagnchahkaaGreatD
import Derived.Test.YtkfpoagnchahkaaGreatT
import Derived.Test.YtkfpoagnchahkaaGreatO
import Derived.Test.YtkfpoagnchahkaaGreatOT
import Derived.Test.YtkfpoagnchahkaaGreatP1
import Derived.Test.YtkfpoagnchahkaaGreatP2
import Derived.Test.YtkfpoagnchahkaaGreatP3
import Derived.Test.YtkfpoagnchahkaaGreatP4
import Derived.Test.YtkfpoagnchahkaaGreatP5
import Derived.Test.YtkfpoagnchahkaaGreatEN0
import Derived.Test.YtkfpoagnchahkaaGreatEN1
namespace Go.Proofs.YtkfpoagnchahkaaGreat.A
open Go Go.RowKit
set_option linter.unusedVariables false
set_option linter.unusedSimpArgs false
set_option maxRecDepth 100000
set_option maxHeartbeats 1000000
def lowV (v : Int) (n k : Nat) : List AVal := (List.range n).map fun i => u8 (if i < k then byteAt v i else 0)
theorem lowV_len (v : Int) (n k : Nat) : (lowV v n k).length = n := by simp [lowV]
theorem lowV_zero (v : Int) (n : Nat) : lowV v n 0 = List.replicate n (u8 0) := by
  unfold lowV
  apply List.ext_getElem?
  intro i
  by_cases hi : i < n <;> simp [hi, List.getElem?_replicate]
theorem lowV_all (v : Int) (n : Nat) : lowV v n n = (putB v n).map u8 := by
  unfold lowV putB
  rw [List.map_map]
  apply List.map_congr_left
  intro i hi
  rw [if_pos (List.mem_range.1 hi)]; rfl
theorem lowV_set {v : Int} {n k : Nat} (h : k < n) : (lowV v n k).set k (u8 (byteAt v k)) = lowV v n (k + 1) := by
  apply List.ext_getElem?
  intro i
  rw [List.getElem?_set, lowV_len]
  unfold lowV
  by_cases hi : i < n
  · by_cases e : k = i
    · subst e; simp [h]
    · by_cases h2 : i < k
      · simp [e, h2, hi, show i < k + 1 by omega]
      · simp [e, h2, hi, show ¬ i < k + 1 by omega]
  · simp [hi]; intro e; omega
theorem O_lowFirst {v : Int} {n : Nat} {h : AHeap} {Q : KA} (hn : 1 ≤ n ∧ n ≤ 8) (q : ∀ y l, Made h y (encL u8 (putB v n)) l → Q y (h ++ l)) : @clM Tryz.prog 131 [u64 (IntKind.u64.wrap v), i64 n] h ⟨Q⟩ := by
  refine cl_of fn_impl_lowFirst_uint64 (D_impl_lowFirst_uint64_of ?_)
  unfold D_impl_lowFirst_uint64
  simp [↓go]
  refine ⟨by omega, by omega, fun g => ?_⟩
  refine lp_inv (fun s h' => ∃ k : Nat, k ≤ n ∧ h' = h ++ [.row g 1 (lowV v n k)] ∧ s = [.rf h.length g 0 n, i64 k, u64 (IntKind.u64.wrap v), i64 n]) (fun s _ => n - natA (nthA s 1)) (Wk.refl ⟨0, by omega, by rw [lowV_zero], rfl⟩) ?_
  rintro _ _ ⟨k, hk, rfl, rfl⟩
  simp [↓go, lowV_len]
  refine ⟨fun hlt => ?_, fun hge => ?_⟩
  · have hm' : min (8 * (k : Int)).toNat IntKind.u64.bits = 8 * k := by
      rw [show IntKind.u64.bits = 64 from rfl]; omega
    have hg : (lowV v n k)[k]?.getD .dead = u8 0 := by simp [lowV, hlt]
    rw [w64 (n := 8 * (k : Int)) (by omega) (by omega), hm', hg, w64 (n := (k : Int) + 1) (by omega) (by omega)]
    refine ⟨by omega, hlt, wk_ex ⟨⟨k + 1, by omega, ?_, rfl⟩, by simp; omega⟩⟩
    rw [← lowV_set hlt]
    rfl
  · obtain rfl : n = k := by omega
    rw [lowV_all]
    exact wk_of (Wk.made (rs := [h.length]) (Own.rf_mk (s := 1) (ys := (putB v n).map u8) (by simp) (by simp) (Own.map (fun x => .v rfl .nil) _) (by simp)) (by simp) (fun l' hm => q _ _ hm))
theorem S_implPut {v : Int} {n : Nat} {h : AHeap} {Q : KA} (hn : 1 ≤ n ∧ n ≤ 8) (q : Q (encL u8 (putB v n)) h) : @clM Tryz.prog 93 [i64 v, i64 n] h ⟨Q⟩ := by
  refine cl_frozen (t := encL u8 (putB v n)) ?_ q
  refine cl_of fn_impl_PutNumber (D_impl_PutNumber_of ?_)
  unfold D_impl_PutNumber
  refine jn_cut (fun s h' => h = h' ∧ s = [i64 n, i64 v, ff]) ?_ ?_
  · simp [↓go]
    refine ⟨fun hh => by omega, fun _ => ?_⟩
    have hd : decide ((8 : Int) < n) = false := by simp; omega
    rw [hd]
    exact wk_ex ⟨rfl, rfl⟩
  rintro _ _ ⟨rfl, rfl⟩
  simp [↓go]
  refine O_lowFirst hn (fun y l hm => ?_)
  exact retW_ex ⟨l, rfl, hm⟩
theorem S_specPut {v : Int} {n : Nat} {h : AHeap} {Q : KA} (hn : 1 ≤ n ∧ n ≤ 8) (q : Q (encL u8 (putB v n)) h) : @clM Tryz.prog 35 [i64 v, i64 n] h ⟨Q⟩ := by
  refine cl_frozen (t := encL u8 (putB v n)) ?_ q
  refine cl_of fn_spec_PutNumber (D_spec_PutNumber_of ?_)
  unfold D_spec_PutNumber
  simp [↓go]
  intro g
  refine jn_cut (fun s h' => h' = h ++ [.row g 1 []] ∧ s = [.rf h.length g 0 0, i64 v, i64 n, ff]) ?_ ?_
  · simp [↓go]
    refine ⟨fun hh => by omega, fun _ => ?_⟩
    have hd : decide ((8 : Int) < n) = false := by simp; omega
    rw [hd]
    exact wk_ex ⟨rfl, rfl⟩
  rintro _ _ ⟨rfl, rfl⟩
  simp [↓go]
  refine lp_inv (fun s h' => ∃ (k g : Nat), k ≤ n ∧ h' = h ++ [.row g 1 ((putB v k).map u8)] ∧ s = [.rf h.length g 0 k, i64 k, i64 v, i64 n]) (fun s _ => n - natA (nthA s 1)) (Wk.refl ⟨0, g, by omega, rfl, rfl⟩) ?_
  rintro _ _ ⟨k, g, hk, rfl, rfl⟩
  have hpl := putB_len v k
  have hps := putB_succ v k
  generalize hpk : putB v k = bs at *
  simp [↓go, hpl]
  refine ⟨fun hlt => ?_, fun hge => ?_⟩
  · have hm' : min (8 * (k : Int)).toNat IntKind.u64.bits = 8 * k := by
      rw [show IntKind.u64.bits = 64 from rfl]; omega
    rw [wu64 (n := (k : Int)) (by omega) (by omega), wu64 (n := 8 * (k : Int)) (by omega) (by omega), hm', w64 (n := (k : Int) + 1) (by omega) (by omega)]
    refine ⟨by omega, fun g1 => ⟨by omega, by unfold maxLen; omega, fun g2 => ?_⟩⟩
    refine wk_pre (l := [_]) (m := [_]) ?_
    refine ⟨⟨k + 1, g2, by omega, ?_, rfl⟩, by simp; omega⟩
    rw [hps, List.take_of_length_le (by simp; omega), List.map_append]
    rfl
  · obtain rfl : n = k := by omega
    subst hpk
    refine retW_ex ⟨_, rfl, [h.length], Own.rf_mk (s := 1) (ys := (putB v n).map u8) (by simp) (by simp) (Own.map (fun x => .v rfl .nil) _) (by simp), by simp, fun r g s ys hr => ?_⟩
    cases r with
    | zero => simp
    | succ r => simp at hr
def encode (p : MProgram) : List Int := if progFault p = 0 then encBody p ++ putB (IntKind.i64.wrap (crcOf (encBody p))) 4 else []
end Go.Proofs.YtkfpoagnchahkaaGreat.A
