/- Of this session: over the abstract machine. -/
import Derived.Test.YtkfpoagnchahkaaGreatProg
import Derived.Test.YtkfpoagnchahkaaGreatA
import Derived.Test.YtkfpoagnchahkaaGreatB
import Derived.Test.YtkfpoagnchahkaaGreatD
import Derived.Test.YtkfpoagnchahkaaGreatT
import Derived.Test.YtkfpoagnchahkaaGreatP1
import Derived.Test.YtkfpoagnchahkaaGreatP2
import Derived.Test.YtkfpoagnchahkaaGreatP3
import Derived.Test.YtkfpoagnchahkaaGreatP4
import Derived.Test.YtkfpoagnchahkaaGreatP5
namespace Go.Proofs.YtkfpoagnchahkaaGreat.A
open Go Go.RowKit
set_option linter.unusedVariables false
set_option linter.unusedSimpArgs false
set_option maxRecDepth 100000
set_option maxHeartbeats 1000000
def wordsOK (ws ts : List Int) : Bool := allN ts.length (fun i => !decide (ts.getD i 0 = 1 ∧ ws.getD i 0 > 1))
theorem S_l4Words {ws ts : List Int} {h : AHeap} {Q : KA} (hw : ws.length ≤ 1048576) (hq : Q (bl (decide (ws.length = ts.length) && wordsOK ws ts)) h) : @clM Tryz.prog 110 [encL u32 ws, encL i64 ts] h ⟨Q⟩ := by
  refine cl_of fn_spec_l4Words (D_spec_l4Words_of ?_)
  unfold D_spec_l4Words
  unfold wordsOK at hq
  simp [↓go]
  refine ⟨fun hne => retW_ex ?_, fun he => ?_⟩
  · rw [decide_eq_false (by omega)] at hq; exact hq
  have he : ws.length = ts.length := by omega
  rw [decide_eq_true he, Bool.true_and] at hq
  refine lp_inv (fun s h' => h = h' ∧ ∃ i : Nat, i ≤ ts.length ∧ allN i (fun i => !decide (ts.getD i 0 = 1 ∧ ws.getD i 0 > 1)) = true ∧ s = [i64 i, encL u32 ws, encL i64 ts]) (fun s _ => ts.length - natA (nthA s 0)) (Wk.refl ⟨rfl, 0, by omega, rfl, rfl⟩) ?_
  rintro _ _ ⟨rfl, i, hi, ha, rfl⟩
  simp [↓go]
  refine ⟨fun hlt => ?_, fun hge => ?_⟩
  · obtain ⟨t, ht⟩ : ∃ t, ts[i]? = some t := ⟨_, List.getElem?_eq_getElem (by omega)⟩
    obtain ⟨_, htl⟩ := List.getElem?_eq_some_iff.1 ht
    obtain ⟨w, hw2⟩ : ∃ w, ws[i]? = some w := ⟨_, List.getElem?_eq_getElem (by omega)⟩
    obtain ⟨_, hwl⟩ := List.getElem?_eq_some_iff.1 hw2
    refine jn_cut (fun s h' => h = h' ∧ s = [encL u32 ws, encL i64 ts, i64 i, bl (decide (t = 1 ∧ w > 1))]) ?_ ?_
    · simp [↓go, ht, htl, hw2, hwl]
      refine ⟨by omega, fun h1 => ⟨by omega, wk_ex ?_⟩, fun h1 => wk_ex ?_⟩
      · simp [h1]
      · simp [h1]
    rintro _ _ ⟨rfl, rfl⟩
    simp only [nthA_z, nthA_s]
    cases hb : decide (t = 1 ∧ w > 1) with
    | true =>
      simp [↓go]
      refine retW_ex ?_
      rw [allN_false (i := i) (by omega) (by rw [getD_of ht, getD_of hw2, hb]; rfl)] at hq; exact hq
    | false =>
      simp [↓go]
      rw [w64 (by omega) (by omega)]
      refine wk_ex ?_
      refine And.intro ⟨rfl, i + 1, by omega, allN_step ha (by rw [getD_of ht, getD_of hw2, hb]; rfl), rfl⟩ ?_
      simp; omega
  · obtain rfl : i = ts.length := by omega
    rw [ha] at hq; exact retW_ex hq
theorem S_words {ws ts : List Int} {h : AHeap} {Q : KA} (hw : ts.length ≤ 1048576) (he : ws.length = ts.length) (hq : Q (bl (wordsOK ws ts)) h) : @clM Tryz.prog 138 [encL u32 ws, encL i64 ts] h ⟨Q⟩ := by
  refine cl_of fn_impl_words (D_impl_words_of ?_)
  unfold D_impl_words
  unfold wordsOK at hq
  simp [↓go]
  refine lp_inv (fun s h' => h = h' ∧ ∃ i : Nat, i ≤ ts.length ∧ allN i (fun i => !decide (ts.getD i 0 = 1 ∧ ws.getD i 0 > 1)) = true ∧ s = [i64 i, encL u32 ws, encL i64 ts, i64 ts.length]) (fun s _ => ts.length - natA (nthA s 0)) (Wk.refl ⟨rfl, 0, by omega, rfl, rfl⟩) ?_
  rintro _ _ ⟨rfl, i, hi, ha, rfl⟩
  simp [↓go]
  refine ⟨fun hlt => ?_, fun hge => ?_⟩
  · obtain ⟨t, ht⟩ : ∃ t, ts[i]? = some t := ⟨_, List.getElem?_eq_getElem (by omega)⟩
    obtain ⟨_, htl⟩ := List.getElem?_eq_some_iff.1 ht
    obtain ⟨w, hw2⟩ : ∃ w, ws[i]? = some w := ⟨_, List.getElem?_eq_getElem (by omega)⟩
    obtain ⟨_, hwl⟩ := List.getElem?_eq_some_iff.1 hw2
    simp [↓go, ht, htl, hlt]
    refine jn_cut (fun s h' => h = h' ∧ s = [encL u32 ws, encL i64 ts, i64 ts.length, i64 i, bl (decide (t = 1 ∧ w > 1))]) ?_ ?_
    · simp [↓go, ht, htl, hw2, hwl]
      refine ⟨fun h1 => ⟨by omega, wk_ex ?_⟩, fun h1 => wk_ex ?_⟩
      · simp [h1]
      · simp [h1]
    rintro _ _ ⟨rfl, rfl⟩
    simp only [nthA_z, nthA_s]
    cases hb : decide (t = 1 ∧ w > 1) with
    | true =>
      simp [↓go]
      refine retW_ex ?_
      rw [allN_false (i := i) (by omega) (by rw [getD_of ht, getD_of hw2, hb]; rfl)] at hq; exact hq
    | false =>
      simp [↓go]
      rw [w64 (by omega) (by omega)]
      refine wk_ex ?_
      refine And.intro ⟨rfl, i + 1, by omega, allN_step ha (by rw [getD_of ht, getD_of hw2, hb]; rfl), rfl⟩ ?_
      simp; omega
  · obtain rfl : i = ts.length := by omega
    rw [ha] at hq; exact retW_ex hq
def validMem (p : MProgram) (m : MMemory) : Bool :=
  decide (progFault p = 0) && (decide (m.inn.length = (p.regions.getD 0 []).length) && ((decide (m.out.length = (p.regions.getD 1 []).length) && wordsOK m.out (p.regions.getD 1 [])) && (decide (m.keep.length = (p.regions.getD 2 []).length) && wordsOK m.keep (p.regions.getD 2 []))))
theorem small_m {m : MMemory} (hs : szMemory m ≤ 1048576) : m.inn.length ≤ 1048576 ∧ m.out.length ≤ 1048576 ∧ m.keep.length ≤ 1048576 := by
  unfold szMemory at hs
  rw [szL_zero, szL_zero, szL_zero] at hs; omega
theorem fault_regions {p : MProgram} (h : progFault p = 0) : p.regions.length = 3 := by
  unfold progFault at h
  split at h
  · cases h
  · rename_i hR
    rw [Bool.not_eq_false] at hR
    unfold regionsOK at hR
    rw [Bool.and_eq_true, decide_eq_true_eq] at hR; exact hR.1
theorem S_specValidMemory {p : MProgram} {m : MMemory} {h : AHeap} {Q : KA} (hs : szProgram p ≤ 1048576) (hm : szMemory m ≤ 1048576) (hq : Q (bl (validMem p m)) h) : @clM Tryz.prog 60 [encProgram p, encMemory m] h ⟨Q⟩ := by
  refine cl_of fn_spec_ValidMemory (D_spec_ValidMemory_of ?_)
  unfold D_spec_ValidMemory
  have hms := small_m hm
  unfold validMem at hq
  simp [↓go]
  refine jn_ex ?_
  simp [↓go]
  refine S_specProgramFault hs ?_
  simp [↓go]
  refine ⟨fun h0 => ?_, fun h0 => ?_⟩
  rotate_left
  · refine wk_ret ?_
    rw [decide_eq_false h0] at hq; exact hq
  rw [decide_eq_true h0, Bool.true_and] at hq
  have h3 := fault_regions h0
  obtain ⟨r0, hr0⟩ : ∃ r, p.regions[0]? = some r := ⟨_, List.getElem?_eq_getElem (by omega)⟩
  obtain ⟨r1, hr1⟩ : ∃ r, p.regions[1]? = some r := ⟨_, List.getElem?_eq_getElem (by omega)⟩
  obtain ⟨r2, hr2⟩ : ∃ r, p.regions[2]? = some r := ⟨_, List.getElem?_eq_getElem (by omega)⟩
  obtain ⟨_, hl0⟩ := List.getElem?_eq_some_iff.1 hr0
  obtain ⟨_, hl1⟩ := List.getElem?_eq_some_iff.1 hr1
  obtain ⟨_, hl2⟩ := List.getElem?_eq_some_iff.1 hr2
  rw [getD_of hr0, getD_of hr1, getD_of hr2] at hq
  simp [↓go, h3, hr0, hr1, hr2, hl0, hl1, hl2]
  refine ⟨fun h1 => ?_, fun h1 => ?_⟩
  rotate_left
  · refine wk_ret ?_
    rw [decide_eq_false (by omega)] at hq; exact hq
  rw [decide_eq_true (by omega), Bool.true_and] at hq
  refine S_l4Words hms.2.1 ?_
  generalize (decide (m.out.length = r1.length) && wordsOK m.out r1) = B1 at hq
  cases B1 with
  | false => simp [↓go]; exact wk_ret hq
  | true =>
    simp [↓go, h3, hr0, hr1, hr2, hl0, hl1, hl2]
    refine S_l4Words hms.2.2 ?_
    exact wk_ret hq
theorem S_implValidMemory {p : MProgram} {m : MMemory} {h : AHeap} {Q : KA} (hs : szProgram p ≤ 1048576) (hm : szMemory m ≤ 1048576) (hq : Q (bl (validMem p m)) h) : @clM Tryz.prog 112 [encProgram p, encMemory m] h ⟨Q⟩ := by
  refine cl_of fn_impl_ValidMemory (D_impl_ValidMemory_of ?_)
  unfold D_impl_ValidMemory
  have hms := small_m hm
  unfold validMem at hq
  simp [↓go]
  refine jn_ex ?_
  simp [↓go]
  refine S_fault hs ?_
  unfold faultV
  by_cases h0 : progFault p = 0
  rotate_left
  · rw [if_neg h0]
    simp [↓go, errV]
    refine wk_ret ?_
    rw [decide_eq_false h0] at hq; exact hq
  rw [if_pos h0]
  rw [decide_eq_true h0, Bool.true_and] at hq
  have h3 := fault_regions h0
  obtain ⟨r0, hr0⟩ : ∃ r, p.regions[0]? = some r := ⟨_, List.getElem?_eq_getElem (by omega)⟩
  obtain ⟨r1, hr1⟩ : ∃ r, p.regions[1]? = some r := ⟨_, List.getElem?_eq_getElem (by omega)⟩
  obtain ⟨r2, hr2⟩ : ∃ r, p.regions[2]? = some r := ⟨_, List.getElem?_eq_getElem (by omega)⟩
  obtain ⟨_, hl0⟩ := List.getElem?_eq_some_iff.1 hr0
  obtain ⟨_, hl1⟩ := List.getElem?_eq_some_iff.1 hr1
  obtain ⟨_, hl2⟩ := List.getElem?_eq_some_iff.1 hr2
  rw [getD_of hr0, getD_of hr1, getD_of hr2] at hq
  have hs1 := small_r hs hr1
  have hs2 := small_r hs hr2
  simp [↓go, noErr, h3, hr0, hr1, hr2, hl0, hl1, hl2]
  refine ⟨fun h1 => ⟨fun h4 => ⟨fun h5 => ?_, fun h5 => ?_⟩, fun h4 => ?_⟩, fun h1 => ?_⟩
  · rw [decide_eq_true (by omega), decide_eq_true (by omega), decide_eq_true (by omega), Bool.true_and, Bool.true_and, Bool.true_and] at hq
    refine S_words hs1 (by omega) ?_
    generalize wordsOK m.out r1 = B1 at hq
    cases B1 with
    | false => simp [↓go]; exact wk_ret hq
    | true =>
      simp [↓go, h3, hr0, hr1, hr2, hl0, hl1, hl2]
      refine S_words hs2 (by omega) ?_
      exact wk_ret hq
  · refine wk_ret ?_
    rw [decide_eq_false (p := m.keep.length = r2.length) (by omega)] at hq; simpa using hq
  · refine wk_ret ?_
    rw [decide_eq_false (p := m.out.length = r1.length) (by omega)] at hq; simpa using hq
  · refine wk_ret ?_
    rw [decide_eq_false (p := m.inn.length = r0.length) (by omega)] at hq; simpa using hq
end Go.Proofs.YtkfpoagnchahkaaGreat.A
