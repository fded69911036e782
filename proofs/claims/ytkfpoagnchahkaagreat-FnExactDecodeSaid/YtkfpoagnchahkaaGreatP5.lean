/- Of this session: over the abstract machine. -/
import Derived.Test.YtkfpoagnchahkaaGreatProg
import Derived.Test.YtkfpoagnchahkaaGreatA
import Derived.Test.YtkfpoagnchahkaaGreatB
import Derived.Test.YtkfpoagnchahkaaGreatD
import Derived.Test.YtkfpoagnchahkaaGreatT
import Derived.Test.YtkfpoagnchahkaaGreatP1
import Derived.Test.YtkfpoagnchahkaaGreatP2
import Derived.Test.YtkfpoagnchahkaaGreatP3
import Derived.Test.YtkfpoagnchahkaaGreatP4
namespace Go.Proofs.YtkfpoagnchahkaaGreat.A
open Go Go.RowKit
set_option linter.unusedVariables false
set_option linter.unusedSimpArgs false
set_option maxRecDepth 100000
set_option maxHeartbeats 1000000
theorem callV_fn (P : Program) (g : FuncId) (us vs xs : List AVal) (h : AHeap) (K : KA) : callV P (.fn g us vs) xs h K = @clM P g (us ++ (xs ++ vs)) h ⟨K⟩ := rfl
def chk (p : MProgram) : Nat → Bool
  | 0 => regionsOK p
  | 1 => constsOK p
  | 2 => funcsOK p
  | 3 => codeOK p
  | _ => certsOK p
def progFault (p : MProgram) : Int := if regionsOK p = false then 1 else if constsOK p = false then 2 else if funcsOK p = false then 3 else if codeOK p = false then 4 else if certsOK p = false then 5 else 0
def faultV (p : MProgram) : AVal := if progFault p = 0 then noErr else errV (progFault p)
theorem fault_at {p : MProgram} {i : Nat} (hi : i < 5) (ha : allN i (chk p) = true) (hb : chk p i = false) : progFault p = (i : Int) + 1 := by
  rw [allN_iff] at ha
  unfold progFault
  have h0 : 0 < i → regionsOK p = true := fun h => ha 0 h
  have h1 : 1 < i → constsOK p = true := fun h => ha 1 h
  have h2 : 2 < i → funcsOK p = true := fun h => ha 2 h
  have h3 : 3 < i → codeOK p = true := fun h => ha 3 h
  have hc : i = 0 ∨ i = 1 ∨ i = 2 ∨ i = 3 ∨ i = 4 := by omega
  rcases hc with rfl | rfl | rfl | rfl | rfl
  · rw [if_pos (show regionsOK p = false from hb)]; rfl
  · rw [if_neg (by rw [h0 (by omega)]; simp), if_pos (show constsOK p = false from hb)]; rfl
  · rw [if_neg (by rw [h0 (by omega)]; simp), if_neg (by rw [h1 (by omega)]; simp), if_pos (show funcsOK p = false from hb)]; rfl
  · rw [if_neg (by rw [h0 (by omega)]; simp), if_neg (by rw [h1 (by omega)]; simp), if_neg (by rw [h2 (by omega)]; simp), if_pos (show codeOK p = false from hb)]; rfl
  · rw [if_neg (by rw [h0 (by omega)]; simp), if_neg (by rw [h1 (by omega)]; simp), if_neg (by rw [h2 (by omega)]; simp), if_neg (by rw [h3 (by omega)]; simp), if_pos (show certsOK p = false from hb)]; rfl
theorem fault_no {p : MProgram} (ha : allN 5 (chk p) = true) : progFault p = 0 := by
  rw [allN_iff] at ha
  unfold progFault
  rw [if_neg (by rw [show regionsOK p = true from ha 0 (by omega)]; simp), if_neg (by rw [show constsOK p = true from ha 1 (by omega)]; simp), if_neg (by rw [show funcsOK p = true from ha 2 (by omega)]; simp), if_neg (by rw [show codeOK p = true from ha 3 (by omega)]; simp), if_neg (by rw [show certsOK p = true from ha 4 (by omega)]; simp)]
theorem S_fault {p : MProgram} {h : AHeap} {Q : KA} (hs : szProgram p ≤ 1048576) (hq : Q (faultV p) h) : @clM Tryz.prog 42 [.fp (encProgram p)] h ⟨Q⟩ := by
  refine cl_of fn_impl_Program_fault (D_impl_Program_fault_of ?_)
  unfold D_impl_Program_fault
  unfold faultV at hq
  simp [↓go]
  intro g1
  refine lp_inv (fun s h' => h' = h ++ [.row g1 1 [.fn 88 [.fp (encProgram p)] [], .fn 89 [.fp (encProgram p)] [], .fn 90 [.fp (encProgram p)] [], .fn 91 [.fp (encProgram p)] [], .fn 92 [.fp (encProgram p)] []]] ∧
    ∃ i : Nat, i ≤ 5 ∧ allN i (chk p) = true ∧ s = [i64 i, .rf h.length g1 0 5, i64 5]) (fun s _ => 5 - natA (nthA s 0)) (Wk.refl ⟨rfl, 0, by omega, rfl, rfl⟩) ?_
  rintro _ _ ⟨rfl, i, hi, ha, rfl⟩
  simp [↓go]
  refine ⟨fun hlt => ?_, fun hge => ?_⟩
  · have bad : chk p i = false → Q (errV ((i : Int) + 1)) h := fun hb => by
      rw [fault_at (by omega) ha hb, if_neg (by omega)] at hq; exact hq
    have ha' := allN_iff.1 ha
    have hc : i = 0 ∨ i = 1 ∨ i = 2 ∨ i = 3 ∨ i = 4 := by omega
    rcases hc with rfl | rfl | rfl | rfl | rfl
    · simp [↓go, callV_fn]
      refine S_regionsFault hs ?_
      cases hb : regionsOK p with
      | true =>
        simp [↓go, fErr, noErr]
        rw [w64 (by omega) (by omega)]
        exact wk_ex ⟨⟨rfl, 1, by omega, allN_step ha hb, rfl⟩, by simp⟩
      | false =>
        simp [↓go, fErr, errV]
        refine wk_of (Wk.drop (Wk.refl ?_))
        exact bad hb
    · simp [↓go, callV_fn]
      refine S_constsFault hs ?_
      cases hb : constsOK p with
      | true =>
        simp [↓go, fErr, noErr]
        rw [w64 (by omega) (by omega)]
        exact wk_ex ⟨⟨rfl, 2, by omega, allN_step ha hb, rfl⟩, by simp⟩
      | false =>
        simp [↓go, fErr, errV]
        refine wk_of (Wk.drop (Wk.refl ?_))
        exact bad hb
    · simp [↓go, callV_fn]
      refine S_funcsFault hs ?_
      cases hb : funcsOK p with
      | true =>
        simp [↓go, fErr, noErr]
        rw [w64 (by omega) (by omega)]
        exact wk_ex ⟨⟨rfl, 3, by omega, allN_step ha hb, rfl⟩, by simp⟩
      | false =>
        simp [↓go, fErr, errV]
        refine wk_of (Wk.drop (Wk.refl ?_))
        exact bad hb
    · simp [↓go, callV_fn]
      refine S_codeFault hs (ha' 0 (by omega)) (ha' 2 (by omega)) ?_
      cases hb : codeOK p with
      | true =>
        simp [↓go, fErr, noErr]
        rw [w64 (by omega) (by omega)]
        exact wk_ex ⟨⟨rfl, 4, by omega, allN_step ha hb, rfl⟩, by simp⟩
      | false =>
        simp [↓go, fErr, errV]
        refine wk_of (Wk.drop (Wk.refl ?_))
        exact bad hb
    · simp [↓go, callV_fn]
      refine S_certsFault hs ?_
      cases hb : certsOK p with
      | true =>
        simp [↓go, fErr, noErr]
        rw [w64 (by omega) (by omega)]
        exact wk_ex ⟨⟨rfl, 5, by omega, allN_step ha hb, rfl⟩, by simp⟩
      | false =>
        simp [↓go, fErr, errV]
        refine wk_of (Wk.drop (Wk.refl ?_))
        exact bad hb
  · obtain rfl : i = 5 := by omega
    rw [fault_no ha, if_pos rfl] at hq
    refine wk_of (Wk.drop (Wk.refl ?_))
    exact hq
theorem S_specProgramFault {p : MProgram} {h : AHeap} {Q : KA} (hs : szProgram p ≤ 1048576) (hq : Q (i64 (progFault p)) h) : @clM Tryz.prog 34 [encProgram p] h ⟨Q⟩ := by
  refine cl_of fn_spec_ProgramFault (D_spec_ProgramFault_of ?_)
  unfold D_spec_ProgramFault
  have hf := small_fld hs
  unfold progFault at hq
  simp [↓go]
  refine ⟨fun h1 => retW_ex ?_, fun h3 => ?_⟩
  · rw [if_pos (by unfold regionsOK; rw [decide_eq_false (by omega)]; rfl)] at hq; exact hq
  have h3 : p.regions.length = 3 := by omega
  refine lp_inv (fun s h' => h = h' ∧ ∃ i : Nat, i ≤ 3 ∧ allN i (fun i => regionOK (p.regions.getD i [])) = true ∧ s = [.fp (encProgram p), i64 i]) (fun s _ => 3 - natA (nthA s 1)) (Wk.refl ⟨rfl, 0, by omega, rfl, rfl⟩) ?_
  rintro _ _ ⟨rfl, i, hi, ha, rfl⟩
  simp [↓go]
  refine ⟨fun hlt => ?_, fun hge => ?_⟩
  · obtain ⟨r, hr⟩ : ∃ r, p.regions[i]? = some r := ⟨_, List.getElem?_eq_getElem (by omega)⟩
    obtain ⟨_, hrl⟩ := List.getElem?_eq_some_iff.1 hr
    have hsr := small_r hs hr
    refine jn_cut (fun s h' => h = h' ∧ s = [.fp (encProgram p), i64 i, bl (!regionOK r)]) ?_ ?_
    · simp [↓go, hr, hrl]
      unfold regionOK
      refine ⟨by omega, fun h1 => ?_, fun h1 => ⟨by omega, S_l3Types hsr ?_⟩⟩
      · refine wk_ex ?_; simp; omega
      · simp [↓go]; refine wk_ex ?_; simp [h1]; intros; omega
    rintro _ _ ⟨rfl, rfl⟩
    simp [↓go]
    refine ⟨fun hb => retW_ex ?_, fun hb => ?_⟩
    · rw [if_pos (by unfold regionsOK; rw [allN_false (i := i) (by omega) (by rw [getD_of hr]; exact hb), Bool.and_false])] at hq; exact hq
    · rw [w64 (by omega) (by omega)]
      refine wk_ex ?_
      refine And.intro ⟨rfl, i + 1, by omega, allN_step ha (by rw [getD_of hr]; exact hb), rfl⟩ ?_
      simp; omega
  obtain rfl : i = 3 := by omega
  have hR : regionsOK p = true := by unfold regionsOK; rw [decide_eq_true h3, ha]; rfl
  rw [if_neg (by rw [hR]; simp)] at hq
  refine S_l3Consts hs ?_
  simp [↓go]
  refine ⟨fun hb => retW_ex ?_, fun hb => ?_⟩
  · rw [if_pos hb] at hq; exact hq
  rw [if_neg (by rw [hb]; simp)] at hq
  refine jn_cut (fun s h' => h = h' ∧ s = [.fp (encProgram p), bl (!decide (1 ≤ p.funcs.length ∧ p.funcs.length ≤ 32))]) ?_ ?_
  · simp [↓go, -List.length_eq_zero_iff]
    refine ⟨fun h1 => ?_, fun h1 => ?_⟩
    · refine wk_ex ?_; generalize p.funcs.length = n at *; simp; omega
    · refine wk_ex ?_; generalize p.funcs.length = n at *; simp; rw [Bool.eq_iff_iff]; simp; omega
  rintro _ _ ⟨rfl, rfl⟩
  try simp only [nthA_z, nthA_s]
  cases hA : decide (1 ≤ p.funcs.length ∧ p.funcs.length ≤ 32) with
  | false =>
    simp [↓go]
    rw [if_pos (by unfold funcsOK; rw [hA]; rfl)] at hq
    exact retW_ex hq
  | true =>
  simp [↓go]
  refine lp_inv (fun s h' => h = h' ∧ ∃ i : Nat, i ≤ p.funcs.length ∧ allN i (fun i => funcOK (decide (i = 0)) (p.funcs.getD i zFunc)) = true ∧ s = [.fp (encProgram p), i64 i]) (fun s _ => p.funcs.length - natA (nthA s 1)) (Wk.refl ⟨rfl, 0, by omega, rfl, rfl⟩) ?_
  rintro _ _ ⟨rfl, i, hi, haf, rfl⟩
  simp [↓go]
  refine ⟨fun hlt => ?_, fun hge => ?_⟩
  · obtain ⟨f, hfi⟩ : ∃ f, p.funcs[i]? = some f := ⟨_, List.getElem?_eq_getElem hlt⟩
    obtain ⟨_, hfl⟩ := List.getElem?_eq_some_iff.1 hfi
    have hsf := small_f hs hfi
    simp [↓go, hfi, hfl, hlt]
    refine S_l3Func hsf ?_
    simp [↓go]
    refine ⟨fun hb => retW_ex ?_, fun hb => ?_⟩
    · rw [if_pos (by unfold funcsOK; rw [allN_false (i := i) hlt (by rw [getD_of hfi]; exact hb), Bool.and_false])] at hq; exact hq
    · rw [w64 (by omega) (by omega)]
      refine wk_ex ?_
      refine And.intro ⟨rfl, i + 1, by omega, allN_step haf (by rw [getD_of hfi]; exact hb), rfl⟩ ?_
      simp; omega
  obtain rfl : i = p.funcs.length := by omega
  have hF : funcsOK p = true := by unfold funcsOK; rw [hA, haf]; rfl
  rw [if_neg (by rw [hF]; simp)] at hq
  refine lp_inv (fun s h' => h = h' ∧ ∃ i : Nat, i ≤ p.funcs.length ∧ allN i (fun i => allN (p.funcs.getD i zFunc).code.length (fun k => specInstr p (p.funcs.getD i zFunc) ((p.funcs.getD i zFunc).code.getD k zInstr))) = true ∧ s = [.fp (encProgram p), i64 i]) (fun s _ => p.funcs.length - natA (nthA s 1)) (Wk.refl ⟨rfl, 0, by omega, rfl, rfl⟩) ?_
  rintro _ _ ⟨rfl, i, hi, hac, rfl⟩
  simp [↓go]
  refine ⟨fun hlt => ?_, fun hge => ?_⟩
  · obtain ⟨f, hfi⟩ : ∃ f, p.funcs[i]? = some f := ⟨_, List.getElem?_eq_getElem hlt⟩
    obtain ⟨_, hfl⟩ := List.getElem?_eq_some_iff.1 hfi
    have hsf := small_f hs hfi
    have hff := small_ff hsf
    refine lp_inv (fun s h' => h = h' ∧ ∃ k : Nat, k ≤ f.code.length ∧ allN k (fun k => specInstr p f (f.code.getD k zInstr)) = true ∧ s = [.fp (encProgram p), i64 i, i64 k]) (fun s _ => f.code.length - natA (nthA s 2)) (Wk.refl ⟨rfl, 0, by omega, rfl, rfl⟩) ?_
    rintro _ _ ⟨rfl, k, hk, hak, rfl⟩
    simp [↓go, hfi, hfl, hlt]
    refine ⟨fun hkl => ?_, fun hkg => ?_⟩
    · obtain ⟨x, hx⟩ : ∃ x, f.code[k]? = some x := ⟨_, List.getElem?_eq_getElem hkl⟩
      obtain ⟨_, hxl⟩ := List.getElem?_eq_some_iff.1 hx
      simp [↓go, hx, hxl, hkl, hfi, hfl, hlt]
      refine S_l3Instr hs hsf h3 ?_
      simp [↓go]
      refine ⟨fun hb => retW_ex ?_, fun hb => ?_⟩
      · have h0 : allN (p.funcs.getD i zFunc).code.length (fun k => specInstr p (p.funcs.getD i zFunc) ((p.funcs.getD i zFunc).code.getD k zInstr)) = false := by
          rw [getD_of hfi]
          exact allN_false (i := k) hkl (by rw [getD_of hx]; exact hb)
        rw [if_pos (by unfold codeOK; exact allN_false (i := i) hlt h0)] at hq; exact hq
      · rw [w64 (by omega) (by omega)]
        refine wk_ex ?_
        refine And.intro ⟨rfl, k + 1, by omega, allN_step hak (by rw [getD_of hx]; exact hb), rfl⟩ ?_
        simp; omega
    · obtain rfl : k = f.code.length := by omega
      rw [w64 (by omega) (by omega)]
      refine wk_ex ?_
      refine And.intro ⟨rfl, i + 1, by omega, allN_step hac (by rw [getD_of hfi]; exact hak), rfl⟩ ?_
      simp; omega
  obtain rfl : i = p.funcs.length := by omega
  rw [if_neg (by rw [show codeOK p = true from hac]; simp)] at hq
  refine S_l3Certs hs ?_
  simp [↓go]
  refine ⟨fun hb => retW_ex ?_, fun hb => retW_ex ?_⟩
  · rw [if_pos hb] at hq; exact hq
  · rw [if_neg (by rw [hb]; simp)] at hq; exact hq
end Go.Proofs.YtkfpoagnchahkaaGreat.A
