/- Of this session: over the abstract machine. -/
import Derived.Test.YtkfpoagnchahkaaGreatProg
import Derived.Test.YtkfpoagnchahkaaGreatA
import Derived.Test.YtkfpoagnchahkaaGreatB
import Derived.Test.YtkfpoagnchahkaaGreatD
import Derived.Test.YtkfpoagnchahkaaGreatT
import Derived.Test.YtkfpoagnchahkaaGreatP1
import Derived.Test.YtkfpoagnchahkaaGreatP2
namespace Go.Proofs.YtkfpoagnchahkaaGreat.A
open Go Go.RowKit
set_option linter.unusedVariables false
set_option linter.unusedSimpArgs false
set_option maxRecDepth 100000
set_option maxHeartbeats 1000000
def errV (k : Int) : AVal := .ifc 195 (.agg [i64 k])
def noErr : AVal := .v .nilIface
def fErr (b : Bool) (k : Int) : AVal := match b with | true => noErr | false => errV k
def regionOK (r : List Int) : Bool := decide (r.length ≤ 256) && allTy r
def regionsOK (p : MProgram) : Bool := decide (p.regions.length = 3) && allN 3 (fun i => regionOK (p.regions.getD i []))
def constOK (c : MConst) : Bool := isTy c.ty && !decide (c.ty = 1 ∧ c.word > 1)
def constsOK (p : MProgram) : Bool := decide (p.consts.length ≤ 64) && allN p.consts.length (fun i => constOK (p.consts.getD i zConst))
def funcOK (main : Bool) (f : MFunc) : Bool := decide (f.params.length ≤ 8 ∧ f.params.length + f.locals.length ≤ 32) && (allTy f.params && (allTy f.locals && ((decide (f.result = 0) || isTy f.result) && (decide (1 ≤ f.code.length ∧ f.code.length ≤ 1024) && (!main || decide (f.params.length = 0 ∧ f.result = 0))))))
def funcsOK (p : MProgram) : Bool := decide (1 ≤ p.funcs.length ∧ p.funcs.length ≤ 32) && allN p.funcs.length (fun i => funcOK (decide (i = 0)) (p.funcs.getD i zFunc))
theorem small_fld {p : MProgram} (hs : szProgram p ≤ 1048576) : p.regions.length ≤ 1048576 ∧ p.consts.length ≤ 1048576 ∧ p.funcs.length ≤ 1048576 ∧ p.certs.length ≤ 1048576 := by
  unfold szProgram at hs
  have h1 := szL_len (szL (fun _ => 0)) p.regions
  have h2 := szL_len (fun _ => 0) p.consts
  have h3 := szL_len szFunc p.funcs
  have h4 := szL_len (fun _ => 0) p.certs
  omega
theorem small_r {p : MProgram} (hs : szProgram p ≤ 1048576) {i : Nat} {r : List Int} (hr : p.regions[i]? = some r) : r.length ≤ 1048576 := by
  have := szL_get (f := szL (fun _ => 0)) hr
  have h2 := szL_len (fun _ => 0) r
  unfold szProgram at hs; omega
theorem small_f {p : MProgram} (hs : szProgram p ≤ 1048576) {i : Nat} {f : MFunc} (hf : p.funcs[i]? = some f) : szFunc f ≤ 1048576 := by
  have := szL_get (f := szFunc) hf
  unfold szProgram at hs; omega
theorem small_ff {f : MFunc} (hs : szFunc f ≤ 1048576) : f.params.length ≤ 1048576 ∧ f.locals.length ≤ 1048576 ∧ f.code.length ≤ 1048576 ∧ f.params.length + f.locals.length ≤ 1048576 := by
  unfold szFunc at hs
  rw [szL_zero, szL_zero, szL_zero] at hs
  omega
theorem S_regionsFault {p : MProgram} {h : AHeap} {Q : KA} (hs : szProgram p ≤ 1048576) (hq : Q (fErr (regionsOK p) 1) h) : @clM Tryz.prog 88 [.fp (encProgram p)] h ⟨Q⟩ := by
  refine cl_of fn_impl_Program_regionsFault (D_impl_Program_regionsFault_of ?_)
  unfold D_impl_Program_regionsFault
  have hf := small_fld hs
  unfold regionsOK at hq
  simp [↓go]
  refine ⟨fun h1 => retW_ex ?_, fun h3 => ?_⟩
  · rw [decide_eq_false (by omega)] at hq; exact hq
  have h3 : p.regions.length = 3 := by omega
  rw [decide_eq_true h3, Bool.true_and] at hq
  refine lp_inv (fun s h' => h = h' ∧ ∃ i : Nat, i ≤ 3 ∧ allN i (fun i => regionOK (p.regions.getD i [])) = true ∧ s = [i64 i, encL (encL i64) p.regions, i64 3]) (fun s _ => 3 - natA (nthA s 0)) (Wk.refl ⟨rfl, 0, by omega, rfl, by simp [h3]⟩) ?_
  rintro _ _ ⟨rfl, i, hi, ha, rfl⟩
  simp [↓go]
  refine ⟨fun hlt => ?_, fun hge => ?_⟩
  · obtain ⟨r, hr⟩ : ∃ r, p.regions[i]? = some r := ⟨_, List.getElem?_eq_getElem (by omega)⟩
    obtain ⟨_, hrl⟩ := List.getElem?_eq_some_iff.1 hr
    have hsr := small_r hs hr
    simp [↓go, hr, hrl, h3, hlt]
    refine ⟨by omega, ?_⟩
    refine jn_cut (fun s h' => h = h' ∧ s = [encL (encL i64) p.regions, i64 3, i64 i, bl (!regionOK r)]) ?_ ?_
    · simp [↓go, hr]
      unfold regionOK
      refine ⟨fun h1 => ?_, fun h1 => S_allTypes hsr ?_⟩
      · refine wk_ex ?_; simp; omega
      · simp [↓go]; refine wk_ex ?_; simp [h1]; intros; omega
    rintro _ _ ⟨rfl, rfl⟩
    simp [↓go]
    refine ⟨fun hb => retW_ex ?_, fun hb => ?_⟩
    · rw [allN_false (i := i) (by omega) (by rw [getD_of hr]; exact hb)] at hq; exact hq
    · rw [w64 (by omega) (by omega)]
      refine wk_ex ?_
      refine And.intro ⟨rfl, i + 1, by omega, allN_step ha (by rw [getD_of hr]; exact hb), rfl⟩ ?_
      simp; omega
  · obtain rfl : i = 3 := by omega
    rw [ha] at hq; exact retW_ex hq
theorem S_l3Consts {p : MProgram} {h : AHeap} {Q : KA} (hs : szProgram p ≤ 1048576) (hq : Q (bl (constsOK p)) h) : @clM Tryz.prog 80 [encProgram p] h ⟨Q⟩ := by
  refine cl_of fn_spec_l3Consts (D_spec_l3Consts_of ?_)
  unfold D_spec_l3Consts
  have hf := small_fld hs
  unfold constsOK at hq
  simp [↓go]
  refine lp_inv (fun s h' => h = h' ∧ ∃ i : Nat, i ≤ p.consts.length ∧ allN i (fun i => constOK (p.consts.getD i zConst)) = true ∧ s = [.fp (encProgram p), i64 i]) (fun s _ => p.consts.length - natA (nthA s 1)) (Wk.refl ⟨rfl, 0, by omega, rfl, rfl⟩) ?_
  rintro _ _ ⟨rfl, i, hi, ha, rfl⟩
  simp [↓go]
  refine ⟨fun hlt => ?_, fun hge => ?_⟩
  · obtain ⟨c, hc⟩ : ∃ c, p.consts[i]? = some c := ⟨_, List.getElem?_eq_getElem hlt⟩
    obtain ⟨_, hcl⟩ := List.getElem?_eq_some_iff.1 hc
    simp [↓go, hc, hcl, hlt]
    intro g1
    refine jn_cut (fun s h' => h = h' ∧ s = [.fp (encProgram p), i64 i, bl (!constOK c)]) ?_ ?_
    · simp [↓go, hc]
      refine S_l2Type ?_
      unfold constOK
      simp [↓go]
      refine ⟨fun h1 => ?_, fun h1 => ⟨fun h2 => ?_, fun h2 => ?_⟩⟩
      · refine wk_pre (l := []) (m := [_]) ?_; simp [h1]
      · refine wk_pre (l := []) (m := [_]) ?_; have h1' := h1; rw [h2] at h1'; simp [h1', h2]
      · refine wk_pre (l := []) (m := [_]) ?_; simp [h1, h2]
    rintro _ _ ⟨rfl, rfl⟩
    simp [↓go]
    refine ⟨fun hb => retW_ex ?_, fun hb => ?_⟩
    · rw [allN_false hlt (by rw [getD_of hc]; exact hb), Bool.and_false] at hq; exact hq
    · rw [w64 (by omega) (by omega)]
      refine wk_ex ?_
      refine And.intro ⟨rfl, i + 1, by omega, allN_step ha (by rw [getD_of hc]; exact hb), rfl⟩ ?_
      simp; omega
  · obtain rfl : i = p.consts.length := by omega
    rw [ha, Bool.and_true] at hq
    refine retW_ex (bl_dec hq ?_); simp; omega
theorem S_constsFault {p : MProgram} {h : AHeap} {Q : KA} (hs : szProgram p ≤ 1048576) (hq : Q (fErr (constsOK p) 2) h) : @clM Tryz.prog 89 [.fp (encProgram p)] h ⟨Q⟩ := by
  refine cl_of fn_impl_Program_constsFault (D_impl_Program_constsFault_of ?_)
  unfold D_impl_Program_constsFault
  have hf := small_fld hs
  unfold constsOK at hq
  simp [↓go]
  refine ⟨fun h1 => retW_ex ?_, fun h1 => ?_⟩
  · rw [decide_eq_false (by omega)] at hq; exact hq
  rw [decide_eq_true (by omega), Bool.true_and] at hq
  refine lp_inv (fun s h' => h = h' ∧ ∃ i : Nat, i ≤ p.consts.length ∧ allN i (fun i => constOK (p.consts.getD i zConst)) = true ∧ s = [i64 i, encL encConst p.consts, i64 p.consts.length]) (fun s _ => p.consts.length - natA (nthA s 0)) (Wk.refl ⟨rfl, 0, by omega, rfl, rfl⟩) ?_
  rintro _ _ ⟨rfl, i, hi, ha, rfl⟩
  simp [↓go]
  refine ⟨fun hlt => ?_, fun hge => ?_⟩
  · obtain ⟨c, hc⟩ : ∃ c, p.consts[i]? = some c := ⟨_, List.getElem?_eq_getElem hlt⟩
    obtain ⟨_, hcl⟩ := List.getElem?_eq_some_iff.1 hc
    simp [↓go, hc, hcl, hlt]
    intro g1
    refine jn_cut (fun s h' => h = h' ∧ s = [encL encConst p.consts, i64 p.consts.length, i64 i, bl (!constOK c)]) ?_ ?_
    · simp [↓go, hc]
      refine S_isType ?_
      unfold constOK
      simp [↓go]
      refine ⟨fun h1 => ?_, fun h1 => ⟨fun h2 => ?_, fun h2 => ?_⟩⟩
      · refine wk_pre (l := []) (m := [_]) ?_; simp [h1]
      · refine wk_pre (l := []) (m := [_]) ?_; have h1' := h1; rw [h2] at h1'; simp [h1', h2]
      · refine wk_pre (l := []) (m := [_]) ?_; simp [h1, h2]
    rintro _ _ ⟨rfl, rfl⟩
    simp [↓go]
    refine ⟨fun hb => retW_ex ?_, fun hb => ?_⟩
    · rw [allN_false hlt (by rw [getD_of hc]; exact hb)] at hq; exact hq
    · rw [w64 (by omega) (by omega)]
      refine wk_ex ?_
      refine And.intro ⟨rfl, i + 1, by omega, allN_step ha (by rw [getD_of hc]; exact hb), rfl⟩ ?_
      simp; omega
  · obtain rfl : i = p.consts.length := by omega
    rw [ha] at hq; exact retW_ex hq
theorem S_l3Func {f : MFunc} {m : Bool} {h : AHeap} {Q : KA} (hs : szFunc f ≤ 1048576) (hq : Q (bl (funcOK m f)) h) : @clM Tryz.prog 81 [encFunc f, bl m] h ⟨Q⟩ := by
  refine cl_of fn_spec_l3Func (D_spec_l3Func_of ?_)
  unfold D_spec_l3Func
  have hf := small_ff hs
  unfold funcOK at hq
  simp [↓go]
  refine jn_cut (fun s h' => h = h' ∧ s = [.fp (encFunc f), bl m, bl (!(decide (f.params.length ≤ 8 ∧ f.params.length + f.locals.length ≤ 32) && (allTy f.params && allTy f.locals)))]) ?_ ?_
  · simp [↓go]
    refine ⟨fun h1 => ?_, fun h1 => ?_⟩
    · refine wk_ex ?_; simp; intros; omega
    rw [w64 (by omega) (by omega)]
    refine ⟨fun h2 => ?_, fun h2 => S_l3Types hf.1 ?_⟩
    · refine wk_ex ?_; simp; intros; omega
    simp [↓go]
    refine ⟨fun h3 => ?_, fun h3 => S_l3Types hf.2.1 ?_⟩
    · refine wk_ex ?_; simp [h3]
    simp [↓go]
    refine wk_ex ?_; simp [h3]; intros; omega
  rintro _ _ ⟨rfl, rfl⟩
  try simp only [nthA_z, nthA_s]
  cases hA : (decide (f.params.length ≤ 8 ∧ f.params.length + f.locals.length ≤ 32) && (allTy f.params && allTy f.locals)) with
  | false =>
    simp [↓go]
    refine jn_ex (wk_ret ?_)
    rw [← Bool.and_assoc (allTy _), ← Bool.and_assoc (decide _), hA] at hq; exact hq
  | true =>
  rw [← Bool.and_assoc (allTy _), ← Bool.and_assoc (decide _), hA, Bool.true_and] at hq
  simp [↓go]
  refine jn_cut (fun s h' => h = h' ∧ s = [.fp (encFunc f), bl m, bl (!((decide (f.result = 0) || isTy f.result) && decide (1 ≤ f.code.length ∧ f.code.length ≤ 1024)))]) ?_ ?_
  · simp [↓go, -List.length_eq_zero_iff]
    refine ⟨fun h1 => S_l2Type ?_, fun h1 => ⟨fun h2 => ?_, fun h2 => ?_⟩⟩
    · simp [↓go, -List.length_eq_zero_iff]
      refine ⟨fun h2 => ?_, fun h2 => ⟨fun h3 => ?_, fun h3 => ?_⟩⟩
      · refine wk_ex ?_; simp [h1, h2]
      · refine wk_ex ?_; generalize f.code.length = n at *; simp [h1, h2]; omega
      · refine wk_ex ?_; generalize f.code.length = n at *; simp [h1, h2]; rw [Bool.eq_iff_iff]; simp; omega
    · refine wk_ex ?_; generalize f.code.length = n at *; simp [h1]; omega
    · refine wk_ex ?_; generalize f.code.length = n at *; simp [h1]; rw [Bool.eq_iff_iff]; simp; omega
  rintro _ _ ⟨rfl, rfl⟩
  try simp only [nthA_z, nthA_s]
  cases hB : ((decide (f.result = 0) || isTy f.result) && decide (1 ≤ f.code.length ∧ f.code.length ≤ 1024)) with
  | false =>
    simp [↓go]
    refine jn_ex (wk_ret ?_)
    rw [← Bool.and_assoc, hB] at hq; exact hq
  | true =>
  rw [← Bool.and_assoc, hB, Bool.true_and] at hq
  simp [↓go]
  refine jn_ex ?_
  simp [↓go, -List.length_eq_zero_iff]
  repeat' (first | apply And.intro | intro _)
  all_goals (refine wk_ret ?_; refine Eq.mp (congrArg (fun z => Q (bl z) h) ?_) hq; simp [*, -List.length_eq_zero_iff])
theorem S_funcsFault {p : MProgram} {h : AHeap} {Q : KA} (hs : szProgram p ≤ 1048576) (hq : Q (fErr (funcsOK p) 3) h) : @clM Tryz.prog 90 [.fp (encProgram p)] h ⟨Q⟩ := by
  refine cl_of fn_impl_Program_funcsFault (D_impl_Program_funcsFault_of ?_)
  unfold D_impl_Program_funcsFault
  have hf := small_fld hs
  unfold funcsOK at hq
  refine jn_cut (fun s h' => h = h' ∧ s = [.fp (encProgram p), bl (!decide (1 ≤ p.funcs.length ∧ p.funcs.length ≤ 32))]) ?_ ?_
  · simp [↓go, -List.length_eq_zero_iff]
    refine ⟨fun h1 => ?_, fun h1 => ?_⟩
    · refine wk_ex ?_; generalize p.funcs.length = n at *; simp; omega
    · refine wk_ex ?_; generalize p.funcs.length = n at *; simp; rw [Bool.eq_iff_iff]; simp; omega
  rintro _ _ ⟨rfl, rfl⟩
  try simp only [nthA_z, nthA_s]
  cases hA : decide (1 ≤ p.funcs.length ∧ p.funcs.length ≤ 32) with
  | false =>
    rw [hA] at hq
    simp [↓go]
    exact retW_ex hq
  | true =>
  rw [hA, Bool.true_and] at hq
  simp [↓go]
  refine lp_inv (fun s h' => h = h' ∧ ∃ i : Nat, i ≤ p.funcs.length ∧ allN i (fun i => funcOK (decide (i = 0)) (p.funcs.getD i zFunc)) = true ∧ s = [i64 i, .fp (encProgram p), i64 p.funcs.length]) (fun s _ => p.funcs.length - natA (nthA s 0)) (Wk.refl ⟨rfl, 0, by omega, rfl, rfl⟩) ?_
  rintro _ _ ⟨rfl, i, hi, ha, rfl⟩
  simp [↓go]
  refine ⟨fun hlt => ?_, fun hge => ?_⟩
  · obtain ⟨f, hfi⟩ : ∃ f, p.funcs[i]? = some f := ⟨_, List.getElem?_eq_getElem hlt⟩
    obtain ⟨_, hfl⟩ := List.getElem?_eq_some_iff.1 hfi
    have hsf := small_f hs hfi
    have hff := small_ff hsf
    simp [↓go, hfi, hfl, hlt]
    refine jn_cut (fun s h' => h = h' ∧ s = [.fp (encProgram p), i64 p.funcs.length, i64 i, .fp (encFunc f), i64 i, bl (!(decide (f.params.length ≤ 8 ∧ f.params.length + f.locals.length ≤ 32) && (allTy f.params && allTy f.locals)))]) ?_ ?_
    · simp [↓go, hfi]
      refine ⟨fun h1 => ?_, fun h1 => S_locals hsf ?_⟩
      · refine wk_ex ?_; simp; intros; omega
      simp [↓go, hfi]
      refine ⟨fun h2 => ?_, fun h2 => S_allTypes hff.1 ?_⟩
      · refine wk_ex ?_; simp; omega
      simp [↓go, hfi]
      refine ⟨fun h3 => ?_, fun h3 => S_allTypes hff.2.1 ?_⟩
      · refine wk_ex ?_; simp [h3]
      simp [↓go, hfi]
      refine wk_ex ?_; simp [h3]; intros; omega
    rintro _ _ ⟨rfl, rfl⟩
    try simp only [nthA_z, nthA_s]
    generalize hA : (decide (f.params.length ≤ 8 ∧ f.params.length + f.locals.length ≤ 32) && (allTy f.params && allTy f.locals)) = A
    refine jn_cut (fun s h' => h = h' ∧ s = [.fp (encProgram p), i64 p.funcs.length, i64 i, .fp (encFunc f), i64 i, bl (!(A && ((decide (f.result = 0) || isTy f.result) && decide (1 ≤ f.code.length ∧ f.code.length ≤ 1024))))]) ?_ ?_
    · simp [↓go, -List.length_eq_zero_iff]
      refine ⟨fun hAf => ?_, fun hAt => ⟨fun h1 => S_isType ?_, fun h1 => ⟨fun h2 => ?_, fun h2 => ?_⟩⟩⟩
      · refine wk_ex ?_; simp [hAf]
      · simp [↓go, -List.length_eq_zero_iff]
        refine ⟨fun h2 => ?_, fun h2 => ⟨fun h3 => ?_, fun h3 => ?_⟩⟩
        · refine wk_ex ?_; simp [h1, h2]
        · refine wk_ex ?_; generalize f.code.length = n at *; simp [h1, h2]; intros; omega
        · refine wk_ex ?_; generalize f.code.length = n at *; simp [h1, h2, hAt]; rw [Bool.eq_iff_iff]; simp; omega
      · refine wk_ex ?_; generalize f.code.length = n at *; simp [h1]; intros; omega
      · refine wk_ex ?_; generalize f.code.length = n at *; simp [h1, hAt]; rw [Bool.eq_iff_iff]; simp; omega
    rintro _ _ ⟨rfl, rfl⟩
    try simp only [nthA_z, nthA_s]
    generalize hB : ((decide (f.result = 0) || isTy f.result) && decide (1 ≤ f.code.length ∧ f.code.length ≤ 1024)) = B
    have hfo : funcOK (decide (i = 0)) f = (A && (B && (!decide (i = 0) || decide (f.params.length = 0 ∧ f.result = 0)))) := by
      unfold funcOK
      rw [← Bool.and_assoc (allTy _), ← Bool.and_assoc (decide _), hA, ← Bool.and_assoc (_ || _), hB]
    refine jn_cut (fun s h' => h = h' ∧ s = [.fp (encProgram p), i64 p.funcs.length, i64 i, bl (!funcOK (decide (i = 0)) f)]) ?_ ?_
    · rw [hfo]
      simp [↓go, -List.length_eq_zero_iff]
      refine ⟨fun h1 => ?_, fun h1 h2 => ⟨fun h3 => ⟨fun h4 => ?_, fun h4 => ?_⟩, fun h3 => ?_⟩⟩
      · refine wk_ex ?_; cases A <;> cases B <;> simp_all
      · refine wk_ex ?_; generalize f.params.length = n at *; simp [h1, h2, h3]; omega
      · refine wk_ex ?_; generalize f.params.length = n at *; simp [h1, h2, h3]; omega
      · refine wk_ex ?_; simp [h1, h2, h3]
    rintro _ _ ⟨rfl, rfl⟩
    simp [↓go]
    refine ⟨fun hb => retW_ex ?_, fun hb => ?_⟩
    · rw [allN_false (i := i) (by omega) (by rw [getD_of hfi]; exact hb)] at hq; exact hq
    · rw [w64 (by omega) (by omega)]
      refine wk_ex ?_
      refine And.intro ⟨rfl, i + 1, by omega, allN_step ha (by rw [getD_of hfi]; exact hb), rfl⟩ ?_
      simp; omega
  · obtain rfl : i = p.funcs.length := by omega
    rw [ha] at hq; exact retW_ex hq
def codeOK (p : MProgram) : Bool := allN p.funcs.length (fun i => allN (p.funcs.getD i zFunc).code.length (fun k => specInstr p (p.funcs.getD i zFunc) ((p.funcs.getD i zFunc).code.getD k zInstr)))
theorem S_codeFault {p : MProgram} {h : AHeap} {Q : KA} (hs : szProgram p ≤ 1048576) (hR : regionsOK p = true) (hF : funcsOK p = true) (hq : Q (fErr (codeOK p) 4) h) : @clM Tryz.prog 91 [.fp (encProgram p)] h ⟨Q⟩ := by
  refine cl_of fn_impl_Program_codeFault (D_impl_Program_codeFault_of ?_)
  unfold D_impl_Program_codeFault
  have hf := small_fld hs
  obtain ⟨h3, hR2⟩ : p.regions.length = 3 ∧ ∀ r ∈ p.regions, allTy r = true := by
    unfold regionsOK at hR
    rw [Bool.and_eq_true, decide_eq_true_eq, allN_iff] at hR
    refine ⟨hR.1, fun r hr => ?_⟩
    obtain ⟨i, hi, rfl⟩ := List.getElem_of_mem hr
    have := hR.2 i (by omega)
    rw [getD_of (List.getElem?_eq_getElem hi)] at this
    unfold regionOK at this
    rw [Bool.and_eq_true] at this; exact this.2
  have hT : ∀ (i : Nat) (f : MFunc), p.funcs[i]? = some f → allTy f.params = true ∧ allTy f.locals = true := by
    intro i f hi
    unfold funcsOK at hF
    rw [Bool.and_eq_true, allN_iff] at hF
    have := hF.2 i (List.getElem?_eq_some_iff.1 hi).1
    rw [getD_of hi] at this
    unfold funcOK at this
    simp only [Bool.and_eq_true] at this
    exact ⟨this.2.1, this.2.2.1⟩
  unfold codeOK at hq
  simp [↓go]
  refine lp_inv (fun s h' => h = h' ∧ ∃ i : Nat, i ≤ p.funcs.length ∧ allN i (fun i => allN (p.funcs.getD i zFunc).code.length (fun k => specInstr p (p.funcs.getD i zFunc) ((p.funcs.getD i zFunc).code.getD k zInstr))) = true ∧ s = [i64 i, .fp (encProgram p), i64 p.funcs.length]) (fun s _ => p.funcs.length - natA (nthA s 0)) (Wk.refl ⟨rfl, 0, by omega, rfl, rfl⟩) ?_
  rintro _ _ ⟨rfl, i, hi, ha, rfl⟩
  simp [↓go]
  refine ⟨fun hlt => ?_, fun hge => ?_⟩
  · obtain ⟨f, hfi⟩ : ∃ f, p.funcs[i]? = some f := ⟨_, List.getElem?_eq_getElem hlt⟩
    obtain ⟨_, hfl⟩ := List.getElem?_eq_some_iff.1 hfi
    have hsf := small_f hs hfi
    have hff := small_ff hsf
    simp [↓go, hfi, hfl, hlt]
    refine lp_inv (fun s h' => h = h' ∧ ∃ k : Nat, k ≤ f.code.length ∧ allN k (fun k => specInstr p f (f.code.getD k zInstr)) = true ∧ s = [.fp (encProgram p), i64 p.funcs.length, i64 i, i64 k, .fp (encFunc f), i64 f.code.length]) (fun s _ => f.code.length - natA (nthA s 3)) (Wk.refl ⟨rfl, 0, by omega, rfl, rfl⟩) ?_
    rintro _ _ ⟨rfl, k, hk, hak, rfl⟩
    simp [↓go]
    refine ⟨fun hkl => ?_, fun hkg => ?_⟩
    · obtain ⟨x, hx⟩ : ∃ x, f.code[k]? = some x := ⟨_, List.getElem?_eq_getElem hkl⟩
      obtain ⟨_, hxl⟩ := List.getElem?_eq_some_iff.1 hx
      simp [↓go, hx, hxl, hkl]
      refine S_instrFits hs hsf h3 ?_
      rw [instr_eq hR2 (hT i f hfi).1 (hT i f hfi).2]
      simp [↓go]
      refine ⟨fun hb => retW_ex ?_, fun hb => ?_⟩
      · have h0 : allN (p.funcs.getD i zFunc).code.length (fun k => specInstr p (p.funcs.getD i zFunc) ((p.funcs.getD i zFunc).code.getD k zInstr)) = false := by
          rw [getD_of hfi]
          exact allN_false (i := k) hkl (by rw [getD_of hx]; exact hb)
        rw [allN_false (i := i) hlt h0] at hq; exact hq
      · rw [w64 (by omega) (by omega)]
        refine wk_ex ?_
        refine And.intro ⟨rfl, k + 1, by omega, allN_step hak (by rw [getD_of hx]; exact hb), rfl⟩ ?_
        simp; omega
    · obtain rfl : k = f.code.length := by omega
      rw [w64 (by omega) (by omega)]
      refine wk_ex ?_
      refine And.intro ⟨rfl, i + 1, by omega, allN_step ha (by rw [getD_of hfi]; exact hak), rfl⟩ ?_
      simp; omega
  · obtain rfl : i = p.funcs.length := by omega
    rw [ha] at hq; exact retW_ex hq
end Go.Proofs.YtkfpoagnchahkaaGreat.A
