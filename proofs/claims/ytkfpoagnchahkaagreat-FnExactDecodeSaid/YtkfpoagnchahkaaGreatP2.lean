/- Of this session: over the abstract machine. -/
import Derived.Test.YtkfpoagnchahkaaGreatProg
import Derived.Test.YtkfpoagnchahkaaGreatA
import Derived.Test.YtkfpoagnchahkaaGreatB
import Derived.Test.YtkfpoagnchahkaaGreatD
import Derived.Test.YtkfpoagnchahkaaGreatT
import Derived.Test.YtkfpoagnchahkaaGreatP1
namespace Go.Proofs.YtkfpoagnchahkaaGreat.A
open Go Go.RowKit
set_option linter.unusedVariables false
set_option linter.unusedSimpArgs false
set_option maxRecDepth 100000
set_option maxHeartbeats 1000000
theorem formOf_range (op : Int) : 0 ≤ formOf op ∧ formOf op ≤ 11 := by
  unfold formOf
  split
  · have h : ∀ n : Fin 30, 0 ≤ formL.getD n.val 0 ∧ formL.getD n.val 0 ≤ 11 := by decide
    exact h ⟨op.toNat, by omega⟩
  · omega
def specInstr (p : MProgram) (f : MFunc) (x : MInstr) : Bool :=
  if ¬ (0 ≤ x.op ∧ x.op ≤ 29) then false
  else if formOf x.op = 0 then decide (x.a = 0 ∧ x.b = 0 ∧ x.c = 0)
  else if formOf x.op = 1 then decide ((0 ≤ x.a ∧ x.a < p.consts.length) ∧ x.b = 0 ∧ x.c = 0)
  else if formOf x.op = 2 then decide (localTy f x.a ≠ 0 ∧ x.b = 0 ∧ x.c = 0)
  else if formOf x.op = 3 then decide (cellTy p x.a x.b ≠ 0 ∧ x.c = 0 ∧ (x.op = 4 ∨ x.a ≠ 0))
  else if formOf x.op = 4 then decide (maskOK p x = true ∧ (x.op = 6 ∨ x.a ≠ 0))
  else if formOf x.op = 8 then decide (isTy x.a = true ∧ isTy x.b = true ∧ x.a ≠ x.b ∧ x.c = 0)
  else if formOf x.op = 9 then decide (x.a = 0 ∧ x.b = 0 ∧ 0 ≤ x.c ∧ x.c < f.code.length)
  else if formOf x.op = 10 then decide (localTy f x.a ≠ 0 ∧ x.b = 0 ∧ 0 ≤ x.c ∧ x.c < f.code.length)
  else if formOf x.op = 11 then decide ((0 ≤ x.a ∧ x.a < p.funcs.length) ∧ x.b = 0 ∧ x.c = 0)
  else decide (takes (formOf x.op) x.a = true ∧ x.b = 0 ∧ x.c = 0)
theorem S_l3Instr {p : MProgram} {f : MFunc} {x : MInstr} {h : AHeap} {Q : KA} (hs : szProgram p ≤ 1048576) (hf : szFunc f ≤ 1048576) (h3 : p.regions.length = 3) (hq : Q (bl (specInstr p f x)) h) : @clM Tryz.prog 82 [encProgram p, encFunc f, encInstr x] h ⟨Q⟩ := by
  refine cl_of fn_spec_l3Instr (D_spec_l3Instr_of ?_)
  unfold D_spec_l3Instr
  unfold specInstr at hq
  simp [↓go]
  refine jn_cut (fun s h' => h = h' ∧ s = [.fp (encInstr x), .fp (encProgram p), .fp (encFunc f), bl (!decide (0 ≤ x.op ∧ x.op ≤ 29))]) ?_ ?_
  · simp [↓go]
    refine ⟨fun h1 => ?_, fun h1 => ?_⟩
    · refine wk_ex ?_; simp; omega
    · refine wk_ex ?_; simp [h1]; rw [Bool.eq_iff_iff]; simp
  rintro _ _ ⟨rfl, rfl⟩
  try simp only [nthA_z, nthA_s]
  by_cases hop : 0 ≤ x.op ∧ x.op ≤ 29
  rotate_left
  · rw [if_pos hop] at hq
    rw [decide_eq_false hop]
    simp [↓go]
    exact jn_ex (wk_ret hq)
  rw [if_neg (by simpa using hop)] at hq
  rw [decide_eq_true hop]
  simp [↓go]
  refine jn_cut (fun s h' => h = h' ∧ s = [.fp (encInstr x), .fp (encProgram p), bl (decide (0 ≤ x.c ∧ x.c < f.code.length)), .fp (encFunc f)]) ?_ ?_
  · simp [↓go]
    refine ⟨fun h1 => ?_, fun h1 => ?_⟩
    · refine wk_ex ?_; simp [h1]
    · refine wk_ex ?_; simp; omega
  rintro _ _ ⟨rfl, rfl⟩
  simp [↓go]
  refine S_specInfo ?_
  simp [↓go, encInfo]
  generalize formOf x.op = fm at hq
  refine ⟨fun k0 => jn_ex ?_, fun k0 => ⟨fun k1 => jn_ex ?_, fun k1 => ⟨fun k2 => jn_ex ?_, fun k2 => ⟨fun k3 => jn_ex ?_, fun k3 => ⟨fun k4 => jn_ex ?_, fun k4 => ⟨fun k8 => jn_ex ?_, fun k8 => ⟨fun k9 => jn_ex ?_, fun k9 => ⟨fun k10 => jn_ex ?_, fun k10 => ⟨fun k11 => jn_ex ?_, fun k11 => jn_ex ?_⟩⟩⟩⟩⟩⟩⟩⟩⟩
  · rw [if_pos k0] at hq
    simp [↓go]
    repeat' (first | apply And.intro | intro _)
    all_goals (refine wk_ret (bl_dec hq ?_); simp [*])
  · rw [if_neg k0, if_pos k1] at hq
    simp [↓go]
    repeat' (first | apply And.intro | intro _)
    all_goals (refine wk_ret (bl_dec hq ?_); simp; try omega)
  · rw [if_neg k0, if_neg k1, if_pos k2] at hq
    simp [↓go]
    refine S_l3Local hf ?_
    simp [↓go]
    repeat' (first | apply And.intro | intro _)
    all_goals (refine wk_ret (bl_dec hq ?_); simp; try omega)
  · rw [if_neg k0, if_neg k1, if_neg k2, if_pos k3] at hq
    simp [↓go]
    refine S_l3Cell h3 ?_
    simp [↓go]
    repeat' (first | apply And.intro | intro _)
    all_goals (refine wk_ret (bl_dec hq ?_); simp; try omega)
  · rw [if_neg k0, if_neg k1, if_neg k2, if_neg k3, if_pos k4] at hq
    simp [↓go]
    refine S_l3Mask hs h3 ?_
    simp [↓go]
    repeat' (first | apply And.intro | intro _)
    all_goals (refine wk_ret (bl_dec hq ?_); simp [*])
  · rw [if_neg k0, if_neg k1, if_neg k2, if_neg k3, if_neg k4, if_pos k8] at hq
    simp [↓go]
    refine S_l2Type ?_
    simp [↓go]
    refine ⟨fun h1 => S_l2Type ?_, fun h1 => wk_ret (bl_dec hq (by simp [h1]))⟩
    simp [↓go]
    repeat' (first | apply And.intro | intro _)
    all_goals (refine wk_ret (bl_dec hq ?_); simp [*])
  · rw [if_neg k0, if_neg k1, if_neg k2, if_neg k3, if_neg k4, if_neg k8, if_pos k9] at hq
    simp [↓go]
    repeat' (first | apply And.intro | intro _)
    all_goals (refine wk_ret (bl_dec hq ?_); simp [*])
  · rw [if_neg k0, if_neg k1, if_neg k2, if_neg k3, if_neg k4, if_neg k8, if_neg k9, if_pos k10] at hq
    simp [↓go]
    refine S_l3Local hf ?_
    simp [↓go]
    repeat' (first | apply And.intro | intro _)
    all_goals (refine wk_ret (bl_dec hq ?_); simp [*])
  · rw [if_neg k0, if_neg k1, if_neg k2, if_neg k3, if_neg k4, if_neg k8, if_neg k9, if_neg k10, if_pos k11] at hq
    simp [↓go]
    repeat' (first | apply And.intro | intro _)
    all_goals (refine wk_ret (bl_dec hq ?_); simp; try omega)
  · rw [if_neg k0, if_neg k1, if_neg k2, if_neg k3, if_neg k4, if_neg k8, if_neg k9, if_neg k10, if_neg k11] at hq
    simp [↓go]
    refine S_l2Takes ?_
    simp [↓go]
    repeat' (first | apply And.intro | intro _)
    all_goals (refine wk_ret (bl_dec hq ?_); simp [*])
def implInstr (p : MProgram) (f : MFunc) (x : MInstr) : Bool :=
  if ¬ (0 ≤ x.op ∧ x.op ≤ 29) then false
  else if (¬ (formOf x.op ≠ 0 ∧ formOf x.op ≠ 9) ∧ x.a ≠ 0) ∨ (¬ (formOf x.op = 3 ∨ formOf x.op = 4 ∨ formOf x.op = 8) ∧ x.b ≠ 0) ∨ (¬ (formOf x.op = 4 ∨ formOf x.op = 9 ∨ formOf x.op = 10) ∧ x.c ≠ 0) then false
  else if (formOf x.op = 9 ∨ formOf x.op = 10) ∧ ¬ (0 ≤ x.c ∧ x.c < f.code.length) then false
  else if formOf x.op = 1 then decide (0 ≤ x.a ∧ x.a < p.consts.length)
  else if formOf x.op = 2 ∨ formOf x.op = 10 then decide (0 ≤ x.a ∧ x.a < (f.params.length : Int) + f.locals.length)
  else if formOf x.op = 3 ∨ formOf x.op = 4 then cellsOK p x
  else if formOf x.op = 5 then isNum x.a
  else if formOf x.op = 6 then isBit x.a
  else if formOf x.op = 7 then isTy x.a
  else if formOf x.op = 8 then decide (isTy x.a = true ∧ isTy x.b = true ∧ x.a ≠ x.b)
  else if formOf x.op = 11 then decide (0 ≤ x.a ∧ x.a < p.funcs.length)
  else true
theorem S_instrFits {p : MProgram} {f : MFunc} {x : MInstr} {h : AHeap} {Q : KA} (hs : szProgram p ≤ 1048576) (hf : szFunc f ≤ 1048576) (h3 : p.regions.length = 3) (hq : Q (bl (implInstr p f x)) h) : @clM Tryz.prog 128 [.fp (encProgram p), .fp (encFunc f), .fp (encInstr x)] h ⟨Q⟩ := by
  refine cl_of fn_impl_Program_instrFits (D_impl_Program_instrFits_of ?_)
  unfold D_impl_Program_instrFits
  unfold implInstr at hq
  refine jn_cut (fun s h' => h = h' ∧ s = [.fp (encProgram p), .fp (encInstr x), .fp (encFunc f), bl (!decide (0 ≤ x.op ∧ x.op ≤ 29))]) ?_ ?_
  · simp [↓go]
    refine ⟨fun h1 => ?_, fun h1 => ?_⟩
    · refine wk_ex ?_; simp; omega
    · refine wk_ex ?_; simp [h1]; rw [Bool.eq_iff_iff]; simp
  rintro _ _ ⟨rfl, rfl⟩
  try simp only [nthA_z, nthA_s]
  by_cases hop : 0 ≤ x.op ∧ x.op ≤ 29
  rotate_left
  · rw [if_pos hop] at hq
    rw [decide_eq_false hop]
    simp [↓go]
    exact retW_ex hq
  rw [if_neg (by simpa using hop)] at hq
  rw [decide_eq_true hop]
  simp [↓go]
  refine S_implInfo ?_
  simp [↓go, encInfo]
  generalize formOf x.op = fm at hq
  refine jn_cut (fun s h' => h = h' ∧ s = [.fp (encProgram p), .fp (encInstr x), .fp (encFunc f), i64 fm, bl (decide (fm ≠ 0 ∧ fm ≠ 9))]) ?_ ?_
  · simp [↓go]
    repeat' (first | apply And.intro | intro _)
    all_goals (refine wk_ex ?_; simp [*])
  rintro _ _ ⟨rfl, rfl⟩
  try simp only [nthA_z, nthA_s]
  refine jn_cut (fun s h' => h = h' ∧ s = [.fp (encProgram p), .fp (encInstr x), .fp (encFunc f), i64 fm, bl (decide (fm = 3 ∨ fm = 4 ∨ fm = 8)), bl (decide (fm ≠ 0 ∧ fm ≠ 9))]) ?_ ?_
  · simp [↓go]
    repeat' (first | apply And.intro | intro _)
    all_goals (refine wk_ex ?_; simp [*])
  rintro _ _ ⟨rfl, rfl⟩
  try simp only [nthA_z, nthA_s]
  refine jn_cut (fun s h' => h = h' ∧ s = [.fp (encProgram p), .fp (encInstr x), .fp (encFunc f), i64 fm, bl (decide (fm = 4 ∨ fm = 9 ∨ fm = 10)), bl (decide (fm = 3 ∨ fm = 4 ∨ fm = 8)), bl (decide (fm ≠ 0 ∧ fm ≠ 9))]) ?_ ?_
  · simp [↓go]
    repeat' (first | apply And.intro | intro _)
    all_goals (refine wk_ex ?_; simp [*])
  rintro _ _ ⟨rfl, rfl⟩
  try simp only [nthA_z, nthA_s]
  generalize hA : decide (fm ≠ 0 ∧ fm ≠ 9) = uA
  generalize hB : decide (fm = 3 ∨ fm = 4 ∨ fm = 8) = uB
  generalize hC : decide (fm = 4 ∨ fm = 9 ∨ fm = 10) = uC
  have hq : Q (bl (if (uA = false ∧ x.a ≠ 0) ∨ (uB = false ∧ x.b ≠ 0) ∨ (uC = false ∧ x.c ≠ 0) then false else (if (fm = 9 ∨ fm = 10) ∧ ¬ (0 ≤ x.c ∧ x.c < f.code.length) then false
    else if fm = 1 then decide (0 ≤ x.a ∧ x.a < p.consts.length)
    else if fm = 2 ∨ fm = 10 then decide (0 ≤ x.a ∧ x.a < (f.params.length : Int) + f.locals.length)
    else if fm = 3 ∨ fm = 4 then cellsOK p x
    else if fm = 5 then isNum x.a
    else if fm = 6 then isBit x.a
    else if fm = 7 then isTy x.a
    else if fm = 8 then decide (isTy x.a = true ∧ isTy x.b = true ∧ x.a ≠ x.b)
    else if fm = 11 then decide (0 ≤ x.a ∧ x.a < p.funcs.length)
    else true))) h := by
    subst hA hB hC
    simpa only [decide_eq_false_iff_not] using hq
  refine jn_cut (fun s h' => h = h' ∧ s = [.fp (encProgram p), .fp (encInstr x), .fp (encFunc f), i64 fm, bl (decide ((uA = false ∧ x.a ≠ 0) ∨ (uB = false ∧ x.b ≠ 0) ∨ (uC = false ∧ x.c ≠ 0)))]) ?_ ?_
  · simp [↓go]
    repeat' (first | apply And.intro | intro _)
    all_goals (refine wk_ex ?_; simp [*])
  rintro _ _ ⟨rfl, rfl⟩
  try simp only [nthA_z, nthA_s]
  by_cases hu : (uA = false ∧ x.a ≠ 0) ∨ (uB = false ∧ x.b ≠ 0) ∨ (uC = false ∧ x.c ≠ 0)
  · rw [if_pos hu] at hq
    rw [decide_eq_true hu]
    simp [↓go]
    exact retW_ex hq
  rw [if_neg hu] at hq
  rw [decide_eq_false hu]
  simp [↓go]
  refine jn_cut (fun s h' => h = h' ∧ s = [.fp (encProgram p), .fp (encInstr x), .fp (encFunc f), i64 fm, bl (decide ((fm = 9 ∨ fm = 10) ∧ ¬ (0 ≤ x.c ∧ x.c < f.code.length)))]) ?_ ?_
  · simp [↓go]
    refine ⟨fun h9 => S_below ?_, fun h9 => ⟨fun h10 => S_below ?_, fun h10 => ?_⟩⟩
    · simp [↓go]; refine wk_ex ?_; simp [*]; rw [Bool.eq_iff_iff]; simp
    · simp [↓go]; refine wk_ex ?_; simp [*]; rw [Bool.eq_iff_iff]; simp
    · refine wk_ex ?_; simp [*]
  rintro _ _ ⟨rfl, rfl⟩
  try simp only [nthA_z, nthA_s]
  by_cases hc : (fm = 9 ∨ fm = 10) ∧ ¬ (0 ≤ x.c ∧ x.c < f.code.length)
  · rw [if_pos hc] at hq
    rw [decide_eq_true hc]
    simp [↓go]
    exact retW_ex hq
  rw [if_neg hc] at hq
  rw [decide_eq_false hc]
  simp [↓go]
  refine ⟨fun k1 => ?_, fun k1 => ?_⟩
  · rw [if_pos k1] at hq
    exact S_below (retW_ex hq)
  rw [if_neg k1] at hq
  refine jn_cut (fun s h' => h = h' ∧ s = [.fp (encProgram p), .fp (encInstr x), i64 fm, .fp (encFunc f), bl (decide (fm = 2 ∨ fm = 10))]) ?_ ?_
  · simp [↓go]
    repeat' (first | apply And.intro | intro _)
    all_goals (refine wk_ex ?_; simp [*])
  rintro _ _ ⟨rfl, rfl⟩
  try simp only [nthA_z, nthA_s]
  by_cases k2 : fm = 2 ∨ fm = 10
  · rw [if_pos k2] at hq
    rw [decide_eq_true k2]
    simp [↓go]
    refine ⟨S_locals hf (S_below (retW_ex hq)), S_locals hf ?_⟩
    simp [↓go]
    exact S_below (retW_ex hq)
  rw [if_neg k2] at hq
  rw [decide_eq_false k2]
  simp [↓go]
  refine jn_cut (fun s h' => h = h' ∧ s = [.fp (encProgram p), .fp (encInstr x), i64 fm, bl (decide (fm = 3 ∨ fm = 4))]) ?_ ?_
  · simp [↓go]
    repeat' (first | apply And.intro | intro _)
    all_goals (refine wk_ex ?_; simp [*])
  rintro _ _ ⟨rfl, rfl⟩
  try simp only [nthA_z, nthA_s]
  by_cases k3 : fm = 3 ∨ fm = 4
  · rw [if_pos k3] at hq
    rw [decide_eq_true k3]
    simp [↓go]
    exact S_cellsAre hs h3 (retW_ex hq)
  rw [if_neg k3] at hq
  rw [decide_eq_false k3]
  simp [↓go]
  refine ⟨fun k5 => ?_, fun k5 => ⟨fun k6 => ?_, fun k6 => ⟨fun k7 => ?_, fun k7 => ⟨fun k8 => ?_, fun k8 => ⟨fun k11 => ?_, fun k11 => ?_⟩⟩⟩⟩⟩
  · rw [if_pos k5] at hq; exact S_isNumber (retW_ex hq)
  · rw [if_neg k5, if_pos k6] at hq; exact S_isBits (retW_ex hq)
  · rw [if_neg k5, if_neg k6, if_pos k7] at hq; exact S_isType (retW_ex hq)
  · rw [if_neg k5, if_neg k6, if_neg k7, if_pos k8] at hq
    refine S_isType ?_
    simp [↓go]
    refine ⟨fun h1 => S_isType ?_, fun h1 => retW_ex (bl_dec hq (by simp [h1]))⟩
    simp [↓go]
    refine ⟨fun h2 => retW_ex (bl_dec hq (by simp [h1, h2])), fun h2 => retW_ex (bl_dec hq (by simp [h2]))⟩
  · rw [if_neg k5, if_neg k6, if_neg k7, if_neg k8, if_pos k11] at hq; exact S_below (retW_ex hq)
  · rw [if_neg k5, if_neg k6, if_neg k7, if_neg k8, if_neg k11] at hq; exact retW_ex hq
theorem allTy_get {l : List Int} (h : allTy l = true) {i : Nat} (hi : i < l.length) : isTy (l.getD i 0) = true := allN_iff.1 h i hi
theorem isTy_ne {t : Int} (h : isTy t = true) : t ≠ 0 := by unfold isTy at h; rw [decide_eq_true_eq] at h; omega
theorem localTy_ne {f : MFunc} (h1 : allTy f.params = true) (h2 : allTy f.locals = true) (k : Int) : localTy f k ≠ 0 ↔ 0 ≤ k ∧ k < (f.params.length : Int) + f.locals.length := by
  unfold localTy
  split
  · rename_i h
    have := isTy_ne (allTy_get h1 (i := k.toNat) (by omega))
    constructor
    · intro _; omega
    · intro _; exact this
  · split
    · rename_i h
      have := isTy_ne (allTy_get h2 (i := (k - f.params.length).toNat) (by omega))
      constructor
      · intro _; omega
      · intro _; exact this
    · constructor
      · intro h; exact absurd rfl h
      · intro h; omega
theorem reg_cases (p : MProgram) (a : Int) : reg p a = [] ∨ reg p a ∈ p.regions := by
  unfold reg
  rw [List.getD_eq_getElem?_getD]
  cases h : p.regions[a.toNat]? with
  | none => exact .inl rfl
  | some r => exact .inr (List.mem_of_getElem? h)
theorem reg_ty {p : MProgram} (hR : ∀ r ∈ p.regions, allTy r = true) {a : Int} {i : Nat} (hi : i < (reg p a).length) : isTy ((reg p a).getD i 0) = true := by
  rcases reg_cases p a with h | h
  · rw [h] at hi; simp at hi
  · exact allTy_get (hR _ h) hi
theorem cellTy_val {p : MProgram} {r c : Int} (h : 0 ≤ r ∧ r ≤ 2 ∧ 0 ≤ c ∧ c < (reg p r).length) : cellTy p r c = (reg p r).getD c.toNat 0 := by
  unfold cellTy; exact if_pos h
theorem cellTy_ne {p : MProgram} (hR : ∀ r ∈ p.regions, allTy r = true) (r c : Int) : cellTy p r c ≠ 0 ↔ 0 ≤ r ∧ r ≤ 2 ∧ 0 ≤ c ∧ c < (reg p r).length := by
  constructor
  · exact cellTy_in
  · intro h
    rw [cellTy_val h]
    exact isTy_ne (reg_ty hR (by omega))
theorem cells_one {p : MProgram} (hR : ∀ r ∈ p.regions, allTy r = true) {x : MInstr} (hc : x.c = 0) (ho : x.op = 4 ∨ x.op = 5) : cellsOK p x = decide (cellTy p x.a x.b ≠ 0 ∧ x.c = 0 ∧ (x.op = 4 ∨ x.a ≠ 0)) := by
  unfold cellsOK
  rw [Bool.eq_iff_iff]
  have h0 : andI .i64 0 (0 + 1) = 0 := by decide
  simp only [Bool.and_eq_true, decide_eq_true_eq, Bool.not_eq_true', decide_eq_false_iff_not, hc, h0, cellTy_ne hR, Int.toNat_zero, allN_iff]
  constructor
  · rintro ⟨h1, h2, h3, h4⟩
    refine ⟨by omega, trivial, ?_⟩
    rcases ho with h | h
    · exact .inl h
    · exact .inr (fun e => h2 ⟨.inl h, e⟩)
  · rintro ⟨h1, _, h3⟩
    refine ⟨by omega, ?_, by simp; omega, fun i hi => ?_⟩
    · rintro ⟨h5, e⟩
      rcases h3 with h | h
      · omega
      · exact h e
    · obtain rfl : i = 0 := by omega
      rfl
theorem cells_mask {p : MProgram} (hR : ∀ r ∈ p.regions, allTy r = true) {x : MInstr} (ho : x.op = 6 ∨ x.op = 7) : cellsOK p x = decide (maskOK p x = true ∧ (x.op = 6 ∨ x.a ≠ 0)) := by
  unfold cellsOK maskOK
  rw [Bool.eq_iff_iff]
  simp only [Bool.and_eq_true, decide_eq_true_eq, Bool.not_eq_true', decide_eq_false_iff_not, allN_iff, cellTy_ne hR]
  constructor
  · rintro ⟨h1, h2, h3, h4⟩
    refine ⟨⟨by omega, fun i hi => ⟨by omega, ?_⟩⟩, ?_⟩
    · rw [cellTy_val (by omega), cellTy_val (by omega), ← h4 i hi]
      congr 1; omega
    · rcases ho with h | h
      · exact .inl h
      · exact .inr (fun e => h2 ⟨.inr h, e⟩)
  · rintro ⟨⟨h1, h2⟩, h3⟩
    have g0 := h2 0 (by omega)
    have g1 := h2 x.c.toNat (by omega)
    have hb := (cellTy_ne hR x.a (x.b + (x.c.toNat : Nat))).1 (by rw [g1.2]; exact (cellTy_ne hR _ _).2 g1.1)
    refine ⟨by omega, ?_, by omega, fun i hi => ?_⟩
    · rintro ⟨h5, e⟩
      rcases h3 with h | h
      · omega
      · exact h e
    · have g := h2 i hi
      rw [cellTy_val (by omega), cellTy_val (by omega)] at g
      rw [← g.2]
      congr 1; omega
theorem form3 {op : Int} (h : formOf op = 3) : op = 4 ∨ op = 5 := by
  unfold formOf at h
  split at h
  · have hh : ∀ n : Fin 30, formL.getD n.val 0 = 3 → n.val = 4 ∨ n.val = 5 := by decide
    have := hh ⟨op.toNat, by omega⟩ h
    simp only at this
    omega
  · omega
theorem form4 {op : Int} (h : formOf op = 4) : op = 6 ∨ op = 7 := by
  unfold formOf at h
  split at h
  · have hh : ∀ n : Fin 30, formL.getD n.val 0 = 4 → n.val = 6 ∨ n.val = 7 := by decide
    have := hh ⟨op.toNat, by omega⟩ h
    simp only at this
    omega
  · omega
theorem instr_eq {p : MProgram} {f : MFunc} (hR : ∀ r ∈ p.regions, allTy r = true) (h1 : allTy f.params = true) (h2 : allTy f.locals = true) (x : MInstr) : implInstr p f x = specInstr p f x := by
  unfold implInstr specInstr
  by_cases hop : 0 ≤ x.op ∧ x.op ≤ 29
  rotate_left
  · rw [if_pos hop, if_pos hop]
  have hn : ¬ ¬ (0 ≤ x.op ∧ x.op ≤ 29) := fun h => h hop
  rw [if_neg hn, if_neg hn]
  have hr := formOf_range x.op
  have f3 := @form3 x.op
  have f4 := @form4 x.op
  have hl := localTy_ne h1 h2 x.a
  generalize formOf x.op = fm at *
  have hcase : fm = 0 ∨ fm = 1 ∨ fm = 2 ∨ fm = 3 ∨ fm = 4 ∨ fm = 5 ∨ fm = 6 ∨ fm = 7 ∨ fm = 8 ∨ fm = 9 ∨ fm = 10 ∨ fm = 11 := by omega
  rcases hcase with rfl | rfl | rfl | rfl | rfl | rfl | rfl | rfl | rfl | rfl | rfl | rfl
  · simp <;> (rw [Bool.eq_iff_iff]; simp; omega)
  · simp <;> (rw [Bool.eq_iff_iff]; simp; omega)
  · simp only [hl]; simp <;> (rw [Bool.eq_iff_iff]; simp; omega)
  · simp
    by_cases hc : x.c = 0
    · have := cells_one hR hc (f3 rfl)
      simp [hc] at this ⊢
      exact this
    · simp [hc]
  · have := cells_mask hR (x := x) (f4 rfl)
    simp at this ⊢
    exact this
  · simp [takes, isNum] <;> (rw [Bool.eq_iff_iff]; simp; omega)
  · simp [takes, isBit] <;> (rw [Bool.eq_iff_iff]; simp; omega)
  · simp [takes, isTy] <;> (rw [Bool.eq_iff_iff]; simp; omega)
  · simp [isTy] <;> (rw [Bool.eq_iff_iff]; simp; omega)
  · simp <;> (rw [Bool.eq_iff_iff]; simp; omega)
  · simp only [hl]; simp <;> (rw [Bool.eq_iff_iff]; simp; omega)
  · simp <;> (rw [Bool.eq_iff_iff]; simp; omega)
end Go.Proofs.YtkfpoagnchahkaaGreat.A
