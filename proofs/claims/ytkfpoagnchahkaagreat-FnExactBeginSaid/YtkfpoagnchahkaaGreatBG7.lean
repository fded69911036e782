/- Of this session: over the abstract machine. -/
import Derived.Test.YtkfpoagnchahkaaGreatProg
import Derived.Test.YtkfpoagnchahkaaGreatA
import Derived.Test.YtkfpoagnchahkaaGreatB
import Derived.Test.YtkfpoagnchahkaaGreatD
import Derived.Test.YtkfpoagnchahkaaGreatT
import Derived.Test.YtkfpoagnchahkaaGreatP1
import Derived.Test.YtkfpoagnchahkaaGreatP2
import Derived.Test.YtkfpoagnchahkaaGreatP3
import Derived.Test.YtkfpoagnchahkaaGreatP4
import Derived.Test.YtkfpoagnchahkaaGreatP5
import Derived.Test.YtkfpoagnchahkaaGreatVM
import Derived.Test.YtkfpoagnchahkaaGreatO
import Derived.Test.YtkfpoagnchahkaaGreatOT
import Derived.Test.YtkfpoagnchahkaaGreatBG
import Derived.Test.YtkfpoagnchahkaaGreatBG4
import Derived.Test.YtkfpoagnchahkaaGreatBG5
import Derived.Test.YtkfpoagnchahkaaGreatBG6
namespace Go.Proofs.YtkfpoagnchahkaaGreat.A
open Go Go.RowKit
set_option linter.unusedVariables false
set_option linter.unusedSimpArgs false
set_option maxRecDepth 100000
set_option maxHeartbeats 1000000
theorem fault_ok {p : MProgram} (h : progFault p = 0) : regionsOK p = true ∧ funcsOK p = true := by
  unfold progFault at h
  cases h1 : regionsOK p <;> cases h2 : constsOK p <;> cases h3 : funcsOK p <;> simp [h1, h2, h3] at h ⊢
theorem begin_small (p : MProgram) (m : MMemory) : szState (beginState p m) ≤ 2000 := by
  unfold beginState
  split
  · rename_i hv
    unfold validMem at hv
    simp at hv
    obtain ⟨h0, k0, ⟨k1, _⟩, k2, _⟩ := hv
    obtain ⟨hr, hf⟩ := fault_ok h0
    unfold regionsOK at hr
    simp only [Bool.and_eq_true, decide_eq_true_eq, allN_iff] at hr
    unfold funcsOK at hf
    simp only [Bool.and_eq_true, decide_eq_true_eq, allN_iff] at hf
    have r0 := hr.2 0 (by omega)
    have r1 := hr.2 1 (by omega)
    have r2 := hr.2 2 (by omega)
    have f0 := hf.2 0 (by omega)
    unfold regionOK at r0 r1 r2
    unfold funcOK at f0
    simp only [Bool.and_eq_true, decide_eq_true_eq] at r0 r1 r2 f0
    have f1 := f0.1.2
    have r0 := r0.1
    have r1 := r1.1
    have r2 := r2.1
    clear f0 hr hf h0
    have hz : (szL (fun _ => 0) : List MValue → Nat) = List.length := funext (szL_zero)
    have hfr : ∀ f : MFrame, szFrame f = f.locals.length := fun f => szL_zero _
    simp [szState, stateOf, machOf, MMach.cells, hz, szL, frameOf, hfr, zerosOf, cellsOf]
    simp at r0 r1 r2 f1 k0 k1 k2
    omega
  · simp [szState, szL]
theorem own_program {H : AHeap} {y : AVal} {p : MProgram} {rs : List Nat} (o : Own H [y] [encProgram p] rs) : ∃ c0 c1 c2 c3, y = .agg [c0, c1, c2, c3] ∧ (c0.flat = [c0] ∧ c0.c1 = true ∧ c0.isAgg = false) ∧ (c1.flat = [c1] ∧ c1.c1 = true ∧ c1.isAgg = false) ∧ (c2.flat = [c2] ∧ c2.c1 = true ∧ c2.isAgg = false) ∧ (c3.flat = [c3] ∧ c3.c1 = true ∧ c3.isAgg = false) := by
  rw [encProgram_eq] at o
  obtain ⟨cs, rfl, oc⟩ := o.agg_inv2
  obtain ⟨c0, _, _, rfl, oc0⟩ := oc.cons_ex
  obtain ⟨c1, _, _, rfl, oc1⟩ := oc0.cons_ex
  obtain ⟨c2, _, _, rfl, oc2⟩ := oc1.cons_ex
  obtain ⟨c3, _, _, rfl, oc3⟩ := oc2.cons_ex
  obtain ⟨rfl, -⟩ := oc3.nil_inv
  refine ⟨c0, c1, c2, c3, rfl, ?_, ?_, ?_, ?_⟩
  · obtain ⟨t, qs, e, o, _⟩ := oc.at (i := 0) rfl
    cases e
    exact o.sl_cell
  · obtain ⟨t, qs, e, o, _⟩ := oc.at (i := 1) rfl
    cases e
    exact o.sl_cell
  · obtain ⟨t, qs, e, o, _⟩ := oc.at (i := 2) rfl
    cases e
    exact o.sl_cell
  · obtain ⟨t, qs, e, o, _⟩ := oc.at (i := 3) rfl
    cases e
    exact o.sl_cell
theorem own_memory {H : AHeap} {y : AVal} {p : MMemory} {rs : List Nat} (o : Own H [y] [encMemory p] rs) : ∃ c0 c1 c2, y = .agg [c0, c1, c2] ∧ (c0.flat = [c0] ∧ c0.c1 = true ∧ c0.isAgg = false) ∧ (c1.flat = [c1] ∧ c1.c1 = true ∧ c1.isAgg = false) ∧ (c2.flat = [c2] ∧ c2.c1 = true ∧ c2.isAgg = false) := by
  rw [encMemory_eq] at o
  obtain ⟨cs, rfl, oc⟩ := o.agg_inv2
  obtain ⟨c0, _, _, rfl, oc0⟩ := oc.cons_ex
  obtain ⟨c1, _, _, rfl, oc1⟩ := oc0.cons_ex
  obtain ⟨c2, _, _, rfl, oc2⟩ := oc1.cons_ex
  obtain ⟨rfl, -⟩ := oc2.nil_inv
  refine ⟨c0, c1, c2, rfl, ?_, ?_, ?_⟩
  · obtain ⟨t, qs, e, o, _⟩ := oc.at (i := 0) rfl
    cases e
    exact o.sl_cell
  · obtain ⟨t, qs, e, o, _⟩ := oc.at (i := 1) rfl
    cases e
    exact o.sl_cell
  · obtain ⟨t, qs, e, o, _⟩ := oc.at (i := 2) rfl
    cases e
    exact o.sl_cell
theorem own_state {H : AHeap} {y : AVal} {x : MState} {rs : List Nat} (o : Own H [y] [encState x] rs) : ∃ c4 c5 c6, y = .agg [i64 x.trap, bl x.done, i64 x.cost, i64 x.steps, c4, c5, c6] ∧ (c4.flat = [c4] ∧ c4.c1 = true ∧ c4.isAgg = false) ∧ (c5.flat = [c5] ∧ c5.c1 = true ∧ c5.isAgg = false) ∧ (c6.flat = [c6] ∧ c6.c1 = true ∧ c6.isAgg = false) := by
  rw [encState_eq] at o
  obtain ⟨cs, rfl, oc⟩ := o.agg_inv2
  obtain ⟨c0, _, _, rfl, oc0⟩ := oc.cons_ex
  obtain ⟨c1, _, _, rfl, oc1⟩ := oc0.cons_ex
  obtain ⟨c2, _, _, rfl, oc2⟩ := oc1.cons_ex
  obtain ⟨c3, _, _, rfl, oc3⟩ := oc2.cons_ex
  obtain ⟨c4, _, _, rfl, oc4⟩ := oc3.cons_ex
  obtain ⟨c5, _, _, rfl, oc5⟩ := oc4.cons_ex
  obtain ⟨c6, _, _, rfl, oc6⟩ := oc5.cons_ex
  obtain ⟨rfl, -⟩ := oc6.nil_inv
  obtain ⟨t0, q0', e0, w0, _⟩ := oc.at (i := 0) rfl
  cases e0
  obtain ⟨t1, q1', e1, w1, _⟩ := oc.at (i := 1) rfl
  cases e1
  obtain ⟨t2, q2', e2, w2, _⟩ := oc.at (i := 2) rfl
  cases e2
  obtain ⟨t3, q3', e3, w3, _⟩ := oc.at (i := 3) rfl
  cases e3
  obtain ⟨t4, q4', e4, w4, _⟩ := oc.at (i := 4) rfl
  cases e4
  obtain ⟨t5, q5', e5, w5, _⟩ := oc.at (i := 5) rfl
  cases e5
  obtain ⟨t6, q6', e6, w6, _⟩ := oc.at (i := 6) rfl
  cases e6
  obtain rfl := w0.v_inv.1
  obtain rfl := w1.v_inv.1
  obtain rfl := w2.v_inv.1
  obtain rfl := w3.v_inv.1
  exact ⟨c4, c5, c6, rfl, w4.sl_cell, w5.sl_cell, w6.sl_cell⟩
end Go.Proofs.YtkfpoagnchahkaaGreat.A
