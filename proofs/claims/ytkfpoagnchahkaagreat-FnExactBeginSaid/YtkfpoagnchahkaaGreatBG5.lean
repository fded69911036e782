/- Of this session: over the abstract machine. -/
import Derived.Test.YtkfpoagnchahkaaGreatProg
import Derived.Test.YtkfpoagnchahkaaGreatA
import Derived.Test.YtkfpoagnchahkaaGreatB
import Derived.Test.YtkfpoagnchahkaaGreatD
import Derived.Test.YtkfpoagnchahkaaGreatT
import Derived.Test.YtkfpoagnchahkaaGreatP1
import Derived.Test.YtkfpoagnchahkaaGreatP2
import Derived.Test.YtkfpoagnchahkaaGreatP3
import Derived.Test.YtkfpoagnchahkaaGreatP4
import Derived.Test.YtkfpoagnchahkaaGreatP5
import Derived.Test.YtkfpoagnchahkaaGreatVM
import Derived.Test.YtkfpoagnchahkaaGreatO
import Derived.Test.YtkfpoagnchahkaaGreatOT
import Derived.Test.YtkfpoagnchahkaaGreatBG
import Derived.Test.YtkfpoagnchahkaaGreatBG4
namespace Go.Proofs.YtkfpoagnchahkaaGreat.A
open Go Go.RowKit
set_option linter.unusedVariables false
set_option linter.unusedSimpArgs false
set_option maxRecDepth 100000
set_option maxHeartbeats 1000000
def beginState (p : MProgram) (m : MMemory) : MState := if validMem p m = true then stateOf (machOf p m) else ⟨7, false, 0, 0, [], [], []⟩
theorem plainState (x : MState) : plainT (encState x) = true := by
  have hv : ∀ v : MValue, plainT (encValue v) = true := fun v => by simp [encValue]
  have h1 : ∀ l : List MValue, plainT (encL encValue l) = true := fun l => by rw [plainT_sl]; exact plainL_map hv l
  have hf : ∀ f : MFrame, plainT (encFrame f) = true := fun f => by
    unfold encFrame
    rw [plainT_agg, plainL_cons, plainL_cons, plainL_cons, plainL_cons, h1]; simp
  unfold encState
  have a1 : plainT (encL (encL encValue) x.cells) = true := by rw [plainT_sl]; exact plainL_map h1 _
  have a2 : plainT (encL encFrame x.frames) = true := by rw [plainT_sl]; exact plainL_map hf _
  rw [plainT_agg, plainL_cons, plainL_cons, plainL_cons, plainL_cons, plainL_cons, plainL_cons, plainL_cons, a1, h1, a2]
  simp
theorem O_implBegin {p : MProgram} {m : MMemory} {h : AHeap} {Q : KA} (hs : szProgram p ≤ 1048576) (hm : szMemory m ≤ 1048576)
    (q : ∀ y l, Made h y (encState (beginState p m)) l → Q y (h ++ l)) : @clM Tryz.prog 24 [encProgram p, encMemory m] h ⟨Q⟩ := by
  refine cl_of fn_impl_Begin (D_impl_Begin_of ?_)
  unfold D_impl_Begin
  have hms := small_m hm
  have hfs : ∀ f, p.funcs[0]? = some f → f.locals.length ≤ 1048576 := fun f hf => (small_ff (small_f hs hf)).2.1
  unfold beginState at q
  simp [↓go]
  intro gb
  refine O_begin hs hm (fun hv l => ?_) (fun hv r g l rs ho hlo => ?_)
  · rw [if_neg (by rw [hv]; simp)] at q
    simp [↓go]
    exact wk_of (Wk.made (rs := []) (Own.agg_mk (.v rfl (.v rfl (.v rfl (.v rfl (.nl (.nl (.nl .nil)))))))) (by simp) (fun l' hm => q _ _ hm))
  · rw [if_pos hv] at q
    have hlz : (zerosOf (p.funcs.getD 0 zFunc).locals).length ≤ 1048576 := by
      unfold zerosOf
      rw [List.length_map, List.getD_eq_getElem?_getD]
      cases hf : p.funcs[0]? with
      | none => simp [zFunc]
      | some f => exact hfs f hf
    simp [↓go]
    refine cl_borrow1 (ts := [.fp (encMach (machOf p m))]) (t := encState (stateOf (machOf p m))) rfl (bor1 (.inr ⟨rs, by rw [List.append_assoc] at ho; exact ho⟩)) (plainState _) (O_state (fun c hc => ?_) (by simp [machOf]) (by simp [machOf]) (fun w hw => ?_) (fun y l hm => ⟨l, rfl, hm⟩)) (fun y l2 hmd => ?_)
    · simp [MMach.cells, machOf] at hc
      rcases hc with rfl | rfl | rfl <;> simp [cellsOf] <;> omega
    · simp [machOf] at hw
      subst hw; exact hlz
    · obtain ⟨r2, o2, b2, _⟩ := hmd
      rw [encState_eq] at o2
      obtain ⟨cs, rfl, oc⟩ := o2.agg_inv2
      obtain ⟨c0, _, _, rfl, oc0⟩ := oc.cons_ex
      obtain ⟨c1, _, _, rfl, oc1⟩ := oc0.cons_ex
      obtain ⟨c2, _, _, rfl, oc2⟩ := oc1.cons_ex
      obtain ⟨c3, _, _, rfl, oc3⟩ := oc2.cons_ex
      obtain ⟨c4, _, _, rfl, oc4⟩ := oc3.cons_ex
      obtain ⟨c5, _, _, rfl, oc5⟩ := oc4.cons_ex
      obtain ⟨c6, _, _, rfl, oc6⟩ := oc5.cons_ex
      obtain ⟨rfl, -⟩ := oc6.nil_inv
      obtain ⟨t0, q0', e0, w0, _⟩ := oc.at (i := 0) rfl
      cases e0
      obtain ⟨t1, q1', e1, w1, _⟩ := oc.at (i := 1) rfl
      cases e1
      obtain ⟨t2, q2', e2, w2, _⟩ := oc.at (i := 2) rfl
      cases e2
      obtain ⟨t3, q3', e3, w3, _⟩ := oc.at (i := 3) rfl
      cases e3
      obtain ⟨t4, q4', e4, w4, _⟩ := oc.at (i := 4) rfl
      cases e4
      obtain ⟨t5, q5', e5, w5, _⟩ := oc.at (i := 5) rfl
      cases e5
      obtain ⟨t6, q6', e6, w6, _⟩ := oc.at (i := 6) rfl
      cases e6
      obtain rfl := w0.v_inv.1
      obtain rfl := w1.v_inv.1
      obtain rfl := w2.v_inv.1
      obtain rfl := w3.v_inv.1
      obtain ⟨f4, a4, g4⟩ := w4.sl_cell
      obtain ⟨f5, a5, g5⟩ := w5.sl_cell
      obtain ⟨f6, a6, g6⟩ := w6.sl_cell
      simp [↓go, f4, a4, g4, f5, a5, g5, f6, a6, g6]
      rw [← encState_eq] at o2
      refine wk_of (Wk.made (l := _ :: (l ++ l2)) (rs := r2) (o2.frame (fun r hr => ?_)) (fun r hr => ?_) (fun l' hm => q _ _ hm))
      · have := b2 r hr
        simp at this
        rw [List.getElem?_append_right (by omega), List.append_assoc, List.getElem?_append_right (by omega)]
        obtain ⟨k, hk⟩ : ∃ k, r - h.length = k + 1 := ⟨r - h.length - 1, by omega⟩
        rw [hk]; rfl
      · have := b2 r hr
        simp at this
        omega
end Go.Proofs.YtkfpoagnchahkaaGreat.A
