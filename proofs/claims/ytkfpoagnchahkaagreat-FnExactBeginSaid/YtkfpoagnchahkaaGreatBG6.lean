/- Of this session: over the abstract machine. -/
import Derived.Test.YtkfpoagnchahkaaGreatProg
import Derived.Test.YtkfpoagnchahkaaGreatA
import Derived.Test.YtkfpoagnchahkaaGreatB
import Derived.Test.YtkfpoagnchahkaaGreatD
import Derived.Test.YtkfpoagnchahkaaGreatT
import Derived.Test.YtkfpoagnchahkaaGreatP1
import Derived.Test.YtkfpoagnchahkaaGreatP2
import Derived.Test.YtkfpoagnchahkaaGreatP3
import Derived.Test.YtkfpoagnchahkaaGreatP4
import Derived.Test.YtkfpoagnchahkaaGreatP5
import Derived.Test.YtkfpoagnchahkaaGreatVM
import Derived.Test.YtkfpoagnchahkaaGreatO
import Derived.Test.YtkfpoagnchahkaaGreatOT
import Derived.Test.YtkfpoagnchahkaaGreatBG
import Derived.Test.YtkfpoagnchahkaaGreatBG4
import Derived.Test.YtkfpoagnchahkaaGreatBG5
namespace Go.Proofs.YtkfpoagnchahkaaGreat.A
open Go Go.RowKit
set_option linter.unusedVariables false
set_option linter.unusedSimpArgs false
set_option maxRecDepth 100000
set_option maxHeartbeats 1000000
theorem O_l4Frame {f : MFunc} {n b : Int} {h : AHeap} {Q : KA} (hs : szFunc f ≤ 1048576) (q : ∀ y l, Made h y (encFrame ⟨n, 0, b, zerosOf f.locals⟩) l → Q y (h ++ l)) : @clM Tryz.prog 62 [encFunc f, i64 n, i64 b, nilS] h ⟨Q⟩ := by
  refine cl_of fn_spec_l4Frame (D_spec_l4Frame_of ?_)
  unfold D_spec_l4Frame
  have hfs := small_ff hs
  simp [↓go]
  intro g0 g1 g3
  refine lp_inv (fun s h' => ∃ i g : Nat, i ≤ f.locals.length ∧ h' = h ++ [.row g0 4 [.agg [i64 0, i64 0, i64 0, nilS]], .row g 2 ((zerosOf (f.locals.take i)).map encValue), .row g3 4 [.agg [i64 n, i64 0, i64 b, .rf (h.length + 1) g 0 i]]] ∧ s = [.pt h.length g0 0 0, .pt (h.length + 2) g3 0 0, i64 i, .fp (encFunc f)]) (fun s _ => f.locals.length - natA (nthA s 2)) (Wk.refl ⟨0, g1, by omega, by simp [zerosOf], rfl⟩) ?_
  rintro _ _ ⟨i, g, hi, rfl, rfl⟩
  simp [↓go]
  refine ⟨fun hlt => ?_, fun hge => ?_⟩
  · obtain ⟨t, ht⟩ : ∃ t, f.locals[i]? = some t := ⟨_, List.getElem?_eq_getElem hlt⟩
    obtain ⟨htl, htt⟩ := List.getElem?_eq_some_iff.1 ht
    have hz : zerosOf (f.locals.take (i + 1)) = zerosOf (f.locals.take i) ++ [⟨t, 0⟩] := by unfold zerosOf; rw [List.take_add_one, ht]; simp
    have hcl : (zerosOf (f.locals.take i)).length = i := by simp [zerosOf]; omega
    generalize zerosOf (f.locals.take i) = cs at hz hcl ⊢
    simp [↓go, ht, htl, htt, hcl]
    rw [w64 (by omega) (by omega)]
    intro g4
    refine ⟨by omega, by unfold maxLen; omega, fun g5 => ?_⟩
    refine wk_pre (l := [_, _, _]) (m := [_]) ?_
    refine And.intro ⟨i + 1, g5, by omega, ?_, rfl⟩ ?_
    · rw [hz]; simp [encValue, List.take_of_length_le, hcl]
    · simp; omega
  · obtain rfl : i = f.locals.length := by omega
    rw [List.take_length]
    refine wk_of (Wk.made (rs := [h.length + 1]) (Own.agg_mk (.v rfl (.v rfl (.v rfl (Own.rf_mk (s := 2) (ys := (zerosOf f.locals).map encValue) (by simp) (by simp [zerosOf]) (Own.map (fun x => owVal _ x) _) (by simp)))))) (by simp) (fun l' hm => q _ _ hm))
theorem ST.mk3 {h HX : AHeap} {m : MMach} {gb k g rC gC : Nat} {y0 y1 y2 t0 t1 t2 : AVal} {r0 r1 r2 : List Nat} (hst : m.stack = [])
    (hbox : HX[h.length]? = some (.row gb 7 [.agg [i64 0, ff, i64 0, i64 0, nilS, nilS, nilS]])) (hrow : HX[k]? = some (.row g 7 [.agg [i64 m.trap, bl m.done, i64 m.cost, i64 m.steps, .rf rC gC 0 3, nilS, nilS]]))
    (hC : HX[rC]? = some (.row gC 1 [y0, y1, y2])) (o0 : Own HX [y0] [t0] r0) (o1 : Own HX [y1] [t1] r1) (o2 : Own HX [y2] [t2] r2) (d01 : ∀ r ∈ r0, r ∉ r1) (d02 : ∀ r ∈ r0, r ∉ r2) (d12 : ∀ r ∈ r1, r ∉ r2)
    (lo : ∀ r, r ∈ r0 ∨ r ∈ r1 ∨ r ∈ r2 → h.length < r ∧ r ≠ k ∧ r ≠ rC) (hk : h.length < k) (hrC : h.length < rC) (hkC : rC ≠ k) (pre : ∀ r, r < h.length → HX[r]? = h[r]?) :
    ST h m gb k g HX (.rf rC gC 0 3) nilS nilS [t0, t1, t2] [] (rC :: (r0 ++ (r1 ++ r2))) [] [] := by
  have mm : ∀ r, r ∈ r0 ++ (r1 ++ r2) → r ∈ r0 ∨ r ∈ r1 ∨ r ∈ r2 := fun r hr => by
    rcases List.mem_append.1 hr with h | h
    · exact .inl h
    · exact .inr (List.mem_append.1 h)
  refine ⟨hbox, hrow, Own.rf_mk hC rfl (o0.cons (o1.cons o2 d12) (fun r hr hm => ?_)) (fun hm => (lo _ (mm _ hm)).2.2 rfl), by rw [hst]; exact .nl .nil, .nl .nil, ⟨_, _, hC⟩, trivial, fun r hr => ?_, by simp, by simp, hk, pre⟩
  · rcases List.mem_append.1 hm with h | h
    · exact d01 r hr h
    · exact d02 r hr h
  · rcases List.mem_cons.1 hr with rfl | hr
    · exact ⟨hrC, hkC, by simp, by simp⟩
    · exact ⟨(lo r (mm r hr)).1, (lo r (mm r hr)).2.1, by simp, by simp⟩
theorem O_specBegin {p : MProgram} {m : MMemory} {h : AHeap} {Q : KA} (hs : szProgram p ≤ 1048576) (hm : szMemory m ≤ 1048576)
    (q : ∀ y l, Made h y (encState (beginState p m)) l → Q y (h ++ l)) : @clM Tryz.prog 22 [encProgram p, encMemory m] h ⟨Q⟩ := by
  refine cl_of fn_spec_Begin (D_spec_Begin_of ?_)
  unfold D_spec_Begin
  have hms := small_m hm
  unfold beginState at q
  simp [↓go]
  intro gb
  refine S_specValidMemory hs hm ?_
  cases hv : validMem p m with
  | false =>
    rw [if_neg (by rw [hv]; simp)] at q
    simp [↓go]
    exact wk_of (Wk.made (rs := []) (Own.agg_mk (.v rfl (.v rfl (.v rfl (.v rfl (.nl (.nl (.nl .nil)))))))) (by simp) (fun l' hm => q _ _ hm))
  | true =>
    rw [if_pos hv] at q
    have h0 : progFault p = 0 := by
      unfold validMem at hv
      simp at hv; exact hv.1
    have h3 := fault_regions h0
    obtain ⟨r0, hr0⟩ : ∃ r, p.regions[0]? = some r := ⟨_, List.getElem?_eq_getElem (by omega)⟩
    obtain ⟨r1, hr1⟩ : ∃ r, p.regions[1]? = some r := ⟨_, List.getElem?_eq_getElem (by omega)⟩
    obtain ⟨r2, hr2⟩ : ∃ r, p.regions[2]? = some r := ⟨_, List.getElem?_eq_getElem (by omega)⟩
    obtain ⟨_, hl0⟩ := List.getElem?_eq_some_iff.1 hr0
    obtain ⟨_, hl1⟩ := List.getElem?_eq_some_iff.1 hr1
    obtain ⟨_, hl2⟩ := List.getElem?_eq_some_iff.1 hr2
    have hk : m.inn.length = r0.length ∧ m.out.length = r1.length ∧ m.keep.length = r2.length := by
      unfold validMem at hv
      rw [getD_of hr0, getD_of hr1, getD_of hr2] at hv
      simp at hv; exact ⟨hv.2.1, hv.2.2.1.1, hv.2.2.2.1⟩
    obtain ⟨k0, k1, k2⟩ := hk
    have hcells : (machOf p m).cells.map (encL encValue) = [encL encValue (cellsOf m.inn r0), encL encValue (cellsOf m.out r1), encL encValue (cellsOf m.keep r2)] := by
      unfold MMach.cells machOf
      rw [getD_of hr0, getD_of hr1, getD_of hr2]
      rfl
    simp [↓go]
    refine jn_cut (fun s H => ∃ (k g : Nat) (C : AVal) (rc : List Nat), ST h (machOf p m) gb k g H C nilS nilS ((machOf p m).cells.map (encL encValue)) [] rc [] [] ∧ s = [.pt h.length gb 0 0, .pt k g 0 0, .fp (encProgram p)]) ?_ ?_
    · simp [↓go, hr0, hr1, hr2, hl0, hl1, hl2, h3]
      refine ⟨O_l4Cells (by omega) (by omega) (fun y0 l0 m0 => ?_), fun ga => O_l4Cells (by omega) (by omega) (fun y0 l0 m0 => ?_)⟩
      · obtain ⟨s0, o0, b0, _⟩ := m0
        obtain ⟨f0, c0, a0⟩ := o0.sl_cell
        simp [↓go, hr0, hr1, hr2, hl0, hl1, hl2, h3, f0, c0, a0]
        refine ⟨O_l4Cells (by omega) (by omega) (fun y1 l1 m1 => ?_), fun ga => O_l4Cells (by omega) (by omega) (fun y1 l1 m1 => ?_)⟩
        · obtain ⟨s1, o1, b1, _⟩ := m1
          obtain ⟨f1, c1, a1⟩ := o1.sl_cell
          simp [↓go, hr0, hr1, hr2, hl0, hl1, hl2, h3, f0, c0, a0, f1, c1, a1]
          refine ⟨O_l4Cells (by omega) (by omega) (fun y2 l2 m2 => ?_), fun ga => O_l4Cells (by omega) (by omega) (fun y2 l2 m2 => ?_)⟩
          · obtain ⟨s2, o2, b2, _⟩ := m2
            obtain ⟨f2, c2, a2⟩ := o2.sl_cell
            simp [↓go, hr0, hr1, hr2, hl0, hl1, hl2, h3, f0, c0, a0, f1, c1, a1, f2, c2, a2]
            have bb0 : ∀ r ∈ s0, h.length + 1 ≤ r ∧ r < h.length + 1 + l0.length := fun r hr => by have := b0 r hr; have h2 := o0.lt r hr; simp at this h2; omega
            have bb1 : ∀ r ∈ s1, h.length + 1 + l0.length ≤ r ∧ r < h.length + 1 + l0.length + l1.length := fun r hr => by have := b1 r hr; have h2 := o1.lt r hr; simp at this h2; omega
            have bb2 : ∀ r ∈ s2, h.length + 1 + l0.length + l1.length ≤ r ∧ r < h.length + 1 + l0.length + l1.length + l2.length := fun r hr => by have := b2 r hr; have h2 := o2.lt r hr; simp at this h2; omega
            have key : ∀ (HX : AHeap) (k g rC gC : Nat) (Z : AHeap), HX = h ++ (AObj.row gb 7 [.agg [i64 0, ff, i64 0, i64 0, nilS, nilS, nilS]] :: (l0 ++ (l1 ++ (l2 ++ Z)))) → h.length + 1 + l0.length + l1.length + l2.length ≤ k → h.length + 1 + l0.length + l1.length + l2.length ≤ rC → rC ≠ k → HX[k]? = some (.row g 7 [.agg [i64 0, ff, i64 0, i64 0, .rf rC gC 0 3, nilS, nilS]]) → HX[rC]? = some (.row gC 1 [y0, y1, y2]) → ST h (machOf p m) gb k g HX (.rf rC gC 0 3) nilS nilS ((machOf p m).cells.map (encL encValue)) [] (rC :: (s0 ++ (s1 ++ s2))) [] [] := by
              rintro HX k g rC gC Z rfl hk hC hne h1 h2
              have e := ST.mk3 (gb := gb) (m := machOf p m) (t0 := encL encValue (cellsOf m.inn r0)) (t1 := encL encValue (cellsOf m.out r1)) (t2 := encL encValue (cellsOf m.keep r2)) rfl (by simp) h1 h2
                (own_mid (A := [_]) o0 b0 (by simp)) (own_mid (A := AObj.row gb 7 [.agg [i64 0, ff, i64 0, i64 0, nilS, nilS, nilS]] :: l0) o1 b1 (by simp <;> omega)) (by simpa using own_mid (A := AObj.row gb 7 [.agg [i64 0, ff, i64 0, i64 0, nilS, nilS, nilS]] :: (l0 ++ l1)) (R := Z) o2 b2 (by simp <;> omega))
                (fun r h1 h2 => by have := bb0 r h1; have := bb1 r h2; omega) (fun r h1 h2 => by have := bb0 r h1; have := bb2 r h2; omega) (fun r h1 h2 => by have := bb1 r h1; have := bb2 r h2; omega)
                (fun r hr => by
                  rcases hr with h | h | h
                  · have := bb0 r h; omega
                  · have := bb1 r h; omega
                  · have := bb2 r h; omega) (by omega) (by omega) hne (fun r hr => List.getElem?_append_left hr)
              unfold MMach.cells
              unfold machOf at e ⊢
              rw [getD_of hr0, getD_of hr1, getD_of hr2] at e ⊢
              exact e
            refine ⟨fun g g' => wk_ex ⟨_, _, _, _, key _ _ g' (h.length + (l0.length + (l1.length + l2.length) + 1)) g _ rfl (by omega) (by omega) (by omega) (by simp) (by simp), rfl⟩, fun g g' => wk_ex ⟨_, _, _, _, key _ _ g (h.length + (l0.length + (l1.length + (l2.length + 1)) + 1)) g' _ rfl (by omega) (by omega) (by omega) (by simp) (by simp), rfl⟩⟩
          · obtain ⟨s2, o2, b2, _⟩ := m2
            obtain ⟨f2, c2, a2⟩ := o2.sl_cell
            simp [↓go, hr0, hr1, hr2, hl0, hl1, hl2, h3, f0, c0, a0, f1, c1, a1, f2, c2, a2]
            intro g
            have bb0 : ∀ r ∈ s0, h.length + 1 ≤ r ∧ r < h.length + 1 + l0.length := fun r hr => by have := b0 r hr; have h2 := o0.lt r hr; simp at this h2; omega
            have bb1 : ∀ r ∈ s1, h.length + 1 + l0.length ≤ r ∧ r < h.length + 1 + l0.length + l1.length := fun r hr => by have := b1 r hr; have h2 := o1.lt r hr; simp at this h2; omega
            have bb2 : ∀ r ∈ s2, h.length + 1 + l0.length + l1.length + 1 ≤ r ∧ r < h.length + 1 + l0.length + l1.length + 1 + l2.length := fun r hr => by have := b2 r hr; have h2 := o2.lt r hr; simp at this h2; omega
            have e := ST.mk3 (y0 := y0) (y1 := y1) (y2 := y2) (gb := gb) (g := ga) (gC := g) (k := h.length + (l0.length + l1.length + 1)) (rC := h.length + (l0.length + (l1.length + (l2.length + 1)) + 1)) (HX := h ++ (AObj.row gb 7 [.agg [i64 0, ff, i64 0, i64 0, nilS, nilS, nilS]] :: (l0 ++ (l1 ++ (AObj.row ga 7 [.agg [i64 0, ff, i64 0, i64 0, .rf (h.length + (l0.length + (l1.length + (l2.length + 1)) + 1)) g 0 3, nilS, nilS]] :: (l2 ++ [AObj.row g 1 [y0, y1, y2]])))))) (m := machOf p m) (t0 := encL encValue (cellsOf m.inn r0)) (t1 := encL encValue (cellsOf m.out r1)) (t2 := encL encValue (cellsOf m.keep r2)) rfl (by simp) (by simp [machOf]) (by simp)
              (by simpa using own_mid (A := [AObj.row gb 7 [.agg [i64 0, ff, i64 0, i64 0, nilS, nilS, nilS]]]) (R := l1 ++ (AObj.row ga 7 [.agg [i64 0, ff, i64 0, i64 0, .rf (h.length + (l0.length + (l1.length + (l2.length + 1)) + 1)) g 0 3, nilS, nilS]] :: (l2 ++ [AObj.row g 1 [y0, y1, y2]]))) o0 b0 (by simp <;> omega))
              (by simpa using own_mid (A := AObj.row gb 7 [.agg [i64 0, ff, i64 0, i64 0, nilS, nilS, nilS]] :: l0) (R := AObj.row ga 7 [.agg [i64 0, ff, i64 0, i64 0, .rf (h.length + (l0.length + (l1.length + (l2.length + 1)) + 1)) g 0 3, nilS, nilS]] :: (l2 ++ [AObj.row g 1 [y0, y1, y2]])) o1 b1 (by simp <;> omega))
              (by simpa using own_mid (A := AObj.row gb 7 [.agg [i64 0, ff, i64 0, i64 0, nilS, nilS, nilS]] :: (l0 ++ (l1 ++ [AObj.row ga 7 [.agg [i64 0, ff, i64 0, i64 0, .rf (h.length + (l0.length + (l1.length + (l2.length + 1)) + 1)) g 0 3, nilS, nilS]]]))) (R := [AObj.row g 1 [y0, y1, y2]]) o2 b2 (by simp <;> omega))
              (fun r h1 h2 => by have := bb0 r h1; have := bb1 r h2; omega) (fun r h1 h2 => by have := bb0 r h1; have := bb2 r h2; omega) (fun r h1 h2 => by have := bb1 r h1; have := bb2 r h2; omega)
              (fun r hr => by
                rcases hr with h | h | h
                · have := bb0 r h; omega
                · have := bb1 r h; omega
                · have := bb2 r h; omega) (by omega) (by omega) (by omega) (fun r hr => List.getElem?_append_left hr)
            rw [← hcells] at e
            exact wk_ex ⟨_, _, _, _, e, rfl⟩
        · obtain ⟨s1, o1, b1, _⟩ := m1
          obtain ⟨f1, c1, a1⟩ := o1.sl_cell
          simp [↓go, hr0, hr1, hr2, hl0, hl1, hl2, h3, f0, c0, a0, f1, c1, a1]
          refine O_l4Cells (by omega) (by omega) (fun y2 l2 m2 => ?_)
          obtain ⟨s2, o2, b2, _⟩ := m2
          obtain ⟨f2, c2, a2⟩ := o2.sl_cell
          simp [↓go, hr0, hr1, hr2, hl0, hl1, hl2, h3, f0, c0, a0, f1, c1, a1, f2, c2, a2]
          intro g
          have bb0 : ∀ r ∈ s0, h.length + 1 ≤ r ∧ r < h.length + 1 + l0.length := fun r hr => by have := b0 r hr; have h2 := o0.lt r hr; simp at this h2; omega
          have bb1 : ∀ r ∈ s1, h.length + 1 + l0.length + 1 ≤ r ∧ r < h.length + 1 + l0.length + 1 + l1.length := fun r hr => by have := b1 r hr; have h2 := o1.lt r hr; simp at this h2; omega
          have bb2 : ∀ r ∈ s2, h.length + 1 + l0.length + 1 + l1.length ≤ r ∧ r < h.length + 1 + l0.length + 1 + l1.length + l2.length := fun r hr => by have := b2 r hr; have h2 := o2.lt r hr; simp at this h2; omega
          have e := ST.mk3 (y0 := y0) (y1 := y1) (y2 := y2) (gb := gb) (g := ga) (gC := g) (k := h.length + (l0.length + 1)) (rC := h.length + (l0.length + (l1.length + l2.length + 1) + 1)) (HX := h ++ (AObj.row gb 7 [.agg [i64 0, ff, i64 0, i64 0, nilS, nilS, nilS]] :: (l0 ++ (AObj.row ga 7 [.agg [i64 0, ff, i64 0, i64 0, .rf (h.length + (l0.length + (l1.length + l2.length + 1) + 1)) g 0 3, nilS, nilS]] :: (l1 ++ (l2 ++ [AObj.row g 1 [y0, y1, y2]])))))) (m := machOf p m) (t0 := encL encValue (cellsOf m.inn r0)) (t1 := encL encValue (cellsOf m.out r1)) (t2 := encL encValue (cellsOf m.keep r2)) rfl (by simp) (by simp [machOf]) (by simp)
            (by simpa using own_mid (A := [AObj.row gb 7 [.agg [i64 0, ff, i64 0, i64 0, nilS, nilS, nilS]]]) (R := AObj.row ga 7 [.agg [i64 0, ff, i64 0, i64 0, .rf (h.length + (l0.length + (l1.length + l2.length + 1) + 1)) g 0 3, nilS, nilS]] :: (l1 ++ (l2 ++ [AObj.row g 1 [y0, y1, y2]]))) o0 b0 (by simp <;> omega))
            (by simpa using own_mid (A := AObj.row gb 7 [.agg [i64 0, ff, i64 0, i64 0, nilS, nilS, nilS]] :: (l0 ++ [AObj.row ga 7 [.agg [i64 0, ff, i64 0, i64 0, .rf (h.length + (l0.length + (l1.length + l2.length + 1) + 1)) g 0 3, nilS, nilS]]])) (R := l2 ++ [AObj.row g 1 [y0, y1, y2]]) o1 b1 (by simp <;> omega))
            (by simpa using own_mid (A := AObj.row gb 7 [.agg [i64 0, ff, i64 0, i64 0, nilS, nilS, nilS]] :: (l0 ++ (AObj.row ga 7 [.agg [i64 0, ff, i64 0, i64 0, .rf (h.length + (l0.length + (l1.length + l2.length + 1) + 1)) g 0 3, nilS, nilS]] :: l1))) (R := [AObj.row g 1 [y0, y1, y2]]) o2 b2 (by simp <;> omega))
            (fun r h1 h2 => by have := bb0 r h1; have := bb1 r h2; omega) (fun r h1 h2 => by have := bb0 r h1; have := bb2 r h2; omega) (fun r h1 h2 => by have := bb1 r h1; have := bb2 r h2; omega)
            (fun r hr => by
              rcases hr with h | h | h
              · have := bb0 r h; omega
              · have := bb1 r h; omega
              · have := bb2 r h; omega) (by omega) (by omega) (by omega) (fun r hr => List.getElem?_append_left hr)
          rw [← hcells] at e
          exact wk_ex ⟨_, _, _, _, e, rfl⟩
      · obtain ⟨s0, o0, b0, _⟩ := m0
        obtain ⟨f0, c0, a0⟩ := o0.sl_cell
        simp [↓go, hr0, hr1, hr2, hl0, hl1, hl2, h3, f0, c0, a0]
        refine O_l4Cells (by omega) (by omega) (fun y1 l1 m1 => ?_)
        obtain ⟨s1, o1, b1, _⟩ := m1
        obtain ⟨f1, c1, a1⟩ := o1.sl_cell
        simp [↓go, hr0, hr1, hr2, hl0, hl1, hl2, h3, f0, c0, a0, f1, c1, a1]
        refine O_l4Cells (by omega) (by omega) (fun y2 l2 m2 => ?_)
        obtain ⟨s2, o2, b2, _⟩ := m2
        obtain ⟨f2, c2, a2⟩ := o2.sl_cell
        simp [↓go, hr0, hr1, hr2, hl0, hl1, hl2, h3, f0, c0, a0, f1, c1, a1, f2, c2, a2]
        intro g
        have bb0 : ∀ r ∈ s0, h.length + 1 + 1 ≤ r ∧ r < h.length + 1 + 1 + l0.length := fun r hr => by have := b0 r hr; have h2 := o0.lt r hr; simp at this h2; omega
        have bb1 : ∀ r ∈ s1, h.length + 1 + 1 + l0.length ≤ r ∧ r < h.length + 1 + 1 + l0.length + l1.length := fun r hr => by have := b1 r hr; have h2 := o1.lt r hr; simp at this h2; omega
        have bb2 : ∀ r ∈ s2, h.length + 1 + 1 + l0.length + l1.length ≤ r ∧ r < h.length + 1 + 1 + l0.length + l1.length + l2.length := fun r hr => by have := b2 r hr; have h2 := o2.lt r hr; simp at this h2; omega
        have e := ST.mk3 (y0 := y0) (y1 := y1) (y2 := y2) (gb := gb) (g := ga) (gC := g) (k := h.length + 1) (rC := h.length + (l0.length + (l1.length + l2.length) + 1 + 1)) (HX := h ++ (AObj.row gb 7 [.agg [i64 0, ff, i64 0, i64 0, nilS, nilS, nilS]] :: AObj.row ga 7 [.agg [i64 0, ff, i64 0, i64 0, .rf (h.length + (l0.length + (l1.length + l2.length) + 1 + 1)) g 0 3, nilS, nilS]] :: (l0 ++ (l1 ++ (l2 ++ [AObj.row g 1 [y0, y1, y2]]))))) (m := machOf p m) (t0 := encL encValue (cellsOf m.inn r0)) (t1 := encL encValue (cellsOf m.out r1)) (t2 := encL encValue (cellsOf m.keep r2)) rfl (by simp) (by simp [machOf]) (by simp)
          (by simpa using own_mid (A := [AObj.row gb 7 [.agg [i64 0, ff, i64 0, i64 0, nilS, nilS, nilS]], AObj.row ga 7 [.agg [i64 0, ff, i64 0, i64 0, .rf (h.length + (l0.length + (l1.length + l2.length) + 1 + 1)) g 0 3, nilS, nilS]]]) (R := l1 ++ (l2 ++ [AObj.row g 1 [y0, y1, y2]])) o0 b0 (by simp <;> omega))
          (by simpa using own_mid (A := AObj.row gb 7 [.agg [i64 0, ff, i64 0, i64 0, nilS, nilS, nilS]] :: AObj.row ga 7 [.agg [i64 0, ff, i64 0, i64 0, .rf (h.length + (l0.length + (l1.length + l2.length) + 1 + 1)) g 0 3, nilS, nilS]] :: l0) (R := l2 ++ [AObj.row g 1 [y0, y1, y2]]) o1 b1 (by simp <;> omega))
          (by simpa using own_mid (A := AObj.row gb 7 [.agg [i64 0, ff, i64 0, i64 0, nilS, nilS, nilS]] :: AObj.row ga 7 [.agg [i64 0, ff, i64 0, i64 0, .rf (h.length + (l0.length + (l1.length + l2.length) + 1 + 1)) g 0 3, nilS, nilS]] :: (l0 ++ l1)) (R := [AObj.row g 1 [y0, y1, y2]]) o2 b2 (by simp <;> omega))
          (fun r h1 h2 => by have := bb0 r h1; have := bb1 r h2; omega) (fun r h1 h2 => by have := bb0 r h1; have := bb2 r h2; omega) (fun r h1 h2 => by have := bb1 r h1; have := bb2 r h2; omega)
          (fun r hr => by
            rcases hr with h | h | h
            · have := bb0 r h; omega
            · have := bb1 r h; omega
            · have := bb2 r h; omega) (by omega) (by omega) (by omega) (fun r hr => List.getElem?_append_left hr)
        rw [← hcells] at e
        exact wk_ex ⟨_, _, _, _, e, rfl⟩
    · rintro _ H ⟨k, g, C, rc, st, rfl⟩
      have hrow := st.row
      have hkl := (List.getElem?_eq_some_iff.1 hrow).1
      have hfo := funcs_pos h0
      obtain ⟨f0, hf0⟩ : ∃ f, p.funcs[0]? = some f := ⟨_, List.getElem?_eq_getElem hfo⟩
      obtain ⟨_, hf1⟩ := List.getElem?_eq_some_iff.1 hf0
      obtain ⟨e1, e2, e3⟩ := st.oc.sl_cell
      refine jn_cut (fun s H => ∃ (F : AVal) (rf : List Nat), ST h (machOf p m) gb k g H C nilS F ((machOf p m).cells.map (encL encValue)) [encFrame ⟨0, 0, 0, zerosOf f0.locals⟩] rc [] rf ∧ s = [.pt h.length gb 0 0, .pt k g 0 0]) ?_ ?_
      · simp [↓go, hrow, hf0, hf1, e1, e2, e3]
        have happ : ∀ l : AHeap, (H ++ l)[k]? = some (.row g 7 [.agg [i64 (machOf p m).trap, bl (machOf p m).done, i64 (machOf p m).cost, i64 (machOf p m).steps, C, nilS, nilS]]) := fun l => by rw [List.getElem?_append_left hkl]; exact hrow
        refine ⟨hfo, ?_, ?_⟩
        all_goals
          refine O_l4Frame (small_f hs hf0) (fun y l hmd => ?_)
          obtain ⟨r9, o9, b9, _⟩ := hmd
          rw [encFrame_eq] at o9
          obtain ⟨cs, rfl, oc⟩ := o9.agg_inv2
          obtain ⟨c0, _, _, rfl, oc0⟩ := oc.cons_ex
          obtain ⟨c1, _, _, rfl, oc1⟩ := oc0.cons_ex
          obtain ⟨c2, _, _, rfl, oc2⟩ := oc1.cons_ex
          obtain ⟨c3, _, _, rfl, oc3⟩ := oc2.cons_ex
          obtain ⟨rfl, -⟩ := oc3.nil_inv
          obtain ⟨t0, q0', u0, w0, _⟩ := oc.at (i := 0) rfl
          cases u0
          obtain ⟨t1, q1', u1, w1, _⟩ := oc.at (i := 1) rfl
          cases u1
          obtain ⟨t2, q2', u2, w2, _⟩ := oc.at (i := 2) rfl
          cases u2
          obtain ⟨t3, q3', u3, w3, _⟩ := oc.at (i := 3) rfl
          cases u3
          obtain rfl := w0.v_inv.1
          obtain rfl := w1.v_inv.1
          obtain rfl := w2.v_inv.1
          obtain ⟨f3, a3, g3⟩ := w3.sl_cell
          simp [↓go, hrow, happ, e1, e2, e3, f3, a3, g3]
          intro gf
          rw [← encFrame_eq] at o9
          refine ⟨by unfold maxLen; omega, fun gz => ?_⟩
          have o10 : Own (H ++ (l ++ [AObj.row gf 4 [.agg [i64 0, i64 0, i64 0, c3]], AObj.row gz 4 [.agg [i64 0, i64 0, i64 0, c3]]])) [.rf (H.length + (l.length + 1)) gz 0 1] [.sl ([] ++ [encFrame ⟨0, 0, 0, zerosOf f0.locals⟩])] ((H.length + (l.length + 1)) :: r9) :=
            Own.rf_mk (s := 4) (ys := [.agg [i64 0, i64 0, i64 0, c3]]) (by simp) rfl (by rw [← List.append_assoc]; exact o9.grow) (fun hm => by have := o9.lt _ hm; simp at this; omega)
          exact wk_ex ⟨_, _, st.frame (HX := H ++ (l ++ [AObj.row gf 4 [.agg [i64 0, i64 0, i64 0, c3]]])) (ry := r9) (fun r hr => List.getElem?_append_left hr) (by simp) b9 o10 ⟨gz, [.agg [i64 0, i64 0, i64 0, c3]], by simp⟩ (fun r hr => by
            rcases List.mem_cons.1 hr with rfl | hr
            · exact .inr (.inr (by simp))
            · exact .inr (.inl hr)) (fun r hr _ => by
              have e : H ++ (l ++ [AObj.row gf 4 [.agg [i64 0, i64 0, i64 0, c3]], AObj.row gz 4 [.agg [i64 0, i64 0, i64 0, c3]]]) = (H ++ (l ++ [AObj.row gf 4 [.agg [i64 0, i64 0, i64 0, c3]]])) ++ [AObj.row gz 4 [.agg [i64 0, i64 0, i64 0, c3]]] := by simp
              rw [e, List.getElem?_append_left hr]) (by simp), rfl⟩
      · rintro _ H' ⟨F, rf, st', rfl⟩
        have hrow' := st'.row
        obtain ⟨e4, e5, e6⟩ := st'.of.sl_cell
        have hbox := st'.box
        have hkl' := (List.getElem?_eq_some_iff.1 hrow').1
        have hkk := st'.kl
        have hset : ∀ v, (H'.set h.length v)[h.length]? = some v := fun v => by rw [List.getElem?_set_self (by omega)]
        simp [↓go, hrow', hbox, hset, e1, e2, e3, e4, e5, e6]
        have st := st'
        obtain ⟨l, hl⟩ := heap_split (h := h) (H := H'.set h.length (.row gb 7 [.agg [i64 (machOf p m).trap, bl (machOf p m).done, i64 (machOf p m).cost, i64 (machOf p m).steps, C, nilS, F]])) (fun r hr => by rw [List.getElem?_set_ne (by omega)]; exact st.pre r hr) (by simp; omega)
        have fr : ∀ r, h.length < r → (h ++ l)[r]? = H'[r]? := fun r hr => by rw [← hl, List.getElem?_set_ne (by omega)]
        have o : Own (h ++ l) [.agg [i64 (machOf p m).trap, bl (machOf p m).done, i64 (machOf p m).cost, i64 (machOf p m).steps, C, nilS, F]] [encState (stateOf (machOf p m))] (rc ++ rf) := by
          have o1 : Own (h ++ l) [F] _ rf := st.of.frame (fun r hr => fr r (st.df r hr).1)
          have o3 : Own (h ++ l) [C] _ rc := st.oc.frame (fun r hr => fr r (st.dc r hr).1)
          have o4 := o3.cons (Own.nl o1) (fun r hr hm => (st.dc r hr).2.2.2 hm)
          have e7 : encState (stateOf (machOf p m)) = .agg [i64 (machOf p m).trap, bl (machOf p m).done, i64 (machOf p m).cost, i64 (machOf p m).steps, .sl ((machOf p m).cells.map (encL encValue)), .sl [], .sl [encFrame ⟨0, 0, 0, zerosOf f0.locals⟩]] := by
            unfold encState stateOf machOf frameOf
            rw [getD_of hf0]
            rfl
          rw [e7]
          exact Own.agg_mk (.v rfl (.v rfl (.v rfl (.v rfl o4))))
        rw [hl]
        refine wk_of (Wk.made o (fun r hr => ?_) (fun l' hm => q _ _ hm))
        rcases List.mem_append.1 hr with h | h
        · exact Nat.le_of_lt (st.dc r h).1
        · exact Nat.le_of_lt (st.df r h).1
end Go.Proofs.YtkfpoagnchahkaaGreat.A
