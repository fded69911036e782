/- Of this session: over the abstract machine. -/
import Derived.Test.YtkfpoagnchahkaaGreatProg
import Derived.Test.YtkfpoagnchahkaaGreatA
import Derived.Test.YtkfpoagnchahkaaGreatB
import Derived.Test.YtkfpoagnchahkaaGreatD
import Derived.Test.YtkfpoagnchahkaaGreatT
import Derived.Test.YtkfpoagnchahkaaGreatO
import Derived.Test.YtkfpoagnchahkaaGreatOT
import Derived.Test.YtkfpoagnchahkaaGreatP1
import Derived.Test.YtkfpoagnchahkaaGreatP2
import Derived.Test.YtkfpoagnchahkaaGreatP3
import Derived.Test.YtkfpoagnchahkaaGreatP4
import Derived.Test.YtkfpoagnchahkaaGreatP5
import Derived.Test.YtkfpoagnchahkaaGreatEN0
import Derived.Test.YtkfpoagnchahkaaGreatEN1
import Derived.Test.YtkfpoagnchahkaaGreatEN2
import Derived.Test.YtkfpoagnchahkaaGreatEN3
import Derived.Test.YtkfpoagnchahkaaGreatEN4
namespace Go.Proofs.YtkfpoagnchahkaaGreat.A
open Go Go.RowKit
set_option linter.unusedVariables false
set_option linter.unusedSimpArgs false
set_option maxRecDepth 100000
set_option maxHeartbeats 1000000
theorem S_law_FnExactEncode {p : MProgram} {h : AHeap} {Q : KA} (op : okProgram p) (q : Q tt h) : @clM Tryz.prog 3 [encProgram p] h ⟨Q⟩ := by
  refine cl_wk ?_
  refine cl_of fn_laws_FnExactEncode (D_laws_FnExactEncode_of ?_)
  unfold D_laws_FnExactEncode
  simp [↓go]
  refine S_szProgram (by omega) op ?_ (fun hp => ?_)
  · simp [↓go]
    exact retW_ex (Wk.refl q)
  have hp : szProgram p ≤ 1048576 := by omega
  have hms := small_fld hp
  have hcl := encode_len p
  have hcs : szL (fun _ => 0) (encode p) ≤ 1048576 := by rw [szL_zero]; omega
  have hmk : (markL true ((encode p).map u8) 1).2 ≤ 4611686018427387904 := by
    have := mk_le (e := u8) (f := fun _ => 0) mbU8 (encode p) 1
    rw [szL_zero] at this; omega
  have hmp : (markT false (encProgram p) 1).2 ≤ 4611686018427387904 := by
    have := mvProgram p 1; omega
  have hmp1 := markT_le false (encProgram p) 1
  simp [↓go]
  refine ⟨fun h1 => by omega, fun _ => ?_⟩
  refine S_toProgram hp ?_
  refine S_specEncode hp ?_
  simp [↓go]
  refine O_toProgram hp (fun y l hm => ?_)
  obtain ⟨ra, oa, ba, _⟩ := hm
  have hQ : ∀ H : AHeap, (∀ r, r < h.length → H[r]? = h[r]?) → retW tt H (fun y h1 => Wk [y] h1 (fun s h2 => Q (nthA s 0) h2)) := fun H hH => retW_ex (Wk.sub (h' := h) (fun r g z xs hr => by rw [hH r (List.getElem?_eq_some_iff.1 hr).1]; exact hr) (Wk.refl q))
  have hlen : h.length ≤ (h ++ l).length := by simp
  have hpre : ∀ r, r < h.length → (h ++ l)[r]? = h[r]? := fun r hr => List.getElem?_append_left hr
  generalize h ++ l = H at *
  rw [encProgram_eq] at oa
  obtain ⟨cs, rfl, oc⟩ := oa.agg_inv2
  obtain ⟨c0, _, _, rfl, oc0⟩ := oc.cons_ex
  obtain ⟨c1, _, _, rfl, oc1⟩ := oc0.cons_ex
  obtain ⟨c2, _, _, rfl, oc2⟩ := oc1.cons_ex
  obtain ⟨c3, _, _, rfl, oc3⟩ := oc2.cons_ex
  obtain ⟨rfl, -⟩ := oc3.nil_inv
  obtain ⟨f0, a0, g0⟩ : c0.flat = [c0] ∧ c0.c1 = true ∧ c0.isAgg = false := by
    obtain ⟨t, qs, e, o, _⟩ := oc.at (i := 0) rfl
    cases e
    exact o.sl_cell
  obtain ⟨f1, a1, g1⟩ : c1.flat = [c1] ∧ c1.c1 = true ∧ c1.isAgg = false := by
    obtain ⟨t, qs, e, o, _⟩ := oc.at (i := 1) rfl
    cases e
    exact o.sl_cell
  obtain ⟨f2, a2, g2⟩ : c2.flat = [c2] ∧ c2.c1 = true ∧ c2.isAgg = false := by
    obtain ⟨t, qs, e, o, _⟩ := oc.at (i := 2) rfl
    cases e
    exact o.sl_cell
  obtain ⟨f3, a3, g3⟩ : c3.flat = [c3] ∧ c3.c1 = true ∧ c3.isAgg = false := by
    obtain ⟨t, qs, e, o, _⟩ := oc.at (i := 3) rfl
    cases e
    exact o.sl_cell
  rw [← encProgram_eq] at oa
  simp [↓go, f0, a0, g0, f1, a1, g1, f2, a2, g2, f3, a3, g3]
  intro gb
  have oa1 : Own (H ++ [AObj.row gb 4 [.agg [c0, c1, c2, c3]]]) _ _ _ := oa.grow
  refine cl_borrow1 (ts := [encProgram p]) (t := encL u8 (encode p)) rfl (bor1 (.inr ⟨ra, oa1⟩)) (plainL_map (fun _ => rfl) _) (O_implEncode hp (fun y l hm => ⟨l, rfl, hm⟩)) (fun y1 l1 m1 => ?_)
  obtain ⟨rb, ob, bb, _⟩ := m1
  obtain ⟨k0, k1, k2⟩ := ob.sl_cell
  refine cl_borrow0 (.bool true) (ts := [encL u8 (encode p), encL u8 (encode p)]) rfl (bor2 (.inr ⟨rb, ob⟩) (.inl rfl)) (S_eqByteS hcs ⟨rfl, rfl⟩) ?_
  simp [↓go]
  refine jn_cut (fun s h' => h' = H ++ (AObj.row gb 4 [.agg [c0, c1, c2, c3]] :: l1) ∧ s = [y1, encL u8 (encode p), .fp (encProgram p), .pt H.length gb 0 0, ff]) ?_ ?_
  · have ea : H ++ [AObj.row gb 4 [.agg [c0, c1, c2, c3]]] ++ l1 = H ++ (AObj.row gb 4 [.agg [c0, c1, c2, c3]] :: l1) := by simp
    rw [ea]
    have heq : ∀ J : KS, J [y1, encL u8 (encode p), .fp (encProgram p), .pt H.length gb 0 0, ff] (H ++ (AObj.row gb 4 [.agg [c0, c1, c2, c3]] :: l1)) → @clM Tryz.prog 11 [.agg [c0, c1, c2, c3], encProgram p] (H ++ (AObj.row gb 4 [.agg [c0, c1, c2, c3]] :: l1)) ⟨fun x20 h20 => unM .not x20 h20 fun x21 h21 => @wkM [y1, encL u8 (encode p), .fp (encProgram p), .pt H.length gb 0 0, x21] h21 ⟨J⟩⟩ := fun J hJ => by
      refine cl_borrow0 (.bool true) (ts := [encProgram p, encProgram p]) rfl (bor2 (.inr ⟨ra, oa.grow⟩) (.inl rfl)) (S_eqProgram hp ⟨rfl, rfl⟩) ?_
      simp [↓go]
      exact wk_ex hJ
    simp [↓go, f0, a0, g0, f1, a1, g1, f2, a2, g2, f3, a3, g3]
    refine ⟨S_toProgram hp (heq _ ⟨rfl, rfl⟩), S_toProgram hp ?_⟩
    simp [↓go, f0, a0, g0, f1, a1, g1, f2, a2, g2, f3, a3, g3]
    exact heq _ ⟨rfl, rfl⟩
  · rintro _ _ ⟨rfl, rfl⟩
    simp [↓go, f0, a0, g0, f1, a1, g1, f2, a2, g2, f3, a3, g3]
    refine M_markProgram (oa.grow (l := AObj.row gb 4 [.agg [c0, c1, c2, c3]] :: l1)) (by omega) hmp (fun H2 om fm lm => ?_)
    have ob2 : Own H2 [y1] [encL u8 (encode p)] rb := by
      refine Own.frame (h := H ++ [AObj.row gb 4 [.agg [c0, c1, c2, c3]]] ++ l1) ob (fun r hr => ?_)
      rw [fm r (fun hm => by have h1 := oa.lt r hm; have h2 := bb r hr; simp at h2; omega)]
      simp
    have hpre2 : ∀ r, r < h.length → H2[r]? = h[r]? := fun r hr => by
      rw [fm r (fun hm => by have h1 := ba r hm; omega), List.getElem?_append_left (by omega)]
      exact hpre r hr
    have hrb : ∀ r ∈ rb, h.length ≤ r := fun r hr => by have := bb r hr; simp at this; omega
    clear fm ob oa1
    refine jn_cut (fun s h' => h' = H2 ∧ s = [y1, encL u8 (encode p), .fp (encProgram p), ff]) ?_ ?_
    · simp [↓go]
      refine ⟨fun hh => by omega, fun _ => ?_⟩
      refine cl_borrow0 (.bool true) (ts := [encL u8 (encode p), encL u8 (encode p)]) rfl (bor2 (.inr ⟨rb, ob2⟩) (.inl rfl)) (S_eqByteS hcs ⟨rfl, rfl⟩) ?_
      simp [↓go]
      exact wk_ex ⟨rfl, rfl⟩
    rintro _ _ ⟨rfl, rfl⟩
    simp [↓go]
    refine M_markByteS ob2 (by omega) hmk (fun H3 o3 f3 l3 => ?_)
    have hpre3 : ∀ r, r < h.length → H3[r]? = h[r]? := fun r hr => by
      rw [f3 r (fun hm => by have := hrb r hm; omega)]; exact hpre2 r hr
    have hm1 := markL_le true ((encode p).map u8) 1
    refine cl_borrow0 (.int .i64 (markL true ((encode p).map u8) 1).2) (ts := [.sl (markL true ((encode p).map u8) 1).1, i64 1]) rfl (bor2 (.inr ⟨rb, o3⟩) (.inl rfl)) (F_heldByteS (by omega) (Nat.le_trans hcs (by omega)) hmk ⟨rfl, rfl⟩) ?_
    simp [↓go]
    refine ⟨fun hh => by omega, fun _ => ?_⟩
    refine S_toProgram hp ?_
    refine cl_frozen (t := encL u8 (encode p)) (O_implEncode hp (fun y l hm => ⟨l, rfl, hm⟩)) ?_
    refine S_eqByteS hcs ?_
    simp [↓go]
    refine cl_borrow0 (.int .i64 (markL true ((encode p).map u8) 1).2) (ts := [.sl (markL true ((encode p).map u8) 1).1, i64 1]) rfl (bor2 (.inr ⟨rb, o3⟩) (.inl rfl)) (F_heldByteS (by omega) (Nat.le_trans hcs (by omega)) hmk ⟨rfl, rfl⟩) ?_
    simp [↓go]
    refine ⟨fun hh => by omega, fun _ => ?_⟩
    exact hQ H3 hpre3
end Go.Proofs.YtkfpoagnchahkaaGreat.A
