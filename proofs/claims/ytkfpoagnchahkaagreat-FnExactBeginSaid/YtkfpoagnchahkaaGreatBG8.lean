/- Of this session: over the abstract machine. -/
import Derived.Test.YtkfpoagnchahkaaGreatProg
import Derived.Test.YtkfpoagnchahkaaGreatA
import Derived.Test.YtkfpoagnchahkaaGreatB
import Derived.Test.YtkfpoagnchahkaaGreatD
import Derived.Test.YtkfpoagnchahkaaGreatT
import Derived.Test.YtkfpoagnchahkaaGreatP1
import Derived.Test.YtkfpoagnchahkaaGreatP2
import Derived.Test.YtkfpoagnchahkaaGreatP3
import Derived.Test.YtkfpoagnchahkaaGreatP4
import Derived.Test.YtkfpoagnchahkaaGreatP5
import Derived.Test.YtkfpoagnchahkaaGreatVM
import Derived.Test.YtkfpoagnchahkaaGreatO
import Derived.Test.YtkfpoagnchahkaaGreatOT
import Derived.Test.YtkfpoagnchahkaaGreatBG
import Derived.Test.YtkfpoagnchahkaaGreatBG4
import Derived.Test.YtkfpoagnchahkaaGreatBG5
import Derived.Test.YtkfpoagnchahkaaGreatBG6
import Derived.Test.YtkfpoagnchahkaaGreatBG7
namespace Go.Proofs.YtkfpoagnchahkaaGreat.A
open Go Go.RowKit
set_option linter.unusedVariables false
set_option linter.unusedSimpArgs false
set_option maxRecDepth 100000
set_option maxHeartbeats 1000000
theorem app_get {H l : AHeap} {k : Nat} {o : AObj} (h : H[k]? = some o) : (H ++ l)[k]? = some o := (List.getElem?_append_left (List.getElem?_eq_some_iff.1 h).1).trans h
set_option maxHeartbeats 4000000 in
theorem S_law_FnExactBegin {p : MProgram} {m : MMemory} {h : AHeap} {Q : KA} (op : okProgram p) (om : okMemory m) (q : Q tt h) : @clM Tryz.prog 5 [encProgram p, encMemory m] h ⟨Q⟩ := by
  refine cl_wk ?_
  refine cl_of fn_laws_FnExactBegin (D_laws_FnExactBegin_of ?_)
  unfold D_laws_FnExactBegin
  simp [↓go]
  refine S_szProgram (by omega) op ?_ (fun hp => ?_)
  · simp [↓go]
    exact retW_ex (Wk.refl q)
  have hp : szProgram p ≤ 1048576 := by omega
  simp [↓go]
  refine ⟨fun h1 => by omega, fun _ => ?_⟩
  refine S_szMemory (by omega) om ?_ (fun hm => ?_)
  · simp [↓go]
    exact retW_ex (Wk.refl q)
  have hm : szMemory m ≤ 1048576 := by omega
  simp [↓go]
  refine ⟨fun h1 => by omega, fun _ => ?_⟩
  have hx := begin_small p m
  have hx1 : szState (beginState p m) ≤ 1048576 := by omega
  have hx2 : szState (beginState p m) ≤ 1099511627776 := by omega
  have hmp : (markT false (encProgram p) 1).2 ≤ 4611686018427387904 := by
    have := mvProgram p 1; omega
  have hmp1 := markT_le false (encProgram p) 1
  have hmm : (markT false (encMemory m) (markT false (encProgram p) 1).2).2 ≤ 4611686018427387904 := by
    have := mvProgram p 1
    have := mvMemory m (markT false (encProgram p) 1).2; omega
  have hmm1 := markT_le false (encMemory m) (markT false (encProgram p) 1).2
  have hms : (markT false (encState (beginState p m)) 1).2 ≤ 4611686018427387904 := by
    have := mvState (beginState p m) 1; omega
  have hms1 := markT_le false (encState (beginState p m)) 1
  have hpl := plainState (beginState p m)
  have hsp : ∀ (H : AHeap) (K : KA), K (encState (beginState p m)) H → @clM Tryz.prog 22 [encProgram p, encMemory m] H ⟨K⟩ := fun H K hk => cl_frozen (t := encState (beginState p m)) (O_specBegin hp hm (fun y l hm => ⟨l, rfl, hm⟩)) hk
  have him : ∀ (H : AHeap) (K : KA), (∀ y l, Made H y (encState (beginState p m)) l → K y (H ++ l)) → @clM Tryz.prog 24 [encProgram p, encMemory m] H ⟨K⟩ := fun H K hk => O_implBegin hp hm hk
  have heq : ∀ (H : AHeap) (K : KA), K tt H → @clM Tryz.prog 25 [encState (beginState p m), encState (beginState p m)] H ⟨K⟩ := fun H K hk => S_eqState hx1 hk
  have hld : ∀ (H : AHeap) (K : KA), K (i64 (markT false (encState (beginState p m)) 1).2) H → @clM Tryz.prog 29 [(markT false (encState (beginState p m)) 1).1, i64 1] H ⟨K⟩ := fun H K hk => F_heldState (by omega) hx2 hms hk
  have hmk : ∀ {y : AVal} {H : AHeap} {rs : List Nat} {K : KA}, Own H [y] [encState (beginState p m)] rs → (∀ h', Own h' [y] [(markT false (encState (beginState p m)) 1).1] rs → (∀ q, q ∉ rs → h'[q]? = H[q]?) → h'.length = H.length → K (i64 (markT false (encState (beginState p m)) 1).2) h') → @clM Tryz.prog 28 [y, i64 1] H ⟨K⟩ := fun ho hk => M_markState ho (by omega) hms hk
  clear hx hx1 hx2
  generalize beginState p m = x at *
  have hQ : ∀ H : AHeap, (∀ r, r < h.length → H[r]? = h[r]?) → retW tt H (fun y h1 => Wk [y] h1 (fun s h2 => Q (nthA s 0) h2)) := fun H hH => retW_ex (Wk.sub (h' := h) (fun r g z xs hr => by rw [hH r (List.getElem?_eq_some_iff.1 hr).1]; exact hr) (Wk.refl q))
  refine jn_cut (fun s h' => ∃ g, h' = h ++ [.row g 7 [encState x]] ∧ s = [.pt h.length g 0 0, .fp (encMemory m), .fp (encProgram p)]) ?_ ?_
  · simp [↓go]
    refine ⟨S_toProgram hp ⟨S_toMemory hm ⟨hsp _ _ ?_, ?_⟩, ?_⟩, ?_⟩
    · simp [↓go]
      intro g
      exact wk_ex ⟨g, rfl, rfl⟩
    · simp [↓go]
      intro g
      refine hsp _ _ ?_
      simp [↓go]
      exact wk_ex ⟨g, rfl, rfl⟩
    · simp [↓go]
      intro g
      refine S_toMemory hm (hsp _ _ ?_)
      simp [↓go]
      exact wk_ex ⟨g, rfl, rfl⟩
    · intro g
      refine S_toProgram hp (S_toMemory hm (hsp _ _ ?_))
      simp [↓go]
      exact wk_ex ⟨g, rfl, rfl⟩
  rintro _ _ ⟨g0, rfl, rfl⟩
  have b0 : (h ++ [AObj.row g0 7 [encState x]])[h.length]? = some (.row g0 7 [encState x]) := by simp
  have pre : ∀ r, r < h.length → (h ++ [AObj.row g0 7 [encState x]])[r]? = h[r]? := fun r hr => List.getElem?_append_left hr
  have hlen : h.length < (h ++ [AObj.row g0 7 [encState x]]).length := by simp
  generalize h ++ [AObj.row g0 7 [encState x]] = H0 at *
  generalize hk0 : h.length = k0 at *
  simp [↓go]
  refine O_toProgram hp (fun y l hmd => ?_)
  obtain ⟨ra, oa, ba, _⟩ := hmd
  have ba : ∀ r ∈ ra, k0 < r := fun r hr => by have := ba r hr; omega
  have b0 := app_get (l := l) b0
  have pre : ∀ r, r < k0 → (H0 ++ l)[r]? = h[r]? := fun r hr => by rw [List.getElem?_append_left (by omega)]; exact pre r hr
  generalize H0 ++ l = H at *
  clear hlen
  obtain ⟨c0, c1, c2, c3, rfl, ⟨f0, a0, e0⟩, ⟨f1, a1, e1⟩, ⟨f2, a2, e2⟩, ⟨f3, a3, e3⟩⟩ := own_program oa
  simp [↓go, f0, a0, e0, f1, a1, e1, f2, a2, e2, f3, a3, e3]
  intro g1
  obtain ⟨k1, hk1⟩ : ∃ k1, H.length = k1 := ⟨_, rfl⟩
  have b1 : (H ++ [AObj.row g1 4 [.agg [c0, c1, c2, c3]]])[k1]? = some (.row g1 4 [.agg [c0, c1, c2, c3]]) := by subst hk1; simp
  have l0 : k0 < k1 := by have := (List.getElem?_eq_some_iff.1 b0).1; omega
  have la : ∀ r ∈ ra, r < k1 := fun r hr => by have := oa.lt r hr; omega
  have oa := oa.grow (l := [AObj.row g1 4 [.agg [c0, c1, c2, c3]]])
  have b0 := app_get (l := [AObj.row g1 4 [.agg [c0, c1, c2, c3]]]) b0
  have pre : ∀ r, r < k0 → (H ++ [AObj.row g1 4 [.agg [c0, c1, c2, c3]]])[r]? = h[r]? := fun r hr => by rw [List.getElem?_append_left (by omega)]; exact pre r hr
  have hlen : k1 < (H ++ [AObj.row g1 4 [.agg [c0, c1, c2, c3]]]).length := by simp [hk1]
  rw [hk1]
  clear hk1
  generalize H ++ [AObj.row g1 4 [.agg [c0, c1, c2, c3]]] = H0 at *
  refine O_toMemory hm (fun y l hmd => ?_)
  obtain ⟨rb, ob, bb, _⟩ := hmd
  have bb : ∀ r ∈ rb, k1 < r := fun r hr => by have := bb r hr; omega
  have b0 := app_get (l := l) b0
  have b1 := app_get (l := l) b1
  have oa := oa.grow (l := l)
  have pre : ∀ r, r < k0 → (H0 ++ l)[r]? = h[r]? := fun r hr => by rw [List.getElem?_append_left (by omega)]; exact pre r hr
  generalize H0 ++ l = H at *
  clear hlen
  obtain ⟨d0, d1, d2, rfl, ⟨f4, a4, e4⟩, ⟨f5, a5, e5⟩, ⟨f6, a6, e6⟩⟩ := own_memory ob
  simp [↓go, f4, a4, e4, f5, a5, e5, f6, a6, e6]
  intro g2
  obtain ⟨k2, hk2⟩ : ∃ k2, H.length = k2 := ⟨_, rfl⟩
  have b2 : (H ++ [AObj.row g2 3 [.agg [d0, d1, d2]]])[k2]? = some (.row g2 3 [.agg [d0, d1, d2]]) := by subst hk2; simp
  have l1 : k1 < k2 := by have := (List.getElem?_eq_some_iff.1 b1).1; omega
  have lb : ∀ r ∈ rb, r < k2 := fun r hr => by have := ob.lt r hr; omega
  have oa := oa.grow (l := [AObj.row g2 3 [.agg [d0, d1, d2]]])
  have ob := ob.grow (l := [AObj.row g2 3 [.agg [d0, d1, d2]]])
  have b0 := app_get (l := [AObj.row g2 3 [.agg [d0, d1, d2]]]) b0
  have b1 := app_get (l := [AObj.row g2 3 [.agg [d0, d1, d2]]]) b1
  have pre : ∀ r, r < k0 → (H ++ [AObj.row g2 3 [.agg [d0, d1, d2]]])[r]? = h[r]? := fun r hr => by rw [List.getElem?_append_left (by omega)]; exact pre r hr
  have hlen : k2 < (H ++ [AObj.row g2 3 [.agg [d0, d1, d2]]]).length := by simp [hk2]
  rw [hk2]
  clear hk2
  generalize H ++ [AObj.row g2 3 [.agg [d0, d1, d2]]] = H0 at *
  simp [↓go, b1, b2, f0, a0, e0, f1, a1, e1, f2, a2, e2, f3, a3, e3, f4, a4, e4, f5, a5, e5, f6, a6, e6]
  refine cl_borrow1 (ts := [encProgram p, encMemory m]) (t := encState x) rfl (bor2 (.inr ⟨ra, oa⟩) (.inr ⟨rb, ob⟩)) hpl (him _ _ (fun y l hm => ⟨l, rfl, hm⟩)) (fun y l hmd => ?_)
  obtain ⟨rc, oc, bc, _⟩ := hmd
  have bc : ∀ r ∈ rc, k2 < r := fun r hr => by have := bc r hr; omega
  have b0 := app_get (l := l) b0
  have b1 := app_get (l := l) b1
  have b2 := app_get (l := l) b2
  have oa := oa.grow (l := l)
  have ob := ob.grow (l := l)
  have pre : ∀ r, r < k0 → (H0 ++ l)[r]? = h[r]? := fun r hr => by rw [List.getElem?_append_left (by omega)]; exact pre r hr
  generalize H0 ++ l = H at *
  clear hlen
  obtain ⟨s4, s5, s6, rfl, ⟨f7, a7, e7⟩, ⟨f8, a8, e8⟩, ⟨f9, a9, e9⟩⟩ := own_state oc
  simp [↓go, f7, a7, e7, f8, a8, e8, f9, a9, e9]
  intro g3
  obtain ⟨k3, hk3⟩ : ∃ k3, H.length = k3 := ⟨_, rfl⟩
  have b3 : (H ++ [AObj.row g3 7 [.agg [i64 x.trap, bl x.done, i64 x.cost, i64 x.steps, s4, s5, s6]]])[k3]? = some (.row g3 7 [.agg [i64 x.trap, bl x.done, i64 x.cost, i64 x.steps, s4, s5, s6]]) := by subst hk3; simp
  have l2 : k2 < k3 := by have := (List.getElem?_eq_some_iff.1 b2).1; omega
  have lc : ∀ r ∈ rc, r < k3 := fun r hr => by have := oc.lt r hr; omega
  have oa := oa.grow (l := [AObj.row g3 7 [.agg [i64 x.trap, bl x.done, i64 x.cost, i64 x.steps, s4, s5, s6]]])
  have ob := ob.grow (l := [AObj.row g3 7 [.agg [i64 x.trap, bl x.done, i64 x.cost, i64 x.steps, s4, s5, s6]]])
  have oc := oc.grow (l := [AObj.row g3 7 [.agg [i64 x.trap, bl x.done, i64 x.cost, i64 x.steps, s4, s5, s6]]])
  have b0 := app_get (l := [AObj.row g3 7 [.agg [i64 x.trap, bl x.done, i64 x.cost, i64 x.steps, s4, s5, s6]]]) b0
  have b1 := app_get (l := [AObj.row g3 7 [.agg [i64 x.trap, bl x.done, i64 x.cost, i64 x.steps, s4, s5, s6]]]) b1
  have b2 := app_get (l := [AObj.row g3 7 [.agg [i64 x.trap, bl x.done, i64 x.cost, i64 x.steps, s4, s5, s6]]]) b2
  have pre : ∀ r, r < k0 → (H ++ [AObj.row g3 7 [.agg [i64 x.trap, bl x.done, i64 x.cost, i64 x.steps, s4, s5, s6]]])[r]? = h[r]? := fun r hr => by rw [List.getElem?_append_left (by omega)]; exact pre r hr
  have hlen : k3 < (H ++ [AObj.row g3 7 [.agg [i64 x.trap, bl x.done, i64 x.cost, i64 x.steps, s4, s5, s6]]]).length := by simp [hk3]
  rw [hk3]
  clear hk3
  generalize H ++ [AObj.row g3 7 [.agg [i64 x.trap, bl x.done, i64 x.cost, i64 x.steps, s4, s5, s6]]] = H0 at *
  simp [↓go, b0, b3, f7, a7, e7, f8, a8, e8, f9, a9, e9]
  refine cl_borrow0 (.bool true) (ts := [encState x, encState x]) rfl (bor2 (.inr ⟨rc, oc⟩) (.inl rfl)) (heq _ _ ⟨rfl, rfl⟩) ?_
  simp [↓go]
  refine jn_cut (fun s h' => H0 = h' ∧ s = [.pt k3 g3 0 0, .pt k0 g0 0 0, .fp (encMemory m), .fp (encProgram p), .pt k2 g2 0 0, .pt k1 g1 0 0, ff]) ?_ ?_
  · have hep : ∀ J : KS, J [.pt k3 g3 0 0, .pt k0 g0 0 0, .fp (encMemory m), .fp (encProgram p), .pt k2 g2 0 0, .pt k1 g1 0 0, ff] H0 → @clM Tryz.prog 11 [.agg [c0, c1, c2, c3], encProgram p] H0 ⟨fun x20 h20 => unM .not x20 h20 fun x21 h21 => @wkM [.pt k3 g3 0 0, .pt k0 g0 0 0, .fp (encMemory m), .fp (encProgram p), .pt k2 g2 0 0, .pt k1 g1 0 0, x21] h21 ⟨J⟩⟩ := fun J hJ => by
      refine cl_borrow0 (.bool true) (ts := [encProgram p, encProgram p]) rfl (bor2 (.inr ⟨ra, oa⟩) (.inl rfl)) (S_eqProgram hp ⟨rfl, rfl⟩) ?_
      simp [↓go]
      exact wk_ex hJ
    simp [↓go, b1, f0, a0, e0, f1, a1, e1, f2, a2, e2, f3, a3, e3]
    refine ⟨S_toProgram hp (hep _ ⟨rfl, rfl⟩), S_toProgram hp ?_⟩
    simp [↓go, b1, f0, a0, e0, f1, a1, e1, f2, a2, e2, f3, a3, e3]
    exact hep _ ⟨rfl, rfl⟩
  rintro _ _ ⟨rfl, rfl⟩
  simp [↓go]
  refine jn_cut (fun s h' => H0 = h' ∧ s = [.pt k3 g3 0 0, .pt k0 g0 0 0, .fp (encMemory m), .fp (encProgram p), .pt k2 g2 0 0, .pt k1 g1 0 0, ff]) ?_ ?_
  · have hep : ∀ J : KS, J [.pt k3 g3 0 0, .pt k0 g0 0 0, .fp (encMemory m), .fp (encProgram p), .pt k2 g2 0 0, .pt k1 g1 0 0, ff] H0 → @clM Tryz.prog 26 [.agg [d0, d1, d2], encMemory m] H0 ⟨fun x20 h20 => unM .not x20 h20 fun x21 h21 => @wkM [.pt k3 g3 0 0, .pt k0 g0 0 0, .fp (encMemory m), .fp (encProgram p), .pt k2 g2 0 0, .pt k1 g1 0 0, x21] h21 ⟨J⟩⟩ := fun J hJ => by
      refine cl_borrow0 (.bool true) (ts := [encMemory m, encMemory m]) rfl (bor2 (.inr ⟨rb, ob⟩) (.inl rfl)) (S_eqMemory hm ⟨rfl, rfl⟩) ?_
      simp [↓go]
      exact wk_ex hJ
    simp [↓go, b2, f4, a4, e4, f5, a5, e5, f6, a6, e6]
    refine ⟨S_toMemory hm (hep _ ⟨rfl, rfl⟩), S_toMemory hm ?_⟩
    simp [↓go, b2, f4, a4, e4, f5, a5, e5, f6, a6, e6]
    exact hep _ ⟨rfl, rfl⟩
  rintro _ _ ⟨rfl, rfl⟩
  simp [↓go, b1, f0, a0, e0, f1, a1, e1, f2, a2, e2, f3, a3, e3]
  refine M_markProgram oa (by omega) hmp (fun H2 om1 fm lm => ?_)
  have na : ∀ r, r = k0 ∨ r = k1 ∨ r = k2 ∨ r = k3 ∨ r ∈ rb ∨ r ∈ rc ∨ r < k0 → r ∉ ra := fun r hr hm => by
    have h1 := ba r hm
    have h2 := la r hm
    rcases hr with rfl | rfl | rfl | rfl | hr | hr | hr
    · omega
    · omega
    · omega
    · omega
    · have := bb r hr; omega
    · have := bc r hr; omega
    · omega
  have b0 := (fm k0 (na _ (.inl rfl))).trans b0
  have b2 := (fm k2 (na _ (.inr (.inr (.inl rfl))))).trans b2
  have b3 := (fm k3 (na _ (.inr (.inr (.inr (.inl rfl)))))).trans b3
  have ob := ob.frame (fun r hr => fm r (na r (.inr (.inr (.inr (.inr (.inl hr)))))))
  have oc := oc.frame (fun r hr => fm r (na r (.inr (.inr (.inr (.inr (.inr (.inl hr))))))))
  have pre : ∀ r, r < k0 → H2[r]? = h[r]? := fun r hr => (fm r (na r (.inr (.inr (.inr (.inr (.inr (.inr hr)))))))).trans (pre r hr)
  clear fm oa om1 b1
  simp [↓go, b2, f4, a4, e4, f5, a5, e5, f6, a6, e6]
  refine M_markMemory ob (by omega) hmm (fun H3 om1 fm lm2 => ?_)
  have nb : ∀ r, r = k0 ∨ r = k3 ∨ r ∈ rc ∨ r < k0 → r ∉ rb := fun r hr hm => by
    have h1 := bb r hm
    have h2 := lb r hm
    rcases hr with rfl | rfl | hr | hr
    · omega
    · omega
    · have := bc r hr; omega
    · omega
  have b0 := (fm k0 (nb _ (.inl rfl))).trans b0
  have b3 := (fm k3 (nb _ (.inr (.inl rfl)))).trans b3
  have oc := oc.frame (fun r hr => fm r (nb r (.inr (.inr (.inl hr)))))
  have pre : ∀ r, r < k0 → H3[r]? = h[r]? := fun r hr => (fm r (nb r (.inr (.inr (.inr hr))))).trans (pre r hr)
  clear fm ob om1 b2
  refine jn_cut (fun s h' => H3 = h' ∧ s = [.pt k3 g3 0 0, .pt k0 g0 0 0, .fp (encMemory m), .fp (encProgram p), ff]) ?_ ?_
  · simp [↓go]
    refine ⟨fun hh => by omega, fun _ => ?_⟩
    simp [↓go, b0, b3, f7, a7, e7, f8, a8, e8, f9, a9, e9]
    refine cl_borrow0 (.bool true) (ts := [encState x, encState x]) rfl (bor2 (.inr ⟨rc, oc⟩) (.inl rfl)) (heq _ _ ⟨rfl, rfl⟩) ?_
    simp [↓go]
    exact wk_ex ⟨rfl, rfl⟩
  rintro _ _ ⟨rfl, rfl⟩
  simp [↓go, b3, f7, a7, e7, f8, a8, e8, f9, a9, e9]
  refine hmk oc (fun H4 o4 fm lm3 => ?_)
  have nc : ∀ r, r = k0 ∨ r = k3 ∨ r < k0 → r ∉ rc := fun r hr hm => by
    have h1 := bc r hm
    have h2 := lc r hm
    rcases hr with rfl | rfl | hr <;> omega
  have b0 := (fm k0 (nc _ (.inl rfl))).trans b0
  have b3 := (fm k3 (nc _ (.inr (.inl rfl)))).trans b3
  have pre : ∀ r, r < k0 → H4[r]? = h[r]? := fun r hr => (fm r (nc r (.inr (.inr hr)))).trans (pre r hr)
  have hl4 : k0 < H4.length := (List.getElem?_eq_some_iff.1 b0).1
  clear fm oc
  simp [↓go, b3, f7, a7, e7, f8, a8, e8, f9, a9, e9]
  refine cl_borrow0 (.int .i64 (markT false (encState x) 1).2) (ts := [(markT false (encState x) 1).1, i64 1]) rfl (bor2 (.inr ⟨rc, o4⟩) (.inl rfl)) (hld _ _ ⟨rfl, rfl⟩) ?_
  simp [↓go]
  refine ⟨fun hh => by omega, fun _ => ?_⟩
  refine jn_cut (fun s h' => ∃ g4, h' = H4 ++ [.row g4 7 [encState x]] ∧ s = [i64 (markT false (encState x) 1).2, .pt k3 g3 0 0, .pt k0 g0 0 0, .pt H4.length g4 0 0]) ?_ ?_
  · simp [↓go]
    have him2 : ∀ (H : AHeap) (K : KA), K (encState x) H → @clM Tryz.prog 24 [encProgram p, encMemory m] H ⟨K⟩ := fun H K hk => cl_frozen (t := encState x) (him _ _ (fun y l hm => ⟨l, rfl, hm⟩)) hk
    refine ⟨S_toProgram hp ⟨S_toMemory hm ⟨him2 _ _ ?_, ?_⟩, ?_⟩, ?_⟩
    · simp [↓go]
      intro g
      exact wk_ex ⟨g, rfl, rfl⟩
    · simp [↓go]
      intro g
      refine him2 _ _ ?_
      simp [↓go]
      exact wk_ex ⟨g, rfl, rfl⟩
    · simp [↓go]
      intro g
      refine S_toMemory hm (him2 _ _ ?_)
      simp [↓go]
      exact wk_ex ⟨g, rfl, rfl⟩
    · intro g
      refine S_toProgram hp (S_toMemory hm (him2 _ _ ?_))
      simp [↓go]
      exact wk_ex ⟨g, rfl, rfl⟩
  rintro _ _ ⟨g4, rfl, rfl⟩
  have b4 : (H4 ++ [AObj.row g4 7 [encState x]])[H4.length]? = some (.row g4 7 [encState x]) := by simp
  have o4 := o4.grow (l := [AObj.row g4 7 [encState x]])
  have b0 := app_get (l := [AObj.row g4 7 [encState x]]) b0
  have b3 := app_get (l := [AObj.row g4 7 [encState x]]) b3
  have pre : ∀ r, r < k0 → (H4 ++ [AObj.row g4 7 [encState x]])[r]? = h[r]? := fun r hr => by rw [List.getElem?_append_left (by omega)]; exact pre r hr
  generalize H4 ++ [AObj.row g4 7 [encState x]] = H5 at *
  generalize H4.length = k4 at *
  simp [↓go, b0, b4]
  refine heq _ _ ?_
  simp [↓go, b3, f7, a7, e7, f8, a8, e8, f9, a9, e9]
  refine cl_borrow0 (.int .i64 (markT false (encState x) 1).2) (ts := [(markT false (encState x) 1).1, i64 1]) rfl (bor2 (.inr ⟨rc, o4⟩) (.inl rfl)) (hld _ _ ⟨rfl, rfl⟩) ?_
  simp [↓go]
  refine ⟨fun hh => by omega, fun _ => ?_⟩
  exact hQ H5 pre
end Go.Proofs.YtkfpoagnchahkaaGreat.A
