/- Of this session: over the abstract machine. -/
import Derived.Test.YtkfpoagnchahkaaGreatProg
import Derived.Test.YtkfpoagnchahkaaGreatA
import Derived.Test.YtkfpoagnchahkaaGreatB
import Derived.Test.YtkfpoagnchahkaaGreatD
import Derived.Test.YtkfpoagnchahkaaGreatT
import Derived.Test.YtkfpoagnchahkaaGreatO
import Derived.Test.YtkfpoagnchahkaaGreatOT
import Derived.Test.YtkfpoagnchahkaaGreatP1
import Derived.Test.YtkfpoagnchahkaaGreatP2
import Derived.Test.YtkfpoagnchahkaaGreatP3
import Derived.Test.YtkfpoagnchahkaaGreatP4
import Derived.Test.YtkfpoagnchahkaaGreatP5
import Derived.Test.YtkfpoagnchahkaaGreatO8
import Derived.Test.YtkfpoagnchahkaaGreatDC0
import Derived.Test.YtkfpoagnchahkaaGreatDC1
import Derived.Test.YtkfpoagnchahkaaGreatDC2
import Derived.Test.YtkfpoagnchahkaaGreatDC3
import Derived.Test.YtkfpoagnchahkaaGreatDC4
import Derived.Test.YtkfpoagnchahkaaGreatDC5
import Derived.Test.YtkfpoagnchahkaaGreatDC6
import Derived.Test.YtkfpoagnchahkaaGreatDC7
import Derived.Test.YtkfpoagnchahkaaGreatDC8
import Derived.Test.YtkfpoagnchahkaaGreatDC9
import Derived.Test.YtkfpoagnchahkaaGreatDC10
namespace Go.Proofs.YtkfpoagnchahkaaGreat.A
open Go Go.RowKit
set_option linter.unusedVariables false
set_option linter.unusedSimpArgs false
set_option maxRecDepth 100000
set_option maxHeartbeats 1000000
/-! ### the law -/
theorem pr_own2 {H : AHeap} {cs ds : List AVal} {n : Int} {rs : List Nat} (o : Own H [.agg cs] [.agg ds] rs) : Own H [.agg (i64 n :: cs)] [.agg (i64 n :: ds)] rs := by
  obtain ⟨ds', e, oc⟩ := o.agg_inv
  cases e
  exact Own.agg_mk (.v rfl oc)
theorem mark_pr (x : Int × MProgram) (k : Int) : ∃ m0 m1 m2 m3, (markT false (encProgram x.2) k).1 = .agg [m0, m1, m2, m3] ∧ (markT false (encPR x) k).1 = .agg [i64 x.1, m0, m1, m2, m3] ∧ (markT false (encPR x) k).2 = (markT false (encProgram x.2) k).2 ∧
    (m0.flat = [m0] ∧ m0.c1 = true ∧ m0.isAgg = false) ∧ (m1.flat = [m1] ∧ m1.c1 = true ∧ m1.isAgg = false) ∧ (m2.flat = [m2] ∧ m2.c1 = true ∧ m2.isAgg = false) ∧ (m3.flat = [m3] ∧ m3.c1 = true ∧ m3.isAgg = false) := by
  have h1 : (markT false (encProgram x.2) k).1 = .agg [.sl (markL true (x.2.regions.map (encL i64)) k).1, .sl (markL true (x.2.consts.map encConst) (markL true (x.2.regions.map (encL i64)) k).2).1,
      .sl (markL true (x.2.funcs.map encFunc) (markL true (x.2.consts.map encConst) (markL true (x.2.regions.map (encL i64)) k).2).2).1,
      .sl (markL true (x.2.certs.map encCert) (markL true (x.2.funcs.map encFunc) (markL true (x.2.consts.map encConst) (markL true (x.2.regions.map (encL i64)) k).2).2).2).1] := by
    rw [encProgram_eq]; simp only [markT, markL]
  have h2 : (markT false (encPR x) k).1 = .agg [i64 x.1, .sl (markL true (x.2.regions.map (encL i64)) k).1, .sl (markL true (x.2.consts.map encConst) (markL true (x.2.regions.map (encL i64)) k).2).1,
      .sl (markL true (x.2.funcs.map encFunc) (markL true (x.2.consts.map encConst) (markL true (x.2.regions.map (encL i64)) k).2).2).1,
      .sl (markL true (x.2.certs.map encCert) (markL true (x.2.funcs.map encFunc) (markL true (x.2.consts.map encConst) (markL true (x.2.regions.map (encL i64)) k).2).2).2).1] := by
    unfold encPR; simp only [markT, markL]
  have h3 : (markT false (encPR x) k).2 = (markT false (encProgram x.2) k).2 := by
    rw [encProgram_eq]; unfold encPR; simp only [markT, markL]
  exact ⟨_, _, _, _, h1, h2, h3, And.intro rfl (And.intro rfl rfl), And.intro rfl (And.intro rfl rfl), And.intro rfl (And.intro rfl rfl), And.intro rfl (And.intro rfl rfl)⟩
theorem M_markPR {x : Int × MProgram} {y : AVal} {k : Int} {h : AHeap} {rs : List Nat} {Q : KA} (ho : Own h [y] [encPR x] rs) (hk : 0 ≤ k) (hb : (markT false (encPR x) k).2 ≤ 4611686018427387904)
    (hq : ∀ h', Own h' [y] [(markT false (encPR x) k).1] rs → (∀ q, q ∉ rs → h'[q]? = h[q]?) → h'.length = h.length → Q (i64 (markT false (encPR x) k).2) h') : @clM Tryz.prog 19 [y, i64 k] h ⟨Q⟩ := by
  refine cl_of fn_laws_markProgramResult (D_laws_markProgramResult_of ?_)
  unfold D_laws_markProgramResult
  obtain ⟨m0, m1, m2, m3, e1, e2, e3, -⟩ := mark_pr x k
  rw [e2, e3] at hq
  rw [e3] at hb
  obtain ⟨c0, c1, c2, c3, rfl, ⟨f0, a0, g0⟩, ⟨f1, a1, g1⟩, ⟨f2, a2, g2⟩, ⟨f3, a3, g3⟩, o⟩ := own_pr ho
  simp [↓go, f0, a0, g0, f1, a1, g1, f2, a2, g2, f3, a3, g3]
  refine M_markProgram o hk hb (fun h' o' f' l' => ?_)
  rw [e1] at o'
  exact retW_ex (hq h' (pr_own2 o') f' l')
theorem F_heldPR {x : Int × MProgram} {k : Int} {h : AHeap} {Q : KA} (hk : 0 ≤ k) (hs : szProgram x.2 ≤ 1099511627776) (hb : (markT false (encPR x) k).2 ≤ 4611686018427387904)
    (hq : Q (i64 (markT false (encPR x) k).2) h) : @clM Tryz.prog 20 [(markT false (encPR x) k).1, i64 k] h ⟨Q⟩ := by
  refine cl_of fn_laws_heldProgramResult (D_laws_heldProgramResult_of ?_)
  unfold D_laws_heldProgramResult
  obtain ⟨m0, m1, m2, m3, e1, e2, e3, ⟨f0, a0, g0⟩, ⟨f1, a1, g1⟩, ⟨f2, a2, g2⟩, ⟨f3, a3, g3⟩⟩ := mark_pr x k
  have hle := markT_le false (encProgram x.2) k
  rw [e3] at hb hq
  rw [e2]
  simp [↓go, f0, a0, g0, f1, a1, g1, f2, a2, g2, f3, a3, g3]
  rw [← e1]
  refine F_heldProgram hk hs hb ?_
  simp [↓go]
  refine ⟨fun hh => by omega, fun _ => ?_⟩
  exact retW_ex hq
theorem okB_of {bs : List Int} (ob : okL (wfI .u8) bs) : okB bs := fun b hb => by
  have := ob.2 b hb
  have this : (decide (IntKind.u8.min ≤ b) && decide (b ≤ IntKind.u8.max)) = true := this
  rw [Bool.and_eq_true, decide_eq_true_eq, decide_eq_true_eq] at this
  have e1 : IntKind.u8.min = 0 := by decide
  have e2 : IntKind.u8.max = 255 := by decide
  omega
theorem dec_small {bs : List Int} (hl : bs.length ≤ 1048576) : szProgram (decOf bs).2 ≤ 1048576 := by
  have hz : szProgram zProgram = 0 := rfl
  unfold decOf
  split
  · show szProgram zProgram ≤ _; omega
  split
  · show szProgram zProgram ≤ _; omega
  split
  · show szProgram zProgram ≤ _; omega
  split
  · show szProgram zProgram ≤ _; omega
  · rename_i p r hg
    have h := gtProg_le hg
    have hb : (decBody bs).length ≤ bs.length := by unfold decBody; simp; omega
    split
    · show szProgram zProgram ≤ _; omega
    split
    · show szProgram zProgram ≤ _; omega
    · show szProgram p ≤ _; omega
theorem plainPR (x : Int × MProgram) : plainT (encPR x) = true := by
  have h1 : ∀ l : List Int, plainT (encL i64 l) = true := fun l => by rw [plainT_sl]; exact plainL_map (fun _ => rfl) l
  have h2 : ∀ l : List MInstr, plainT (encL encInstr l) = true := fun l => by rw [plainT_sl]; exact plainL_map (fun x => by simp [encInstr]) l
  have hf : ∀ f : MFunc, plainT (encFunc f) = true := fun f => by
    unfold encFunc
    rw [plainT_agg, plainL_cons, plainL_cons, plainL_cons, plainL_cons, h1, h1, h2]; simp
  have a1 : plainT (encL (encL i64) x.2.regions) = true := by rw [plainT_sl]; exact plainL_map h1 _
  have a2 : plainT (encL encConst x.2.consts) = true := by rw [plainT_sl]; exact plainL_map (fun x => by simp [encConst]) _
  have a3 : plainT (encL encFunc x.2.funcs) = true := by rw [plainT_sl]; exact plainL_map hf _
  have a4 : plainT (encL encCert x.2.certs) = true := by rw [plainT_sl]; exact plainL_map (fun x => by simp [encCert]) _
  unfold encPR
  rw [plainT_agg, plainL_cons, plainL_cons, plainL_cons, plainL_cons, plainL_cons, a1, a2, a3, a4]
  simp
set_option maxHeartbeats 4000000 in
theorem S_law_FnExactDecode {bs : List Int} {h : AHeap} {Q : KA} (ob : okL (wfI .u8) bs) (q : Q tt h) : @clM Tryz.prog 4 [encL u8 bs] h ⟨Q⟩ := by
  refine cl_wk ?_
  refine cl_of fn_laws_FnExactDecode (D_laws_FnExactDecode_of ?_)
  unfold D_laws_FnExactDecode
  simp [↓go]
  refine ⟨fun _ => retW_ex (Wk.refl q), fun hlt => ?_⟩
  have hl : bs.length ≤ 1048576 := by omega
  have hw := okB_of ob
  have hbs : szL (fun _ => 0) bs ≤ 1048576 := by rw [szL_zero]; omega
  have hsz := dec_small hl
  have hmk : (markL true (bs.map u8) 1).2 ≤ 4611686018427387904 := by
    have := mk_le (e := u8) (f := fun _ => 0) mbU8 bs 1
    rw [szL_zero] at this; omega
  have hmk1 := markL_le true (bs.map u8) 1
  have hmp : (markT false (encPR (decOf bs)) 1).2 ≤ 4611686018427387904 := by
    obtain ⟨_, _, _, _, _, _, e, _⟩ := mark_pr (decOf bs) 1
    rw [e]; have := mvProgram (decOf bs).2 1; omega
  have hmp1 := markT_le false (encPR (decOf bs)) 1
  have hpl := plainPR (decOf bs)
  have hsp : ∀ (H : AHeap) (K : KA), K (encPR (decOf bs)) H → @clM Tryz.prog 15 [encL u8 bs] H ⟨K⟩ := fun H K hk => cl_frozen (t := encPR (decOf bs)) (O_specDecode hl hw (fun y l hm => ⟨l, rfl, hm⟩)) hk
  have him : ∀ (H : AHeap) (K : KA), (∀ y l, Made H y (encPR (decOf bs)) l → K y (H ++ l)) → @clM Tryz.prog 17 [encL u8 bs] H ⟨K⟩ := fun H K hk => O_implDecode hl hw hk
  have heq : ∀ (H : AHeap) (K : KA), K tt H → @clM Tryz.prog 18 [encPR (decOf bs), encPR (decOf bs)] H ⟨K⟩ := fun H K hk => S_eqPR hsz hk
  have hld : ∀ (H : AHeap) (K : KA), K (i64 (markT false (encPR (decOf bs)) 1).2) H → @clM Tryz.prog 20 [(markT false (encPR (decOf bs)) 1).1, i64 1] H ⟨K⟩ := fun H K hk => F_heldPR (by omega) (by omega) hmp hk
  have hmr : ∀ {y : AVal} {H : AHeap} {rs : List Nat} {K : KA}, Own H [y] [encPR (decOf bs)] rs → (∀ h', Own h' [y] [(markT false (encPR (decOf bs)) 1).1] rs → (∀ q, q ∉ rs → h'[q]? = H[q]?) → h'.length = H.length → K (i64 (markT false (encPR (decOf bs)) 1).2) h') → @clM Tryz.prog 19 [y, i64 1] H ⟨K⟩ := fun ho hk => M_markPR ho (by omega) hmp hk
  have hown : ∀ {H : AHeap} {y : AVal} {rs : List Nat}, Own H [y] [encPR (decOf bs)] rs → ∃ c0 c1 c2 c3, y = .agg [i64 (decOf bs).1, c0, c1, c2, c3] ∧ (c0.flat = [c0] ∧ c0.c1 = true ∧ c0.isAgg = false) ∧ (c1.flat = [c1] ∧ c1.c1 = true ∧ c1.isAgg = false) ∧ (c2.flat = [c2] ∧ c2.c1 = true ∧ c2.isAgg = false) ∧ (c3.flat = [c3] ∧ c3.c1 = true ∧ c3.isAgg = false) := fun o => by
    obtain ⟨c0, c1, c2, c3, e, t0, t1, t2, t3, -⟩ := own_pr o
    exact ⟨c0, c1, c2, c3, e, t0, t1, t2, t3⟩
  obtain ⟨n, x0, x1, x2, x3, hn, hx, ⟨v0, w0, u0⟩, ⟨v1, w1, u1⟩, ⟨v2, w2, u2⟩, ⟨v3, w3, u3⟩⟩ : ∃ n x0 x1 x2 x3, n = (decOf bs).1 ∧ encPR (decOf bs) = .agg [i64 n, x0, x1, x2, x3] ∧ (x0.flat = [x0] ∧ x0.c1 = true ∧ x0.isAgg = false) ∧ (x1.flat = [x1] ∧ x1.c1 = true ∧ x1.isAgg = false) ∧ (x2.flat = [x2] ∧ x2.c1 = true ∧ x2.isAgg = false) ∧ (x3.flat = [x3] ∧ x3.c1 = true ∧ x3.isAgg = false) :=
    ⟨_, _, _, _, _, rfl, rfl, And.intro rfl (And.intro rfl rfl), And.intro rfl (And.intro rfl rfl), And.intro rfl (And.intro rfl rfl), And.intro rfl (And.intro rfl rfl)⟩
  rw [← hn] at hown
  rw [hx] at hmp hmp1 hpl hsp him heq hld hmr hown
  clear hsz hx hn
  have hQ : ∀ H : AHeap, (∀ r, r < h.length → H[r]? = h[r]?) → retW tt H (fun y h1 => Wk [y] h1 (fun s h2 => Q (nthA s 0) h2)) := fun H hH => retW_ex (Wk.sub (h' := h) (fun r g z xs hr => by rw [hH r (List.getElem?_eq_some_iff.1 hr).1]; exact hr) (Wk.refl q))
  refine S_toByteS hbs (hsp _ _ ?_)
  simp [↓go, v0, w0, u0, v1, w1, u1, v2, w2, u2, v3, w3, u3]
  intro g0
  have b0 : (h ++ [AObj.row g0 5 [.agg [i64 n, x0, x1, x2, x3]]])[h.length]? = some (.row g0 5 [.agg [i64 n, x0, x1, x2, x3]]) := by simp
  have pre : ∀ r, r < h.length → (h ++ [AObj.row g0 5 [.agg [i64 n, x0, x1, x2, x3]]])[r]? = h[r]? := fun r hr => List.getElem?_append_left hr
  have hlen : h.length < (h ++ [AObj.row g0 5 [.agg [i64 n, x0, x1, x2, x3]]]).length := by simp
  generalize h ++ [AObj.row g0 5 [.agg [i64 n, x0, x1, x2, x3]]] = H0 at *
  generalize hk0 : h.length = k0 at *
  refine O_toByteS hbs (fun y l hmd => ?_)
  obtain ⟨ra, oa, ba, _⟩ := hmd
  have ba : ∀ r ∈ ra, k0 < r := fun r hr => by have := ba r hr; omega
  have b0 := app_get (l := l) b0
  have pre : ∀ r, r < k0 → (H0 ++ l)[r]? = h[r]? := fun r hr => by rw [List.getElem?_append_left (by omega)]; exact pre r hr
  have hlen : k0 < (H0 ++ l).length := by simp; omega
  generalize H0 ++ l = H at *
  refine cl_borrow1 (ts := [encL u8 bs]) (t := .agg [i64 n, x0, x1, x2, x3]) rfl (bor1 (.inr ⟨ra, oa⟩)) hpl (him _ _ (fun y l hm => ⟨l, rfl, hm⟩)) (fun y1 l1 hmd => ?_)
  obtain ⟨rc, oc, bc, _⟩ := hmd
  have la : ∀ r ∈ ra, r < H.length := fun r hr => oa.lt r hr
  have bc0 : ∀ r ∈ rc, k0 < r := fun r hr => by have := bc r hr; omega
  have nac : ∀ r ∈ rc, r ∉ ra := fun r hr hm => by have := bc r hr; have := la r hm; omega
  have b0 := app_get (l := l1) b0
  have oa := oa.grow (l := l1)
  have pre : ∀ r, r < k0 → (H ++ l1)[r]? = h[r]? := fun r hr => by rw [List.getElem?_append_left (by omega)]; exact pre r hr
  have hlen : k0 < (H ++ l1).length := by simp; omega
  clear bc la
  generalize H ++ l1 = H2 at *
  obtain ⟨c0, c1, c2, c3, rfl, ⟨f0, a0, e0⟩, ⟨f1, a1, e1⟩, ⟨f2, a2, e2⟩, ⟨f3, a3, e3⟩⟩ := hown oc
  simp [↓go, f0, a0, e0, f1, a1, e1, f2, a2, e2, f3, a3, e3]
  intro g3
  obtain ⟨k3, hk3⟩ : ∃ k3, H2.length = k3 := ⟨_, rfl⟩
  have b3 : (H2 ++ [AObj.row g3 5 [.agg [i64 n, c0, c1, c2, c3]]])[k3]? = some (.row g3 5 [.agg [i64 n, c0, c1, c2, c3]]) := by subst hk3; simp
  have la : ∀ r ∈ ra, r < k3 := fun r hr => by have := oa.lt r hr; omega
  have lc : ∀ r ∈ rc, r < k3 := fun r hr => by have := oc.lt r hr; omega
  have oa := oa.grow (l := [AObj.row g3 5 [.agg [i64 n, c0, c1, c2, c3]]])
  have oc := oc.grow (l := [AObj.row g3 5 [.agg [i64 n, c0, c1, c2, c3]]])
  have b0 := app_get (l := [AObj.row g3 5 [.agg [i64 n, c0, c1, c2, c3]]]) b0
  have pre : ∀ r, r < k0 → (H2 ++ [AObj.row g3 5 [.agg [i64 n, c0, c1, c2, c3]]])[r]? = h[r]? := fun r hr => by rw [List.getElem?_append_left (by omega)]; exact pre r hr
  rw [hk3]
  have hlen : k0 < k3 := by omega
  clear hk3
  generalize H2 ++ [AObj.row g3 5 [.agg [i64 n, c0, c1, c2, c3]]] = H3 at *
  simp [↓go, b0, b3, f0, a0, e0, f1, a1, e1, f2, a2, e2, f3, a3, e3, v0, w0, u0, v1, w1, u1, v2, w2, u2, v3, w3, u3]
  refine cl_borrow0 (.bool true) (ts := [.agg [i64 n, x0, x1, x2, x3], .agg [i64 n, x0, x1, x2, x3]]) rfl (bor2 (.inr ⟨rc, oc⟩) (.inl rfl)) (heq _ _ ⟨rfl, rfl⟩) ?_
  simp [↓go]
  refine S_toByteS hbs ?_
  refine cl_borrow0 (.bool true) (ts := [encL u8 bs, encL u8 bs]) rfl (bor2 (.inr ⟨ra, oa⟩) (.inl rfl)) (S_eqByteS hbs ⟨rfl, rfl⟩) ?_
  simp [↓go]
  refine M_markByteS oa (by omega) hmk (fun H4 om fm lm => ?_)
  have na : ∀ r, r = k0 ∨ r = k3 ∨ r ∈ rc ∨ r < k0 → r ∉ ra := fun r hr hm => by
    have h1 := ba r hm
    have h2 := la r hm
    rcases hr with rfl | rfl | hr | hr
    · omega
    · omega
    · exact nac r hr hm
    · omega
  have b0 := (fm k0 (na _ (.inl rfl))).trans b0
  have b3 := (fm k3 (na _ (.inr (.inl rfl)))).trans b3
  have oc := oc.frame (fun r hr => fm r (na r (.inr (.inr (.inl hr)))))
  have pre : ∀ r, r < k0 → H4[r]? = h[r]? := fun r hr => (fm r (na r (.inr (.inr (.inr hr))))).trans (pre r hr)
  clear fm oa om
  refine jn_cut (fun s h' => H4 = h' ∧ s = [.pt k3 g3 0 0, .pt k0 g0 0 0, encL u8 bs, ff]) ?_ ?_
  · simp [↓go]
    refine ⟨fun hh => by omega, fun _ => ?_⟩
    simp [↓go, b0, b3, f0, a0, e0, f1, a1, e1, f2, a2, e2, f3, a3, e3, v0, w0, u0, v1, w1, u1, v2, w2, u2, v3, w3, u3]
    refine cl_borrow0 (.bool true) (ts := [.agg [i64 n, x0, x1, x2, x3], .agg [i64 n, x0, x1, x2, x3]]) rfl (bor2 (.inr ⟨rc, oc⟩) (.inl rfl)) (heq _ _ ⟨rfl, rfl⟩) ?_
    simp [↓go]
    exact wk_ex ⟨rfl, rfl⟩
  rintro _ _ ⟨rfl, rfl⟩
  simp [↓go, b3, f0, a0, e0, f1, a1, e1, f2, a2, e2, f3, a3, e3]
  refine hmr oc (fun H5 o4 fm lm3 => ?_)
  have nc : ∀ r, r = k0 ∨ r = k3 ∨ r < k0 → r ∉ rc := fun r hr hm => by
    have h1 := bc0 r hm
    have h2 := lc r hm
    rcases hr with rfl | rfl | hr <;> omega
  have b0 := (fm k0 (nc _ (.inl rfl))).trans b0
  have b3 := (fm k3 (nc _ (.inr (.inl rfl)))).trans b3
  have pre : ∀ r, r < k0 → H5[r]? = h[r]? := fun r hr => (fm r (nc r (.inr (.inr hr)))).trans (pre r hr)
  have hl4 : k0 < H5.length := (List.getElem?_eq_some_iff.1 b0).1
  clear fm oc
  simp [↓go, b3, f0, a0, e0, f1, a1, e1, f2, a2, e2, f3, a3, e3]
  refine cl_borrow0 (.int .i64 (markT false (.agg [i64 n, x0, x1, x2, x3]) 1).2) (ts := [(markT false (.agg [i64 n, x0, x1, x2, x3]) 1).1, i64 1]) rfl (bor2 (.inr ⟨rc, o4⟩) (.inl rfl)) (hld _ _ ⟨rfl, rfl⟩) ?_
  simp [↓go]
  refine ⟨fun hh => by omega, fun _ => ?_⟩
  refine S_toByteS hbs ?_
  refine cl_frozen (t := .agg [i64 n, x0, x1, x2, x3]) (him _ _ (fun y l hm => ⟨l, rfl, hm⟩)) ?_
  simp [↓go, v0, w0, u0, v1, w1, u1, v2, w2, u2, v3, w3, u3]
  intro g4
  have b4 : (H5 ++ [AObj.row g4 5 [.agg [i64 n, x0, x1, x2, x3]]])[H5.length]? = some (.row g4 5 [.agg [i64 n, x0, x1, x2, x3]]) := by simp
  have o4 := o4.grow (l := [AObj.row g4 5 [.agg [i64 n, x0, x1, x2, x3]]])
  have b0 := app_get (l := [AObj.row g4 5 [.agg [i64 n, x0, x1, x2, x3]]]) b0
  have b3 := app_get (l := [AObj.row g4 5 [.agg [i64 n, x0, x1, x2, x3]]]) b3
  have pre : ∀ r, r < k0 → (H5 ++ [AObj.row g4 5 [.agg [i64 n, x0, x1, x2, x3]]])[r]? = h[r]? := fun r hr => by rw [List.getElem?_append_left (by omega)]; exact pre r hr
  generalize H5 ++ [AObj.row g4 5 [.agg [i64 n, x0, x1, x2, x3]]] = H6 at *
  generalize H5.length = k4 at *
  simp [↓go, b0, b4, v0, w0, u0, v1, w1, u1, v2, w2, u2, v3, w3, u3]
  refine heq _ _ ?_
  simp [↓go, b3, f0, a0, e0, f1, a1, e1, f2, a2, e2, f3, a3, e3]
  refine cl_borrow0 (.int .i64 (markT false (.agg [i64 n, x0, x1, x2, x3]) 1).2) (ts := [(markT false (.agg [i64 n, x0, x1, x2, x3]) 1).1, i64 1]) rfl (bor2 (.inr ⟨rc, o4⟩) (.inl rfl)) (hld _ _ ⟨rfl, rfl⟩) ?_
  simp [↓go]
  refine ⟨fun hh => by omega, fun _ => ?_⟩
  exact hQ H6 pre
end Go.Proofs.YtkfpoagnchahkaaGreat.A
