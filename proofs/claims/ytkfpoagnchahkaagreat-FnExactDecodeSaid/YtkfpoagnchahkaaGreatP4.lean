/- Of this session: over the abstract machine. -/
import Derived.Test.YtkfpoagnchahkaaGreatProg
import Derived.Test.YtkfpoagnchahkaaGreatA
import Derived.Test.YtkfpoagnchahkaaGreatB
import Derived.Test.YtkfpoagnchahkaaGreatD
import Derived.Test.YtkfpoagnchahkaaGreatT
import Derived.Test.YtkfpoagnchahkaaGreatP1
import Derived.Test.YtkfpoagnchahkaaGreatP2
import Derived.Test.YtkfpoagnchahkaaGreatP3
namespace Go.Proofs.YtkfpoagnchahkaaGreat.A
open Go Go.RowKit
set_option linter.unusedVariables false
set_option linter.unusedSimpArgs false
set_option maxRecDepth 100000
set_option maxHeartbeats 1000000
def certOK (p : MProgram) (i : Nat) : Bool :=
  decide (0 ≤ (p.certs.getD i zCert).func ∧ (p.certs.getD i zCert).func < p.funcs.length) &&
  (decide ((0 ≤ (p.certs.getD i zCert).head ∧ (p.certs.getD i zCert).head < (p.funcs.getD (p.certs.getD i zCert).func.toNat zFunc).code.length) ∧ localTy (p.funcs.getD (p.certs.getD i zCert).func.toNat zFunc) (p.certs.getD i zCert).counter = 3) &&
   !decide (0 < i ∧ ((p.certs.getD (i - 1) zCert).func > (p.certs.getD i zCert).func ∨ ((p.certs.getD (i - 1) zCert).func = (p.certs.getD i zCert).func ∧ (p.certs.getD (i - 1) zCert).head ≥ (p.certs.getD i zCert).head))))
def certsOK (p : MProgram) : Bool := decide (p.certs.length ≤ 64) && allN p.certs.length (certOK p)
theorem S_l3Certs {p : MProgram} {h : AHeap} {Q : KA} (hs : szProgram p ≤ 1048576) (hq : Q (bl (certsOK p)) h) : @clM Tryz.prog 83 [encProgram p] h ⟨Q⟩ := by
  refine cl_of fn_spec_l3Certs (D_spec_l3Certs_of ?_)
  unfold D_spec_l3Certs
  have hf := small_fld hs
  unfold certsOK at hq
  simp [↓go]
  refine lp_inv (fun s h' => h = h' ∧ ∃ i : Nat, i ≤ p.certs.length ∧ allN i (certOK p) = true ∧ s = [.fp (encProgram p), i64 i]) (fun s _ => p.certs.length - natA (nthA s 1)) (Wk.refl ⟨rfl, 0, by omega, rfl, rfl⟩) ?_
  rintro _ _ ⟨rfl, i, hi, ha, rfl⟩
  simp [↓go]
  refine ⟨fun hlt => ?_, fun hge => ?_⟩
  · obtain ⟨c, hc⟩ : ∃ c, p.certs[i]? = some c := ⟨_, List.getElem?_eq_getElem hlt⟩
    obtain ⟨_, hcl⟩ := List.getElem?_eq_some_iff.1 hc
    have hok : certOK p i = (decide (0 ≤ c.func ∧ c.func < p.funcs.length) && (decide ((0 ≤ c.head ∧ c.head < (p.funcs.getD c.func.toNat zFunc).code.length) ∧ localTy (p.funcs.getD c.func.toNat zFunc) c.counter = 3) &&
      !decide (0 < i ∧ ((p.certs.getD (i - 1) zCert).func > c.func ∨ ((p.certs.getD (i - 1) zCert).func = c.func ∧ (p.certs.getD (i - 1) zCert).head ≥ c.head))))) := by unfold certOK; rw [getD_of hc]
    have bad : certOK p i = false → Q ff h := fun hb => by
      rw [allN_false hlt hb, Bool.and_false] at hq; exact hq
    simp [↓go, hc, hcl, hlt]
    intro g1
    refine jn_cut (fun s h' => h' = h ++ [.row g1 4 [encCert c]] ∧ s = [.fp (encProgram p), i64 i, .pt h.length g1 0 0, bl (!decide (0 ≤ c.func ∧ c.func < p.funcs.length))]) ?_ ?_
    · simp [↓go, hc]
      refine ⟨fun h1 => ?_, fun h1 => ?_⟩
      · refine wk_ex ?_; simp [encCert]; omega
      · refine wk_ex ?_; simp [h1, encCert]; rw [Bool.eq_iff_iff]; simp
    rintro _ _ ⟨rfl, rfl⟩
    try simp only [nthA_z, nthA_s]
    cases h1 : decide (0 ≤ c.func ∧ c.func < p.funcs.length) with
    | false =>
      simp [↓go]
      refine wk_of (Wk.drop (Wk.refl ?_))
      exact bad (by rw [hok, h1]; rfl)
    | true =>
    rw [h1, Bool.true_and] at hok
    rw [decide_eq_true_eq] at h1
    obtain ⟨f, hfi⟩ : ∃ f, p.funcs[c.func.toNat]? = some f := ⟨_, List.getElem?_eq_getElem (by omega)⟩
    obtain ⟨_, hfl⟩ := List.getElem?_eq_some_iff.1 hfi
    have hsf := small_f hs hfi
    rw [getD_of hfi] at hok
    simp [↓go, hfi, hfl]
    refine ⟨by omega, by omega, fun g2 => ?_⟩
    refine jn_cut (fun s h' => h' = h ++ [.row g1 4 [encCert c]] ∧ s = [.fp (encProgram p), i64 i, .pt h.length g1 0 0, bl (!decide ((0 ≤ c.head ∧ c.head < f.code.length) ∧ localTy f c.counter = 3))]) ?_ ?_
    · simp [↓go, hfi]
      refine ⟨fun h2 => ?_, fun h2 => ⟨fun h3 => ?_, fun h3 => ?_⟩⟩
      · refine wk_pre (l := [_]) (m := [_]) ?_; simp; omega
      · refine wk_pre (l := [_]) (m := [_]) ?_; simp; omega
      · refine S_l3Local hsf ?_
        simp [↓go]
        refine wk_pre (l := [_]) (m := [_]) ?_; simp [h2]; omega
    rintro _ _ ⟨rfl, rfl⟩
    try simp only [nthA_z, nthA_s]
    cases h2 : decide ((0 ≤ c.head ∧ c.head < f.code.length) ∧ localTy f c.counter = 3) with
    | false =>
      simp [↓go]
      refine wk_of (Wk.drop (Wk.refl ?_))
      exact bad (by rw [hok, h2]; rfl)
    | true =>
    rw [h2, Bool.true_and] at hok
    simp [↓go]
    refine jn_cut (fun s h' => h = h' ∧ s = [.fp (encProgram p), i64 i, bl (!certOK p i)]) ?_ ?_
    · rw [hok]
      simp [↓go]
      refine ⟨fun h3 => ?_, fun h3 => ?_⟩
      · obtain ⟨d, hd⟩ : ∃ d, p.certs[i - 1]? = some d := ⟨_, List.getElem?_eq_getElem (by omega)⟩
        obtain ⟨_, hdl⟩ := List.getElem?_eq_some_iff.1 hd
        rw [w64 (by omega) (by omega)]
        have ht : ((i : Int) - 1).toNat = i - 1 := by omega
        simp [↓go, ht, hd, hdl]
        refine ⟨by omega, by omega, fun h4 => ?_, fun h4 => ⟨by omega, by omega, fun h5 => ?_, fun h5 => ?_⟩⟩
        · refine wk_pre (l := []) (m := [_]) ?_; simp [h4, hd]; omega
        · refine ⟨by omega, by omega, ?_⟩
          refine wk_pre (l := []) (m := [_]) ?_; simp [h5, hd]; omega
        · refine wk_pre (l := []) (m := [_]) ?_; simp [h5, hd]; omega
      · refine wk_pre (l := []) (m := [_]) ?_; simp [h3]
    rintro _ _ ⟨rfl, rfl⟩
    simp [↓go]
    refine ⟨fun hb => retW_ex (bad hb), fun hb => ?_⟩
    rw [w64 (by omega) (by omega)]
    refine wk_ex ?_
    refine And.intro ⟨rfl, i + 1, by omega, allN_step ha hb, rfl⟩ ?_
    simp; omega
  · obtain rfl : i = p.certs.length := by omega
    rw [ha, Bool.and_true] at hq
    refine retW_ex (bl_dec hq ?_); simp; omega
theorem S_certsFault {p : MProgram} {h : AHeap} {Q : KA} (hs : szProgram p ≤ 1048576) (hq : Q (fErr (certsOK p) 5) h) : @clM Tryz.prog 92 [.fp (encProgram p)] h ⟨Q⟩ := by
  refine cl_of fn_impl_Program_certsFault (D_impl_Program_certsFault_of ?_)
  unfold D_impl_Program_certsFault
  have hf := small_fld hs
  unfold certsOK at hq
  simp [↓go]
  refine ⟨fun h1 => retW_ex ?_, fun h1 => ?_⟩
  · rw [decide_eq_false (by omega)] at hq; exact hq
  rw [decide_eq_true (by omega), Bool.true_and] at hq
  refine lp_inv (fun s h' => h = h' ∧ ∃ i : Nat, i ≤ p.certs.length ∧ allN i (certOK p) = true ∧ s = [i64 i, .fp (encProgram p), encL encCert p.certs, i64 p.certs.length]) (fun s _ => p.certs.length - natA (nthA s 0)) (Wk.refl ⟨rfl, 0, by omega, rfl, rfl⟩) ?_
  rintro _ _ ⟨rfl, i, hi, ha, rfl⟩
  simp [↓go]
  refine ⟨fun hlt => ?_, fun hge => ?_⟩
  · obtain ⟨c, hc⟩ : ∃ c, p.certs[i]? = some c := ⟨_, List.getElem?_eq_getElem hlt⟩
    obtain ⟨_, hcl⟩ := List.getElem?_eq_some_iff.1 hc
    have hok : certOK p i = (decide (0 ≤ c.func ∧ c.func < p.funcs.length) && (decide ((0 ≤ c.head ∧ c.head < (p.funcs.getD c.func.toNat zFunc).code.length) ∧ localTy (p.funcs.getD c.func.toNat zFunc) c.counter = 3) &&
      !decide (0 < i ∧ ((p.certs.getD (i - 1) zCert).func > c.func ∨ ((p.certs.getD (i - 1) zCert).func = c.func ∧ (p.certs.getD (i - 1) zCert).head ≥ c.head))))) := by unfold certOK; rw [getD_of hc]
    have bad : certOK p i = false → Q (errV 5) h := fun hb => by
      rw [allN_false hlt hb] at hq; exact hq
    refine jn_cut (fun s h' => h = h' ∧ certOK p i = true ∧ s = [.fp (encProgram p), encL encCert p.certs, i64 p.certs.length, i64 i]) ?_ ?_
    · simp [↓go, hc, hcl, hlt]
      intro g1
      refine S_below ?_
      simp [↓go]
      refine ⟨fun hb => ?_, fun h0 h1 => ?_⟩
      · refine wk_of (Wk.drop (Wk.refl ?_))
        exact bad (by rw [hok, decide_eq_false (by omega)]; rfl)
      rw [decide_eq_true (⟨h0, h1⟩), Bool.true_and] at hok
      obtain ⟨f, hfi⟩ : ∃ f, p.funcs[c.func.toNat]? = some f := ⟨_, List.getElem?_eq_getElem (by omega)⟩
      obtain ⟨_, hfl⟩ := List.getElem?_eq_some_iff.1 hfi
      have hsf := small_f hs hfi
      have hff := small_ff hsf
      rw [getD_of hfi] at hok
      simp [↓go, hfi, hfl]
      refine ⟨by omega, by omega, ?_⟩
      refine jn_cut (fun s h' => h' = h ++ [.row g1 4 [encCert c]] ∧ s = [.fp (encProgram p), encL encCert p.certs, i64 p.certs.length, i64 i, .pt h.length g1 0 0, i64 i, bl (!decide ((0 ≤ c.head ∧ c.head < f.code.length) ∧ localTy f c.counter = 3))]) ?_ ?_
      · have hlt0 : ∀ k, localTy f k = 3 → 0 ≤ k ∧ k < (f.params.length : Int) + f.locals.length := by
          intro k hk; unfold localTy at hk
          split at hk
          · omega
          · split at hk
            · omega
            · omega
        have hlc := hlt0 c.counter
        simp [↓go, hfi]
        refine S_below ?_
        simp [↓go, hfi]
        refine ⟨fun hb => ?_, fun h2 h3 => ⟨S_locals hsf (S_below ?_), S_locals hsf ?_⟩⟩
        · refine wk_ex ?_; simp [encCert]; omega
        · simp [↓go, hfi]
          refine ⟨fun hb => ?_, fun h4 h5 => S_localType hsf h4 h5 ?_⟩
          · refine wk_ex ?_; simp [encCert]; omega
          · simp [↓go, hfi]
            refine wk_ex ?_; simp [encCert, h2, h3]
        · simp [↓go, hfi]
          refine S_below ?_
          simp [↓go, hfi]
          refine ⟨fun hb => ?_, fun h4 h5 => S_localType hsf h4 h5 ?_⟩
          · refine wk_ex ?_; simp [encCert]; omega
          · simp [↓go, hfi]
            refine wk_ex ?_; simp [encCert, h2, h3]
      rintro _ _ ⟨rfl, rfl⟩
      try simp only [nthA_z, nthA_s]
      cases h2 : decide ((0 ≤ c.head ∧ c.head < f.code.length) ∧ localTy f c.counter = 3) with
      | false =>
        simp [↓go]
        refine wk_of (Wk.drop (Wk.refl ?_))
        exact bad (by rw [hok, h2]; rfl)
      | true =>
      rw [h2, Bool.true_and] at hok
      simp [↓go]
      refine ⟨fun h3 => ?_, fun h3 => ?_⟩
      · obtain ⟨d, hd⟩ : ∃ d, p.certs[i - 1]? = some d := ⟨_, List.getElem?_eq_getElem (by omega)⟩
        obtain ⟨_, hdl⟩ := List.getElem?_eq_some_iff.1 hd
        rw [w64 (by omega) (by omega)]
        have ht : ((i : Int) - 1).toNat = i - 1 := by omega
        simp [↓go, ht, hd, hdl]
        refine ⟨by omega, by omega, fun g2 => ?_⟩
        rw [getD_of hd] at hok
        refine jn_cut (fun s h' => h = h' ∧ s = [.fp (encProgram p), encL encCert p.certs, i64 p.certs.length, i64 i, bl (!certOK p i)]) ?_ ?_
        · rw [hok]
          simp [↓go, hd]
          refine ⟨fun h4 => ?_, fun h4 => ⟨fun h5 => ?_, fun h5 => ?_⟩⟩
          · refine wk_pre (l := []) (m := [_, _]) ?_; simp [h4]; omega
          · refine wk_pre (l := []) (m := [_, _]) ?_; simp [h5]; omega
          · refine wk_pre (l := []) (m := [_, _]) ?_; simp [h5]; omega
        rintro _ _ ⟨rfl, rfl⟩
        simp [↓go]
        exact ⟨fun hb => retW_ex (bad hb), fun hb => wk_ex ⟨rfl, hb, rfl⟩⟩
      · refine wk_pre (l := []) (m := [_]) ?_
        exact ⟨by simp, by rw [hok, decide_eq_false (by omega)]; rfl, rfl⟩
    rintro _ _ ⟨rfl, hb, rfl⟩
    simp [↓go]
    rw [w64 (by omega) (by omega)]
    refine wk_ex ?_
    refine And.intro ⟨rfl, i + 1, by omega, allN_step ha hb, rfl⟩ ?_
    simp; omega
  · obtain rfl : i = p.certs.length := by omega
    rw [ha] at hq; exact retW_ex hq
end Go.Proofs.YtkfpoagnchahkaaGreat.A
