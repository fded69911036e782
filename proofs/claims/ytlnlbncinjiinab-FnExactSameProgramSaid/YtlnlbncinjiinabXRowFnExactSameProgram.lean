/- Of this session: made by a program (wip/own/genrow.py); Lean checks it: 'FnExactSameProgram': its row. -/
import Derived.Test.YtlnlbncinjiinabRows
import Derived.Test.YtlnlbncinjiinabXLawSame
import Derived.WalkKit
import Derived.ProofKit
import Derived.OpenShut
import Derived.ShutString
import Derived.ChangeOld
import Derived.Below
import Derived.Carry
import Derived.SizedLaws
namespace Go.Proofs.Ytlnlbncinjiinab.fnExactSameProgram
open Go.ChangeShapes Go.WideShapes Go.ChangeAt Go.RowKit
open Go.ChangeMaps (open_string shut_string)
set_option linter.unusedVariables false
set_option linter.unusedSimpArgs false
set_option linter.constructorNameAsVariable false
theorem own : ownKnob Try.prog.godebug = none := by kernel_rfl
theorem laidOut : laidOutB Try.prog = true := by kernel_rfl
theorem agg_of {W : World} {base : Nat} {t : TypeId} {v : Value} {fs : Array Field} (ht : Try.prog.underlying t = some (.struct fs)) (h : Value.okWide Try.prog W .any base t v) : ∃ cs, v = .agg cs := by
  unfold Value.okWide at h
  rw [ht] at h
  obtain ⟨cs, e, _⟩ := h
  exact ⟨cs, e⟩
set_option maxRecDepth 100000 in
theorem lifted (os : Os) (started : os.Started) (H : Type) (enc : TypeId × Value → H) :
    ReturnsInHanded {} Try.checked os 4 .any (Rows.fnExactSameProgramSpec.pre6 enc Try.prog Try.f4 Rows.fnExactSameProgramRow.domain false) (Rows.fnExactSameProgramSpec.post enc Try.prog Try.f4 false true false false) := by
  refine returnsInHanded_of_change_sized (C := Try.checked) own started (by kernel_rfl) Try.func4
    (ChangeSpec.witness6 (enc := enc) (C := Try.checked) false ⟨#[], #[.agg #[.slice none 0 0, .slice none 0 0, .slice none 0 0, .slice none 0 0], .agg #[.slice none 0 0, .slice none 0 0, .slice none 0 0, .slice none 0 0]], []⟩ 8 (by kernel_rfl) (by kernel_rfl) (by kernel_rfl) (by kernel_rfl)) ?_
  intro W base args ds gs before hval0 hW hcnd hsz0 _
  have hval : ∀ (j : Nat) t v, Try.f4.params[j]? = some t → args[j]? = some v → Value.okWide Try.prog W .any base t v := hval0
  have hW' := hW
  obtain ⟨p, q, hA0, hV, rfl, hfz, hnd⟩ := hW
  have hA : DataW.TrodAll enc Try.prog W 0 (fun _ => true) true Try.f4.params.toList args.toList ds p := hA0
  rw [Try.params4] at hA hval
  obtain ⟨v0, vs0, d0, ds0, p0, q0, hargs, rfl, rfl, h0, r0⟩ := trodAll_cons hA
  obtain ⟨v1, vs1, d1, ds1, p1, q1, rfl, rfl, rfl, h1, r1⟩ := trodAll_cons r0
  obtain ⟨rfl, rfl, rfl⟩ := trodAll_nil r1
  obtain rfl : args = #[v0, v1] := by cases args; simp_all
  obtain ⟨rfl, rfl⟩ := trodVars_none hV
  have k0 := h0
  have lt0 : ∀ x ∈ p0, x.block < W.heap.size := by obtain ⟨m, hm⟩ := k0; exact DataW.trod_lt m _ _ _ hm
  obtain ⟨cs0, rfl⟩ := agg_of Try.underlying48 (hval 0 48 v0 rfl rfl)
  obtain ⟨fuel0, hf0⟩ := h0
  obtain ⟨x0, g0, o0⟩ := X.rdProgram_came W enc fuel0 _ _ hf0
  obtain ⟨A0_0, A0_1, A0_2, A0_3, c0_0, c0_1, c0_2, c0_3, e0, i0⟩ := X.isProgram_L_of g0
  obtain rfl : cs0 = #[.slice A0_0 x0.regions.length c0_0, .slice A0_1 x0.consts.length c0_1, .slice A0_2 x0.funcs.length c0_2, .slice A0_3 x0.certs.length c0_3] := Array.toList_inj.mp e0
  have k1 := h1
  have lt1 : ∀ x ∈ p1, x.block < W.heap.size := by obtain ⟨m, hm⟩ := k1; exact DataW.trod_lt m _ _ _ hm
  obtain ⟨cs1, rfl⟩ := agg_of Try.underlying48 (hval 1 48 v1 rfl rfl)
  obtain ⟨fuel1, hf1⟩ := h1
  obtain ⟨x1, g1, o1⟩ := X.rdProgram_came W enc fuel1 _ _ hf1
  obtain ⟨A1_0, A1_1, A1_2, A1_3, c1_0, c1_1, c1_2, c1_3, e1, i1⟩ := X.isProgram_L_of g1
  obtain rfl : cs1 = #[.slice A1_0 x1.regions.length c1_0, .slice A1_1 x1.consts.length c1_1, .slice A1_2 x1.funcs.length c1_2, .slice A1_3 x1.certs.length c1_3] := Array.toList_inj.mp e1
  clear hA0 hval0 hsz0
  refine (X.law_FnExactSameProgram_calls A0_0 A0_1 A0_2 A0_3 c0_0 c0_1 c0_2 c0_3 A1_0 A1_1 A1_2 A1_3 c1_0 c1_1 c1_2 c1_3 x0 x1 W i0 i1).mono fun e W' ⟨he, bel⟩ => ?_
  subst he
  exact ⟨_, rfl, _, _, _, [], _, [], hW', trodAll_mk1 (shut_bool Try.underlying4 _), (trodAll_cons_mk (Below.trod laidOut (by kernel_rfl) (of_decide_eq_true (by kernel_rfl)) k0 bel lt0) (trodAll_cons_mk (Below.trod laidOut (by kernel_rfl) (of_decide_eq_true (by kernel_rfl)) k1 bel lt1) trodAll_mk0)), rfl, bel.frame _, fun h => by cases h⟩
theorem over : Rows.fnExactSameProgramRow.holds Try.pinned (OpenSpec.ofChange Rows.fnExactSameProgramSpec) :=
  OpenClaim.holds_of_wide 4 Try.f4 rfl rfl rfl rfl rfl rfl rfl ⟨rfl, rfl, rfl, rfl, rfl⟩ rfl rfl rfl rfl rfl (by kernel_rfl) Try.func4 (by kernel_rfl)
    (of_decide_eq_true (by kernel_rfl)) (by unfold Func.isWrapper; first | (rw [if_pos (by decide +kernel)]; kernel_rfl) | (rw [if_neg (by decide +kernel)]; exact ⟨rfl, rfl⟩))
    (fun os started H enc _ => lifted os started H enc)
theorem proved : Rows.FnExactSameProgramSaid := over
end Go.Proofs.Ytlnlbncinjiinab.fnExactSameProgram
namespace Go.Proofs.Ytlnlbncinjiinab
/-- The row, under a short name, for the claim. -/
theorem fnExactSameProgram_holds : Rows.FnExactSameProgramSaid := fnExactSameProgram.proved
end Go.Proofs.Ytlnlbncinjiinab
