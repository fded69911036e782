/- Of this session: made by a program (wip/aw/genrowa.py); Lean checks it: 'laws.FnExactBegin' returns true at every input, which reads behind the call as before. No condition. -/
import Derived.Test.YtkfpoagnchahkaaGreatRows
import Derived.Test.YtkfpoagnchahkaaGreatB
import Derived.Test.YtkfpoagnchahkaaGreatD
import Derived.Test.YtkfpoagnchahkaaGreatT
import Derived.Test.YtkfpoagnchahkaaGreatP1
import Derived.Test.YtkfpoagnchahkaaGreatP2
import Derived.Test.YtkfpoagnchahkaaGreatP3
import Derived.Test.YtkfpoagnchahkaaGreatP4
import Derived.Test.YtkfpoagnchahkaaGreatP5
import Derived.Test.YtkfpoagnchahkaaGreatVM
import Derived.Test.YtkfpoagnchahkaaGreatO
import Derived.Test.YtkfpoagnchahkaaGreatOT
import Derived.Test.YtkfpoagnchahkaaGreatBG
import Derived.Test.YtkfpoagnchahkaaGreatBG4
import Derived.Test.YtkfpoagnchahkaaGreatBG5
import Derived.Test.YtkfpoagnchahkaaGreatBG6
import Derived.Test.YtkfpoagnchahkaaGreatBG7
import Derived.Test.YtkfpoagnchahkaaGreatBG8
import Derived.WalkKit
import Derived.ProofKit
import Derived.OpenShut
import Derived.ShutString
import Derived.ChangeOld
import Derived.Below
import Derived.Carry
import Derived.SizedLaws
import Derived.RowKit
namespace Go.Proofs.YtkfpoagnchahkaaGreat.fnExactBegin
open Go.ChangeShapes Go.WideShapes Go.ChangeAt Go.RowKit
open Go.ChangeMaps (open_string shut_string)
set_option linter.unusedVariables false
set_option linter.unusedSimpArgs false
set_option linter.constructorNameAsVariable false
theorem own : ownKnob Tryz.prog.godebug = none := by kernel_rfl
theorem laidOut : laidOutB Tryz.prog = true := by kernel_rfl
set_option maxRecDepth 100000 in
theorem lifted (os : Os) (started : os.Started) (H : Type) (enc : TypeId × Value → H) :
    ReturnsInHanded {} Tryz.checked os 5 .any (Rows.fnExactBeginSpec.pre6 enc Tryz.prog Tryz.f5 Rows.fnExactBeginRow.domain false) (Rows.fnExactBeginSpec.post enc Tryz.prog Tryz.f5 false true false false) := by
  refine returnsInHanded_of_change_sized (C := Tryz.checked) own started (by kernel_rfl) Tryz.func5
    (ChangeSpec.witness6 (enc := enc) (C := Tryz.checked) false ⟨#[], #[(.agg #[.slice none 0 0, .slice none 0 0, .slice none 0 0, .slice none 0 0]), (.agg #[.slice none 0 0, .slice none 0 0, .slice none 0 0])], []⟩ 8 (by kernel_rfl) (by kernel_rfl) (by kernel_rfl) (by kernel_rfl)) ?_
  intro W base args ds gs before hval0 hW hcnd hsz0 _
  have hval : ∀ (j : Nat) t v, Tryz.f5.params[j]? = some t → args[j]? = some v → Value.okWide Tryz.prog W .any base t v := hval0
  have hW' := hW
  obtain ⟨p, q, hA0, hV, rfl, hfz, hnd⟩ := hW
  have hA : DataW.TrodAll enc Tryz.prog W 0 (fun _ => true) true Tryz.f5.params.toList args.toList ds p := hA0
  rw [Tryz.params5] at hA hval
  obtain ⟨v0, vs0, d0, ds0, p0, q0, hargs, rfl, rfl, h0, r0⟩ := trodAll_cons hA
  obtain ⟨v1, vs1, d1, ds1, p1, q1, rfl, rfl, rfl, h1, r1⟩ := trodAll_cons r0
  obtain ⟨rfl, rfl, rfl⟩ := trodAll_nil r1
  obtain rfl : args = #[v0, v1] := by cases args; simp_all
  obtain ⟨rfl, rfl⟩ := trodVars_none hV
  have k0 := h0
  have lt0 : ∀ x ∈ p0, x.block < W.heap.size := by obtain ⟨m, hm⟩ := k0; exact DataW.trod_lt m _ _ _ hm
  obtain ⟨cs0, rfl⟩ := A.wide_agg Tryz.underlying27 (hval 0 27 v0 rfl rfl)
  obtain ⟨fuel0, hf0⟩ := h0
  obtain ⟨x0, g0, o0⟩ := A.rdProgram W _ enc fuel0 _ _ (Nat.le_refl _) hf0
  have k1 := h1
  have lt1 : ∀ x ∈ p1, x.block < W.heap.size := by obtain ⟨m, hm⟩ := k1; exact DataW.trod_lt m _ _ _ hm
  obtain ⟨cs1, rfl⟩ := A.wide_agg Tryz.underlying51 (hval 1 51 v1 rfl rfl)
  obtain ⟨fuel1, hf1⟩ := h1
  obtain ⟨x1, g1, o1⟩ := A.rdMemory W _ enc fuel1 _ _ (Nat.le_refl _) hf1
  clear hA0 hval0 hsz0
  refine (A.row_calls (A.rvs2 (A.rv_of_agg g0) (A.rv_of_agg g1)) (A.S_law_FnExactBegin o0 o1 rfl)).mono fun e W' ⟨he, bel⟩ => ?_
  subst he
  exact ⟨_, rfl, _, _, _, [], _, [], hW', trodAll_mk1 (shut_bool Tryz.underlying4 _), (trodAll_cons_mk (Below.trod laidOut (by kernel_rfl) (of_decide_eq_true (by kernel_rfl)) k0 bel lt0) (trodAll_cons_mk (Below.trod laidOut (by kernel_rfl) (of_decide_eq_true (by kernel_rfl)) k1 bel lt1) trodAll_mk0)), rfl, bel.frame _, fun h => by cases h⟩
theorem over : Rows.fnExactBeginRow.holds Tryz.pinned (OpenSpec.ofChange Rows.fnExactBeginSpec) :=
  OpenClaim.holds_of_wide 5 Tryz.f5 rfl rfl rfl rfl rfl rfl rfl ⟨rfl, rfl, rfl, rfl, rfl⟩ rfl rfl rfl rfl rfl (by kernel_rfl) Tryz.func5 (by kernel_rfl)
    (of_decide_eq_true (by kernel_rfl)) (by unfold Func.isWrapper; first | (rw [if_pos (by decide +kernel)]; kernel_rfl) | (rw [if_neg (by decide +kernel)]; exact ⟨rfl, rfl⟩))
    (fun os started H enc _ => lifted os started H enc)
theorem proved : Rows.FnExactBeginSaid := over
end Go.Proofs.YtkfpoagnchahkaaGreat.fnExactBegin
namespace Go.Proofs.YtkfpoagnchahkaaGreat
/-- The row, under a short name, for the claim. -/
theorem fnExactBegin_holds : Rows.FnExactBeginSaid := fnExactBegin.proved
end Go.Proofs.YtkfpoagnchahkaaGreat
