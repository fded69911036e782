/- Of this session: made by a program (wip/aw/genrowa.py); Lean checks it: 'laws.FnExactDecode' returns true at every input, which reads behind the call as before. No condition. -/
import Derived.Test.YtkfpoagnchahkaaGreatRows
import Derived.Test.YtkfpoagnchahkaaGreatB
import Derived.Test.YtkfpoagnchahkaaGreatD
import Derived.Test.YtkfpoagnchahkaaGreatT
import Derived.Test.YtkfpoagnchahkaaGreatO
import Derived.Test.YtkfpoagnchahkaaGreatOT
import Derived.Test.YtkfpoagnchahkaaGreatP1
import Derived.Test.YtkfpoagnchahkaaGreatP2
import Derived.Test.YtkfpoagnchahkaaGreatP3
import Derived.Test.YtkfpoagnchahkaaGreatP4
import Derived.Test.YtkfpoagnchahkaaGreatP5
import Derived.Test.YtkfpoagnchahkaaGreatO8
import Derived.Test.YtkfpoagnchahkaaGreatDC0
import Derived.Test.YtkfpoagnchahkaaGreatDC1
import Derived.Test.YtkfpoagnchahkaaGreatDC2
import Derived.Test.YtkfpoagnchahkaaGreatDC3
import Derived.Test.YtkfpoagnchahkaaGreatDC4
import Derived.Test.YtkfpoagnchahkaaGreatDC5
import Derived.Test.YtkfpoagnchahkaaGreatDC6
import Derived.Test.YtkfpoagnchahkaaGreatDC7
import Derived.Test.YtkfpoagnchahkaaGreatDC8
import Derived.Test.YtkfpoagnchahkaaGreatDC9
import Derived.Test.YtkfpoagnchahkaaGreatDC10
import Derived.Test.YtkfpoagnchahkaaGreatDC11
import Derived.WalkKit
import Derived.ProofKit
import Derived.OpenShut
import Derived.ShutString
import Derived.ChangeOld
import Derived.Below
import Derived.Carry
import Derived.SizedLaws
import Derived.RowKit
namespace Go.Proofs.YtkfpoagnchahkaaGreat.fnExactDecode
open Go.ChangeShapes Go.WideShapes Go.ChangeAt Go.RowKit
open Go.ChangeMaps (open_string shut_string)
set_option linter.unusedVariables false
set_option linter.unusedSimpArgs false
set_option linter.constructorNameAsVariable false
theorem own : ownKnob Tryz.prog.godebug = none := by kernel_rfl
theorem laidOut : laidOutB Tryz.prog = true := by kernel_rfl
set_option maxRecDepth 100000 in
theorem lifted (os : Os) (started : os.Started) (H : Type) (enc : TypeId × Value → H) :
    ReturnsInHanded {} Tryz.checked os 4 .any (Rows.fnExactDecodeSpec.pre6 enc Tryz.prog Tryz.f4 Rows.fnExactDecodeRow.domain false) (Rows.fnExactDecodeSpec.post enc Tryz.prog Tryz.f4 false true false false) := by
  refine returnsInHanded_of_change_sized (C := Tryz.checked) own started (by kernel_rfl) Tryz.func4
    (ChangeSpec.witness6 (enc := enc) (C := Tryz.checked) false ⟨#[], #[(.slice none 0 0)], []⟩ 8 (by kernel_rfl) (by kernel_rfl) (by kernel_rfl) (by kernel_rfl)) ?_
  intro W base args ds gs before hval0 hW hcnd hsz0 _
  have hval : ∀ (j : Nat) t v, Tryz.f4.params[j]? = some t → args[j]? = some v → Value.okWide Tryz.prog W .any base t v := hval0
  have hW' := hW
  obtain ⟨p, q, hA0, hV, rfl, hfz, hnd⟩ := hW
  have hA : DataW.TrodAll enc Tryz.prog W 0 (fun _ => true) true Tryz.f4.params.toList args.toList ds p := hA0
  rw [Tryz.params4] at hA hval
  obtain ⟨v0, vs0, d0, ds0, p0, q0, hargs, rfl, rfl, h0, r0⟩ := trodAll_cons hA
  obtain ⟨rfl, rfl, rfl⟩ := trodAll_nil r0
  obtain rfl : args = #[v0] := by cases args; simp_all
  obtain ⟨rfl, rfl⟩ := trodVars_none hV
  have k0 := h0
  have lt0 : ∀ x ∈ p0, x.block < W.heap.size := by obtain ⟨m, hm⟩ := k0; exact DataW.trod_lt m _ _ _ hm
  have c0 := A.wide_slice Tryz.underlying29 (hval 0 29 v0 rfl rfl)
  obtain ⟨fuel0, hf0⟩ := h0
  rw [c0] at hf0
  obtain ⟨x0, g0, o0⟩ := (A.RdN.slice (N := fuel0) Tryz.underlying29 (s := 1) (by kernel_rfl) (by omega) (fun x => by simp) (A.RdN.int .u8 Tryz.underlying5)) enc fuel0 _ _ (Nat.le_refl _) hf0
  clear hA0 hval0 hsz0
  refine (A.row_calls trivial (A.rvs1 (A.rv_of_one g0)) (A.S_law_FnExactDecode o0 rfl)).mono fun e W' ⟨he, bel⟩ => ?_
  subst he
  exact ⟨_, rfl, _, _, _, [], _, [], hW', trodAll_mk1 (shut_bool Tryz.underlying4 _), (trodAll_cons_mk (Below.trod laidOut (by kernel_rfl) (of_decide_eq_true (by kernel_rfl)) k0 bel lt0) trodAll_mk0), rfl, bel.frame _, fun h => by cases h⟩
theorem over : Rows.fnExactDecodeRow.holds Tryz.pinned (OpenSpec.ofChange Rows.fnExactDecodeSpec) :=
  OpenClaim.holds_of_wide 4 Tryz.f4 rfl rfl rfl rfl rfl rfl rfl ⟨rfl, rfl, rfl, rfl, rfl⟩ rfl rfl rfl rfl rfl (by kernel_rfl) Tryz.func4 (by kernel_rfl)
    (of_decide_eq_true (by kernel_rfl)) (by unfold Func.isWrapper; first | (rw [if_pos (by decide +kernel)]; kernel_rfl) | (rw [if_neg (by decide +kernel)]; exact ⟨rfl, rfl⟩))
    (fun os started H enc _ => lifted os started H enc)
theorem proved : Rows.FnExactDecodeSaid := over
end Go.Proofs.YtkfpoagnchahkaaGreat.fnExactDecode
namespace Go.Proofs.YtkfpoagnchahkaaGreat
/-- The row, under a short name, for the claim. -/
theorem fnExactDecode_holds : Rows.FnExactDecodeSaid := fnExactDecode.proved
end Go.Proofs.YtkfpoagnchahkaaGreat
