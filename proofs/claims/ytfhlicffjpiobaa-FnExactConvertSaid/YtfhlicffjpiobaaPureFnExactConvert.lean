/- Proved: the pure statement of the law FnExactConvert (over numbers and lists); no condition beside those of the statement. -/
import Derived.Test.YtfhlicffjpiobaaPFnExactConvertx1
namespace Go.Proofs.Ytfhlicffjpiobaa.Pure
open Go.RowKit Go.Proofs.Ytfhlicffjpiobaa.PFnExactConvert Go.Proofs.YtfhlicffjpiobaaW.PrintWords Go.Proofs.YtfhlicffjpiobaaW.PrintLast

-- BODY
theorem FnExactConvert : laws_FnExactConvert.Pure := by
  intro a0 a1 a2 _ _ _
  refine ⟨1, ?_⟩
  have e : spec_Convert.f 1 a0 a1 a2 = impl_Convert.f 1 a0 a1 a2 := rfl
  have t : ∃ r, impl_Convert.f 1 a0 a1 a2 = some r := by
    have hj : ∀ b, ∃ r, impl_Convert.j0 1 a1 a2 b = some r := by
      intro b
      simp only [impl_Convert.j0, impl_flag.f]
      repeat' split
      all_goals exact ⟨_, rfl⟩
    have hi : ∀ x, ∃ b, impl_isType.f x = some b := by
      intro x; unfold impl_isType.f; split <;> exact ⟨_, rfl⟩
    unfold impl_Convert.f
    obtain ⟨b0, h0⟩ := hi a0
    obtain ⟨b1, h1⟩ := hi a1
    rw [h0, h1]
    simp only [Option.bind_some]
    repeat' split
    all_goals exact hj _
  obtain ⟨r, hr⟩ := t
  unfold laws_FnExactConvert.f
  rw [e, hr]
  simp

end Go.Proofs.Ytfhlicffjpiobaa.Pure
