/- Proved: the pure statement of the law FnExactTypeName (over numbers and lists); no condition beside those of the statement. -/
import Derived.Test.YtfhlicffjpiobaaPFnExactTypeNamex1
namespace Go.Proofs.Ytfhlicffjpiobaa.Pure
open Go.RowKit Go.Proofs.Ytfhlicffjpiobaa.PFnExactTypeName Go.Proofs.YtfhlicffjpiobaaW.PrintWords Go.Proofs.YtfhlicffjpiobaaW.PrintLast

-- BODY
theorem FnExactTypeName : laws_FnExactTypeName.Pure := by
  intro a0 _
  unfold laws_FnExactTypeName.f
  have same : ∃ r, spec_TypeName.f a0 = some r ∧ impl_TypeName.f a0 = some r := by
    by_cases h1 : a0 = 1
    · subst h1; exact ⟨_, rfl, rfl⟩
    by_cases h2 : a0 = 2
    · subst h2; exact ⟨_, rfl, rfl⟩
    by_cases h3 : a0 = 3
    · subst h3; exact ⟨_, rfl, rfl⟩
    refine ⟨⟨#[]⟩, ?_, ?_⟩
    · unfold spec_TypeName.f spec_l2Type.f
      by_cases hge : a0 ≥ 1
      · have hle : decide (a0 ≤ 3) = false := by simp; omega
        rw [if_pos hge, hle]; rfl
      · rw [if_neg hge]; rfl
    · unfold impl_TypeName.f
      rw [if_neg h1, if_neg h2, if_neg h3]
  obtain ⟨r, h1, h2⟩ := same
  rw [h1, h2]; simp

end Go.Proofs.Ytfhlicffjpiobaa.Pure
