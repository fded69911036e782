/- Proved: the pure statement of the law FnExactConstants (over numbers and lists); no condition beside those of the statement. -/
import Derived.Test.YtfhlicffjpiobaaPFnExactConstantsx1
namespace Go.Proofs.Ytfhlicffjpiobaa.Pure
open Go.RowKit Go.Proofs.Ytfhlicffjpiobaa.PFnExactConstants Go.Proofs.YtfhlicffjpiobaaW.PrintWords Go.Proofs.YtfhlicffjpiobaaW.PrintLast

-- BODY
theorem FnExactConstants : laws_FnExactConstants.Pure := by
  rfl

end Go.Proofs.Ytfhlicffjpiobaa.Pure
