/- Proved: the pure statement of the law FnExactInfo (over numbers and lists); no condition beside those of the statement. -/
import Derived.Test.YtlnlbncinjiinaaGvInfo
import Derived.Test.YtlnlbncinjiinaaM1
namespace Go.Proofs.Ytlnlbncinjiinaa.Pure
open Go.RowKit Go.Proofs.Ytlnlbncinjiinaa.M Go.Proofs.YtlnlbncinjiinaaW.PrintWords Go.Proofs.YtlnlbncinjiinaaW.PrintLast
-- BODY
set_option linter.unusedVariables false
set_option linter.unusedSimpArgs false
theorem spec_info_same (a0 : Int) : spec_Info.f a0 = some (infoT a0) := by
  by_cases out : a0 < 0 ∨ 29 < a0
  · have e : infoT a0 = ((⟨#[]⟩ : ByteArray), 0, 0) := by
      unfold infoT
      repeat rw [if_neg (by omega)]
    rw [e]
    unfold spec_Info.f
    rcases out with h | h
    · rw [if_pos h]
    · rw [if_neg (by omega), if_pos h]
  · have hc : ∃ n : Nat, n < 30 ∧ a0 = n := ⟨a0.toNat, by omega, by omega⟩
    obtain ⟨n, hn, rfl⟩ := hc
    match n, hn with
    | 0, _ | 1, _ | 2, _ | 3, _ | 4, _ | 5, _ | 6, _ | 7, _ | 8, _ | 9, _ | 10, _ | 11, _ | 12, _ | 13, _ | 14, _ | 15, _ | 16, _ | 17, _ | 18, _ | 19, _ | 20, _ | 21, _ | 22, _ | 23, _ | 24, _ | 25, _ | 26, _ | 27, _ | 28, _ | 29, _ => rfl
    | n + 30, h => omega
theorem FnExactInfo : laws_FnExactInfo.Pure := by
  intro a0 _
  unfold laws_FnExactInfo.f
  rw [spec_info_same]
  simp [impl_Info.f, laws_eqOpInfo.f]

end Go.Proofs.Ytlnlbncinjiinaa.Pure
