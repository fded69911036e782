/- Of this session: small laws that the walks use. -/
import Derived.Test.YtlnlbncinjiinaaProg
import Derived.WalkKit
namespace Go.Proofs.YtlnlbncinjiinaaZ
theorem u32_signed : IntKind.u32.signed = false := rfl
theorem u32_max : IntKind.u32.max = 4294967295 := rfl
end Go.Proofs.YtlnlbncinjiinaaZ
