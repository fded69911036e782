/- Of this session: made by a program (wip/mprint.py) out of the translation; Lean checks it. -/
import Derived.Test.YtfhlicffjpiobaaProg
import Derived.Below
import Derived.Deep.Draws
import Derived.Deep.AppendLies
import Derived.Maps.AppendAt
import Derived.OwnWalk
import Derived.Laws.BytesArg
import Derived.Laws.MakeOwn
import Derived.Laws.OwnMore
import Derived.Deep.OwnRows
import Derived.Tactics
import Derived.Lib.ConvBytes
import Derived.Laws.Slices
import Derived.WalkKit
import Derived.KernelRfl
import Derived.RowKit3
import Derived.Deep.LoopGhost
import Derived.Deep.QuietTactic
import Derived.BigQuiet
import Derived.WideLaws
import Derived.Deep.DeepCutAuto
import Derived.Deep.CutBlock
import Derived.Deep.RegionHeld3
import Derived.Laws.Rows
import Derived.Lib.AppendStr
import Derived.ArgAppend
import Derived.Laws.IdiomCopy
import Derived.OrdersHeld
import Derived.Laws.BitsLemmas
import Derived.RowKit
import Derived.Test.YtfhlicffjpiobaaZ
import Derived.Test.YtfhlicffjpiobaaWWords
import Derived.Test.YtfhlicffjpiobaaWLast
import Derived.Test.YtfhlicffjpiobaaWTab
import Derived.Test.YtfhlicffjpiobaaWFour
import Derived.Test.YtfhlicffjpiobaaWQPut
import Derived.Test.YtfhlicffjpiobaaWApart
import Derived.Test.YtfhlicffjpiobaaWArr
import Derived.Test.YtfhlicffjpiobaaWZeros
import Derived.Test.YtfhlicffjpiobaaWFoot
import Derived.Test.YtfhlicffjpiobaaWKept
import Derived.Test.YtfhlicffjpiobaaWShare
import Derived.Test.YtfhlicffjpiobaaWN
import Derived.Test.YtfhlicffjpiobaaWFootNe
import Derived.Test.YtfhlicffjpiobaaWAt
import Derived.Test.YtfhlicffjpiobaaWEqStruct
import Derived.Test.YtfhlicffjpiobaaWRepsOne
import Derived.Test.YtfhlicffjpiobaaWInv
import Derived.Test.YtfhlicffjpiobaaWInvWords
import Derived.Test.YtfhlicffjpiobaaWGuard
import Derived.Test.YtfhlicffjpiobaaWNEv
import Derived.Test.YtfhlicffjpiobaaWMore
namespace Go.Proofs.Ytfhlicffjpiobaa.M
open Go.RowKit Go.Proofs.YtfhlicffjpiobaaW.PrintWords Go.Proofs.YtfhlicffjpiobaaW.PrintLast Go.Proofs.YtfhlicffjpiobaaW.PrintMore
attribute [local go_sem] max2_int min2_int max_two min_two max_three min_three max_four min_four   -- for this text's walks alone
attribute [local go_sem] Go.Proofs.YtfhlicffjpiobaaZ.u32_signed Go.Proofs.YtfhlicffjpiobaaZ.u32_max
set_option linter.unusedVariables false
set_option linter.unusedSimpArgs false



def errW : Option Int → Value
  | none => .nilIface
  | some c => .iface 0 (.int .i64 c)
theorem errW_none : errW none = .nilIface := rfl
theorem errW_some (c : Int) : errW (some c) = .iface 0 (.int .i64 c) := rfl

theorem info5 : (Try.prog.info? 5).map (fun i => (i.zero, i.size, i.bytes)) = some (some (.int .u8 0), 1, 1) := by kernel_rfl
-- the values' own types

end Go.Proofs.Ytfhlicffjpiobaa.M
