/- Of this session: made by a program (wip/mprint.py) out of the translation; Lean checks it. -/
import Derived.Test.YtfhlicffjpiobabProg
import Derived.Below
import Derived.Deep.Draws
import Derived.Deep.AppendLies
import Derived.Maps.AppendAt
import Derived.OwnWalk
import Derived.Laws.BytesArg
import Derived.Laws.MakeOwn
import Derived.Laws.OwnMore
import Derived.Deep.OwnRows
import Derived.Tactics
import Derived.Lib.ConvBytes
import Derived.Laws.Slices
import Derived.WalkKit
import Derived.KernelRfl
import Derived.RowKit3
import Derived.Deep.LoopGhost
import Derived.Deep.QuietTactic
import Derived.BigQuiet
import Derived.WideLaws
import Derived.Deep.DeepCutAuto
import Derived.Deep.CutBlock
import Derived.Deep.RegionHeld3
import Derived.Laws.Rows
import Derived.Lib.AppendStr
import Derived.ArgAppend
import Derived.Laws.IdiomCopy
import Derived.OrdersHeld
import Derived.Laws.BitsLemmas
import Derived.RowKit
import Derived.Test.YtfhlicffjpiobabZ
import Derived.Test.YtfhlicffjpiobabWWords
import Derived.Test.YtfhlicffjpiobabWLast
import Derived.Test.YtfhlicffjpiobabWTab
import Derived.Test.YtfhlicffjpiobabWFour
import Derived.Test.YtfhlicffjpiobabWQPut
import Derived.Test.YtfhlicffjpiobabWApart
import Derived.Test.YtfhlicffjpiobabWArr
import Derived.Test.YtfhlicffjpiobabWZeros
import Derived.Test.YtfhlicffjpiobabWFoot
import Derived.Test.YtfhlicffjpiobabWKept
import Derived.Test.YtfhlicffjpiobabWShare
import Derived.Test.YtfhlicffjpiobabWN
import Derived.Test.YtfhlicffjpiobabWFootNe
import Derived.Test.YtfhlicffjpiobabWAt
import Derived.Test.YtfhlicffjpiobabWEqStruct
import Derived.Test.YtfhlicffjpiobabWRepsOne
import Derived.Test.YtfhlicffjpiobabWInv
import Derived.Test.YtfhlicffjpiobabWInvWords
import Derived.Test.YtfhlicffjpiobabWGuard
import Derived.Test.YtfhlicffjpiobabWNEv
import Derived.Test.YtfhlicffjpiobabWMore
namespace Go.Proofs.Ytfhlicffjpiobab.M
open Go.RowKit Go.Proofs.YtfhlicffjpiobabW.PrintWords Go.Proofs.YtfhlicffjpiobabW.PrintLast Go.Proofs.YtfhlicffjpiobabW.PrintMore
attribute [local go_sem] max2_int min2_int max_two min_two max_three min_three max_four min_four   -- for this text's walks alone
attribute [local go_sem] Go.Proofs.YtfhlicffjpiobabZ.u32_signed Go.Proofs.YtfhlicffjpiobabZ.u32_max
set_option linter.unusedVariables false
set_option linter.unusedSimpArgs false



def errW : Option Int → Value
  | none => .nilIface
  | some c => .iface 0 (.int .i64 c)
theorem errW_none : errW none = .nilIface := rfl
theorem errW_some (c : Int) : errW (some c) = .iface 0 (.int .i64 c) := rfl

theorem info5 : (Try.prog.info? 5).map (fun i => (i.zero, i.size, i.bytes)) = some (some (.int .u8 0), 1, 1) := by kernel_rfl
theorem info33 : (Try.prog.info? 33).map (fun i => (i.zero, i.size, i.bytes)) = some (some (.int .u32 0), 1, 4) := by kernel_rfl
-- the values' own types

end Go.Proofs.Ytfhlicffjpiobab.M
