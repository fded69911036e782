/-
  No cell of these rows narrows 'for every input' (looked for: loops, veiled, ifaces, maps, wideKeys, modest, calm, conditions, laid).
  DERIVED. THE GIVEN ROWS OF THIS SEAT. 6 by the template 'for every input the law returns true; each argument reads behind the call as it read before'; 0 by the template 'total and deterministic' (their statements: YtfhlicffjpiobaaTotals.lean).
  GIVEN WITH THE SEED: the statements are not yours to turn. If you find one false, say at which input.
  Laid BY PROGRAM, IN A SANDBOX (cutbox-rows.mjs): the forced cells as the released guide's own fill.sh prints them over the translation 3c316c5667e2fbbd… (all of the seat's roots in one cut). By AI agents, Wed Nov 11 2026. No macro, syntax, notation, axiom, sorry.
-/
import Derived.Test.YtfhlicffjpiobaaChecked
import GoSem.Claim
import GoSem.ClaimJoined
import GoSem.ClaimMapViews
import Derived.JoinedTies
import Derived.KernelRfl
namespace Go.Proofs.Ytfhlicffjpiobaa
/- THE CELL 'sum', in the pinned program and in every row, IS THE sha256 OF THE DUMP (.gsa) THAT YtfhlicffjpiobaaProg.lean LOADS. Nothing in Lean hashes anything: it is a label: what it is worth is what the hold of that sum in a sandbox is worth. -/
noncomputable def Try.pinned : Pinned := { name := "ytfhlicffjpiobaa", sum := "3c316c5667e2fbbd78cded722664f1ade2f6d2ee991fe2dfdbccf792a2405ae5", checked := Try.checked }
namespace Rows
def none {H : Type} : Left H := { results := [], args := [] }

/-- 'laws.FnExactConstants': WHATEVER THE INPUT: true; the input reads as it did. -/
def fnExactConstantsSpec : ChangeSpec := { name := "fnExactConstants", fn := fun _ => fun
  | [] => { results := [.lit (.bool true)], args := [] }
  | _ => none }
def fnExactConstantsRow : OpenClaim := { program := "ytfhlicffjpiobaa", sum := "3c316c5667e2fbbd78cded722664f1ade2f6d2ee991fe2dfdbccf792a2405ae5", func := "loop.example/s02548/laws.FnExactConstants", spec := "fnExactConstants", apart := false }
def FnExactConstantsSaid : Prop := fnExactConstantsRow.holds Try.pinned (OpenSpec.ofChange fnExactConstantsSpec)

/-- ITS FALSE NEIGHBOUR: 'it returns false'. Refute it at one input. -/
def fnExactConstantsWrong : ChangeSpec := { name := "fnExactConstants", fn := fun _ => fun
  | [] => { results := [.lit (.bool false)], args := [] }
  | _ => none }
def FnExactConstantsWrongFalsely : Prop := fnExactConstantsRow.holds Try.pinned (OpenSpec.ofChange fnExactConstantsWrong)

/-- 'laws.FnExactTypeName': WHATEVER THE INPUT: true; the input reads as it did. -/
def fnExactTypeNameSpec : ChangeSpec := { name := "fnExactTypeName", fn := fun _ => fun
  | [d] => { results := [.lit (.bool true)], args := [d] }
  | _ => none }
def fnExactTypeNameRow : OpenClaim := { program := "ytfhlicffjpiobaa", sum := "3c316c5667e2fbbd78cded722664f1ade2f6d2ee991fe2dfdbccf792a2405ae5", func := "loop.example/s02548/laws.FnExactTypeName", spec := "fnExactTypeName", apart := false }
def FnExactTypeNameSaid : Prop := fnExactTypeNameRow.holds Try.pinned (OpenSpec.ofChange fnExactTypeNameSpec)

/-- ITS FALSE NEIGHBOUR: 'it returns false'. Refute it at one input. -/
def fnExactTypeNameWrong : ChangeSpec := { name := "fnExactTypeName", fn := fun _ => fun
  | [d] => { results := [.lit (.bool false)], args := [d] }
  | _ => none }
def FnExactTypeNameWrongFalsely : Prop := fnExactTypeNameRow.holds Try.pinned (OpenSpec.ofChange fnExactTypeNameWrong)

/-- 'laws.FnExactConvert': WHATEVER THE INPUT: true; the input reads as it did. -/
def fnExactConvertSpec : ChangeSpec := { name := "fnExactConvert", fn := fun _ => fun
  | [d1, d2, d3] => { results := [.lit (.bool true)], args := [d1, d2, d3] }
  | _ => none }
def fnExactConvertRow : OpenClaim := { program := "ytfhlicffjpiobaa", sum := "3c316c5667e2fbbd78cded722664f1ade2f6d2ee991fe2dfdbccf792a2405ae5", func := "loop.example/s02548/laws.FnExactConvert", spec := "fnExactConvert", apart := false }
def FnExactConvertSaid : Prop := fnExactConvertRow.holds Try.pinned (OpenSpec.ofChange fnExactConvertSpec)

/-- ITS FALSE NEIGHBOUR: 'it returns false'. Refute it at one input. -/
def fnExactConvertWrong : ChangeSpec := { name := "fnExactConvert", fn := fun _ => fun
  | [d1, d2, d3] => { results := [.lit (.bool false)], args := [d1, d2, d3] }
  | _ => none }
def FnExactConvertWrongFalsely : Prop := fnExactConvertRow.holds Try.pinned (OpenSpec.ofChange fnExactConvertWrong)

/-- 'laws.FnExactGetNumber': WHATEVER THE INPUT: true; the input reads as it did. -/
def fnExactGetNumberSpec : ChangeSpec := { name := "fnExactGetNumber", fn := fun _ => fun
  | [d1, d2, d3] => { results := [.lit (.bool true)], args := [d1, d2, d3] }
  | _ => none }
def fnExactGetNumberRow : OpenClaim := { program := "ytfhlicffjpiobaa", sum := "3c316c5667e2fbbd78cded722664f1ade2f6d2ee991fe2dfdbccf792a2405ae5", func := "loop.example/s02548/laws.FnExactGetNumber", spec := "fnExactGetNumber", apart := false }
def FnExactGetNumberSaid : Prop := fnExactGetNumberRow.holds Try.pinned (OpenSpec.ofChange fnExactGetNumberSpec)

/-- ITS FALSE NEIGHBOUR: 'it returns false'. Refute it at one input. -/
def fnExactGetNumberWrong : ChangeSpec := { name := "fnExactGetNumber", fn := fun _ => fun
  | [d1, d2, d3] => { results := [.lit (.bool false)], args := [d1, d2, d3] }
  | _ => none }
def FnExactGetNumberWrongFalsely : Prop := fnExactGetNumberRow.holds Try.pinned (OpenSpec.ofChange fnExactGetNumberWrong)

/-- 'laws.FnExactPutNumber': WHATEVER THE INPUT: true; the input reads as it did. -/
def fnExactPutNumberSpec : ChangeSpec := { name := "fnExactPutNumber", fn := fun _ => fun
  | [d1, d2] => { results := [.lit (.bool true)], args := [d1, d2] }
  | _ => none }
def fnExactPutNumberRow : OpenClaim := { program := "ytfhlicffjpiobaa", sum := "3c316c5667e2fbbd78cded722664f1ade2f6d2ee991fe2dfdbccf792a2405ae5", func := "loop.example/s02548/laws.FnExactPutNumber", spec := "fnExactPutNumber", apart := false }
def FnExactPutNumberSaid : Prop := fnExactPutNumberRow.holds Try.pinned (OpenSpec.ofChange fnExactPutNumberSpec)

/-- ITS FALSE NEIGHBOUR: 'it returns false'. Refute it at one input. -/
def fnExactPutNumberWrong : ChangeSpec := { name := "fnExactPutNumber", fn := fun _ => fun
  | [d1, d2] => { results := [.lit (.bool false)], args := [d1, d2] }
  | _ => none }
def FnExactPutNumberWrongFalsely : Prop := fnExactPutNumberRow.holds Try.pinned (OpenSpec.ofChange fnExactPutNumberWrong)

/-- 'laws.FnExactCrc': WHATEVER THE INPUT: true; the input reads as it did. -/
def fnExactCrcSpec : ChangeSpec := { name := "fnExactCrc", fn := fun _ => fun
  | [d] => { results := [.lit (.bool true)], args := [d] }
  | _ => none }
def fnExactCrcRow : OpenClaim := { program := "ytfhlicffjpiobaa", sum := "3c316c5667e2fbbd78cded722664f1ade2f6d2ee991fe2dfdbccf792a2405ae5", func := "loop.example/s02548/laws.FnExactCrc", spec := "fnExactCrc", apart := false }
def FnExactCrcSaid : Prop := fnExactCrcRow.holds Try.pinned (OpenSpec.ofChange fnExactCrcSpec)

/-- ITS FALSE NEIGHBOUR: 'it returns false'. Refute it at one input. -/
def fnExactCrcWrong : ChangeSpec := { name := "fnExactCrc", fn := fun _ => fun
  | [d] => { results := [.lit (.bool false)], args := [d] }
  | _ => none }
def FnExactCrcWrongFalsely : Prop := fnExactCrcRow.holds Try.pinned (OpenSpec.ofChange fnExactCrcWrong)

/- THE SECOND FORM. 'bulk': how many values and letters a reading holds, each counted each time it is reached (what is shared counts as often as it is met; a slice's spare places count too). A statement '..UptoSaid' is the law's where the arguments, and the package variables that the reading takes, are together of bulk at most 1048576: NARROWER than '..Said'. Prove '..Said' where nothing that the law and all that it calls make is longer than what came in: it says more and counts as full. Else prove '..UptoSaid'. A law counts once. -/
mutual
def uptoBulk {H : Type} : DataW H → Nat
  | .lit (.string bytes) => bytes.length + 1
  | .lit _ => 1
  | .nil => 1
  | .ptr d => uptoBulk d + 1
  | .slice elems spare => uptoBulkAll elems + uptoBulkAll spare + 1
  | .agg parts => uptoBulkAll parts + 1
  | .iface _ d => uptoBulk d + 1
  | .map entries => uptoBulkEntries entries + 1
  | .held _ => 1
def uptoBulkAll {H : Type} : List (DataW H) → Nat
  | [] => 0
  | d :: r => uptoBulk d + uptoBulkAll r
def uptoBulkEntries {H : Type} : List (Lit × DataW H) → Nat
  | [] => 0
  | x :: r => uptoBulkEntry x + uptoBulkEntries r
def uptoBulkEntry {H : Type} : Lit × DataW H → Nat
  | (.string bytes, d) => bytes.length + uptoBulk d + 1
  | (_, d) => uptoBulk d + 1
 end
def uptoSmall : (H : Type) → List (DataW H) → Bool := fun _ ds => decide (uptoBulkAll ds ≤ 1048576)
def OpenSpec.upto (s : _root_.Go.ChangeSpec) : _root_.Go.OpenSpec := { _root_.Go.OpenSpec.ofChange s with cond := some uptoSmall }

/-- 'laws.FnExactConstants', WHERE WHAT IT READS IS OF BULK AT MOST 1048576: true; the input reads as it did. -/
def fnExactConstantsUptoRow : OpenClaim := { program := "ytfhlicffjpiobaa", sum := "3c316c5667e2fbbd78cded722664f1ade2f6d2ee991fe2dfdbccf792a2405ae5", func := "loop.example/s02548/laws.FnExactConstants", spec := "fnExactConstants", apart := false, narrowed := true }
def FnExactConstantsUptoSaid : Prop := fnExactConstantsUptoRow.holds Try.pinned (OpenSpec.upto fnExactConstantsSpec)

/-- 'laws.FnExactTypeName', WHERE WHAT IT READS IS OF BULK AT MOST 1048576: true; the input reads as it did. -/
def fnExactTypeNameUptoRow : OpenClaim := { program := "ytfhlicffjpiobaa", sum := "3c316c5667e2fbbd78cded722664f1ade2f6d2ee991fe2dfdbccf792a2405ae5", func := "loop.example/s02548/laws.FnExactTypeName", spec := "fnExactTypeName", apart := false, narrowed := true }
def FnExactTypeNameUptoSaid : Prop := fnExactTypeNameUptoRow.holds Try.pinned (OpenSpec.upto fnExactTypeNameSpec)

/-- 'laws.FnExactConvert', WHERE WHAT IT READS IS OF BULK AT MOST 1048576: true; the input reads as it did. -/
def fnExactConvertUptoRow : OpenClaim := { program := "ytfhlicffjpiobaa", sum := "3c316c5667e2fbbd78cded722664f1ade2f6d2ee991fe2dfdbccf792a2405ae5", func := "loop.example/s02548/laws.FnExactConvert", spec := "fnExactConvert", apart := false, narrowed := true }
def FnExactConvertUptoSaid : Prop := fnExactConvertUptoRow.holds Try.pinned (OpenSpec.upto fnExactConvertSpec)

/-- 'laws.FnExactGetNumber', WHERE WHAT IT READS IS OF BULK AT MOST 1048576: true; the input reads as it did. -/
def fnExactGetNumberUptoRow : OpenClaim := { program := "ytfhlicffjpiobaa", sum := "3c316c5667e2fbbd78cded722664f1ade2f6d2ee991fe2dfdbccf792a2405ae5", func := "loop.example/s02548/laws.FnExactGetNumber", spec := "fnExactGetNumber", apart := false, narrowed := true }
def FnExactGetNumberUptoSaid : Prop := fnExactGetNumberUptoRow.holds Try.pinned (OpenSpec.upto fnExactGetNumberSpec)

/-- 'laws.FnExactPutNumber', WHERE WHAT IT READS IS OF BULK AT MOST 1048576: true; the input reads as it did. -/
def fnExactPutNumberUptoRow : OpenClaim := { program := "ytfhlicffjpiobaa", sum := "3c316c5667e2fbbd78cded722664f1ade2f6d2ee991fe2dfdbccf792a2405ae5", func := "loop.example/s02548/laws.FnExactPutNumber", spec := "fnExactPutNumber", apart := false, narrowed := true }
def FnExactPutNumberUptoSaid : Prop := fnExactPutNumberUptoRow.holds Try.pinned (OpenSpec.upto fnExactPutNumberSpec)

/-- 'laws.FnExactCrc', WHERE WHAT IT READS IS OF BULK AT MOST 1048576: true; the input reads as it did. -/
def fnExactCrcUptoRow : OpenClaim := { program := "ytfhlicffjpiobaa", sum := "3c316c5667e2fbbd78cded722664f1ade2f6d2ee991fe2dfdbccf792a2405ae5", func := "loop.example/s02548/laws.FnExactCrc", spec := "fnExactCrc", apart := false, narrowed := true }
def FnExactCrcUptoSaid : Prop := fnExactCrcUptoRow.holds Try.pinned (OpenSpec.upto fnExactCrcSpec)

end Rows
end Go.Proofs.Ytfhlicffjpiobaa
