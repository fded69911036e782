/-
  No cell of these rows narrows 'for every input' (looked for: loops, veiled, ifaces, maps, wideKeys, modest, calm, conditions, laid).
  DERIVED. THE GIVEN ROWS OF THIS SEAT. 3 by the template 'for every input the law returns true; each argument reads behind the call as it read before'; 0 by the template 'total and deterministic' (their statements: YtkfpoagnchahkaaGreatTotals.lean).
  GIVEN WITH THE SEED: the statements are not yours to turn. If you find one false, say at which input.
  Laid BY PROGRAM, IN A SANDBOX (cutbox-rows.mjs): the forced cells as the released guide's own fill.sh prints them over the translation 17766fab74976bed… (all of the seat's roots in one cut). By AI agents, Wed Nov 11 2026. No macro, syntax, notation, axiom, sorry.
-/
import Derived.Test.YtkfpoagnchahkaaGreatChecked
import GoSem.Claim
import GoSem.ClaimJoined
import GoSem.ClaimMapViews
import Derived.JoinedTies
import Derived.KernelRfl
namespace Go.Proofs.YtkfpoagnchahkaaGreat
/- THE CELL 'sum', in the pinned program and in every row, IS THE sha256 OF THE DUMP (.gsa) THAT YtkfpoagnchahkaaGreatProg.lean LOADS. Nothing in Lean hashes anything: it is a label: what it is worth is what the hold of that sum in a sandbox is worth. -/
noncomputable def Tryz.pinned : Pinned := { name := "ytkfpoagnchahkaagreat", sum := "17766fab74976bedec2b9ab666b5b7a05a40c1c75d5a18d63285fb12b89de6d6", checked := Tryz.checked }
namespace Rows
def none {H : Type} : Left H := { results := [], args := [] }

/-- 'laws.FnExactEncode': WHATEVER THE INPUT: true; the input reads as it did. -/
def fnExactEncodeSpec : ChangeSpec := { name := "fnExactEncode", fn := fun _ => fun
  | [d] => { results := [.lit (.bool true)], args := [d] }
  | _ => none }
def fnExactEncodeRow : OpenClaim := { program := "ytkfpoagnchahkaagreat", sum := "17766fab74976bedec2b9ab666b5b7a05a40c1c75d5a18d63285fb12b89de6d6", func := "loop.example/s02548/laws.FnExactEncode", spec := "fnExactEncode", unfollowed := true, recurses := true, apart := false }
def FnExactEncodeSaid : Prop := fnExactEncodeRow.holds Tryz.pinned (OpenSpec.ofChange fnExactEncodeSpec)

/-- ITS FALSE NEIGHBOUR: 'it returns false'. Refute it at one input. -/
def fnExactEncodeWrong : ChangeSpec := { name := "fnExactEncode", fn := fun _ => fun
  | [d] => { results := [.lit (.bool false)], args := [d] }
  | _ => none }
def FnExactEncodeWrongFalsely : Prop := fnExactEncodeRow.holds Tryz.pinned (OpenSpec.ofChange fnExactEncodeWrong)

/-- 'laws.FnExactDecode': WHATEVER THE INPUT: true; the input reads as it did. -/
def fnExactDecodeSpec : ChangeSpec := { name := "fnExactDecode", fn := fun _ => fun
  | [d] => { results := [.lit (.bool true)], args := [d] }
  | _ => none }
def fnExactDecodeRow : OpenClaim := { program := "ytkfpoagnchahkaagreat", sum := "17766fab74976bedec2b9ab666b5b7a05a40c1c75d5a18d63285fb12b89de6d6", func := "loop.example/s02548/laws.FnExactDecode", spec := "fnExactDecode", unfollowed := true, recurses := true, apart := false }
def FnExactDecodeSaid : Prop := fnExactDecodeRow.holds Tryz.pinned (OpenSpec.ofChange fnExactDecodeSpec)

/-- ITS FALSE NEIGHBOUR: 'it returns false'. Refute it at one input. -/
def fnExactDecodeWrong : ChangeSpec := { name := "fnExactDecode", fn := fun _ => fun
  | [d] => { results := [.lit (.bool false)], args := [d] }
  | _ => none }
def FnExactDecodeWrongFalsely : Prop := fnExactDecodeRow.holds Tryz.pinned (OpenSpec.ofChange fnExactDecodeWrong)

/-- 'laws.FnExactBegin': WHATEVER THE INPUT: true; the input reads as it did. -/
def fnExactBeginSpec : ChangeSpec := { name := "fnExactBegin", fn := fun _ => fun
  | [d1, d2] => { results := [.lit (.bool true)], args := [d1, d2] }
  | _ => none }
def fnExactBeginRow : OpenClaim := { program := "ytkfpoagnchahkaagreat", sum := "17766fab74976bedec2b9ab666b5b7a05a40c1c75d5a18d63285fb12b89de6d6", func := "loop.example/s02548/laws.FnExactBegin", spec := "fnExactBegin", unfollowed := true, recurses := true, apart := false }
def FnExactBeginSaid : Prop := fnExactBeginRow.holds Tryz.pinned (OpenSpec.ofChange fnExactBeginSpec)

/-- ITS FALSE NEIGHBOUR: 'it returns false'. Refute it at one input. -/
def fnExactBeginWrong : ChangeSpec := { name := "fnExactBegin", fn := fun _ => fun
  | [d1, d2] => { results := [.lit (.bool false)], args := [d1, d2] }
  | _ => none }
def FnExactBeginWrongFalsely : Prop := fnExactBeginRow.holds Tryz.pinned (OpenSpec.ofChange fnExactBeginWrong)

/- THE SECOND FORM. 'bulk': how many values and letters a reading holds, each counted each time it is reached (what is shared counts as often as it is met; a slice's spare places count too). A statement '..UptoSaid' is the law's where the arguments, and the package variables that the reading takes, are together of bulk at most 1048576: NARROWER than '..Said'. Prove '..Said' where nothing that the law and all that it calls make is longer than what came in: it says more and counts as full. Else prove '..UptoSaid'. A law counts once. -/
mutual
def uptoBulk {H : Type} : DataW H → Nat
  | .lit (.string bytes) => bytes.length + 1
  | .lit _ => 1
  | .nil => 1
  | .ptr d => uptoBulk d + 1
  | .slice elems spare => uptoBulkAll elems + uptoBulkAll spare + 1
  | .agg parts => uptoBulkAll parts + 1
  | .iface _ d => uptoBulk d + 1
  | .map entries => uptoBulkEntries entries + 1
  | .held _ => 1
def uptoBulkAll {H : Type} : List (DataW H) → Nat
  | [] => 0
  | d :: r => uptoBulk d + uptoBulkAll r
def uptoBulkEntries {H : Type} : List (Lit × DataW H) → Nat
  | [] => 0
  | x :: r => uptoBulkEntry x + uptoBulkEntries r
def uptoBulkEntry {H : Type} : Lit × DataW H → Nat
  | (.string bytes, d) => bytes.length + uptoBulk d + 1
  | (_, d) => uptoBulk d + 1
 end
def uptoSmall : (H : Type) → List (DataW H) → Bool := fun _ ds => decide (uptoBulkAll ds ≤ 1048576)
def OpenSpec.upto (s : _root_.Go.ChangeSpec) : _root_.Go.OpenSpec := { _root_.Go.OpenSpec.ofChange s with cond := some uptoSmall }

/-- 'laws.FnExactEncode', WHERE WHAT IT READS IS OF BULK AT MOST 1048576: true; the input reads as it did. -/
def fnExactEncodeUptoRow : OpenClaim := { program := "ytkfpoagnchahkaagreat", sum := "17766fab74976bedec2b9ab666b5b7a05a40c1c75d5a18d63285fb12b89de6d6", func := "loop.example/s02548/laws.FnExactEncode", spec := "fnExactEncode", unfollowed := true, recurses := true, apart := false, narrowed := true }
def FnExactEncodeUptoSaid : Prop := fnExactEncodeUptoRow.holds Tryz.pinned (OpenSpec.upto fnExactEncodeSpec)

/-- 'laws.FnExactDecode', WHERE WHAT IT READS IS OF BULK AT MOST 1048576: true; the input reads as it did. -/
def fnExactDecodeUptoRow : OpenClaim := { program := "ytkfpoagnchahkaagreat", sum := "17766fab74976bedec2b9ab666b5b7a05a40c1c75d5a18d63285fb12b89de6d6", func := "loop.example/s02548/laws.FnExactDecode", spec := "fnExactDecode", unfollowed := true, recurses := true, apart := false, narrowed := true }
def FnExactDecodeUptoSaid : Prop := fnExactDecodeUptoRow.holds Tryz.pinned (OpenSpec.upto fnExactDecodeSpec)

/-- 'laws.FnExactBegin', WHERE WHAT IT READS IS OF BULK AT MOST 1048576: true; the input reads as it did. -/
def fnExactBeginUptoRow : OpenClaim := { program := "ytkfpoagnchahkaagreat", sum := "17766fab74976bedec2b9ab666b5b7a05a40c1c75d5a18d63285fb12b89de6d6", func := "loop.example/s02548/laws.FnExactBegin", spec := "fnExactBegin", unfollowed := true, recurses := true, apart := false, narrowed := true }
def FnExactBeginUptoSaid : Prop := fnExactBeginUptoRow.holds Tryz.pinned (OpenSpec.upto fnExactBeginSpec)

end Rows
end Go.Proofs.YtkfpoagnchahkaaGreat
