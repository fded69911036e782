/-
  NARROWER THAN 'FOR EVERY INPUT', by the rows' own cells (each row's printed sentence says how): FnExactStmtFault: loops.
  DERIVED. THE GIVEN ROWS OF THIS SEAT. 6 by the template 'for every input the law returns true; each argument reads behind the call as it read before'; 0 by the template 'total and deterministic' (their statements: YtlnlbncinjiinaaTotals.lean).
  GIVEN WITH THE SEED: the statements are not yours to turn. If you find one false, say at which input.
  Laid BY PROGRAM, IN A SANDBOX (cutbox-rows.mjs): the forced cells as the released guide's own fill.sh prints them over the translation 85acbbb367a3c97f… (all of the seat's roots in one cut). By AI agents, Wed Nov 11 2026. No macro, syntax, notation, axiom, sorry.
-/
import Derived.Test.YtlnlbncinjiinaaChecked
import GoSem.Claim
import GoSem.ClaimJoined
import GoSem.ClaimMapViews
import Derived.JoinedTies
import Derived.KernelRfl
namespace Go.Proofs.Ytlnlbncinjiinaa
/- THE CELL 'sum', in the pinned program and in every row, IS THE sha256 OF THE DUMP (.gsa) THAT YtlnlbncinjiinaaProg.lean LOADS. Nothing in Lean hashes anything: it is a label: what it is worth is what the hold of that sum in a sandbox is worth. -/
noncomputable def Try.pinned : Pinned := { name := "ytlnlbncinjiinaa", sum := "85acbbb367a3c97fdc518140771481bd2599ffb48bcebac398471883c270e1ae", checked := Try.checked }
namespace Rows
def none {H : Type} : Left H := { results := [], args := [] }

/-- 'laws.FnExactOpOf': WHATEVER THE INPUT: true; the input reads as it did. -/
def fnExactOpOfSpec : ChangeSpec := { name := "fnExactOpOf", fn := fun _ => fun
  | [d] => { results := [.lit (.bool true)], args := [d] }
  | _ => none }
def fnExactOpOfRow : OpenClaim := { program := "ytlnlbncinjiinaa", sum := "85acbbb367a3c97fdc518140771481bd2599ffb48bcebac398471883c270e1ae", func := "loop.example/s02548/laws.FnExactOpOf", spec := "fnExactOpOf", unfollowed := true, recurses := true, apart := false }
def FnExactOpOfSaid : Prop := fnExactOpOfRow.holds Try.pinned (OpenSpec.ofChange fnExactOpOfSpec)

/-- ITS FALSE NEIGHBOUR: 'it returns false'. Refute it at one input. -/
def fnExactOpOfWrong : ChangeSpec := { name := "fnExactOpOf", fn := fun _ => fun
  | [d] => { results := [.lit (.bool false)], args := [d] }
  | _ => none }
def FnExactOpOfWrongFalsely : Prop := fnExactOpOfRow.holds Try.pinned (OpenSpec.ofChange fnExactOpOfWrong)

/-- 'laws.FnExactInfo': WHATEVER THE INPUT: true; the input reads as it did. -/
def fnExactInfoSpec : ChangeSpec := { name := "fnExactInfo", fn := fun _ => fun
  | [d] => { results := [.lit (.bool true)], args := [d] }
  | _ => none }
def fnExactInfoRow : OpenClaim := { program := "ytlnlbncinjiinaa", sum := "85acbbb367a3c97fdc518140771481bd2599ffb48bcebac398471883c270e1ae", func := "loop.example/s02548/laws.FnExactInfo", spec := "fnExactInfo", unfollowed := true, recurses := true, apart := false }
def FnExactInfoSaid : Prop := fnExactInfoRow.holds Try.pinned (OpenSpec.ofChange fnExactInfoSpec)

/-- ITS FALSE NEIGHBOUR: 'it returns false'. Refute it at one input. -/
def fnExactInfoWrong : ChangeSpec := { name := "fnExactInfo", fn := fun _ => fun
  | [d] => { results := [.lit (.bool false)], args := [d] }
  | _ => none }
def FnExactInfoWrongFalsely : Prop := fnExactInfoRow.holds Try.pinned (OpenSpec.ofChange fnExactInfoWrong)

/-- 'laws.FnExactStmtFault': WHATEVER THE INPUT: true; the input reads as it did. -/
def fnExactStmtFaultSpec : ChangeSpec := { name := "fnExactStmtFault", fn := fun _ => fun
  | [d] => { results := [.lit (.bool true)], args := [d] }
  | _ => none }
def fnExactStmtFaultRow : OpenClaim := { program := "ytlnlbncinjiinaa", sum := "85acbbb367a3c97fdc518140771481bd2599ffb48bcebac398471883c270e1ae", func := "loop.example/s02548/laws.FnExactStmtFault", spec := "fnExactStmtFault", unfollowed := true, recurses := true, loops := true, apart := false }
def FnExactStmtFaultSaid : Prop := fnExactStmtFaultRow.holds Try.pinned (OpenSpec.ofChange fnExactStmtFaultSpec)

/-- ITS FALSE NEIGHBOUR: 'it returns false'. Refute it at one input. -/
def fnExactStmtFaultWrong : ChangeSpec := { name := "fnExactStmtFault", fn := fun _ => fun
  | [d] => { results := [.lit (.bool false)], args := [d] }
  | _ => none }
def FnExactStmtFaultWrongFalsely : Prop := fnExactStmtFaultRow.holds Try.pinned (OpenSpec.ofChange fnExactStmtFaultWrong)

/-- 'laws.FnArithmetic': WHATEVER THE INPUT: true; the input reads as it did. -/
def fnArithmeticSpec : ChangeSpec := { name := "fnArithmetic", fn := fun _ => fun
  | [d] => { results := [.lit (.bool true)], args := [d] }
  | _ => none }
def fnArithmeticRow : OpenClaim := { program := "ytlnlbncinjiinaa", sum := "85acbbb367a3c97fdc518140771481bd2599ffb48bcebac398471883c270e1ae", func := "loop.example/s02548/laws.FnArithmetic", spec := "fnArithmetic", unfollowed := true, recurses := true, apart := false }
def FnArithmeticSaid : Prop := fnArithmeticRow.holds Try.pinned (OpenSpec.ofChange fnArithmeticSpec)

/-- ITS FALSE NEIGHBOUR: 'it returns false'. Refute it at one input. -/
def fnArithmeticWrong : ChangeSpec := { name := "fnArithmetic", fn := fun _ => fun
  | [d] => { results := [.lit (.bool false)], args := [d] }
  | _ => none }
def FnArithmeticWrongFalsely : Prop := fnArithmeticRow.holds Try.pinned (OpenSpec.ofChange fnArithmeticWrong)

/-- 'laws.FnExactCompute': WHATEVER THE INPUT: true; the input reads as it did. -/
def fnExactComputeSpec : ChangeSpec := { name := "fnExactCompute", fn := fun _ => fun
  | [d1, d2, d3, d4] => { results := [.lit (.bool true)], args := [d1, d2, d3, d4] }
  | _ => none }
def fnExactComputeRow : OpenClaim := { program := "ytlnlbncinjiinaa", sum := "85acbbb367a3c97fdc518140771481bd2599ffb48bcebac398471883c270e1ae", func := "loop.example/s02548/laws.FnExactCompute", spec := "fnExactCompute", unfollowed := true, recurses := true, apart := false }
def FnExactComputeSaid : Prop := fnExactComputeRow.holds Try.pinned (OpenSpec.ofChange fnExactComputeSpec)

/-- ITS FALSE NEIGHBOUR: 'it returns false'. Refute it at one input. -/
def fnExactComputeWrong : ChangeSpec := { name := "fnExactCompute", fn := fun _ => fun
  | [d1, d2, d3, d4] => { results := [.lit (.bool false)], args := [d1, d2, d3, d4] }
  | _ => none }
def FnExactComputeWrongFalsely : Prop := fnExactComputeRow.holds Try.pinned (OpenSpec.ofChange fnExactComputeWrong)

/-- 'laws.FnExactBlocksOf': WHATEVER THE INPUT: true; the input reads as it did. -/
def fnExactBlocksOfSpec : ChangeSpec := { name := "fnExactBlocksOf", fn := fun _ => fun
  | [d] => { results := [.lit (.bool true)], args := [d] }
  | _ => none }
def fnExactBlocksOfRow : OpenClaim := { program := "ytlnlbncinjiinaa", sum := "85acbbb367a3c97fdc518140771481bd2599ffb48bcebac398471883c270e1ae", func := "loop.example/s02548/laws.FnExactBlocksOf", spec := "fnExactBlocksOf", apart := false }
def FnExactBlocksOfSaid : Prop := fnExactBlocksOfRow.holds Try.pinned (OpenSpec.ofChange fnExactBlocksOfSpec)

/-- ITS FALSE NEIGHBOUR: 'it returns false'. Refute it at one input. -/
def fnExactBlocksOfWrong : ChangeSpec := { name := "fnExactBlocksOf", fn := fun _ => fun
  | [d] => { results := [.lit (.bool false)], args := [d] }
  | _ => none }
def FnExactBlocksOfWrongFalsely : Prop := fnExactBlocksOfRow.holds Try.pinned (OpenSpec.ofChange fnExactBlocksOfWrong)

/- THE SECOND FORM. 'bulk': how many values and letters a reading holds, each counted each time it is reached (what is shared counts as often as it is met; a slice's spare places count too). A statement '..UptoSaid' is the law's where the arguments, and the package variables that the reading takes, are together of bulk at most 1048576: NARROWER than '..Said'. Prove '..Said' where nothing that the law and all that it calls make is longer than what came in: it says more and counts as full. Else prove '..UptoSaid'. A law counts once. -/
mutual
def uptoBulk {H : Type} : DataW H → Nat
  | .lit (.string bytes) => bytes.length + 1
  | .lit _ => 1
  | .nil => 1
  | .ptr d => uptoBulk d + 1
  | .slice elems spare => uptoBulkAll elems + uptoBulkAll spare + 1
  | .agg parts => uptoBulkAll parts + 1
  | .iface _ d => uptoBulk d + 1
  | .map entries => uptoBulkEntries entries + 1
  | .held _ => 1
def uptoBulkAll {H : Type} : List (DataW H) → Nat
  | [] => 0
  | d :: r => uptoBulk d + uptoBulkAll r
def uptoBulkEntries {H : Type} : List (Lit × DataW H) → Nat
  | [] => 0
  | x :: r => uptoBulkEntry x + uptoBulkEntries r
def uptoBulkEntry {H : Type} : Lit × DataW H → Nat
  | (.string bytes, d) => bytes.length + uptoBulk d + 1
  | (_, d) => uptoBulk d + 1
 end
def uptoSmall : (H : Type) → List (DataW H) → Bool := fun _ ds => decide (uptoBulkAll ds ≤ 1048576)
def OpenSpec.upto (s : _root_.Go.ChangeSpec) : _root_.Go.OpenSpec := { _root_.Go.OpenSpec.ofChange s with cond := some uptoSmall }

/-- 'laws.FnExactOpOf', WHERE WHAT IT READS IS OF BULK AT MOST 1048576: true; the input reads as it did. -/
def fnExactOpOfUptoRow : OpenClaim := { program := "ytlnlbncinjiinaa", sum := "85acbbb367a3c97fdc518140771481bd2599ffb48bcebac398471883c270e1ae", func := "loop.example/s02548/laws.FnExactOpOf", spec := "fnExactOpOf", unfollowed := true, recurses := true, apart := false, narrowed := true }
def FnExactOpOfUptoSaid : Prop := fnExactOpOfUptoRow.holds Try.pinned (OpenSpec.upto fnExactOpOfSpec)

/-- 'laws.FnExactInfo', WHERE WHAT IT READS IS OF BULK AT MOST 1048576: true; the input reads as it did. -/
def fnExactInfoUptoRow : OpenClaim := { program := "ytlnlbncinjiinaa", sum := "85acbbb367a3c97fdc518140771481bd2599ffb48bcebac398471883c270e1ae", func := "loop.example/s02548/laws.FnExactInfo", spec := "fnExactInfo", unfollowed := true, recurses := true, apart := false, narrowed := true }
def FnExactInfoUptoSaid : Prop := fnExactInfoUptoRow.holds Try.pinned (OpenSpec.upto fnExactInfoSpec)

/-- 'laws.FnExactStmtFault', WHERE WHAT IT READS IS OF BULK AT MOST 1048576: true; the input reads as it did. -/
def fnExactStmtFaultUptoRow : OpenClaim := { program := "ytlnlbncinjiinaa", sum := "85acbbb367a3c97fdc518140771481bd2599ffb48bcebac398471883c270e1ae", func := "loop.example/s02548/laws.FnExactStmtFault", spec := "fnExactStmtFault", unfollowed := true, recurses := true, loops := true, apart := false, narrowed := true }
def FnExactStmtFaultUptoSaid : Prop := fnExactStmtFaultUptoRow.holds Try.pinned (OpenSpec.upto fnExactStmtFaultSpec)

/-- 'laws.FnArithmetic', WHERE WHAT IT READS IS OF BULK AT MOST 1048576: true; the input reads as it did. -/
def fnArithmeticUptoRow : OpenClaim := { program := "ytlnlbncinjiinaa", sum := "85acbbb367a3c97fdc518140771481bd2599ffb48bcebac398471883c270e1ae", func := "loop.example/s02548/laws.FnArithmetic", spec := "fnArithmetic", unfollowed := true, recurses := true, apart := false, narrowed := true }
def FnArithmeticUptoSaid : Prop := fnArithmeticUptoRow.holds Try.pinned (OpenSpec.upto fnArithmeticSpec)

/-- 'laws.FnExactCompute', WHERE WHAT IT READS IS OF BULK AT MOST 1048576: true; the input reads as it did. -/
def fnExactComputeUptoRow : OpenClaim := { program := "ytlnlbncinjiinaa", sum := "85acbbb367a3c97fdc518140771481bd2599ffb48bcebac398471883c270e1ae", func := "loop.example/s02548/laws.FnExactCompute", spec := "fnExactCompute", unfollowed := true, recurses := true, apart := false, narrowed := true }
def FnExactComputeUptoSaid : Prop := fnExactComputeUptoRow.holds Try.pinned (OpenSpec.upto fnExactComputeSpec)

/-- 'laws.FnExactBlocksOf', WHERE WHAT IT READS IS OF BULK AT MOST 1048576: true; the input reads as it did. -/
def fnExactBlocksOfUptoRow : OpenClaim := { program := "ytlnlbncinjiinaa", sum := "85acbbb367a3c97fdc518140771481bd2599ffb48bcebac398471883c270e1ae", func := "loop.example/s02548/laws.FnExactBlocksOf", spec := "fnExactBlocksOf", apart := false, narrowed := true }
def FnExactBlocksOfUptoSaid : Prop := fnExactBlocksOfUptoRow.holds Try.pinned (OpenSpec.upto fnExactBlocksOfSpec)

end Rows
end Go.Proofs.Ytlnlbncinjiinaa
