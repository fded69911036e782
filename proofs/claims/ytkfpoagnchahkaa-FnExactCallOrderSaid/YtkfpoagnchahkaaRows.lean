/-
  No cell of these rows narrows 'for every input' (looked for: loops, veiled, ifaces, maps, wideKeys, modest, calm, conditions, laid).
  DERIVED. THE GIVEN ROWS OF THIS SEAT. 2 by the template 'for every input the law returns true; each argument reads behind the call as it read before'; 0 by the template 'total and deterministic' (their statements: YtkfpoagnchahkaaTotals.lean).
  GIVEN WITH THE SEED: the statements are not yours to turn. If you find one false, say at which input.
  Laid BY PROGRAM, IN A SANDBOX (cutbox-rows.mjs): the forced cells as the released guide's own fill.sh prints them over the translation b38e621502929972… (all of the seat's roots in one cut). By AI agents, Wed Nov 11 2026. No macro, syntax, notation, axiom, sorry.
-/
import Derived.Test.YtkfpoagnchahkaaChecked
import GoSem.Claim
import GoSem.ClaimJoined
import GoSem.ClaimMapViews
import Derived.JoinedTies
import Derived.KernelRfl
namespace Go.Proofs.Ytkfpoagnchahkaa
/- THE CELL 'sum', in the pinned program and in every row, IS THE sha256 OF THE DUMP (.gsa) THAT YtkfpoagnchahkaaProg.lean LOADS. Nothing in Lean hashes anything: it is a label: what it is worth is what the hold of that sum in a sandbox is worth. -/
noncomputable def Try.pinned : Pinned := { name := "ytkfpoagnchahkaa", sum := "b38e62150292997274e412bb4b5e41820851a59c273530a4ab2376b84f0f59c1", checked := Try.checked }
namespace Rows
def none {H : Type} : Left H := { results := [], args := [] }

/-- 'laws.FnExactValidMemory': WHATEVER THE INPUT: true; the input reads as it did. -/
def fnExactValidMemorySpec : ChangeSpec := { name := "fnExactValidMemory", fn := fun _ => fun
  | [d1, d2] => { results := [.lit (.bool true)], args := [d1, d2] }
  | _ => none }
def fnExactValidMemoryRow : OpenClaim := { program := "ytkfpoagnchahkaa", sum := "b38e62150292997274e412bb4b5e41820851a59c273530a4ab2376b84f0f59c1", func := "loop.example/s02548/laws.FnExactValidMemory", spec := "fnExactValidMemory", unfollowed := true, recurses := true, apart := false }
def FnExactValidMemorySaid : Prop := fnExactValidMemoryRow.holds Try.pinned (OpenSpec.ofChange fnExactValidMemorySpec)

/-- ITS FALSE NEIGHBOUR: 'it returns false'. Refute it at one input. -/
def fnExactValidMemoryWrong : ChangeSpec := { name := "fnExactValidMemory", fn := fun _ => fun
  | [d1, d2] => { results := [.lit (.bool false)], args := [d1, d2] }
  | _ => none }
def FnExactValidMemoryWrongFalsely : Prop := fnExactValidMemoryRow.holds Try.pinned (OpenSpec.ofChange fnExactValidMemoryWrong)

/-- 'laws.FnExactCallOrder': WHATEVER THE INPUT: true; the input reads as it did. -/
def fnExactCallOrderSpec : ChangeSpec := { name := "fnExactCallOrder", fn := fun _ => fun
  | [d] => { results := [.lit (.bool true)], args := [d] }
  | _ => none }
def fnExactCallOrderRow : OpenClaim := { program := "ytkfpoagnchahkaa", sum := "b38e62150292997274e412bb4b5e41820851a59c273530a4ab2376b84f0f59c1", func := "loop.example/s02548/laws.FnExactCallOrder", spec := "fnExactCallOrder", unfollowed := true, recurses := true, apart := false }
def FnExactCallOrderSaid : Prop := fnExactCallOrderRow.holds Try.pinned (OpenSpec.ofChange fnExactCallOrderSpec)

/-- ITS FALSE NEIGHBOUR: 'it returns false'. Refute it at one input. -/
def fnExactCallOrderWrong : ChangeSpec := { name := "fnExactCallOrder", fn := fun _ => fun
  | [d] => { results := [.lit (.bool false)], args := [d] }
  | _ => none }
def FnExactCallOrderWrongFalsely : Prop := fnExactCallOrderRow.holds Try.pinned (OpenSpec.ofChange fnExactCallOrderWrong)

/- THE SECOND FORM. 'bulk': how many values and letters a reading holds, each counted each time it is reached (what is shared counts as often as it is met; a slice's spare places count too). A statement '..UptoSaid' is the law's where the arguments, and the package variables that the reading takes, are together of bulk at most 1048576: NARROWER than '..Said'. Prove '..Said' where nothing that the law and all that it calls make is longer than what came in: it says more and counts as full. Else prove '..UptoSaid'. A law counts once. -/
mutual
def uptoBulk {H : Type} : DataW H → Nat
  | .lit (.string bytes) => bytes.length + 1
  | .lit _ => 1
  | .nil => 1
  | .ptr d => uptoBulk d + 1
  | .slice elems spare => uptoBulkAll elems + uptoBulkAll spare + 1
  | .agg parts => uptoBulkAll parts + 1
  | .iface _ d => uptoBulk d + 1
  | .map entries => uptoBulkEntries entries + 1
  | .held _ => 1
def uptoBulkAll {H : Type} : List (DataW H) → Nat
  | [] => 0
  | d :: r => uptoBulk d + uptoBulkAll r
def uptoBulkEntries {H : Type} : List (Lit × DataW H) → Nat
  | [] => 0
  | x :: r => uptoBulkEntry x + uptoBulkEntries r
def uptoBulkEntry {H : Type} : Lit × DataW H → Nat
  | (.string bytes, d) => bytes.length + uptoBulk d + 1
  | (_, d) => uptoBulk d + 1
 end
def uptoSmall : (H : Type) → List (DataW H) → Bool := fun _ ds => decide (uptoBulkAll ds ≤ 1048576)
def OpenSpec.upto (s : _root_.Go.ChangeSpec) : _root_.Go.OpenSpec := { _root_.Go.OpenSpec.ofChange s with cond := some uptoSmall }

/-- 'laws.FnExactValidMemory', WHERE WHAT IT READS IS OF BULK AT MOST 1048576: true; the input reads as it did. -/
def fnExactValidMemoryUptoRow : OpenClaim := { program := "ytkfpoagnchahkaa", sum := "b38e62150292997274e412bb4b5e41820851a59c273530a4ab2376b84f0f59c1", func := "loop.example/s02548/laws.FnExactValidMemory", spec := "fnExactValidMemory", unfollowed := true, recurses := true, apart := false, narrowed := true }
def FnExactValidMemoryUptoSaid : Prop := fnExactValidMemoryUptoRow.holds Try.pinned (OpenSpec.upto fnExactValidMemorySpec)

/-- 'laws.FnExactCallOrder', WHERE WHAT IT READS IS OF BULK AT MOST 1048576: true; the input reads as it did. -/
def fnExactCallOrderUptoRow : OpenClaim := { program := "ytkfpoagnchahkaa", sum := "b38e62150292997274e412bb4b5e41820851a59c273530a4ab2376b84f0f59c1", func := "loop.example/s02548/laws.FnExactCallOrder", spec := "fnExactCallOrder", unfollowed := true, recurses := true, apart := false, narrowed := true }
def FnExactCallOrderUptoSaid : Prop := fnExactCallOrderUptoRow.holds Try.pinned (OpenSpec.upto fnExactCallOrderSpec)

end Rows
end Go.Proofs.Ytkfpoagnchahkaa
