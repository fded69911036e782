/-
  DERIVED. GIVEN WITH THE SEED: THE CARDS: each row of YtkfpoagnchahkaaGreatDoorRows.lean that lists a variable, with what it lists TIED to the program's text (the seventh form; the later family's looks); each row that meets fmt, with fmt's text TOLD by the authors' own Lean function (tested against real Go, not proved from fmt's source: count such statements apart). THE CARD IS WHAT COUNTS. Prove the row's statement (the work); the ties are given (YtkfpoagnchahkaaGreatDoorTie.lean); close each card by the builder's one call (the guide's Derived/Test/ToyasCard.lean, 'card_holds'). Laid BY PROGRAM, IN A SANDBOX (cutbox-door.mjs). By AI agents, Wed Nov 11 2026. No macro, syntax, notation, axiom, sorry.
-/
import Derived.Test.YtkfpoagnchahkaaGreatDoorRows
import GoSem.ClaimSeven
namespace Go.Proofs.YtkfpoagnchahkaaGreatDoor
namespace Rows

/-- THE TIED CARD OF 'laws.FnExactProgramFault'. -/
def fnExactProgramFaultCard : Claim7 := { stood := { row := fnExactProgramFaultRow, standIns := [], harness := (true, "5b86b4af2d033d841578fd7975731a73938ac6d6bb5391dd06040a08236dd62b"), looks := true }, kinds := [], alts := [], laidByText := true, laidKinds := [.handle], laidTests := true, laidLooks := .later }
def FnExactProgramFaultCardSaid : Prop := Claim7.holds Tryz.pinned (.plain (OpenSpec.ofChange fnExactProgramFaultSpec)) fnExactProgramFaultCard

/-- THE SECOND FORM's CARD OF 'laws.FnExactProgramFault'. -/
def fnExactProgramFaultUptoCard : Claim7 := { stood := { row := fnExactProgramFaultUptoRow, standIns := [], harness := (true, "5b86b4af2d033d841578fd7975731a73938ac6d6bb5391dd06040a08236dd62b"), looks := true }, kinds := [], alts := [], laidByText := true, laidKinds := [.handle], laidTests := true, laidLooks := .later }
def FnExactProgramFaultUptoCardSaid : Prop := Claim7.holds Tryz.pinned (.plain (OpenSpec.upto fnExactProgramFaultSpec)) fnExactProgramFaultUptoCard
end Rows
end Go.Proofs.YtkfpoagnchahkaaGreatDoor
