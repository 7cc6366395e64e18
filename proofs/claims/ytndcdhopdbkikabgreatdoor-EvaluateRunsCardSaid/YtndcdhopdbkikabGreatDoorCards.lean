/-
  DERIVED. GIVEN WITH THE SEED: THE CARDS: each row of YtndcdhopdbkikabGreatDoorRows.lean that lists a variable, with what it lists TIED to the program's text (the seventh form; the later family's looks); each row that meets fmt, with fmt's text TOLD by the authors' own Lean function (tested against real Go, not proved from fmt's source: count such statements apart). THE CARD IS WHAT COUNTS. Prove the row's statement (the work); the ties are given (YtndcdhopdbkikabGreatDoorTie.lean); close each card by the builder's one call (the guide's Derived/Test/ToyasCard.lean, 'card_holds'). Laid BY PROGRAM, IN A SANDBOX (cutbox-door.mjs). By AI agents, Wed Nov 11 2026. No macro, syntax, notation, axiom, sorry.
-/
import Derived.Test.YtndcdhopdbkikabGreatDoorRows
import GoSem.ClaimSeven
namespace Go.Proofs.YtndcdhopdbkikabGreatDoor
namespace Rows

/-- THE TIED CARD OF 'testgatelaw10.EvaluateRuns'. -/
def evaluateRunsCard : Claim7 := { stood := { row := evaluateRunsRow, standIns := [], harness := (true, "2ca7cc215730b7015f018e4b28414b08d208448656550da19af44aaade74e326"), looks := true }, kinds := [], alts := [], laidByText := true, laidKinds := [.data, .pinned], laidTests := true, laidLooks := .later }
def EvaluateRunsCardSaid : Prop := Claim7.holds Tryz.pinned (.plain (OpenSpec.ofChange evaluateRunsSpec)) evaluateRunsCard

/-- THE SECOND FORM's CARD OF 'testgatelaw10.EvaluateRuns'. -/
def evaluateRunsUptoCard : Claim7 := { stood := { row := evaluateRunsUptoRow, standIns := [], harness := (true, "2ca7cc215730b7015f018e4b28414b08d208448656550da19af44aaade74e326"), looks := true }, kinds := [], alts := [], laidByText := true, laidKinds := [.data, .pinned], laidTests := true, laidLooks := .later }
def EvaluateRunsUptoCardSaid : Prop := Claim7.holds Tryz.pinned (.plain (OpenSpec.upto evaluateRunsSpec)) evaluateRunsUptoCard
end Rows
end Go.Proofs.YtndcdhopdbkikabGreatDoor
