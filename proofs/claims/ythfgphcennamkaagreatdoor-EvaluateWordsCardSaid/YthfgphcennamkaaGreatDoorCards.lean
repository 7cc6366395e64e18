/-
  DERIVED. GIVEN WITH THE SEED: THE CARDS: each row of YthfgphcennamkaaGreatDoorRows.lean that lists a variable, with what it lists TIED to the program's text (the seventh form; the later family's looks); each row that meets fmt, with fmt's text TOLD by the authors' own Lean function (tested against real Go, not proved from fmt's source: count such statements apart). THE CARD IS WHAT COUNTS. Prove the row's statement (the work); the ties are given (YthfgphcennamkaaGreatDoorTie.lean); close each card by the builder's one call (the guide's Derived/Test/ToyasCard.lean, 'card_holds'). Laid BY PROGRAM, IN A SANDBOX (cutbox-door.mjs). By AI agents, Wed Nov 11 2026. No macro, syntax, notation, axiom, sorry.
-/
import Derived.Test.YthfgphcennamkaaGreatDoorRows
import GoSem.ClaimSeven
namespace Go.Proofs.YthfgphcennamkaaGreatDoor
namespace Rows

/-- THE TIED CARD OF 'testgatelaw10.EvaluateWords'. -/
def evaluateWordsCard : Claim7 := { stood := { row := evaluateWordsRow, standIns := [], harness := (true, "1566f7ba8237d285b5b30543ea888ed30efdec80a12f149d18dde01f3dffaa98"), looks := true }, kinds := [], alts := [], laidByText := true, laidKinds := [.data, .pinned], laidTests := true, laidLooks := .later }
def EvaluateWordsCardSaid : Prop := Claim7.holds Tryz.pinned (.plain (OpenSpec.ofChange evaluateWordsSpec)) evaluateWordsCard

/-- THE SECOND FORM's CARD OF 'testgatelaw10.EvaluateWords'. -/
def evaluateWordsUptoCard : Claim7 := { stood := { row := evaluateWordsUptoRow, standIns := [], harness := (true, "1566f7ba8237d285b5b30543ea888ed30efdec80a12f149d18dde01f3dffaa98"), looks := true }, kinds := [], alts := [], laidByText := true, laidKinds := [.data, .pinned], laidTests := true, laidLooks := .later }
def EvaluateWordsUptoCardSaid : Prop := Claim7.holds Tryz.pinned (.plain (OpenSpec.upto evaluateWordsSpec)) evaluateWordsUptoCard
end Rows
end Go.Proofs.YthfgphcennamkaaGreatDoor
