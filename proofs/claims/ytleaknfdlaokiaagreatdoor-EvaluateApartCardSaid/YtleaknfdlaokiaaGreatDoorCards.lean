/-
  DERIVED. GIVEN WITH THE SEED: THE CARDS: each row of YtleaknfdlaokiaaGreatDoorRows.lean that lists a variable, with what it lists TIED to the program's text (the seventh form; the later family's looks); each row that meets fmt, with fmt's text TOLD by the authors' own Lean function (tested against real Go, not proved from fmt's source: count such statements apart). THE CARD IS WHAT COUNTS. Prove the row's statement (the work); the ties are given (YtleaknfdlaokiaaGreatDoorTie.lean); close each card by the builder's one call (the guide's Derived/Test/ToyasCard.lean, 'card_holds'). Laid BY PROGRAM, IN A SANDBOX (cutbox-door.mjs). By AI agents, Wed Nov 11 2026. No macro, syntax, notation, axiom, sorry.
-/
import Derived.Test.YtleaknfdlaokiaaGreatDoorRows
import GoSem.ClaimSeven
namespace Go.Proofs.YtleaknfdlaokiaaGreatDoor
namespace Rows

/-- THE TIED CARD OF 'testgatelaw10.EvaluateApart'. -/
def evaluateApartCard : Claim7 := { stood := { row := evaluateApartRow, standIns := [], harness := (true, "d8d92bff3335646f051bc09c0ac879101e4d03dc3f5cbb8c19c687101a988a31"), looks := true }, kinds := [], alts := [], laidByText := true, laidKinds := [.data, .pinned], laidTests := true, laidLooks := .later }
def EvaluateApartCardSaid : Prop := Claim7.holds Tryz.pinned (.plain (OpenSpec.ofChange evaluateApartSpec)) evaluateApartCard

/-- THE SECOND FORM's CARD OF 'testgatelaw10.EvaluateApart'. -/
def evaluateApartUptoCard : Claim7 := { stood := { row := evaluateApartUptoRow, standIns := [], harness := (true, "d8d92bff3335646f051bc09c0ac879101e4d03dc3f5cbb8c19c687101a988a31"), looks := true }, kinds := [], alts := [], laidByText := true, laidKinds := [.data, .pinned], laidTests := true, laidLooks := .later }
def EvaluateApartUptoCardSaid : Prop := Claim7.holds Tryz.pinned (.plain (OpenSpec.upto evaluateApartSpec)) evaluateApartUptoCard
end Rows
end Go.Proofs.YtleaknfdlaokiaaGreatDoor
