/-
  DERIVED. GIVEN WITH THE SEED: THE CARDS: each row of YtfodebccikifcaaGreatDoorRows.lean that lists a variable, with what it lists TIED to the program's text (the seventh form; the later family's looks); each row that meets fmt, with fmt's text TOLD by the authors' own Lean function (tested against real Go, not proved from fmt's source: count such statements apart). THE CARD IS WHAT COUNTS. Prove the row's statement (the work); the ties are given (YtfodebccikifcaaGreatDoorTie.lean); close each card by the builder's one call (the guide's Derived/Test/ToyasCard.lean, 'card_holds'). Laid BY PROGRAM, IN A SANDBOX (cutbox-door.mjs). By AI agents, Wed Nov 11 2026. No macro, syntax, notation, axiom, sorry.
-/
import Derived.Test.YtfodebccikifcaaGreatDoorRows
import GoSem.ClaimSeven
namespace Go.Proofs.YtfodebccikifcaaGreatDoor
namespace Rows

/-- THE TIED CARD OF 'testgatelaw07.RevisionBytes'. -/
def revisionBytesCard : Claim7 := { stood := { row := revisionBytesRow, standIns := [], harness := (true, "e65908e71c78259d5fc759cf4da4f703cb3d4821aea3157510fa2bd585b0c32b"), looks := false }, kinds := [], alts := [], laidByText := true, laidKinds := [.data, .pinned], laidTests := true, laidLooks := .later }
def RevisionBytesCardSaid : Prop := Claim7.holds Tryz.pinned (.plain (OpenSpec.ofChange revisionBytesSpec)) revisionBytesCard

/-- THE SECOND FORM's CARD OF 'testgatelaw07.RevisionBytes'. -/
def revisionBytesUptoCard : Claim7 := { stood := { row := revisionBytesUptoRow, standIns := [], harness := (true, "e65908e71c78259d5fc759cf4da4f703cb3d4821aea3157510fa2bd585b0c32b"), looks := false }, kinds := [], alts := [], laidByText := true, laidKinds := [.data, .pinned], laidTests := true, laidLooks := .later }
def RevisionBytesUptoCardSaid : Prop := Claim7.holds Tryz.pinned (.plain (OpenSpec.upto revisionBytesSpec)) revisionBytesUptoCard
end Rows
end Go.Proofs.YtfodebccikifcaaGreatDoor
