/-
  DERIVED. GIVEN WITH THE SEED: THE CARDS: each row of YtgboehjfofcogaaGreatDoorRows.lean that lists a variable, with what it lists TIED to the program's text (the seventh form; the later family's looks); each row that meets fmt, with fmt's text TOLD by the authors' own Lean function (tested against real Go, not proved from fmt's source: count such statements apart). THE CARD IS WHAT COUNTS. Prove the row's statement (the work); the ties are given (YtgboehjfofcogaaGreatDoorTie.lean); close each card by the builder's one call (the guide's Derived/Test/ToyasCard.lean, 'card_holds'). Laid BY PROGRAM, IN A SANDBOX (cutbox-door.mjs). By AI agents, Wed Nov 11 2026. No macro, syntax, notation, axiom, sorry.
-/
import Derived.Test.YtgboehjfofcogaaGreatDoorRows
import GoSem.ClaimSeven
namespace Go.Proofs.YtgboehjfofcogaaGreatDoor
namespace Rows

/-- THE TIED CARD OF 'testgatelaw18.IndexSafe'. -/
def indexSafeCard : Claim7 := { stood := { row := indexSafeRow, standIns := [], harness := (true, "febec78bf3e7192eb8ab122b376afd0bff35fa58d0801e064a21d6725e83085e"), looks := false }, kinds := [], alts := [], laidByText := true, laidKinds := [.data, .pinned], laidTests := true, laidLooks := .later }
def IndexSafeCardSaid : Prop := Claim7.holds Tryz.pinned (.plain (OpenSpec.ofChange indexSafeSpec)) indexSafeCard

/-- THE SECOND FORM's CARD OF 'testgatelaw18.IndexSafe'. -/
def indexSafeUptoCard : Claim7 := { stood := { row := indexSafeUptoRow, standIns := [], harness := (true, "febec78bf3e7192eb8ab122b376afd0bff35fa58d0801e064a21d6725e83085e"), looks := false }, kinds := [], alts := [], laidByText := true, laidKinds := [.data, .pinned], laidTests := true, laidLooks := .later }
def IndexSafeUptoCardSaid : Prop := Claim7.holds Tryz.pinned (.plain (OpenSpec.upto indexSafeSpec)) indexSafeUptoCard
end Rows
end Go.Proofs.YtgboehjfofcogaaGreatDoor
