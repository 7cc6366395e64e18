/-
  DERIVED. GIVEN WITH THE SEED: THE CARDS: each row of YtbclhfjdmfbegaaGreatDoorRows.lean that lists a variable, with what it lists TIED to the program's text (the seventh form; the later family's looks); each row that meets fmt, with fmt's text TOLD by the authors' own Lean function (tested against real Go, not proved from fmt's source: count such statements apart). THE CARD IS WHAT COUNTS. Prove the row's statement (the work); the ties are given (YtbclhfjdmfbegaaGreatDoorTie.lean); close each card by the builder's one call (the guide's Derived/Test/ToyasCard.lean, 'card_holds'). Laid BY PROGRAM, IN A SANDBOX (cutbox-door.mjs). By AI agents, Wed Nov 11 2026. No macro, syntax, notation, axiom, sorry.
-/
import Derived.Test.YtbclhfjdmfbegaaGreatDoorRows
import GoSem.ClaimSeven
namespace Go.Proofs.YtbclhfjdmfbegaaGreatDoor
namespace Rows

/-- THE TIED CARD OF 'testgatelaw08.PackagesCalls'. -/
def packagesCallsCard : Claim7 := { stood := { row := packagesCallsRow, standIns := [], harness := (true, "1692bfa01dee4fc7bf507b2e86348800cbbab1da650109fa7ad5c5170eb5d90b"), looks := true }, kinds := [], alts := [], laidByText := true, laidKinds := [.data, .pinned], laidTests := true, laidLooks := .later }
def PackagesCallsCardSaid : Prop := Claim7.holds Tryz.pinned (.plain (OpenSpec.ofChange packagesCallsSpec)) packagesCallsCard

/-- THE SECOND FORM's CARD OF 'testgatelaw08.PackagesCalls'. -/
def packagesCallsUptoCard : Claim7 := { stood := { row := packagesCallsUptoRow, standIns := [], harness := (true, "1692bfa01dee4fc7bf507b2e86348800cbbab1da650109fa7ad5c5170eb5d90b"), looks := true }, kinds := [], alts := [], laidByText := true, laidKinds := [.data, .pinned], laidTests := true, laidLooks := .later }
def PackagesCallsUptoCardSaid : Prop := Claim7.holds Tryz.pinned (.plain (OpenSpec.upto packagesCallsSpec)) packagesCallsUptoCard
end Rows
end Go.Proofs.YtbclhfjdmfbegaaGreatDoor
