/-
  DERIVED. GIVEN WITH THE SEED: THE CARDS: each row of YtfbdkahdgbimeaaGreatDoorRows.lean that lists a variable, with what it lists TIED to the program's text (the seventh form; the later family's looks); each row that meets fmt, with fmt's text TOLD by the authors' own Lean function (tested against real Go, not proved from fmt's source: count such statements apart). THE CARD IS WHAT COUNTS. Prove the row's statement (the work); the ties are given (YtfbdkahdgbimeaaGreatDoorTie.lean); close each card by the builder's one call (the guide's Derived/Test/ToyasCard.lean, 'card_holds'). Laid BY PROGRAM, IN A SANDBOX (cutbox-door.mjs). By AI agents, Wed Nov 11 2026. No macro, syntax, notation, axiom, sorry.
-/
import Derived.Test.YtfbdkahdgbimeaaGreatDoorRows
import GoSem.ClaimSeven
namespace Go.Proofs.YtfbdkahdgbimeaaGreatDoor
namespace Rows

/-- THE TIED CARD OF 'testgatelaw12.LevelSafe'. -/
def levelSafeCard : Claim7 := { stood := { row := levelSafeRow, standIns := [], harness := (true, "e98eaa155bf9953b54849b20ce2bf4eccb6547457f298aedb13cccbb6a67b368"), looks := false }, kinds := [], alts := [], laidByText := true, laidKinds := [.data, .pinned], laidTests := true, laidLooks := .later }
def LevelSafeCardSaid : Prop := Claim7.holds Tryz.pinned (.plain (OpenSpec.ofChange levelSafeSpec)) levelSafeCard

/-- THE SECOND FORM's CARD OF 'testgatelaw12.LevelSafe'. -/
def levelSafeUptoCard : Claim7 := { stood := { row := levelSafeUptoRow, standIns := [], harness := (true, "e98eaa155bf9953b54849b20ce2bf4eccb6547457f298aedb13cccbb6a67b368"), looks := false }, kinds := [], alts := [], laidByText := true, laidKinds := [.data, .pinned], laidTests := true, laidLooks := .later }
def LevelSafeUptoCardSaid : Prop := Claim7.holds Tryz.pinned (.plain (OpenSpec.upto levelSafeSpec)) levelSafeUptoCard
end Rows
end Go.Proofs.YtfbdkahdgbimeaaGreatDoor
