/-
  DERIVED. GIVEN WITH THE SEED: THE CARDS: each row of YthbfjomffkpjdaaGreatDoorRows.lean that lists a variable, with what it lists TIED to the program's text (the seventh form; the later family's looks); each row that meets fmt, with fmt's text TOLD by the authors' own Lean function (tested against real Go, not proved from fmt's source: count such statements apart). THE CARD IS WHAT COUNTS. Prove the row's statement (the work); the ties are given (YthbfjomffkpjdaaGreatDoorTie.lean); close each card by the builder's one call (the guide's Derived/Test/ToyasCard.lean, 'card_holds'). Laid BY PROGRAM, IN A SANDBOX (cutbox-door.mjs). By AI agents, Wed Nov 11 2026. No macro, syntax, notation, axiom, sorry.
-/
import Derived.Test.YthbfjomffkpjdaaGreatDoorRows
import GoSem.ClaimSeven
namespace Go.Proofs.YthbfjomffkpjdaaGreatDoor
namespace Rows

/-- THE TIED CARD OF 'testgatelaw05.SourceFormats'. -/
def sourceFormatsCard : Claim7 := { stood := { row := sourceFormatsRow, standIns := [], harness := (true, "af403634b3356bfead785136f74116cbc3db8a5753a8d5953748bf01a04877a3"), looks := true }, kinds := [], alts := [], laidByText := true, laidKinds := [.data, .data, .data, .data, .pinned], laidTests := true, laidLooks := .later }
def SourceFormatsCardSaid : Prop := Claim7.holds Tryz.pinned (.plain (OpenSpec.ofChange sourceFormatsSpec)) sourceFormatsCard

/-- THE SECOND FORM's CARD OF 'testgatelaw05.SourceFormats'. -/
def sourceFormatsUptoCard : Claim7 := { stood := { row := sourceFormatsUptoRow, standIns := [], harness := (true, "af403634b3356bfead785136f74116cbc3db8a5753a8d5953748bf01a04877a3"), looks := true }, kinds := [], alts := [], laidByText := true, laidKinds := [.data, .data, .data, .data, .pinned], laidTests := true, laidLooks := .later }
def SourceFormatsUptoCardSaid : Prop := Claim7.holds Tryz.pinned (.plain (OpenSpec.upto sourceFormatsSpec)) sourceFormatsUptoCard
end Rows
end Go.Proofs.YthbfjomffkpjdaaGreatDoor
