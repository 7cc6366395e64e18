/-
  DERIVED. GIVEN WITH THE SEED: THE CARDS: each row of YthiiggmmmoolbaaGreatDoorRows.lean that lists a variable, with what it lists TIED to the program's text (the seventh form; the later family's looks); each row that meets fmt, with fmt's text TOLD by the authors' own Lean function (tested against real Go, not proved from fmt's source: count such statements apart). THE CARD IS WHAT COUNTS. Prove the row's statement (the work); the ties are given (YthiiggmmmoolbaaGreatDoorTie.lean); close each card by the builder's one call (the guide's Derived/Test/ToyasCard.lean, 'card_holds'). Laid BY PROGRAM, IN A SANDBOX (cutbox-door.mjs). By AI agents, Wed Nov 11 2026. No macro, syntax, notation, axiom, sorry.
-/
import Derived.Test.YthiiggmmmoolbaaGreatDoorRows
import GoSem.ClaimSeven
namespace Go.Proofs.YthiiggmmmoolbaaGreatDoor
namespace Rows

/-- THE TIED CARD OF 'testgatelaw05.SourceBack'. -/
def sourceBackCard : Claim7 := { stood := { row := sourceBackRow, standIns := [], harness := (true, "fe7bf1407b6140c7ed1b199956b344a7d12192b30214a8c2610cbf96caf4947c"), looks := true }, kinds := [], alts := [], laidByText := true, laidKinds := [.data, .data, .data, .data, .pinned], laidTests := true, laidLooks := .later }
def SourceBackCardSaid : Prop := Claim7.holds Tryz.pinned (.plain (OpenSpec.ofChange sourceBackSpec)) sourceBackCard

/-- THE TIED CARD OF 'testgatelaw05.SourceFormats'. -/
def sourceFormatsCard : Claim7 := { stood := { row := sourceFormatsRow, standIns := [], harness := (true, "fe7bf1407b6140c7ed1b199956b344a7d12192b30214a8c2610cbf96caf4947c"), looks := true }, kinds := [], alts := [], laidByText := true, laidKinds := [.data, .data, .data, .data, .pinned], laidTests := true, laidLooks := .later }
def SourceFormatsCardSaid : Prop := Claim7.holds Tryz.pinned (.plain (OpenSpec.ofChange sourceFormatsSpec)) sourceFormatsCard

/-- THE TIED CARD OF 'testgatelaw06.MentionTexts'. -/
def mentionTextsCard : Claim7 := { stood := { row := mentionTextsRow, standIns := [], harness := (true, "fe7bf1407b6140c7ed1b199956b344a7d12192b30214a8c2610cbf96caf4947c"), looks := true }, kinds := [], alts := [], laidByText := true, laidKinds := [.data, .data, .data, .data, .pinned], laidTests := true, laidLooks := .later }
def MentionTextsCardSaid : Prop := Claim7.holds Tryz.pinned (.plain (OpenSpec.ofChange mentionTextsSpec)) mentionTextsCard

/-- THE TIED CARD OF 'testgatelaw06.MentionCanonical'. -/
def mentionCanonicalCard : Claim7 := { stood := { row := mentionCanonicalRow, standIns := [], harness := (true, "fe7bf1407b6140c7ed1b199956b344a7d12192b30214a8c2610cbf96caf4947c"), looks := true }, kinds := [], alts := [], laidByText := true, laidKinds := [.data, .data, .data, .data, .pinned], laidTests := true, laidLooks := .later }
def MentionCanonicalCardSaid : Prop := Claim7.holds Tryz.pinned (.plain (OpenSpec.ofChange mentionCanonicalSpec)) mentionCanonicalCard

/-- THE SECOND FORM's CARD OF 'testgatelaw05.SourceBack'. -/
def sourceBackUptoCard : Claim7 := { stood := { row := sourceBackUptoRow, standIns := [], harness := (true, "fe7bf1407b6140c7ed1b199956b344a7d12192b30214a8c2610cbf96caf4947c"), looks := true }, kinds := [], alts := [], laidByText := true, laidKinds := [.data, .data, .data, .data, .pinned], laidTests := true, laidLooks := .later }
def SourceBackUptoCardSaid : Prop := Claim7.holds Tryz.pinned (.plain (OpenSpec.upto sourceBackSpec)) sourceBackUptoCard

/-- THE SECOND FORM's CARD OF 'testgatelaw05.SourceFormats'. -/
def sourceFormatsUptoCard : Claim7 := { stood := { row := sourceFormatsUptoRow, standIns := [], harness := (true, "fe7bf1407b6140c7ed1b199956b344a7d12192b30214a8c2610cbf96caf4947c"), looks := true }, kinds := [], alts := [], laidByText := true, laidKinds := [.data, .data, .data, .data, .pinned], laidTests := true, laidLooks := .later }
def SourceFormatsUptoCardSaid : Prop := Claim7.holds Tryz.pinned (.plain (OpenSpec.upto sourceFormatsSpec)) sourceFormatsUptoCard

/-- THE SECOND FORM's CARD OF 'testgatelaw06.MentionTexts'. -/
def mentionTextsUptoCard : Claim7 := { stood := { row := mentionTextsUptoRow, standIns := [], harness := (true, "fe7bf1407b6140c7ed1b199956b344a7d12192b30214a8c2610cbf96caf4947c"), looks := true }, kinds := [], alts := [], laidByText := true, laidKinds := [.data, .data, .data, .data, .pinned], laidTests := true, laidLooks := .later }
def MentionTextsUptoCardSaid : Prop := Claim7.holds Tryz.pinned (.plain (OpenSpec.upto mentionTextsSpec)) mentionTextsUptoCard

/-- THE SECOND FORM's CARD OF 'testgatelaw06.MentionCanonical'. -/
def mentionCanonicalUptoCard : Claim7 := { stood := { row := mentionCanonicalUptoRow, standIns := [], harness := (true, "fe7bf1407b6140c7ed1b199956b344a7d12192b30214a8c2610cbf96caf4947c"), looks := true }, kinds := [], alts := [], laidByText := true, laidKinds := [.data, .data, .data, .data, .pinned], laidTests := true, laidLooks := .later }
def MentionCanonicalUptoCardSaid : Prop := Claim7.holds Tryz.pinned (.plain (OpenSpec.upto mentionCanonicalSpec)) mentionCanonicalUptoCard
end Rows
end Go.Proofs.YthiiggmmmoolbaaGreatDoor
