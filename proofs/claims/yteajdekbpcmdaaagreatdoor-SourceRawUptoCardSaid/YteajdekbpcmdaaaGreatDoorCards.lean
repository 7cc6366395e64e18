/-
  DERIVED. GIVEN WITH THE SEED: THE CARDS: each row of YteajdekbpcmdaaaGreatDoorRows.lean that lists a variable, with what it lists TIED to the program's text (the seventh form; the later family's looks); each row that meets fmt, with fmt's text TOLD by the authors' own Lean function (tested against real Go, not proved from fmt's source: count such statements apart). THE CARD IS WHAT COUNTS. Prove the row's statement (the work); the ties are given (YteajdekbpcmdaaaGreatDoorTie.lean); close each card by the builder's one call (the guide's Derived/Test/ToyasCard.lean, 'card_holds'). Laid BY PROGRAM, IN A SANDBOX (cutbox-door.mjs). By AI agents, Wed Nov 11 2026. No macro, syntax, notation, axiom, sorry.
-/
import Derived.Test.YteajdekbpcmdaaaGreatDoorRows
import GoSem.ClaimSeven
namespace Go.Proofs.YteajdekbpcmdaaaGreatDoor
namespace Rows

/-- THE TIED CARD OF 'testgatelaw05.SourceRaw'. -/
def sourceRawCard : Claim7 := { stood := { row := sourceRawRow, standIns := [], harness := (true, "1c254a9208dcb1b42b0706d565bb03b3780c98457f978b20deb9d519e2063561"), looks := true }, kinds := [], alts := [], laidByText := true, laidKinds := [.data, .data, .data, .data, .pinned], laidTests := true, laidLooks := .later }
def SourceRawCardSaid : Prop := Claim7.holds Tryz.pinned (.plain (OpenSpec.ofChange sourceRawSpec)) sourceRawCard

/-- THE TIED CARD OF 'testgatelaw05.SourceBack'. -/
def sourceBackCard : Claim7 := { stood := { row := sourceBackRow, standIns := [], harness := (true, "1c254a9208dcb1b42b0706d565bb03b3780c98457f978b20deb9d519e2063561"), looks := true }, kinds := [], alts := [], laidByText := true, laidKinds := [.data, .data, .data, .data, .pinned], laidTests := true, laidLooks := .later }
def SourceBackCardSaid : Prop := Claim7.holds Tryz.pinned (.plain (OpenSpec.ofChange sourceBackSpec)) sourceBackCard

/-- THE TIED CARD OF 'testgatelaw06.MentionApart'. -/
def mentionApartCard : Claim7 := { stood := { row := mentionApartRow, standIns := [], harness := (true, "1c254a9208dcb1b42b0706d565bb03b3780c98457f978b20deb9d519e2063561"), looks := true }, kinds := [], alts := [], laidByText := true, laidKinds := [.data, .data, .data, .data, .pinned], laidTests := true, laidLooks := .later }
def MentionApartCardSaid : Prop := Claim7.holds Tryz.pinned (.plain (OpenSpec.ofChange mentionApartSpec)) mentionApartCard

/-- THE TIED CARD OF 'testgatelaw05.SourceFormats'. -/
def sourceFormatsCard : Claim7 := { stood := { row := sourceFormatsRow, standIns := [], harness := (true, "1c254a9208dcb1b42b0706d565bb03b3780c98457f978b20deb9d519e2063561"), looks := true }, kinds := [], alts := [], laidByText := true, laidKinds := [.data, .data, .data, .data, .pinned], laidTests := true, laidLooks := .later }
def SourceFormatsCardSaid : Prop := Claim7.holds Tryz.pinned (.plain (OpenSpec.ofChange sourceFormatsSpec)) sourceFormatsCard

/-- THE TIED CARD OF 'testgatelaw06.MentionTexts'. -/
def mentionTextsCard : Claim7 := { stood := { row := mentionTextsRow, standIns := [], harness := (true, "1c254a9208dcb1b42b0706d565bb03b3780c98457f978b20deb9d519e2063561"), looks := true }, kinds := [], alts := [], laidByText := true, laidKinds := [.data, .data, .data, .data, .pinned], laidTests := true, laidLooks := .later }
def MentionTextsCardSaid : Prop := Claim7.holds Tryz.pinned (.plain (OpenSpec.ofChange mentionTextsSpec)) mentionTextsCard

/-- THE TIED CARD OF 'testgatelaw06.MentionCanonical'. -/
def mentionCanonicalCard : Claim7 := { stood := { row := mentionCanonicalRow, standIns := [], harness := (true, "1c254a9208dcb1b42b0706d565bb03b3780c98457f978b20deb9d519e2063561"), looks := true }, kinds := [], alts := [], laidByText := true, laidKinds := [.data, .data, .data, .data, .pinned], laidTests := true, laidLooks := .later }
def MentionCanonicalCardSaid : Prop := Claim7.holds Tryz.pinned (.plain (OpenSpec.ofChange mentionCanonicalSpec)) mentionCanonicalCard

/-- THE SECOND FORM's CARD OF 'testgatelaw05.SourceRaw'. -/
def sourceRawUptoCard : Claim7 := { stood := { row := sourceRawUptoRow, standIns := [], harness := (true, "1c254a9208dcb1b42b0706d565bb03b3780c98457f978b20deb9d519e2063561"), looks := true }, kinds := [], alts := [], laidByText := true, laidKinds := [.data, .data, .data, .data, .pinned], laidTests := true, laidLooks := .later }
def SourceRawUptoCardSaid : Prop := Claim7.holds Tryz.pinned (.plain (OpenSpec.upto sourceRawSpec)) sourceRawUptoCard

/-- THE SECOND FORM's CARD OF 'testgatelaw05.SourceBack'. -/
def sourceBackUptoCard : Claim7 := { stood := { row := sourceBackUptoRow, standIns := [], harness := (true, "1c254a9208dcb1b42b0706d565bb03b3780c98457f978b20deb9d519e2063561"), looks := true }, kinds := [], alts := [], laidByText := true, laidKinds := [.data, .data, .data, .data, .pinned], laidTests := true, laidLooks := .later }
def SourceBackUptoCardSaid : Prop := Claim7.holds Tryz.pinned (.plain (OpenSpec.upto sourceBackSpec)) sourceBackUptoCard

/-- THE SECOND FORM's CARD OF 'testgatelaw06.MentionApart'. -/
def mentionApartUptoCard : Claim7 := { stood := { row := mentionApartUptoRow, standIns := [], harness := (true, "1c254a9208dcb1b42b0706d565bb03b3780c98457f978b20deb9d519e2063561"), looks := true }, kinds := [], alts := [], laidByText := true, laidKinds := [.data, .data, .data, .data, .pinned], laidTests := true, laidLooks := .later }
def MentionApartUptoCardSaid : Prop := Claim7.holds Tryz.pinned (.plain (OpenSpec.upto mentionApartSpec)) mentionApartUptoCard

/-- THE SECOND FORM's CARD OF 'testgatelaw05.SourceFormats'. -/
def sourceFormatsUptoCard : Claim7 := { stood := { row := sourceFormatsUptoRow, standIns := [], harness := (true, "1c254a9208dcb1b42b0706d565bb03b3780c98457f978b20deb9d519e2063561"), looks := true }, kinds := [], alts := [], laidByText := true, laidKinds := [.data, .data, .data, .data, .pinned], laidTests := true, laidLooks := .later }
def SourceFormatsUptoCardSaid : Prop := Claim7.holds Tryz.pinned (.plain (OpenSpec.upto sourceFormatsSpec)) sourceFormatsUptoCard

/-- THE SECOND FORM's CARD OF 'testgatelaw06.MentionTexts'. -/
def mentionTextsUptoCard : Claim7 := { stood := { row := mentionTextsUptoRow, standIns := [], harness := (true, "1c254a9208dcb1b42b0706d565bb03b3780c98457f978b20deb9d519e2063561"), looks := true }, kinds := [], alts := [], laidByText := true, laidKinds := [.data, .data, .data, .data, .pinned], laidTests := true, laidLooks := .later }
def MentionTextsUptoCardSaid : Prop := Claim7.holds Tryz.pinned (.plain (OpenSpec.upto mentionTextsSpec)) mentionTextsUptoCard

/-- THE SECOND FORM's CARD OF 'testgatelaw06.MentionCanonical'. -/
def mentionCanonicalUptoCard : Claim7 := { stood := { row := mentionCanonicalUptoRow, standIns := [], harness := (true, "1c254a9208dcb1b42b0706d565bb03b3780c98457f978b20deb9d519e2063561"), looks := true }, kinds := [], alts := [], laidByText := true, laidKinds := [.data, .data, .data, .data, .pinned], laidTests := true, laidLooks := .later }
def MentionCanonicalUptoCardSaid : Prop := Claim7.holds Tryz.pinned (.plain (OpenSpec.upto mentionCanonicalSpec)) mentionCanonicalUptoCard
end Rows
end Go.Proofs.YteajdekbpcmdaaaGreatDoor
