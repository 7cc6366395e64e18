/-
  DERIVED. GIVEN WITH THE SEED: THE CARDS: each row of YtiblcebedkllpaaGreatDoorRows.lean that lists a variable, with what it lists TIED to the program's text (the seventh form; the later family's looks); each row that meets fmt, with fmt's text TOLD by the authors' own Lean function (tested against real Go, not proved from fmt's source: count such statements apart). THE CARD IS WHAT COUNTS. Prove the row's statement (the work); the ties are given (YtiblcebedkllpaaGreatDoorTie.lean); close each card by the builder's one call (the guide's Derived/Test/ToyasCard.lean, 'card_holds'). Laid BY PROGRAM, IN A SANDBOX (cutbox-door.mjs). By AI agents, Wed Nov 11 2026. No macro, syntax, notation, axiom, sorry.
-/
import Derived.Test.YtiblcebedkllpaaGreatDoorRows
import GoSem.ClaimSeven
namespace Go.Proofs.YtiblcebedkllpaaGreatDoor
namespace Rows

/-- THE TIED CARD OF 'testgatelaw09.ResolveCalls'. -/
def resolveCallsCard : Claim7 := { stood := { row := resolveCallsRow, standIns := [], harness := (true, "2c8fa766194cf9e6d420bdccdc0efa6594be567b25c2914ab30dbcb94d582263"), looks := true }, kinds := [], alts := [], laidByText := true, laidKinds := [.data, .pinned], laidTests := true, laidLooks := .later }
def ResolveCallsCardSaid : Prop := Claim7.holds Tryz.pinned (.plain (OpenSpec.ofChange resolveCallsSpec)) resolveCallsCard

/-- THE TIED CARD OF 'testgatelaw09.ResolveDecides'. -/
def resolveDecidesCard : Claim7 := { stood := { row := resolveDecidesRow, standIns := [], harness := (true, "2c8fa766194cf9e6d420bdccdc0efa6594be567b25c2914ab30dbcb94d582263"), looks := true }, kinds := [], alts := [], laidByText := true, laidKinds := [.data, .pinned], laidTests := true, laidLooks := .later }
def ResolveDecidesCardSaid : Prop := Claim7.holds Tryz.pinned (.plain (OpenSpec.ofChange resolveDecidesSpec)) resolveDecidesCard

/-- THE TIED CARD OF 'testgatelaw18.IndexCalls'. -/
def indexCallsCard : Claim7 := { stood := { row := indexCallsRow, standIns := [], harness := (true, "2c8fa766194cf9e6d420bdccdc0efa6594be567b25c2914ab30dbcb94d582263"), looks := true }, kinds := [], alts := [], laidByText := true, laidKinds := [.data, .pinned], laidTests := true, laidLooks := .later }
def IndexCallsCardSaid : Prop := Claim7.holds Tryz.pinned (.plain (OpenSpec.ofChange indexCallsSpec)) indexCallsCard

/-- THE TIED CARD OF 'testgatelaw05.SourceRaw'. -/
def sourceRawCard : Claim7 := { stood := { row := sourceRawRow, standIns := [], harness := (true, "2c8fa766194cf9e6d420bdccdc0efa6594be567b25c2914ab30dbcb94d582263"), looks := true }, kinds := [], alts := [], laidByText := true, laidKinds := [.data, .data, .data, .data, .pinned], laidTests := true, laidLooks := .later }
def SourceRawCardSaid : Prop := Claim7.holds Tryz.pinned (.plain (OpenSpec.ofChange sourceRawSpec)) sourceRawCard

/-- THE TIED CARD OF 'testgatelaw05.SourceBack'. -/
def sourceBackCard : Claim7 := { stood := { row := sourceBackRow, standIns := [], harness := (true, "2c8fa766194cf9e6d420bdccdc0efa6594be567b25c2914ab30dbcb94d582263"), looks := true }, kinds := [], alts := [], laidByText := true, laidKinds := [.data, .data, .data, .data, .pinned], laidTests := true, laidLooks := .later }
def SourceBackCardSaid : Prop := Claim7.holds Tryz.pinned (.plain (OpenSpec.ofChange sourceBackSpec)) sourceBackCard

/-- THE TIED CARD OF 'testgatelaw05.SourceParens'. -/
def sourceParensCard : Claim7 := { stood := { row := sourceParensRow, standIns := [], harness := (true, "2c8fa766194cf9e6d420bdccdc0efa6594be567b25c2914ab30dbcb94d582263"), looks := true }, kinds := [], alts := [], laidByText := true, laidKinds := [.data, .data, .data, .data, .pinned], laidTests := true, laidLooks := .later }
def SourceParensCardSaid : Prop := Claim7.holds Tryz.pinned (.plain (OpenSpec.ofChange sourceParensSpec)) sourceParensCard

/-- THE TIED CARD OF 'testgatelaw05.SourceFormats'. -/
def sourceFormatsCard : Claim7 := { stood := { row := sourceFormatsRow, standIns := [], harness := (true, "2c8fa766194cf9e6d420bdccdc0efa6594be567b25c2914ab30dbcb94d582263"), looks := true }, kinds := [], alts := [], laidByText := true, laidKinds := [.data, .data, .data, .data, .pinned], laidTests := true, laidLooks := .later }
def SourceFormatsCardSaid : Prop := Claim7.holds Tryz.pinned (.plain (OpenSpec.ofChange sourceFormatsSpec)) sourceFormatsCard

/-- THE SECOND FORM's CARD OF 'testgatelaw09.ResolveCalls'. -/
def resolveCallsUptoCard : Claim7 := { stood := { row := resolveCallsUptoRow, standIns := [], harness := (true, "2c8fa766194cf9e6d420bdccdc0efa6594be567b25c2914ab30dbcb94d582263"), looks := true }, kinds := [], alts := [], laidByText := true, laidKinds := [.data, .pinned], laidTests := true, laidLooks := .later }
def ResolveCallsUptoCardSaid : Prop := Claim7.holds Tryz.pinned (.plain (OpenSpec.upto resolveCallsSpec)) resolveCallsUptoCard

/-- THE SECOND FORM's CARD OF 'testgatelaw09.ResolveDecides'. -/
def resolveDecidesUptoCard : Claim7 := { stood := { row := resolveDecidesUptoRow, standIns := [], harness := (true, "2c8fa766194cf9e6d420bdccdc0efa6594be567b25c2914ab30dbcb94d582263"), looks := true }, kinds := [], alts := [], laidByText := true, laidKinds := [.data, .pinned], laidTests := true, laidLooks := .later }
def ResolveDecidesUptoCardSaid : Prop := Claim7.holds Tryz.pinned (.plain (OpenSpec.upto resolveDecidesSpec)) resolveDecidesUptoCard

/-- THE SECOND FORM's CARD OF 'testgatelaw18.IndexCalls'. -/
def indexCallsUptoCard : Claim7 := { stood := { row := indexCallsUptoRow, standIns := [], harness := (true, "2c8fa766194cf9e6d420bdccdc0efa6594be567b25c2914ab30dbcb94d582263"), looks := true }, kinds := [], alts := [], laidByText := true, laidKinds := [.data, .pinned], laidTests := true, laidLooks := .later }
def IndexCallsUptoCardSaid : Prop := Claim7.holds Tryz.pinned (.plain (OpenSpec.upto indexCallsSpec)) indexCallsUptoCard

/-- THE SECOND FORM's CARD OF 'testgatelaw05.SourceRaw'. -/
def sourceRawUptoCard : Claim7 := { stood := { row := sourceRawUptoRow, standIns := [], harness := (true, "2c8fa766194cf9e6d420bdccdc0efa6594be567b25c2914ab30dbcb94d582263"), looks := true }, kinds := [], alts := [], laidByText := true, laidKinds := [.data, .data, .data, .data, .pinned], laidTests := true, laidLooks := .later }
def SourceRawUptoCardSaid : Prop := Claim7.holds Tryz.pinned (.plain (OpenSpec.upto sourceRawSpec)) sourceRawUptoCard

/-- THE SECOND FORM's CARD OF 'testgatelaw05.SourceBack'. -/
def sourceBackUptoCard : Claim7 := { stood := { row := sourceBackUptoRow, standIns := [], harness := (true, "2c8fa766194cf9e6d420bdccdc0efa6594be567b25c2914ab30dbcb94d582263"), looks := true }, kinds := [], alts := [], laidByText := true, laidKinds := [.data, .data, .data, .data, .pinned], laidTests := true, laidLooks := .later }
def SourceBackUptoCardSaid : Prop := Claim7.holds Tryz.pinned (.plain (OpenSpec.upto sourceBackSpec)) sourceBackUptoCard

/-- THE SECOND FORM's CARD OF 'testgatelaw05.SourceParens'. -/
def sourceParensUptoCard : Claim7 := { stood := { row := sourceParensUptoRow, standIns := [], harness := (true, "2c8fa766194cf9e6d420bdccdc0efa6594be567b25c2914ab30dbcb94d582263"), looks := true }, kinds := [], alts := [], laidByText := true, laidKinds := [.data, .data, .data, .data, .pinned], laidTests := true, laidLooks := .later }
def SourceParensUptoCardSaid : Prop := Claim7.holds Tryz.pinned (.plain (OpenSpec.upto sourceParensSpec)) sourceParensUptoCard

/-- THE SECOND FORM's CARD OF 'testgatelaw05.SourceFormats'. -/
def sourceFormatsUptoCard : Claim7 := { stood := { row := sourceFormatsUptoRow, standIns := [], harness := (true, "2c8fa766194cf9e6d420bdccdc0efa6594be567b25c2914ab30dbcb94d582263"), looks := true }, kinds := [], alts := [], laidByText := true, laidKinds := [.data, .data, .data, .data, .pinned], laidTests := true, laidLooks := .later }
def SourceFormatsUptoCardSaid : Prop := Claim7.holds Tryz.pinned (.plain (OpenSpec.upto sourceFormatsSpec)) sourceFormatsUptoCard
end Rows
end Go.Proofs.YtiblcebedkllpaaGreatDoor
