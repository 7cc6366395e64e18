/-
  DERIVED. GIVEN WITH THE SEED: THE CARDS: each row of YtgggihpbhmbjaaaGreatDoorRows.lean that lists a variable, with what it lists TIED to the program's text (the seventh form; the later family's looks); each row that meets fmt, with fmt's text TOLD by the authors' own Lean function (tested against real Go, not proved from fmt's source: count such statements apart). THE CARD IS WHAT COUNTS. Prove the row's statement (the work); the ties are given (YtgggihpbhmbjaaaGreatDoorTie.lean); close each card by the builder's one call (the guide's Derived/Test/ToyasCard.lean, 'card_holds'). Laid BY PROGRAM, IN A SANDBOX (cutbox-door.mjs). By AI agents, Wed Nov 11 2026. No macro, syntax, notation, axiom, sorry.
-/
import Derived.Test.YtgggihpbhmbjaaaGreatDoorRows
import GoSem.ClaimSeven
namespace Go.Proofs.YtgggihpbhmbjaaaGreatDoor
namespace Rows

/-- THE TIED CARD OF 'testgatelaw09.ResolveCalls'. -/
def resolveCallsCard : Claim7 := { stood := { row := resolveCallsRow, standIns := [], harness := (true, "7f0ba90ff96b047d9f1540e95d69e82272433f6c8e0118a845b16e9bc214649f"), looks := true }, kinds := [], alts := [], laidByText := true, laidKinds := [.data, .pinned], laidTests := true, laidLooks := .later }
def ResolveCallsCardSaid : Prop := Claim7.holds Tryz.pinned (.plain (OpenSpec.ofChange resolveCallsSpec)) resolveCallsCard

/-- THE TIED CARD OF 'testgatelaw09.ResolveDecides'. -/
def resolveDecidesCard : Claim7 := { stood := { row := resolveDecidesRow, standIns := [], harness := (true, "7f0ba90ff96b047d9f1540e95d69e82272433f6c8e0118a845b16e9bc214649f"), looks := true }, kinds := [], alts := [], laidByText := true, laidKinds := [.data, .pinned], laidTests := true, laidLooks := .later }
def ResolveDecidesCardSaid : Prop := Claim7.holds Tryz.pinned (.plain (OpenSpec.ofChange resolveDecidesSpec)) resolveDecidesCard

/-- THE TIED CARD OF 'testgatelaw15.FilediffChanges'. -/
def filediffChangesCard : Claim7 := { stood := { row := filediffChangesRow, standIns := [], harness := (true, "7f0ba90ff96b047d9f1540e95d69e82272433f6c8e0118a845b16e9bc214649f"), looks := true }, kinds := [], alts := [], laidByText := true, laidKinds := [.data, .pinned], laidTests := true, laidLooks := .later }
def FilediffChangesCardSaid : Prop := Claim7.holds Tryz.pinned (.plain (OpenSpec.ofChange filediffChangesSpec)) filediffChangesCard

/-- THE TIED CARD OF 'testgatelaw15.FilediffApplies'. -/
def filediffAppliesCard : Claim7 := { stood := { row := filediffAppliesRow, standIns := [], harness := (true, "7f0ba90ff96b047d9f1540e95d69e82272433f6c8e0118a845b16e9bc214649f"), looks := true }, kinds := [], alts := [], laidByText := true, laidKinds := [.data, .pinned], laidTests := true, laidLooks := .later }
def FilediffAppliesCardSaid : Prop := Claim7.holds Tryz.pinned (.plain (OpenSpec.ofChange filediffAppliesSpec)) filediffAppliesCard

/-- THE TIED CARD OF 'testgatelaw15.FilediffBack'. -/
def filediffBackCard : Claim7 := { stood := { row := filediffBackRow, standIns := [], harness := (true, "7f0ba90ff96b047d9f1540e95d69e82272433f6c8e0118a845b16e9bc214649f"), looks := true }, kinds := [], alts := [], laidByText := true, laidKinds := [.data, .pinned], laidTests := true, laidLooks := .later }
def FilediffBackCardSaid : Prop := Claim7.holds Tryz.pinned (.plain (OpenSpec.ofChange filediffBackSpec)) filediffBackCard

/-- THE TIED CARD OF 'testgatelaw15.FilediffOrder'. -/
def filediffOrderCard : Claim7 := { stood := { row := filediffOrderRow, standIns := [], harness := (true, "7f0ba90ff96b047d9f1540e95d69e82272433f6c8e0118a845b16e9bc214649f"), looks := true }, kinds := [], alts := [], laidByText := true, laidKinds := [.data, .pinned], laidTests := true, laidLooks := .later }
def FilediffOrderCardSaid : Prop := Claim7.holds Tryz.pinned (.plain (OpenSpec.ofChange filediffOrderSpec)) filediffOrderCard

/-- THE TIED CARD OF 'testgatelaw15.FilediffRenames'. -/
def filediffRenamesCard : Claim7 := { stood := { row := filediffRenamesRow, standIns := [], harness := (true, "7f0ba90ff96b047d9f1540e95d69e82272433f6c8e0118a845b16e9bc214649f"), looks := true }, kinds := [], alts := [], laidByText := true, laidKinds := [.data, .pinned], laidTests := true, laidLooks := .later }
def FilediffRenamesCardSaid : Prop := Claim7.holds Tryz.pinned (.plain (OpenSpec.ofChange filediffRenamesSpec)) filediffRenamesCard

/-- THE TIED CARD OF 'testgatelaw18.IndexCalls'. -/
def indexCallsCard : Claim7 := { stood := { row := indexCallsRow, standIns := [], harness := (true, "7f0ba90ff96b047d9f1540e95d69e82272433f6c8e0118a845b16e9bc214649f"), looks := true }, kinds := [], alts := [], laidByText := true, laidKinds := [.data, .pinned], laidTests := true, laidLooks := .later }
def IndexCallsCardSaid : Prop := Claim7.holds Tryz.pinned (.plain (OpenSpec.ofChange indexCallsSpec)) indexCallsCard

/-- THE SECOND FORM's CARD OF 'testgatelaw09.ResolveCalls'. -/
def resolveCallsUptoCard : Claim7 := { stood := { row := resolveCallsUptoRow, standIns := [], harness := (true, "7f0ba90ff96b047d9f1540e95d69e82272433f6c8e0118a845b16e9bc214649f"), looks := true }, kinds := [], alts := [], laidByText := true, laidKinds := [.data, .pinned], laidTests := true, laidLooks := .later }
def ResolveCallsUptoCardSaid : Prop := Claim7.holds Tryz.pinned (.plain (OpenSpec.upto resolveCallsSpec)) resolveCallsUptoCard

/-- THE SECOND FORM's CARD OF 'testgatelaw09.ResolveDecides'. -/
def resolveDecidesUptoCard : Claim7 := { stood := { row := resolveDecidesUptoRow, standIns := [], harness := (true, "7f0ba90ff96b047d9f1540e95d69e82272433f6c8e0118a845b16e9bc214649f"), looks := true }, kinds := [], alts := [], laidByText := true, laidKinds := [.data, .pinned], laidTests := true, laidLooks := .later }
def ResolveDecidesUptoCardSaid : Prop := Claim7.holds Tryz.pinned (.plain (OpenSpec.upto resolveDecidesSpec)) resolveDecidesUptoCard

/-- THE SECOND FORM's CARD OF 'testgatelaw15.FilediffChanges'. -/
def filediffChangesUptoCard : Claim7 := { stood := { row := filediffChangesUptoRow, standIns := [], harness := (true, "7f0ba90ff96b047d9f1540e95d69e82272433f6c8e0118a845b16e9bc214649f"), looks := true }, kinds := [], alts := [], laidByText := true, laidKinds := [.data, .pinned], laidTests := true, laidLooks := .later }
def FilediffChangesUptoCardSaid : Prop := Claim7.holds Tryz.pinned (.plain (OpenSpec.upto filediffChangesSpec)) filediffChangesUptoCard

/-- THE SECOND FORM's CARD OF 'testgatelaw15.FilediffApplies'. -/
def filediffAppliesUptoCard : Claim7 := { stood := { row := filediffAppliesUptoRow, standIns := [], harness := (true, "7f0ba90ff96b047d9f1540e95d69e82272433f6c8e0118a845b16e9bc214649f"), looks := true }, kinds := [], alts := [], laidByText := true, laidKinds := [.data, .pinned], laidTests := true, laidLooks := .later }
def FilediffAppliesUptoCardSaid : Prop := Claim7.holds Tryz.pinned (.plain (OpenSpec.upto filediffAppliesSpec)) filediffAppliesUptoCard

/-- THE SECOND FORM's CARD OF 'testgatelaw15.FilediffBack'. -/
def filediffBackUptoCard : Claim7 := { stood := { row := filediffBackUptoRow, standIns := [], harness := (true, "7f0ba90ff96b047d9f1540e95d69e82272433f6c8e0118a845b16e9bc214649f"), looks := true }, kinds := [], alts := [], laidByText := true, laidKinds := [.data, .pinned], laidTests := true, laidLooks := .later }
def FilediffBackUptoCardSaid : Prop := Claim7.holds Tryz.pinned (.plain (OpenSpec.upto filediffBackSpec)) filediffBackUptoCard

/-- THE SECOND FORM's CARD OF 'testgatelaw15.FilediffOrder'. -/
def filediffOrderUptoCard : Claim7 := { stood := { row := filediffOrderUptoRow, standIns := [], harness := (true, "7f0ba90ff96b047d9f1540e95d69e82272433f6c8e0118a845b16e9bc214649f"), looks := true }, kinds := [], alts := [], laidByText := true, laidKinds := [.data, .pinned], laidTests := true, laidLooks := .later }
def FilediffOrderUptoCardSaid : Prop := Claim7.holds Tryz.pinned (.plain (OpenSpec.upto filediffOrderSpec)) filediffOrderUptoCard

/-- THE SECOND FORM's CARD OF 'testgatelaw15.FilediffRenames'. -/
def filediffRenamesUptoCard : Claim7 := { stood := { row := filediffRenamesUptoRow, standIns := [], harness := (true, "7f0ba90ff96b047d9f1540e95d69e82272433f6c8e0118a845b16e9bc214649f"), looks := true }, kinds := [], alts := [], laidByText := true, laidKinds := [.data, .pinned], laidTests := true, laidLooks := .later }
def FilediffRenamesUptoCardSaid : Prop := Claim7.holds Tryz.pinned (.plain (OpenSpec.upto filediffRenamesSpec)) filediffRenamesUptoCard

/-- THE SECOND FORM's CARD OF 'testgatelaw18.IndexCalls'. -/
def indexCallsUptoCard : Claim7 := { stood := { row := indexCallsUptoRow, standIns := [], harness := (true, "7f0ba90ff96b047d9f1540e95d69e82272433f6c8e0118a845b16e9bc214649f"), looks := true }, kinds := [], alts := [], laidByText := true, laidKinds := [.data, .pinned], laidTests := true, laidLooks := .later }
def IndexCallsUptoCardSaid : Prop := Claim7.holds Tryz.pinned (.plain (OpenSpec.upto indexCallsSpec)) indexCallsUptoCard
end Rows
end Go.Proofs.YtgggihpbhmbjaaaGreatDoor
