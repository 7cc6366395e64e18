/-
  DERIVED. GIVEN WITH THE SEED: THE CARDS: each row of YtgggihpbhmbjaaaDoorRows.lean that lists a variable, with what it lists TIED to the program's text (the seventh form; the later family's looks); each row that meets fmt, with fmt's text TOLD by the authors' own Lean function (tested against real Go, not proved from fmt's source: count such statements apart). THE CARD IS WHAT COUNTS. Prove the row's statement (the work); the ties are given (YtgggihpbhmbjaaaDoorTie.lean); close each card by the builder's one call (the guide's Derived/Test/ToyasCard.lean, 'card_holds'). Laid BY PROGRAM, IN A SANDBOX (cutbox-door.mjs). By AI agents, Wed Nov 11 2026. No macro, syntax, notation, axiom, sorry.
-/
import Derived.Test.YtgggihpbhmbjaaaDoorRows
import GoSem.ClaimSeven
namespace Go.Proofs.YtgggihpbhmbjaaaDoor
namespace Rows

/-- THE TIED CARD OF 'testgatelaw12.LevelKeys'. -/
def levelKeysCard : Claim7 := { stood := { row := levelKeysRow, standIns := [], harness := (true, "94e78cef7c1777dc68e67966bfaae5f7716706554cbba2850c76363108823520"), looks := true }, kinds := [], alts := [], laidByText := true, laidKinds := [.data, .pinned], laidTests := true, laidLooks := .later }
def LevelKeysCardSaid : Prop := Claim7.holds Tryd.pinned (.plain (OpenSpec.ofChange levelKeysSpec)) levelKeysCard

/-- THE TIED CARD OF 'testgatelaw12.LevelTwice'. -/
def levelTwiceCard : Claim7 := { stood := { row := levelTwiceRow, standIns := [], harness := (true, "94e78cef7c1777dc68e67966bfaae5f7716706554cbba2850c76363108823520"), looks := true }, kinds := [], alts := [], laidByText := true, laidKinds := [.data, .pinned], laidTests := true, laidLooks := .later }
def LevelTwiceCardSaid : Prop := Claim7.holds Tryd.pinned (.plain (OpenSpec.ofChange levelTwiceSpec)) levelTwiceCard

/-- THE TIED CARD OF 'testgatelaw09.ResolveHides'. -/
def resolveHidesCard : Claim7 := { stood := { row := resolveHidesRow, standIns := [], harness := (true, "94e78cef7c1777dc68e67966bfaae5f7716706554cbba2850c76363108823520"), looks := true }, kinds := [], alts := [], laidByText := true, laidKinds := [.data, .pinned], laidTests := true, laidLooks := .later }
def ResolveHidesCardSaid : Prop := Claim7.holds Tryd.pinned (.plain (OpenSpec.ofChange resolveHidesSpec)) resolveHidesCard

/-- THE TIED CARD OF 'testgatelaw18.IndexGrows'. -/
def indexGrowsCard : Claim7 := { stood := { row := indexGrowsRow, standIns := [], harness := (true, "94e78cef7c1777dc68e67966bfaae5f7716706554cbba2850c76363108823520"), looks := true }, kinds := [], alts := [], laidByText := true, laidKinds := [.data, .pinned], laidTests := true, laidLooks := .later }
def IndexGrowsCardSaid : Prop := Claim7.holds Tryd.pinned (.plain (OpenSpec.ofChange indexGrowsSpec)) indexGrowsCard

/-- THE SECOND FORM's CARD OF 'testgatelaw12.LevelKeys'. -/
def levelKeysUptoCard : Claim7 := { stood := { row := levelKeysUptoRow, standIns := [], harness := (true, "94e78cef7c1777dc68e67966bfaae5f7716706554cbba2850c76363108823520"), looks := true }, kinds := [], alts := [], laidByText := true, laidKinds := [.data, .pinned], laidTests := true, laidLooks := .later }
def LevelKeysUptoCardSaid : Prop := Claim7.holds Tryd.pinned (.plain (OpenSpec.upto levelKeysSpec)) levelKeysUptoCard

/-- THE SECOND FORM's CARD OF 'testgatelaw12.LevelTwice'. -/
def levelTwiceUptoCard : Claim7 := { stood := { row := levelTwiceUptoRow, standIns := [], harness := (true, "94e78cef7c1777dc68e67966bfaae5f7716706554cbba2850c76363108823520"), looks := true }, kinds := [], alts := [], laidByText := true, laidKinds := [.data, .pinned], laidTests := true, laidLooks := .later }
def LevelTwiceUptoCardSaid : Prop := Claim7.holds Tryd.pinned (.plain (OpenSpec.upto levelTwiceSpec)) levelTwiceUptoCard

/-- THE SECOND FORM's CARD OF 'testgatelaw09.ResolveHides'. -/
def resolveHidesUptoCard : Claim7 := { stood := { row := resolveHidesUptoRow, standIns := [], harness := (true, "94e78cef7c1777dc68e67966bfaae5f7716706554cbba2850c76363108823520"), looks := true }, kinds := [], alts := [], laidByText := true, laidKinds := [.data, .pinned], laidTests := true, laidLooks := .later }
def ResolveHidesUptoCardSaid : Prop := Claim7.holds Tryd.pinned (.plain (OpenSpec.upto resolveHidesSpec)) resolveHidesUptoCard

/-- THE SECOND FORM's CARD OF 'testgatelaw18.IndexGrows'. -/
def indexGrowsUptoCard : Claim7 := { stood := { row := indexGrowsUptoRow, standIns := [], harness := (true, "94e78cef7c1777dc68e67966bfaae5f7716706554cbba2850c76363108823520"), looks := true }, kinds := [], alts := [], laidByText := true, laidKinds := [.data, .pinned], laidTests := true, laidLooks := .later }
def IndexGrowsUptoCardSaid : Prop := Claim7.holds Tryd.pinned (.plain (OpenSpec.upto indexGrowsSpec)) indexGrowsUptoCard
end Rows
end Go.Proofs.YtgggihpbhmbjaaaDoor
