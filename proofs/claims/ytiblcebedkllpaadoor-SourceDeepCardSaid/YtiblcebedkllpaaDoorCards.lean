/-
  DERIVED. GIVEN WITH THE SEED: THE CARDS: each row of YtiblcebedkllpaaDoorRows.lean that lists a variable, with what it lists TIED to the program's text (the seventh form; the later family's looks); each row that meets fmt, with fmt's text TOLD by the authors' own Lean function (tested against real Go, not proved from fmt's source: count such statements apart). THE CARD IS WHAT COUNTS. Prove the row's statement (the work); the ties are given (YtiblcebedkllpaaDoorTie.lean); close each card by the builder's one call (the guide's Derived/Test/ToyasCard.lean, 'card_holds'). Laid BY PROGRAM, IN A SANDBOX (cutbox-door.mjs). By AI agents, Wed Nov 11 2026. No macro, syntax, notation, axiom, sorry.
-/
import Derived.Test.YtiblcebedkllpaaDoorRows
import GoSem.ClaimSeven
namespace Go.Proofs.YtiblcebedkllpaaDoor
namespace Rows

/-- THE TIED CARD OF 'testgatelaw09.ResolveHides'. -/
def resolveHidesCard : Claim7 := { stood := { row := resolveHidesRow, standIns := [], harness := (true, "1b3789e40d80b29fc639e5945c58838942d71b3c0bc532b34157ed45c7561044"), looks := true }, kinds := [], alts := [], laidByText := true, laidKinds := [.data, .pinned], laidTests := true, laidLooks := .later }
def ResolveHidesCardSaid : Prop := Claim7.holds Tryd.pinned (.plain (OpenSpec.ofChange resolveHidesSpec)) resolveHidesCard

/-- THE TIED CARD OF 'testgatelaw05.SourceDeep'. -/
def sourceDeepCard : Claim7 := { stood := { row := sourceDeepRow, standIns := [], harness := (true, "1b3789e40d80b29fc639e5945c58838942d71b3c0bc532b34157ed45c7561044"), looks := true }, kinds := [], alts := [], laidByText := true, laidKinds := [.data, .data, .data, .data, .pinned], laidTests := true, laidLooks := .later }
def SourceDeepCardSaid : Prop := Claim7.holds Tryd.pinned (.plain (OpenSpec.ofChange sourceDeepSpec)) sourceDeepCard

/-- THE SECOND FORM's CARD OF 'testgatelaw09.ResolveHides'. -/
def resolveHidesUptoCard : Claim7 := { stood := { row := resolveHidesUptoRow, standIns := [], harness := (true, "1b3789e40d80b29fc639e5945c58838942d71b3c0bc532b34157ed45c7561044"), looks := true }, kinds := [], alts := [], laidByText := true, laidKinds := [.data, .pinned], laidTests := true, laidLooks := .later }
def ResolveHidesUptoCardSaid : Prop := Claim7.holds Tryd.pinned (.plain (OpenSpec.upto resolveHidesSpec)) resolveHidesUptoCard

/-- THE SECOND FORM's CARD OF 'testgatelaw05.SourceDeep'. -/
def sourceDeepUptoCard : Claim7 := { stood := { row := sourceDeepUptoRow, standIns := [], harness := (true, "1b3789e40d80b29fc639e5945c58838942d71b3c0bc532b34157ed45c7561044"), looks := true }, kinds := [], alts := [], laidByText := true, laidKinds := [.data, .data, .data, .data, .pinned], laidTests := true, laidLooks := .later }
def SourceDeepUptoCardSaid : Prop := Claim7.holds Tryd.pinned (.plain (OpenSpec.upto sourceDeepSpec)) sourceDeepUptoCard
end Rows
end Go.Proofs.YtiblcebedkllpaaDoor
