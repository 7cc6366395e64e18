/-
  DERIVED. GIVEN WITH THE SEED: THE CARDS: each row of YteclmpmonbnooaaGreatDoorRows.lean that lists a variable, with what it lists TIED to the program's text (the seventh form; the later family's looks); each row that meets fmt, with fmt's text TOLD by the authors' own Lean function (tested against real Go, not proved from fmt's source: count such statements apart). THE CARD IS WHAT COUNTS. Prove the row's statement (the work); the ties are given (YteclmpmonbnooaaGreatDoorTie.lean); close each card by the builder's one call (the guide's Derived/Test/ToyasCard.lean, 'card_holds'). Laid BY PROGRAM, IN A SANDBOX (cutbox-door.mjs). By AI agents, Wed Nov 11 2026. No macro, syntax, notation, axiom, sorry.
-/
import Derived.Test.YteclmpmonbnooaaGreatDoorRows
import GoSem.ClaimSeven
namespace Go.Proofs.YteclmpmonbnooaaGreatDoor
namespace Rows

/-- THE TIED CARD OF 'testgatelaw12.LevelRuns'. -/
def levelRunsCard : Claim7 := { stood := { row := levelRunsRow, standIns := [], harness := (true, "98204ba96b533ed88024e270423ea198e271538b62ac07f4522362222cca726a"), looks := false }, kinds := [], alts := [], laidByText := true, laidKinds := [.data, .pinned], laidTests := true, laidLooks := .later }
def LevelRunsCardSaid : Prop := Claim7.holds Tryz.pinned (.plain (OpenSpec.ofChange levelRunsSpec)) levelRunsCard

/-- THE SECOND FORM's CARD OF 'testgatelaw12.LevelRuns'. -/
def levelRunsUptoCard : Claim7 := { stood := { row := levelRunsUptoRow, standIns := [], harness := (true, "98204ba96b533ed88024e270423ea198e271538b62ac07f4522362222cca726a"), looks := false }, kinds := [], alts := [], laidByText := true, laidKinds := [.data, .pinned], laidTests := true, laidLooks := .later }
def LevelRunsUptoCardSaid : Prop := Claim7.holds Tryz.pinned (.plain (OpenSpec.upto levelRunsSpec)) levelRunsUptoCard
end Rows
end Go.Proofs.YteclmpmonbnooaaGreatDoor
