/-
  DERIVED. GIVEN WITH THE SEED: THE CARDS: each row of YtcdpbapbpcpflaaGreatDoorRows.lean that lists a variable, with what it lists TIED to the program's text (the seventh form; the later family's looks); each row that meets fmt, with fmt's text TOLD by the authors' own Lean function (tested against real Go, not proved from fmt's source: count such statements apart). THE CARD IS WHAT COUNTS. Prove the row's statement (the work); the ties are given (YtcdpbapbpcpflaaGreatDoorTie.lean); close each card by the builder's one call (the guide's Derived/Test/ToyasCard.lean, 'card_holds'). Laid BY PROGRAM, IN A SANDBOX (cutbox-door.mjs). By AI agents, Wed Nov 11 2026. No macro, syntax, notation, axiom, sorry.
-/
import Derived.Test.YtcdpbapbpcpflaaGreatDoorRows
import GoSem.ClaimSeven
namespace Go.Proofs.YtcdpbapbpcpflaaGreatDoor
namespace Rows

/-- THE TIED CARD OF 'testgatelaw12.LevelSafe'. -/
def levelSafeCard : Claim7 := { stood := { row := levelSafeRow, standIns := [], harness := (true, "4923f271ee95576421ae91d9ca5642c498f04a15793338159693d714525045f1"), looks := true }, kinds := [], alts := [], laidByText := true, laidKinds := [.data, .pinned], laidTests := true, laidLooks := .later }
def LevelSafeCardSaid : Prop := Claim7.holds Tryz.pinned (.plain (OpenSpec.ofChange levelSafeSpec)) levelSafeCard

/-- THE TIED CARD OF 'testgatelaw05.SourceParens'. -/
def sourceParensCard : Claim7 := { stood := { row := sourceParensRow, standIns := [], harness := (true, "4923f271ee95576421ae91d9ca5642c498f04a15793338159693d714525045f1"), looks := true }, kinds := [], alts := [], laidByText := true, laidKinds := [.data, .data, .data, .data, .pinned], laidTests := true, laidLooks := .later }
def SourceParensCardSaid : Prop := Claim7.holds Tryz.pinned (.plain (OpenSpec.ofChange sourceParensSpec)) sourceParensCard

/-- THE TIED CARD OF 'testgatelaw06.MentionLists'. -/
def mentionListsCard : Claim7 := { stood := { row := mentionListsRow, standIns := [], harness := (true, "4923f271ee95576421ae91d9ca5642c498f04a15793338159693d714525045f1"), looks := true }, kinds := [], alts := [], laidByText := true, laidKinds := [.data, .data, .data, .data, .pinned], laidTests := true, laidLooks := .later }
def MentionListsCardSaid : Prop := Claim7.holds Tryz.pinned (.plain (OpenSpec.ofChange mentionListsSpec)) mentionListsCard

/-- THE TIED CARD OF 'testgatelaw08.PackagesMoves'. -/
def packagesMovesCard : Claim7 := { stood := { row := packagesMovesRow, standIns := [], harness := (true, "4923f271ee95576421ae91d9ca5642c498f04a15793338159693d714525045f1"), looks := true }, kinds := [], alts := [], laidByText := true, laidKinds := [.data, .pinned], laidTests := true, laidLooks := .later }
def PackagesMovesCardSaid : Prop := Claim7.holds Tryz.pinned (.plain (OpenSpec.ofChange packagesMovesSpec)) packagesMovesCard

/-- THE TIED CARD OF 'testgatelaw08.PackagesCalls'. -/
def packagesCallsCard : Claim7 := { stood := { row := packagesCallsRow, standIns := [], harness := (true, "4923f271ee95576421ae91d9ca5642c498f04a15793338159693d714525045f1"), looks := true }, kinds := [], alts := [], laidByText := true, laidKinds := [.data, .pinned], laidTests := true, laidLooks := .later }
def PackagesCallsCardSaid : Prop := Claim7.holds Tryz.pinned (.plain (OpenSpec.ofChange packagesCallsSpec)) packagesCallsCard

/-- THE TIED CARD OF 'testgatelaw08.PackagesRaw'. -/
def packagesRawCard : Claim7 := { stood := { row := packagesRawRow, standIns := [], harness := (true, "4923f271ee95576421ae91d9ca5642c498f04a15793338159693d714525045f1"), looks := true }, kinds := [], alts := [], laidByText := true, laidKinds := [.data, .pinned], laidTests := true, laidLooks := .later }
def PackagesRawCardSaid : Prop := Claim7.holds Tryz.pinned (.plain (OpenSpec.ofChange packagesRawSpec)) packagesRawCard

/-- THE TIED CARD OF 'testgatelaw08.PackagesCounts'. -/
def packagesCountsCard : Claim7 := { stood := { row := packagesCountsRow, standIns := [], harness := (true, "4923f271ee95576421ae91d9ca5642c498f04a15793338159693d714525045f1"), looks := true }, kinds := [], alts := [], laidByText := true, laidKinds := [.data, .pinned], laidTests := true, laidLooks := .later }
def PackagesCountsCardSaid : Prop := Claim7.holds Tryz.pinned (.plain (OpenSpec.ofChange packagesCountsSpec)) packagesCountsCard

/-- THE SECOND FORM's CARD OF 'testgatelaw12.LevelSafe'. -/
def levelSafeUptoCard : Claim7 := { stood := { row := levelSafeUptoRow, standIns := [], harness := (true, "4923f271ee95576421ae91d9ca5642c498f04a15793338159693d714525045f1"), looks := true }, kinds := [], alts := [], laidByText := true, laidKinds := [.data, .pinned], laidTests := true, laidLooks := .later }
def LevelSafeUptoCardSaid : Prop := Claim7.holds Tryz.pinned (.plain (OpenSpec.upto levelSafeSpec)) levelSafeUptoCard

/-- THE SECOND FORM's CARD OF 'testgatelaw05.SourceParens'. -/
def sourceParensUptoCard : Claim7 := { stood := { row := sourceParensUptoRow, standIns := [], harness := (true, "4923f271ee95576421ae91d9ca5642c498f04a15793338159693d714525045f1"), looks := true }, kinds := [], alts := [], laidByText := true, laidKinds := [.data, .data, .data, .data, .pinned], laidTests := true, laidLooks := .later }
def SourceParensUptoCardSaid : Prop := Claim7.holds Tryz.pinned (.plain (OpenSpec.upto sourceParensSpec)) sourceParensUptoCard

/-- THE SECOND FORM's CARD OF 'testgatelaw06.MentionLists'. -/
def mentionListsUptoCard : Claim7 := { stood := { row := mentionListsUptoRow, standIns := [], harness := (true, "4923f271ee95576421ae91d9ca5642c498f04a15793338159693d714525045f1"), looks := true }, kinds := [], alts := [], laidByText := true, laidKinds := [.data, .data, .data, .data, .pinned], laidTests := true, laidLooks := .later }
def MentionListsUptoCardSaid : Prop := Claim7.holds Tryz.pinned (.plain (OpenSpec.upto mentionListsSpec)) mentionListsUptoCard

/-- THE SECOND FORM's CARD OF 'testgatelaw08.PackagesMoves'. -/
def packagesMovesUptoCard : Claim7 := { stood := { row := packagesMovesUptoRow, standIns := [], harness := (true, "4923f271ee95576421ae91d9ca5642c498f04a15793338159693d714525045f1"), looks := true }, kinds := [], alts := [], laidByText := true, laidKinds := [.data, .pinned], laidTests := true, laidLooks := .later }
def PackagesMovesUptoCardSaid : Prop := Claim7.holds Tryz.pinned (.plain (OpenSpec.upto packagesMovesSpec)) packagesMovesUptoCard

/-- THE SECOND FORM's CARD OF 'testgatelaw08.PackagesCalls'. -/
def packagesCallsUptoCard : Claim7 := { stood := { row := packagesCallsUptoRow, standIns := [], harness := (true, "4923f271ee95576421ae91d9ca5642c498f04a15793338159693d714525045f1"), looks := true }, kinds := [], alts := [], laidByText := true, laidKinds := [.data, .pinned], laidTests := true, laidLooks := .later }
def PackagesCallsUptoCardSaid : Prop := Claim7.holds Tryz.pinned (.plain (OpenSpec.upto packagesCallsSpec)) packagesCallsUptoCard

/-- THE SECOND FORM's CARD OF 'testgatelaw08.PackagesRaw'. -/
def packagesRawUptoCard : Claim7 := { stood := { row := packagesRawUptoRow, standIns := [], harness := (true, "4923f271ee95576421ae91d9ca5642c498f04a15793338159693d714525045f1"), looks := true }, kinds := [], alts := [], laidByText := true, laidKinds := [.data, .pinned], laidTests := true, laidLooks := .later }
def PackagesRawUptoCardSaid : Prop := Claim7.holds Tryz.pinned (.plain (OpenSpec.upto packagesRawSpec)) packagesRawUptoCard

/-- THE SECOND FORM's CARD OF 'testgatelaw08.PackagesCounts'. -/
def packagesCountsUptoCard : Claim7 := { stood := { row := packagesCountsUptoRow, standIns := [], harness := (true, "4923f271ee95576421ae91d9ca5642c498f04a15793338159693d714525045f1"), looks := true }, kinds := [], alts := [], laidByText := true, laidKinds := [.data, .pinned], laidTests := true, laidLooks := .later }
def PackagesCountsUptoCardSaid : Prop := Claim7.holds Tryz.pinned (.plain (OpenSpec.upto packagesCountsSpec)) packagesCountsUptoCard
end Rows
end Go.Proofs.YtcdpbapbpcpflaaGreatDoor
