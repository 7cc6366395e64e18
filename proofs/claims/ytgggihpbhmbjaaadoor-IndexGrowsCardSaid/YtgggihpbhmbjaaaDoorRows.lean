/-
  NARROWER THAN 'FOR EVERY INPUT', by the rows' own cells (each row's printed sentence says how): LevelKeys: laid · LevelTwice: laid · ResolveHides: laid · IndexGrows: laid.
  DERIVED. THE GIVEN ROWS OF THIS SEAT. 4 by the template 'for every input the law returns true; each argument reads behind the call as it read before'; 0 by the template 'total and deterministic' (their statements: YtgggihpbhmbjaaaDoorTotals.lean).
  GIVEN WITH THE SEED: the statements are not yours to turn. If you find one false, say at which input.
  Laid BY PROGRAM, IN A SANDBOX (cutbox-rows.mjs): the forced cells as the released guide's own fill.sh prints them over the translation 0bab94020b1b1d51… (all of the seat's roots in one cut). By AI agents, Wed Nov 11 2026. No macro, syntax, notation, axiom, sorry.
-/
import Derived.Test.YtgggihpbhmbjaaaDoorChecked
import GoSem.PinnedTables
import GoSem.Claim
import GoSem.ClaimJoined
import GoSem.ClaimMapViews
import Derived.JoinedTies
import Derived.KernelRfl
namespace Go.Proofs.YtgggihpbhmbjaaaDoor
/- THE CELL 'sum', in the pinned program and in every row, IS THE sha256 OF THE DUMP (.gsa) THAT YtgggihpbhmbjaaaDoorProg.lean LOADS. Nothing in Lean hashes anything: it is a label: what it is worth is what the hold of that sum in a sandbox is worth. -/
noncomputable def Tryd.pinned : Pinned := { name := "ytgggihpbhmbjaaadoor", sum := "0bab94020b1b1d5190998e5fa714075bb1516b19a9f02eb8e2e38810677923ee", checked := Tryd.checked }
namespace Rows
def none {H : Type} : Left H := { results := [], args := [] }

/- WHAT THE LISTED PACKAGE-LEVEL VARIABLES READ AS WHEN THE CALL BEGINS. Each datum BY PROGRAM (the guide's laid-datum.mjs) off the statement by which the dump's own 'gosem.cut.vars' lays the variable. In a bare row this is a premise. The card (YtgggihpbhmbjaaaDoorCards.lean) ties it to the program's text. -/
def laid_unicode_utf8_acceptRanges {H : Type} : DataW H := .agg [.agg [.lit (.int .u8 128), .lit (.int .u8 191)], .agg [.lit (.int .u8 160), .lit (.int .u8 191)], .agg [.lit (.int .u8 128), .lit (.int .u8 159)], .agg [.lit (.int .u8 144), .lit (.int .u8 191)], .agg [.lit (.int .u8 128), .lit (.int .u8 143)], .agg [.lit (.int .u8 0), .lit (.int .u8 0)], .agg [.lit (.int .u8 0), .lit (.int .u8 0)], .agg [.lit (.int .u8 0), .lit (.int .u8 0)], .agg [.lit (.int .u8 0), .lit (.int .u8 0)], .agg [.lit (.int .u8 0), .lit (.int .u8 0)], .agg [.lit (.int .u8 0), .lit (.int .u8 0)], .agg [.lit (.int .u8 0), .lit (.int .u8 0)], .agg [.lit (.int .u8 0), .lit (.int .u8 0)], .agg [.lit (.int .u8 0), .lit (.int .u8 0)], .agg [.lit (.int .u8 0), .lit (.int .u8 0)], .agg [.lit (.int .u8 0), .lit (.int .u8 0)]]
/-- One of Go's own tables, pinned by name: the form's constant. -/
def laid_unicode_utf8_first : DataW Unit := Go.Pinned.utf8First

/-- 'testgatelaw12.LevelKeys': WHATEVER THE INPUT: true; the input reads as it did. -/
def levelKeysSpec : ChangeSpec := { name := "levelKeys", fn := fun _ => fun
  | [d1, d2, d3, d4] => { results := [.lit (.bool true)], args := [d1, d2, d3, d4] }
  | _ => none }
def levelKeysRow : OpenClaim := { program := "ytgggihpbhmbjaaadoor", sum := "0bab94020b1b1d5190998e5fa714075bb1516b19a9f02eb8e2e38810677923ee", func := "testgate/testgatelaw12.LevelKeys", spec := "levelKeys", inPlace := ["internal/bytealg.CountString", "internal/bytealg.IndexByteString", "internal/bytealg.IndexString", "internal/bytealg.abigen_runtime_cmpstring"], unfollowed := true, recurses := true, named := ["unicode/utf8.first", "unicode/utf8.acceptRanges", "internal/bytealg.MaxLen"], plainKeys := false, apart := false, laid := [("unicode/utf8.acceptRanges", laid_unicode_utf8_acceptRanges), ("unicode/utf8.first", laid_unicode_utf8_first)] }
def LevelKeysSaid : Prop := levelKeysRow.holds Tryd.pinned (OpenSpec.ofChange levelKeysSpec)

/-- ITS FALSE NEIGHBOUR: 'it returns false'. Refute it at one input. -/
def levelKeysWrong : ChangeSpec := { name := "levelKeys", fn := fun _ => fun
  | [d1, d2, d3, d4] => { results := [.lit (.bool false)], args := [d1, d2, d3, d4] }
  | _ => none }
def LevelKeysWrongFalsely : Prop := levelKeysRow.holds Tryd.pinned (OpenSpec.ofChange levelKeysWrong)

/-- 'testgatelaw12.LevelTwice': WHATEVER THE INPUT: true; the input reads as it did. -/
def levelTwiceSpec : ChangeSpec := { name := "levelTwice", fn := fun _ => fun
  | [d] => { results := [.lit (.bool true)], args := [d] }
  | _ => none }
def levelTwiceRow : OpenClaim := { program := "ytgggihpbhmbjaaadoor", sum := "0bab94020b1b1d5190998e5fa714075bb1516b19a9f02eb8e2e38810677923ee", func := "testgate/testgatelaw12.LevelTwice", spec := "levelTwice", inPlace := ["internal/bytealg.CountString", "internal/bytealg.IndexByteString", "internal/bytealg.IndexString", "internal/bytealg.abigen_runtime_cmpstring"], unfollowed := true, recurses := true, named := ["unicode/utf8.first", "unicode/utf8.acceptRanges", "internal/bytealg.MaxLen"], plainKeys := false, apart := false, laid := [("unicode/utf8.acceptRanges", laid_unicode_utf8_acceptRanges), ("unicode/utf8.first", laid_unicode_utf8_first)] }
def LevelTwiceSaid : Prop := levelTwiceRow.holds Tryd.pinned (OpenSpec.ofChange levelTwiceSpec)

/-- ITS FALSE NEIGHBOUR: 'it returns false'. Refute it at one input. -/
def levelTwiceWrong : ChangeSpec := { name := "levelTwice", fn := fun _ => fun
  | [d] => { results := [.lit (.bool false)], args := [d] }
  | _ => none }
def LevelTwiceWrongFalsely : Prop := levelTwiceRow.holds Tryd.pinned (OpenSpec.ofChange levelTwiceWrong)

/-- 'testgatelaw09.ResolveHides': WHATEVER THE INPUT: true; the input reads as it did. -/
def resolveHidesSpec : ChangeSpec := { name := "resolveHides", fn := fun _ => fun
  | [d1, d2] => { results := [.lit (.bool true)], args := [d1, d2] }
  | _ => none }
def resolveHidesRow : OpenClaim := { program := "ytgggihpbhmbjaaadoor", sum := "0bab94020b1b1d5190998e5fa714075bb1516b19a9f02eb8e2e38810677923ee", func := "testgate/testgatelaw09.ResolveHides", spec := "resolveHides", inPlace := ["internal/bytealg.CountString", "internal/bytealg.IndexByteString", "internal/bytealg.IndexString"], unfollowed := true, recurses := true, named := ["unicode/utf8.first", "unicode/utf8.acceptRanges", "internal/bytealg.MaxLen"], plainKeys := false, apart := false, laid := [("unicode/utf8.acceptRanges", laid_unicode_utf8_acceptRanges), ("unicode/utf8.first", laid_unicode_utf8_first)] }
def ResolveHidesSaid : Prop := resolveHidesRow.holds Tryd.pinned (OpenSpec.ofChange resolveHidesSpec)

/-- ITS FALSE NEIGHBOUR: 'it returns false'. Refute it at one input. -/
def resolveHidesWrong : ChangeSpec := { name := "resolveHides", fn := fun _ => fun
  | [d1, d2] => { results := [.lit (.bool false)], args := [d1, d2] }
  | _ => none }
def ResolveHidesWrongFalsely : Prop := resolveHidesRow.holds Tryd.pinned (OpenSpec.ofChange resolveHidesWrong)

/-- 'testgatelaw18.IndexGrows': WHATEVER THE INPUT: true; the input reads as it did. -/
def indexGrowsSpec : ChangeSpec := { name := "indexGrows", fn := fun _ => fun
  | [d] => { results := [.lit (.bool true)], args := [d] }
  | _ => none }
def indexGrowsRow : OpenClaim := { program := "ytgggihpbhmbjaaadoor", sum := "0bab94020b1b1d5190998e5fa714075bb1516b19a9f02eb8e2e38810677923ee", func := "testgate/testgatelaw18.IndexGrows", spec := "indexGrows", inPlace := ["internal/bytealg.CountString", "internal/bytealg.IndexByteString", "internal/bytealg.IndexString", "internal/bytealg.abigen_runtime_cmpstring"], unfollowed := true, recurses := true, named := ["unicode/utf8.first", "unicode/utf8.acceptRanges", "internal/bytealg.MaxLen"], plainKeys := false, apart := false, laid := [("unicode/utf8.acceptRanges", laid_unicode_utf8_acceptRanges), ("unicode/utf8.first", laid_unicode_utf8_first)] }
def IndexGrowsSaid : Prop := indexGrowsRow.holds Tryd.pinned (OpenSpec.ofChange indexGrowsSpec)

/-- ITS FALSE NEIGHBOUR: 'it returns false'. Refute it at one input. -/
def indexGrowsWrong : ChangeSpec := { name := "indexGrows", fn := fun _ => fun
  | [d] => { results := [.lit (.bool false)], args := [d] }
  | _ => none }
def IndexGrowsWrongFalsely : Prop := indexGrowsRow.holds Tryd.pinned (OpenSpec.ofChange indexGrowsWrong)

/- THE SECOND FORM. 'bulk': how many values and letters a reading holds, each counted each time it is reached (what is shared counts as often as it is met; a slice's spare places count too). A statement '..UptoSaid' is the law's where the arguments, and the package variables that the reading takes, are together of bulk at most 1048576: NARROWER than '..Said'. Prove '..Said' where nothing that the law and all that it calls make is longer than what came in: it says more and counts as full. Else prove '..UptoSaid'. A law counts once. -/
mutual
def uptoBulk {H : Type} : DataW H → Nat
  | .lit (.string bytes) => bytes.length + 1
  | .lit _ => 1
  | .nil => 1
  | .ptr d => uptoBulk d + 1
  | .slice elems spare => uptoBulkAll elems + uptoBulkAll spare + 1
  | .agg parts => uptoBulkAll parts + 1
  | .iface _ d => uptoBulk d + 1
  | .map entries => uptoBulkEntries entries + 1
  | .held _ => 1
def uptoBulkAll {H : Type} : List (DataW H) → Nat
  | [] => 0
  | d :: r => uptoBulk d + uptoBulkAll r
def uptoBulkEntries {H : Type} : List (Lit × DataW H) → Nat
  | [] => 0
  | x :: r => uptoBulkEntry x + uptoBulkEntries r
def uptoBulkEntry {H : Type} : Lit × DataW H → Nat
  | (.string bytes, d) => bytes.length + uptoBulk d + 1
  | (_, d) => uptoBulk d + 1
 end
def uptoSmall : (H : Type) → List (DataW H) → Bool := fun _ ds => decide (uptoBulkAll ds ≤ 1048576)
def OpenSpec.upto (s : _root_.Go.ChangeSpec) : _root_.Go.OpenSpec := { _root_.Go.OpenSpec.ofChange s with cond := some uptoSmall }

/-- 'testgatelaw12.LevelKeys', WHERE WHAT IT READS IS OF BULK AT MOST 1048576: true; the input reads as it did. -/
def levelKeysUptoRow : OpenClaim := { program := "ytgggihpbhmbjaaadoor", sum := "0bab94020b1b1d5190998e5fa714075bb1516b19a9f02eb8e2e38810677923ee", func := "testgate/testgatelaw12.LevelKeys", spec := "levelKeys", inPlace := ["internal/bytealg.CountString", "internal/bytealg.IndexByteString", "internal/bytealg.IndexString", "internal/bytealg.abigen_runtime_cmpstring"], unfollowed := true, recurses := true, named := ["unicode/utf8.first", "unicode/utf8.acceptRanges", "internal/bytealg.MaxLen"], plainKeys := false, apart := false, laid := [("unicode/utf8.acceptRanges", laid_unicode_utf8_acceptRanges), ("unicode/utf8.first", laid_unicode_utf8_first)], narrowed := true }
def LevelKeysUptoSaid : Prop := levelKeysUptoRow.holds Tryd.pinned (OpenSpec.upto levelKeysSpec)

/-- 'testgatelaw12.LevelTwice', WHERE WHAT IT READS IS OF BULK AT MOST 1048576: true; the input reads as it did. -/
def levelTwiceUptoRow : OpenClaim := { program := "ytgggihpbhmbjaaadoor", sum := "0bab94020b1b1d5190998e5fa714075bb1516b19a9f02eb8e2e38810677923ee", func := "testgate/testgatelaw12.LevelTwice", spec := "levelTwice", inPlace := ["internal/bytealg.CountString", "internal/bytealg.IndexByteString", "internal/bytealg.IndexString", "internal/bytealg.abigen_runtime_cmpstring"], unfollowed := true, recurses := true, named := ["unicode/utf8.first", "unicode/utf8.acceptRanges", "internal/bytealg.MaxLen"], plainKeys := false, apart := false, laid := [("unicode/utf8.acceptRanges", laid_unicode_utf8_acceptRanges), ("unicode/utf8.first", laid_unicode_utf8_first)], narrowed := true }
def LevelTwiceUptoSaid : Prop := levelTwiceUptoRow.holds Tryd.pinned (OpenSpec.upto levelTwiceSpec)

/-- 'testgatelaw09.ResolveHides', WHERE WHAT IT READS IS OF BULK AT MOST 1048576: true; the input reads as it did. -/
def resolveHidesUptoRow : OpenClaim := { program := "ytgggihpbhmbjaaadoor", sum := "0bab94020b1b1d5190998e5fa714075bb1516b19a9f02eb8e2e38810677923ee", func := "testgate/testgatelaw09.ResolveHides", spec := "resolveHides", inPlace := ["internal/bytealg.CountString", "internal/bytealg.IndexByteString", "internal/bytealg.IndexString"], unfollowed := true, recurses := true, named := ["unicode/utf8.first", "unicode/utf8.acceptRanges", "internal/bytealg.MaxLen"], plainKeys := false, apart := false, laid := [("unicode/utf8.acceptRanges", laid_unicode_utf8_acceptRanges), ("unicode/utf8.first", laid_unicode_utf8_first)], narrowed := true }
def ResolveHidesUptoSaid : Prop := resolveHidesUptoRow.holds Tryd.pinned (OpenSpec.upto resolveHidesSpec)

/-- 'testgatelaw18.IndexGrows', WHERE WHAT IT READS IS OF BULK AT MOST 1048576: true; the input reads as it did. -/
def indexGrowsUptoRow : OpenClaim := { program := "ytgggihpbhmbjaaadoor", sum := "0bab94020b1b1d5190998e5fa714075bb1516b19a9f02eb8e2e38810677923ee", func := "testgate/testgatelaw18.IndexGrows", spec := "indexGrows", inPlace := ["internal/bytealg.CountString", "internal/bytealg.IndexByteString", "internal/bytealg.IndexString", "internal/bytealg.abigen_runtime_cmpstring"], unfollowed := true, recurses := true, named := ["unicode/utf8.first", "unicode/utf8.acceptRanges", "internal/bytealg.MaxLen"], plainKeys := false, apart := false, laid := [("unicode/utf8.acceptRanges", laid_unicode_utf8_acceptRanges), ("unicode/utf8.first", laid_unicode_utf8_first)], narrowed := true }
def IndexGrowsUptoSaid : Prop := indexGrowsUptoRow.holds Tryd.pinned (OpenSpec.upto indexGrowsSpec)

end Rows
end Go.Proofs.YtgggihpbhmbjaaaDoor
