/-
  DERIVED. GIVEN WITH THE SEED: THE CARDS: each row of YtadnagdgimicdaaGreatDoorRows.lean that lists a variable, with what it lists TIED to the program's text (the seventh form; the later family's looks); each row that meets fmt, with fmt's text TOLD by the authors' own Lean function (tested against real Go, not proved from fmt's source: count such statements apart). THE CARD IS WHAT COUNTS. Prove the row's statement (the work); the ties are given (YtadnagdgimicdaaGreatDoorTie.lean); close each card by the builder's one call (the guide's Derived/Test/ToyasCard.lean, 'card_holds'). Laid BY PROGRAM, IN A SANDBOX (cutbox-door.mjs). By AI agents, Wed Nov 11 2026. No macro, syntax, notation, axiom, sorry.
-/
import Derived.Test.YtadnagdgimicdaaGreatDoorRows
import GoSem.ClaimSeven
namespace Go.Proofs.YtadnagdgimicdaaGreatDoor
namespace Rows

/-- THE TIED CARD OF 'testgatelaw10.EvaluateArithmetic'. -/
def evaluateArithmeticCard : Claim7 := { stood := { row := evaluateArithmeticRow, standIns := [], harness := (true, "3a962d2e0d4f91590acc6104cc5baee5f4d6726ca3bdf4e46dba9ec4040b1411"), looks := true }, kinds := [], alts := [], laidByText := true, laidKinds := [.data, .pinned], laidTests := true, laidLooks := .later }
def EvaluateArithmeticCardSaid : Prop := Claim7.holds Tryz.pinned (.plain (OpenSpec.ofChange evaluateArithmeticSpec)) evaluateArithmeticCard

/-- THE TIED CARD OF 'testgatelaw10.EvaluateLimits'. -/
def evaluateLimitsCard : Claim7 := { stood := { row := evaluateLimitsRow, standIns := [], harness := (true, "3a962d2e0d4f91590acc6104cc5baee5f4d6726ca3bdf4e46dba9ec4040b1411"), looks := true }, kinds := [], alts := [], laidByText := true, laidKinds := [.data, .pinned], laidTests := true, laidLooks := .later }
def EvaluateLimitsCardSaid : Prop := Claim7.holds Tryz.pinned (.plain (OpenSpec.ofChange evaluateLimitsSpec)) evaluateLimitsCard

/-- THE SECOND FORM's CARD OF 'testgatelaw10.EvaluateArithmetic'. -/
def evaluateArithmeticUptoCard : Claim7 := { stood := { row := evaluateArithmeticUptoRow, standIns := [], harness := (true, "3a962d2e0d4f91590acc6104cc5baee5f4d6726ca3bdf4e46dba9ec4040b1411"), looks := true }, kinds := [], alts := [], laidByText := true, laidKinds := [.data, .pinned], laidTests := true, laidLooks := .later }
def EvaluateArithmeticUptoCardSaid : Prop := Claim7.holds Tryz.pinned (.plain (OpenSpec.upto evaluateArithmeticSpec)) evaluateArithmeticUptoCard

/-- THE SECOND FORM's CARD OF 'testgatelaw10.EvaluateLimits'. -/
def evaluateLimitsUptoCard : Claim7 := { stood := { row := evaluateLimitsUptoRow, standIns := [], harness := (true, "3a962d2e0d4f91590acc6104cc5baee5f4d6726ca3bdf4e46dba9ec4040b1411"), looks := true }, kinds := [], alts := [], laidByText := true, laidKinds := [.data, .pinned], laidTests := true, laidLooks := .later }
def EvaluateLimitsUptoCardSaid : Prop := Claim7.holds Tryz.pinned (.plain (OpenSpec.upto evaluateLimitsSpec)) evaluateLimitsUptoCard
end Rows
end Go.Proofs.YtadnagdgimicdaaGreatDoor
