/- The reference's Apply is the program's. No condition. -/
import Derived.Test.YtgggihpbhmbjaaaGreatDoorFdEy5
namespace Go.Proofs.YtgggihpbhmbjaaaGreatDoor
open Go Go.Dc Go.Sort Go.Proofs
theorem wi1 {i : Nat} (h : i < 1000000) : IntKind.wrap .i64 ((i : Int) + 1) = ((i + 1 : Nat) : Int) := by rw [wi64 (by omega) (by omega)]; omega
end Go.Proofs.YtgggihpbhmbjaaaGreatDoor
