/- Sorted lists without repetitions. No condition. -/
import Derived.Test.YtgggihpbhmbjaaaGreatDoorLiny6
namespace Go.Proofs.YtgggihpbhmbjaaaGreatDoor
open Go Go.Dc Go.Sort Go.Proofs
end Go.Proofs.YtgggihpbhmbjaaaGreatDoor
