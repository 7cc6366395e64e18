/- Sorted lists without repetitions. No condition. -/
import Derived.Test.YtgggihpbhmbjaaaGreatDoorLiny5
namespace Go.Proofs.YtgggihpbhmbjaaaGreatDoor
open Go Go.Dc Go.Sort Go.Proofs
end Go.Proofs.YtgggihpbhmbjaaaGreatDoor
