/- The reference's Apply is the program's. No condition. -/
import Derived.Test.YtgggihpbhmbjaaaGreatDoorFdEy3
namespace Go.Proofs.YtgggihpbhmbjaaaGreatDoor
open Go Go.Dc Go.Sort Go.Proofs
end Go.Proofs.YtgggihpbhmbjaaaGreatDoor
