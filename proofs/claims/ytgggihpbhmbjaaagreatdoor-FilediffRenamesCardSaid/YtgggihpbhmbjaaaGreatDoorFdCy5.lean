/- The reference's list of all changes is the program's. No condition. -/
import Derived.Test.YtgggihpbhmbjaaaGreatDoorFdBy5
namespace Go.Proofs.YtgggihpbhmbjaaaGreatDoor
open Go Go.Dc Go.Sort Go.Proofs
end Go.Proofs.YtgggihpbhmbjaaaGreatDoor
