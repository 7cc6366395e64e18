/- The reference's Apply is the program's: what is put. No condition. -/
import Derived.Test.YtgggihpbhmbjaaaGreatDoorFdFy5
namespace Go.Proofs.YtgggihpbhmbjaaaGreatDoor
open Go Go.Dc Go.Sort Go.Proofs
end Go.Proofs.YtgggihpbhmbjaaaGreatDoor
