/- What changes make of a revision, path by path; the order of changes does not matter. No condition. -/
import Derived.Test.YtgggihpbhmbjaaaGreatDoorFdJy5
namespace Go.Proofs.YtgggihpbhmbjaaaGreatDoor
open Go Go.Dc Go.Sort Go.Proofs
end Go.Proofs.YtgggihpbhmbjaaaGreatDoor
