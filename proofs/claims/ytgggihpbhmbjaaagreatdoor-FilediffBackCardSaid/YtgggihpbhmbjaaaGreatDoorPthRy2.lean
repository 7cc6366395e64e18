/- The reference's tokens are the lexer's. No condition. -/
import Derived.Test.YtgggihpbhmbjaaaGreatDoorPthLy2
namespace Go.Proofs.YtgggihpbhmbjaaaGreatDoor
open Go Go.Dc
end Go.Proofs.YtgggihpbhmbjaaaGreatDoor
