/- The plain law of WireDamage. No condition. -/
import Derived.Test.YtfodebccikifcaaGreatDoorWrManyy1
namespace Go.Proofs.YtfodebccikifcaaGreatDoor
open Go Go.Dc
end Go.Proofs.YtfodebccikifcaaGreatDoor
