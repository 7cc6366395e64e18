/- The plain law of WireDamage. No condition. -/
import Derived.Test.YtfodebccikifcaaDoorWrManyr1
namespace Go.Proofs.YtfodebccikifcaaDoor
open Go Go.Dc
end Go.Proofs.YtfodebccikifcaaDoor
