/- The plain law of WireDamage. No condition. -/
import Derived.Test.YtfodebccikifcaaDoorWrManym7
namespace Go.Proofs.YtfodebccikifcaaDoor
open Go Go.Dc

/-! ### a beginning of bytes -/
/-! ### checksums of damaged bytes -/
end Go.Proofs.YtfodebccikifcaaDoor
