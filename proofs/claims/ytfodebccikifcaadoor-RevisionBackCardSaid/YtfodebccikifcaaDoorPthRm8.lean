/- The reference's tokens are the lexer's. No condition. -/
import Derived.Test.YtfodebccikifcaaDoorPthLm8
namespace Go.Proofs.YtfodebccikifcaaDoor
open Go Go.Dc

end Go.Proofs.YtfodebccikifcaaDoor
