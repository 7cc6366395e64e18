/- The reference's tokens are the lexer's. No condition. -/
import Derived.Test.YtgggihpbhmbjaaaDoorPthLk3
namespace Go.Proofs.YtgggihpbhmbjaaaDoor
open Go Go.Dc
end Go.Proofs.YtgggihpbhmbjaaaDoor
