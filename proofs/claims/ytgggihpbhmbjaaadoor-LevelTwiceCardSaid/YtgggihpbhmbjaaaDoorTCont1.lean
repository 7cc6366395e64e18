/- MADE BY gen.py: plain functions and the proofs that the Go functions compute them. No condition but those of each theorem. -/
import Derived.Test.YtgggihpbhmbjaaaDoorProg
import Derived.Test.YtgggihpbhmbjaaaDoorViewt1
import Derived.Test.YtgggihpbhmbjaaaDoorMapDt1
import Derived.Test.YtgggihpbhmbjaaaDoorLint1
import Derived.Test.YtgggihpbhmbjaaaDoorTConBt1
namespace Go.Proofs.YtgggihpbhmbjaaaDoor
open Go Go.Dc
end Go.Proofs.YtgggihpbhmbjaaaDoor
