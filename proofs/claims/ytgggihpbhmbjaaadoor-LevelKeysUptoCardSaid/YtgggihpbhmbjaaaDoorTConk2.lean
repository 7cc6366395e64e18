/- MADE BY gen.py: plain functions and the proofs that the Go functions compute them. No condition but those of each theorem. -/
import Derived.Test.YtgggihpbhmbjaaaDoorProg
import Derived.Test.YtgggihpbhmbjaaaDoorViewk2
import Derived.Test.YtgggihpbhmbjaaaDoorMapDk2
import Derived.Test.YtgggihpbhmbjaaaDoorLink2
import Derived.Test.YtgggihpbhmbjaaaDoorLoank2
import Derived.Test.YtgggihpbhmbjaaaDoorTConBk2
namespace Go.Proofs.YtgggihpbhmbjaaaDoor
open Go Go.Dc
end Go.Proofs.YtgggihpbhmbjaaaDoor
