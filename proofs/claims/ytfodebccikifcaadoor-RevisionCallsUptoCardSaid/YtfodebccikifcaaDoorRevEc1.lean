/- Revisions: decoded files are no longer than the bytes. No condition. -/
import Derived.Test.YtfodebccikifcaaDoorRevDc1
namespace Go.Proofs.YtfodebccikifcaaDoor
open Go Go.Dc
end Go.Proofs.YtfodebccikifcaaDoor
