/- The reference's list of all changes is the program's. No condition. -/
import Derived.Test.YtgggihpbhmbjaaaGreatDoorFdBy2
namespace Go.Proofs.YtgggihpbhmbjaaaGreatDoor
open Go Go.Dc Go.Sort Go.Proofs
theorem matchF_path (U : List File) (f : File) : (matchF U f).1.2.1 = f.1 := by unfold matchF; split <;> rfl
end Go.Proofs.YtgggihpbhmbjaaaGreatDoor
