/- The reference's Apply is the program's: what is put. No condition. -/
import Derived.Test.YtgggihpbhmbjaaaGreatDoorFdFy3
namespace Go.Proofs.YtgggihpbhmbjaaaGreatDoor
open Go Go.Dc Go.Sort Go.Proofs
theorem putsL_mem {l : List Chg} {p : ByteArray} : p ∈ putsL l ↔ ∃ c ∈ l, putB c = true ∧ c.2.1 = p := by
 unfold putsL
 simp only [List.mem_map, List.mem_filter, and_assoc]
end Go.Proofs.YtgggihpbhmbjaaaGreatDoor
