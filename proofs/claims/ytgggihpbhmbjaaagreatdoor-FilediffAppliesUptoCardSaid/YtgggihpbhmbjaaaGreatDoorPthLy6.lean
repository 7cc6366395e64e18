/- The plain law of LexerLong. No condition. -/
import Derived.Test.YtgggihpbhmbjaaaGreatDoorPthTy6
namespace Go.Proofs.YtgggihpbhmbjaaaGreatDoor
open Go Go.Dc
theorem tw_all {p : UInt8 → Bool} {l : List UInt8} (h : ∀ c ∈ l, p c = true) : tw p l 0 = l.length := by
 unfold tw
 have : l.takeWhile p = l := by
  induction l with
  | nil => rfl
  | cons c l ih => rw [List.takeWhile_cons_of_pos (h c (List.mem_cons_self ..)), ih fun d hd => h d (List.mem_cons_of_mem _ hd)]
 simp [this]
end Go.Proofs.YtgggihpbhmbjaaaGreatDoor
