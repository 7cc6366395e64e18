/- The plain law of RevisionRaw, where what it reads is small. No condition. -/
import Derived.Test.YtfodebccikifcaaDoorRevFr1
namespace Go.Proofs.YtfodebccikifcaaDoor
open Go Go.Dc
theorem smallPaths {N : Nat} {L : List File} (h : ∀ f ∈ L, f.1.size ≤ 1048576) (hN : 3000000 < N) : PathsOk N L := fun g hg => Path_eq (by have := h g hg; omega) (by have := h g hg; omega)
theorem testgatelaw07_RevisionRaw_true (L : List File) (gL : L.length ≤ 1048576 ∧ ∀ f ∈ L, f.1.size ≤ 1048576 ∧ f.2.size ≤ 1048576) (l : List UInt8) (_gl : l.length ≤ 1048576 ∧ ∀ x ∈ l, True) : ∃ N, testgatelaw07_RevisionRaw N L l = some true := by
 refine ⟨10000000, ?_⟩
 have hcut : ∃ o, (if (decide ((List.length l : Int) > 2000)) = true then ((subS l 0 2000).bind fun l1 => some l1) else (some l) : Option (List UInt8)) = some o ∧ o.length ≤ 2000 := by
  by_cases h : 2000 < l.length
  ·rw [if_pos (by simp only [decide_eq_true_eq]; omega), subS_some (by omega) (by omega) (by omega)]
   exact ⟨_, rfl, by simp only [List.length_drop, List.length_take]; omega⟩
  ·rw [if_neg (by simp only [decide_eq_true_eq]; omega)]
   exact ⟨_, rfl, by omega⟩
 obtain ⟨o, ho1, ho2⟩ := hcut
 have hP : PathsOk 10000000 L := smallPaths (fun f hf => (gL.2 f hf).1) (by omega)
 simp only [testgatelaw07_RevisionRaw, ho1, Option.bind_some, Encode_eq hP (show 20000 < 10000000 by omega), refEncode_eq (show 20000 < 10000000 by omega), Check_eq hP (show 100 < 10000000 by omega), refCheck_eq (show 100 < 10000000 by omega), beq_self_eq_true, if_true, same_eq, decodes_eq (show o.length ≤ 10000000 by omega) (show 2 * o.length + 1000 < 10000000 by omega), awake_eq (show 3000000 < 10000000 by omega)]
end Go.Proofs.YtfodebccikifcaaDoor
