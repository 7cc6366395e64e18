/- Names: the lexer's and the reference's. No condition. -/
import Derived.Test.YtgggihpbhmbjaaaDoorPthRk3
namespace Go.Proofs.YtgggihpbhmbjaaaDoor
open Go Go.Dc
def nameP (s : ByteArray) : Bool := decide (1 ≤ s.data.toList.length ∧ s.data.toList.length ≤ 24 ∧ kd (s.data.toList.getD 0 0) = 1 ∧ tw (inK [1, 2, 3]) s.data.toList 0 = s.data.toList.length)
theorem nameP_no {s : ByteArray} (h : ¬ (1 ≤ s.data.toList.length ∧ s.data.toList.length ≤ 24 ∧ kd (s.data.toList.getD 0 0) = 1 ∧ tw (inK [1, 2, 3]) s.data.toList 0 = s.data.toList.length)) : false = nameP s := (decide_eq_false h).symm
theorem Name_eq {N : Nat} {s : ByteArray} (hN : 100 < N) : lexer_Name N s = some (nameP s) := by
 have hs := size_list' s
 simp only [lexer_Name, kinds_eq (show 30 < N by omega), Option.bind_some]
 by_cases h1 : 1 ≤ s.data.toList.length
 ·by_cases h2 : s.data.toList.length ≤ 24
  ·rw [if_pos (by simp only [decide_eq_true_eq]; omega), if_pos (by simp only [decide_eq_true_eq]; omega)]
   have hi := idxB_list (s := s) (i := 0) (by omega)
   rw [show ((0 : Nat) : Int) = 0 from rfl] at hi
   rw [hi]
   simp only [Option.bind_some, kd_def, beq_iff_eq]
   have hsp := span_eq (N := N) (s := s) (ks := [1, 2, 3]) (i := 0) (by omega) (by omega) (by simp) (by omega)
   rw [show ((0 : Nat) : Int) = 0 from rfl] at hsp
   by_cases h3 : kd (s.data.toList[0]) = 1
   ·rw [if_pos h3, hsp]
    simp only [Option.bind_some]
    congr 1
    rw [Bool.eq_iff_iff, beq_iff_eq, nameP, decide_eq_true_eq, getD_in (by omega)]
    exact ⟨fun h => ⟨h1, h2, h3, by omega⟩, fun h => by have := h.2.2.2; omega⟩
   ·rw [if_neg h3]
    refine congrArg some (nameP_no fun h => ?_)
    rw [getD_in (by omega)] at h
    exact h3 h.2.2.1
  ·rw [if_pos (by simp only [decide_eq_true_eq]; omega), if_neg (by simp only [decide_eq_true_eq]; omega)]
   exact congrArg some (nameP_no fun h => h2 h.2.1)
 ·rw [if_neg (by simp only [decide_eq_true_eq]; omega)]
  exact congrArg some (nameP_no fun h => h1 h.1)
end Go.Proofs.YtgggihpbhmbjaaaDoor
