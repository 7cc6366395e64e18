/- The reference's tokens are the lexer's. No condition. -/
import Derived.Test.YtgggihpbhmbjaaaGreatDoorPthLy6
namespace Go.Proofs.YtgggihpbhmbjaaaGreatDoor
open Go Go.Dc
theorem all256 {p : UInt8 → Bool} (h : ((List.range 256).all fun n => p (UInt8.ofNat n)) = true) (c : UInt8) : p c = true := by
 have := List.all_eq_true.1 h c.toNat (List.mem_range.2 c.toNat_lt)
 simpa using this
theorem letter_eq {N : Nat} (c : UInt8) : qGa N (c.toNat : Int) = some (kd c == 1) := by
 have h := all256 (p := fun c => (decide (97 ≤ c.toNat) && decide (c.toNat ≤ 122)) == (kd c == 1)) (by kernel_rfl) c
 rw [beq_iff_eq] at h
 rw [← h]
 unfold qGa
 by_cases h1 : 97 ≤ c.toNat
 ·rw [if_pos (by simp only [decide_eq_true_eq]; omega)]
  simp only [h1, decide_true, Bool.true_and, Option.bind_some]
  congr 1
  exact decide_eq_decide.2 (by omega)
 ·rw [if_neg (by simp only [decide_eq_true_eq]; omega)]
  simp [h1]
theorem inner_eq {N : Nat} (c : UInt8) : qFh N (c.toNat : Int) = some (inK [1, 2, 3] c) := by
 have h := all256 (p := fun c => (kd c == 1 || (decide (48 ≤ c.toNat) && decide (c.toNat ≤ 57) || decide (c.toNat = 95))) == inK [1, 2, 3] c) (by kernel_rfl) c
 rw [beq_iff_eq] at h
 rw [← h]
 unfold qFh
 rw [letter_eq]
 simp only [Option.bind_some]
 cases kd c == 1
 ·have e95 : ((c.toNat : Int) == 95) = decide (c.toNat = 95) := by rw [Bool.eq_iff_iff, beq_iff_eq, decide_eq_true_eq]; omega
  simp only [Bool.false_eq_true, if_false, Bool.false_or, e95]
  by_cases h1 : 48 ≤ c.toNat
  ·by_cases h2 : c.toNat ≤ 57
   ·rw [if_pos (by simp only [decide_eq_true_eq]; omega), if_pos (by simp only [decide_eq_true_eq]; omega)]; simp [h1, h2]
   ·rw [if_pos (by simp only [decide_eq_true_eq]; omega), if_neg (by simp only [decide_eq_true_eq]; omega)]; simp [h2]
  ·rw [if_neg (by simp only [decide_eq_true_eq]; omega)]; simp [h1]
 ·rfl
end Go.Proofs.YtgggihpbhmbjaaaGreatDoor
