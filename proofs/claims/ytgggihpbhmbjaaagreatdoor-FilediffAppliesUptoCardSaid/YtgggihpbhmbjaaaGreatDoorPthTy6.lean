/- The lexer's tokens, as a function. No condition. -/
import Derived.Test.YtgggihpbhmbjaaaGreatDoorLexSy6
import Derived.Test.YtgggihpbhmbjaaaGreatDoorFramey6
namespace Go.Proofs.YtgggihpbhmbjaaaGreatDoor
open Go Go.Dc
theorem mem_tw {p : UInt8 → Bool} : ∀ {l : List UInt8} {c : UInt8}, c ∈ l.takeWhile p → p c = true
 | [], _, h => by simp at h
 | x :: l, c, h => by
  cases hx : p x with
  | true =>
   rw [List.takeWhile_cons_of_pos hx] at h
   rcases List.mem_cons.1 h with rfl | h
   ·exact hx
   ·exact mem_tw h
  | false => rw [List.takeWhile_cons_of_neg (by simp [hx])] at h; cases h
theorem sub_list {s : ByteArray} {i e : Nat} (h1 : i ≤ e) (h2 : e ≤ s.data.toList.length) : subB s (i : Int) (e : Int) = some (s.extract i e) := by
 have := qGu s
 rw [subB_some (by omega) (by omega) (by omega)]
 simp
theorem sub_list' {s : ByteArray} {i : Nat} (h1 : i ≤ s.data.toList.length) : subB s (i : Int) (s.size : Int) = some (s.extract i s.data.toList.length) := by
 have hs := qGu s
 rw [← sub_list h1 (Nat.le_refl _), hs]
theorem bytes_eq' (x y : ByteArray) : (x.toList == y.toList) = decide (x = y) := by
 rw [Bool.eq_iff_iff]
 simp only [beq_iff_eq, decide_eq_true_eq]
 constructor
 ·intro h
  rw [ByteArray.toList_eq, ByteArray.toList_eq] at h
  exact Go.WideShapes.bytes_inj h
 ·rintro rfl; rfl
end Go.Proofs.YtgggihpbhmbjaaaGreatDoor
