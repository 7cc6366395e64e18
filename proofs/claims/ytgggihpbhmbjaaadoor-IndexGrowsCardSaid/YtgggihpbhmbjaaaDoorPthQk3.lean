/- Paths: the lexer's and the reference's. No condition. -/
import Derived.Test.YtgggihpbhmbjaaaDoorPthRk3
namespace Go.Proofs.YtgggihpbhmbjaaaDoor
open Go Go.Dc
def sp : List UInt8 → List (List UInt8)
 | [] => [[]]
 | c :: l => if c = 47 then [] :: sp l else match sp l with
  | [] => [[c]]
  | p :: q => (c :: p) :: q
theorem sp_ne : ∀ l : List UInt8, sp l ≠ []
 | [] => by simp [sp]
 | c :: l => by
  simp only [sp]
  split
  ·simp
  ·split <;> simp
theorem sp_len : ∀ l : List UInt8, (sp l).length = l.count 47 + 1
 | [] => rfl
 | c :: l => by
  simp only [sp]
  split
  ·rename_i h; subst h; simp [sp_len l]
  ·rename_i h
   have := sp_len l
   split
   ·rename_i e; exact absurd e (sp_ne l)
   ·rename_i e
    rw [e] at this
    simp only [List.length_cons] at this ⊢
    rw [List.count_cons_of_ne h, ← this]
def notSl (c : UInt8) : Bool := c != 47
theorem sp_step : ∀ l : List UInt8, sp l = if (l.takeWhile notSl).length = l.length then [l] else l.takeWhile notSl :: sp (l.drop ((l.takeWhile notSl).length + 1))
 | [] => rfl
 | c :: l => by
  have ih := sp_step l
  by_cases h : c = 47
  ·subst h
   rw [List.takeWhile_cons_of_neg (by decide)]
   simp [sp]
  ·have hc : notSl c = true := by simpa [notSl] using h
   rw [List.takeWhile_cons_of_pos hc]
   simp only [sp, h, if_false, ih, List.length_cons, Nat.add_right_cancel_iff, List.drop_succ_cons]
   by_cases he : (l.takeWhile notSl).length = l.length
   ·simp [he]
   ·simp [he]
def pathB (l : List UInt8) : Bool := decide (l.length ≤ 80 ∧ (sp l).length ≤ 8 ∧ ∀ p ∈ sp l, 1 ≤ p.length ∧ p.length ≤ 24 ∧ ∀ c ∈ p, inK [1, 2, 3, 4] c = true)
end Go.Proofs.YtgggihpbhmbjaaaDoor
