/- The decompiler's rules of a range over a function. No condition. -/
import Derived.Test.YtgggihpbhmbjaaaGreatDoorDrawy6
import Derived.RangeFuncLeaves
import Derived.RangeFuncRecord
namespace Go.Dc
section
variable {ρ : Option Nat} {P : Program} {n : Fr} {ops : Array Oper} {Q : Exit → Act → World → Prop} {i d : Nat} {L : Env} {w : World} {m : Mem} {own : List Piece} {N : Env → World → Prop}
def FitsT (sz : Nat) (T : Array Value) (L : Env) : Prop := T.size = sz ∧ ∀ t v, look L t = some v → T[t]? = some v
theorem FitsT.set {sz : Nat} {T : Array Value} {L : Env} (h : FitsT sz T L) {p : Nat} (hp : p < sz) (v : Value) : FitsT sz (T.setIfInBounds p v) ((p, v) :: L) := by
 obtain ⟨h1, h2⟩ := h
 refine ⟨by simp [h1], fun t u hu => ?_⟩
 simp only [look] at hu
 by_cases hpt : p = t
 ·subst hpt
  simp at hu; subst hu
  simp [Array.getElem?_setIfInBounds, h1, hp]
 ·have : Nat.beq p t = false := by cases hb : Nat.beq p t <;> simp_all [Nat.beq_eq]
  rw [this] at hu
  simp [Array.getElem?_setIfInBounds, hpt, h2 t u hu]
end
end Go.Dc
