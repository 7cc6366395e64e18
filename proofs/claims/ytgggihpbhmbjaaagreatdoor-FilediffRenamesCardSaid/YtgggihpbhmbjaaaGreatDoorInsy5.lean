/- The decompiler's rules of what slices.Insert, slices.Delete and slices.Clone do with arrays of structs: slices of an owned array, copy, clear, append of zeros. No condition. -/
import Derived.Test.YtgggihpbhmbjaaaGreatDoorArry5
import Derived.Lib.Overlaps
namespace Go.Dc
section
variable {P : Program} {n : Fr} {ops : Array Oper} {Q : Exit → Act → World → Prop} {i d : Nat} {L : Env} {w : World} {m : Mem} {own : List Piece} {N : Env → World → Prop}
theorem first_own {b o k nn cap sl : Nat} {C : Array Value} {e : TypeId} {S : List Value} (hb : w.heap[b]? = some (.cells C e (0, 0))) (hS : (C.toList.drop o).take (nn * k) = S) (hl : S.length = nn * k) :
  (Builtin.firstCells k nn (.slice (some ⟨b, o, none⟩) sl cap)).run P w = .ok S.toArray w := by
 refine run_firstCells_some w k nn ⟨b, o, none⟩ sl cap S hl fun j v hv => ?_
 rw [← hS, List.getElem?_take] at hv
 split at hv
 ·rw [List.getElem?_drop] at hv
  rw [addr_add]
  simp only [World.cell?, hb]
  simpa using hv
 ·cases hv
theorem One_val0 {i : Nat} {op : Op} {L : Env} {w w' : World} {v : Value} (ho : opAt ops L i = some (none, op))
  (hrun : ∀ o : Oper, o.op = op → (execOp (evD L) o).run P w = .ok (.value v) w')
  (h : N L w') : One P n ops Q i N L w := by
 obtain ⟨o, h1, h2, h3, h4, h5⟩ := opAt_spec ho
 intro a ha
 unfold opW
 simp only [h1, ha.wanted h4, if_true]
 rw [ha.exec h5, hrun o h3, Oper.uponIn_value, h2]
 exact ⟨_, ha, h⟩
end
end Go.Dc
namespace Go.Dc
end Go.Dc
