/- FilediffApplies: what changes make of a revision, and how they are undone. What is read of the arguments is small. -/
import Derived.Test.YtgggihpbhmbjaaaGreatDoorFdHy5
namespace Go.Proofs.YtgggihpbhmbjaaaGreatDoor
open Go Go.Dc Go.Sort Go.Proofs
def SmallF (x : List File) : Prop := ∀ f ∈ x, f.1.size ≤ 1048576
theorem MadeE.small {K : Nat} {L : List File} (h : MadeE K L) : SmallF L := fun f hf => by have := path_small' (h.2 f hf).1; omega
end Go.Proofs.YtgggihpbhmbjaaaGreatDoor
