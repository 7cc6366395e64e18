/- Edited revisions. No condition. -/
import Derived.Test.YtgggihpbhmbjaaaGreatDoorMakey5
import Derived.Test.YtgggihpbhmbjaaaGreatDoorRuny5
namespace Go.Proofs.YtgggihpbhmbjaaaGreatDoor
open Go Go.Dc
def MadeE (K : Nat) (L : List File) : Prop := Asc L ∧ ∀ f ∈ L, pathB f.1.data.toList = true ∧ f.2.size ≤ K
theorem Made.e {L : List File} (h : Made L) : MadeE 4700 L := ⟨h.1, fun f hf => ⟨h.path hf, (h.2 f hf).2⟩⟩
theorem MadeE.put {K : Nat} {L : List File} (h : MadeE K L) {p b : ByteArray} (hp : pathB p.data.toList = true) (hb : b.size ≤ K) : MadeE K (fput L p b) :=
 ⟨h.1.put p b, fun f hf => by
  rcases fput_mem hf with rfl | hf
  ·exact ⟨hp, hb⟩
  ·exact h.2 f hf⟩
theorem MadeE.del {K : Nat} {L : List File} (h : MadeE K L) (p : ByteArray) : MadeE K (fdel L p) := ⟨h.1.del p, fun f hf => h.2 f (List.mem_filter.1 hf).1⟩
theorem MadeE.more {K K' : Nat} {L : List File} (h : MadeE K L) (hk : K ≤ K') : MadeE K' L := ⟨h.1, fun f hf => ⟨(h.2 f hf).1, Nat.le_trans (h.2 f hf).2 hk⟩⟩
theorem MadeE.wf {K : Nat} {L : List File} (h : MadeE K L) (hk : K ≤ 16384) (hl : L.length ≤ 64) : WF L := ⟨hl, h.1, fun f hf => ⟨(h.2 f hf).1, Nat.le_trans (h.2 f hf).2 hk⟩⟩
section
variable {N : Nat} {l : List Int} {a : Int} {K : Nat} {L : List File}
theorem catB_lit {x y z : ByteArray} (h : x ++ y = z) (hs : x.size + y.size ≤ 1000) : catB x y = some z := by
 unfold catB
 rw [if_pos (by simp only [maxLen]; omega), h]
end
end Go.Proofs.YtgggihpbhmbjaaaGreatDoor
