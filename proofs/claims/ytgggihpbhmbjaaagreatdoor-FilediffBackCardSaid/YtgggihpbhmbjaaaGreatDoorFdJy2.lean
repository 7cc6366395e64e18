/- FilediffApplies: what changes make of a revision, and how they are undone. What is read of the arguments is small. -/
import Derived.Test.YtgggihpbhmbjaaaGreatDoorFdHy2
namespace Go.Proofs.YtgggihpbhmbjaaaGreatDoor
open Go Go.Dc Go.Sort Go.Proofs
def SmallC (x : List Chg) : Prop := ∀ c ∈ x, c.2.1.size ≤ 1048576
def SmallF (x : List File) : Prop := ∀ f ∈ x, f.1.size ≤ 1048576
theorem MadeE.small {K : Nat} {L : List File} (h : MadeE K L) : SmallF L := fun f hf => by have := path_small' (h.2 f hf).1; omega
theorem diffL_small {a b : List File} (ha : SmallF a) (hb : SmallF b) : SmallC (diffL a b) := by
 have hp : ∀ {L : List File}, SmallF L → ∀ p ∈ L.map (·.1), p.size ≤ 1048576 := fun h p hp => by
  obtain ⟨f, hf, rfl⟩ := List.mem_map.1 hp; exact h f hf
 intro c hc
 unfold diffL at hc
 rcases List.mem_append.1 hc with hc | hc
 ·rcases List.mem_append.1 hc with hc | hc
  ·have h1 : c.2.1 ∈ (a.filterMap (chgF b)).map fun x => x.2.1 := List.mem_map_of_mem (f := fun x : Chg => x.2.1) hc
   rw [chgF_paths] at h1
   exact hp ha _ ((List.filter_sublist.map _).subset h1)
  ·have h1 : c.2.1 ∈ (addsF a b (goneL b a)).1.map fun x => x.2.1 := List.mem_map_of_mem (f := fun x : Chg => x.2.1) hc
   rw [addsF_paths] at h1
   exact hp hb _ ((List.filter_sublist.map _).subset h1)
 ·obtain ⟨g, hg, rfl⟩ := List.mem_map.1 hc
  exact ha g (List.mem_filter.1 ((addsF_sub a b _).subset hg)).1
theorem putAll_paths (a : List File) : ∀ (l : List Chg) (L : List File), SmallC l → SmallF L → SmallF (putAllL a L l)
 | [], L, _, h => h
 | c :: l, L, hl, h => by
  rw [putAll_snocE]
  have hl' : SmallC l := fun x hx => hl x (List.mem_cons_of_mem _ hx)
  split
  ·refine putAll_paths a l _ hl' fun f hf => ?_
   rcases fput_mem hf with rfl | hf
   ·exact hl c (List.mem_cons_self ..)
   ·exact h f hf
  ·exact putAll_paths a l _ hl' h
theorem apply_small {a : List File} {l : List Chg} (ha : SmallF a) (hl : SmallC l) : SmallF (applyL a l) := putAll_paths a l _ hl fun f hf => ha f (List.mem_filter.1 hf).1
end Go.Proofs.YtgggihpbhmbjaaaGreatDoor
