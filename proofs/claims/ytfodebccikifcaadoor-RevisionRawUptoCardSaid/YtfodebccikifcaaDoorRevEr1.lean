/- Revisions: decoded files are no longer than the bytes. No condition. -/
import Derived.Test.YtfodebccikifcaaDoorRevDr1
namespace Go.Proofs.YtfodebccikifcaaDoor
open Go Go.Dc
theorem textP_size (l : List UInt8) (i most : Int) : (textP l i most).1.size ≤ l.length := by
 have hs : ∀ k : List UInt8, (strOf k).size = k.length := fun k => by simp [strOf, ByteArray.size]
 simp only [textP]
 repeat' split
 all_goals first | (rw [hs]; simp only [List.length_drop, List.length_take]; omega) | exact Nat.zero_le _
theorem fileP_size {pl : List UInt8} {f : File} (h : fileP pl = some f) : f.1.size ≤ pl.length ∧ f.2.size ≤ pl.length := by
 unfold fileP at h
 split at h
 ·cases h
 ·split at h
  ·cases h; exact ⟨textP_size .., textP_size ..⟩
  ·cases h
theorem filesP_size {m : Nat} : ∀ {r : List (Int × List UInt8)} {K : List File}, (∀ x ∈ r, x.2.length ≤ m) → filesP r = some K → ∀ f ∈ K, f.1.size ≤ m ∧ f.2.size ≤ m
 | [], K, _, h => by simp [filesP] at h; subst h; simp
 | x :: r, K, hr, h => by
  simp only [filesP] at h
  cases hs : stepP x with
  | none => rw [hs] at h; cases h
  | some f =>
   rw [hs] at h
   cases hg : filesP r with
   | none => rw [hg] at h; cases h
   | some K' =>
    rw [hg] at h
    simp only [Option.some.injEq] at h
    subst h
    intro g hm
    rcases List.mem_cons.1 hm with rfl | hm
    ·unfold stepP at hs
     split at hs
     ·have h1 := fileP_size hs
      have h2 := hr x (List.mem_cons_self ..)
      omega
     ·cases hs
    ·exact filesP_size (fun y hy => hr y (List.mem_cons_of_mem _ hy)) hg g hm
theorem filesOk {N j : Nat} {l : List UInt8} (hl : l.length = j) (h1 : j < 100000000) (h2 : 2 * j + 1000 < N) : ∀ K, filesP (framesR l).1.dropLast = some K → PathsOk N K := fun K hK g hg => by
 have := (filesP_size (m := j) (fun x hx => hl ▸ framesR_pay (List.dropLast_subset _ hx)) hK g hg).1
 exact Path_eq (by omega) (by omega)
end Go.Proofs.YtfodebccikifcaaDoor
