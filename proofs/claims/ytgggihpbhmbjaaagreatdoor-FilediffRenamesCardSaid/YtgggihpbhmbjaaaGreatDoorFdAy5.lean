/- Changes of files: their order, sorted lists, the list of all changes. No condition. -/
import Derived.Test.YtgggihpbhmbjaaaGreatDoorFrBy5
import Derived.Test.YtgggihpbhmbjaaaGreatDoorSetPy5
namespace Go.Proofs.YtgggihpbhmbjaaaGreatDoor
open Go Go.Dc Go.Sort Go.Proofs
theorem less_cmp : ∀ a b : List UInt8, Op.bytesLess a b = decide (cmpL a b < 0)
 | [], [] => rfl
 | [], _ :: _ => rfl
 | _ :: _, [] => rfl
 | x :: a, y :: b => by
  rw [show Op.bytesLess (x :: a) (y :: b) = (decide (x < y) || ((x == y) && Op.bytesLess a b)) from rfl, less_cmp a b]
  by_cases h : x = y
  ·subst h
   have h0 : ¬ x < x := by simp only [u8_lt]; omega
   have e : cmpL (x :: a) (x :: b) = cmpL a b := by simp [cmpL]
   simp [h0, e]
  ·have h2 : (x == y) = false := by simpa using h
   by_cases h3 : x < y
   ·have e : cmpL (x :: a) (y :: b) = -1 := by simp [cmpL, h, h3]
    simp [h3, e]
   ·have e : cmpL (x :: a) (y :: b) = 1 := by simp [cmpL, h, h3]
    simp [h2, h3, e]
theorem blt_cmp (a b : ByteArray) : blt a b = decide (cmpS a b < 0) := by
 unfold blt
 rw [less_cmp, cmpS_eq, ByteArray.toList_eq, ByteArray.toList_eq]
theorem blt_iff {a b : ByteArray} : blt a b = true ↔ cmpS a b < 0 := by rw [blt_cmp, decide_eq_true_eq]
theorem strict_ext2 {α : Type} {c : α → α → Prop} (irr : ∀ z, ¬ c z z) (tr : ∀ x y z, c x y → c y z → c x z) : ∀ {l k : List α}, l.Pairwise c → k.Pairwise c → (∀ z, z ∈ l ↔ z ∈ k) → l = k
 | [], [], _, _, _ => rfl
 | [], y :: k, _, _, h => by have := (h y).2 (List.mem_cons_self ..); cases this
 | x :: l, [], _, _, h => by have := (h x).1 (List.mem_cons_self ..); cases this
 | x :: l, y :: k, h1, h2, h => by
  obtain ⟨a1, a2⟩ := List.pairwise_cons.1 h1
  obtain ⟨b1, b2⟩ := List.pairwise_cons.1 h2
  have hxy : x = y := by
   rcases List.mem_cons.1 ((h x).1 (List.mem_cons_self ..)) with e | e
   ·exact e
   ·rcases List.mem_cons.1 ((h y).2 (List.mem_cons_self ..)) with g | g
    ·exact g.symm
    ·exact absurd (tr _ _ _ (b1 x e) (a1 y g)) (irr y)
  subst hxy
  have : l = k := strict_ext2 irr tr a2 b2 fun z => by
   constructor
   ·intro hz
    rcases List.mem_cons.1 ((h z).1 (List.mem_cons_of_mem _ hz)) with e | e
    ·rw [e] at hz; exact absurd (a1 x hz) (irr x)
    ·exact e
   ·intro hz
    rcases List.mem_cons.1 ((h z).2 (List.mem_cons_of_mem _ hz)) with e | e
    ·rw [e] at hz; exact absurd (b1 x hz) (irr x)
    ·exact e
  rw [this]
theorem key_inj {α β : Type} {f : α → β} : ∀ {l : List α}, (l.map f).Nodup → ∀ {x y : α}, x ∈ l → y ∈ l → f x = f y → x = y
 | a :: l, h, x, y, hx, hy, e => by
  simp only [List.map_cons, List.nodup_cons] at h
  rcases List.mem_cons.1 hx with h1 | h1
  ·rcases List.mem_cons.1 hy with h2 | h2
   ·rw [h1, h2]
   ·exact absurd (by rw [← h1, e]; exact List.mem_map_of_mem h2) h.1
  ·rcases List.mem_cons.1 hy with h2 | h2
   ·exact absurd (by rw [← h2, ← e]; exact List.mem_map_of_mem h1) h.1
   ·exact key_inj h.2 h1 h2 e
theorem sort_pair {α : Type} {c : α → α → Int} (hO : SWO (ltOf c)) (ha : ∀ x y, c x y < 0 ↔ 0 < c y x) (l : List α) : (l.mergeSort fun x y => !(ltOf c) y x).Pairwise fun x y => ¬ c y x < 0 := by
 have := List.pairwise_mergeSort (le := fun x y => !(ltOf c) y x) (fun x y z h1 h2 => by
  simp only [Bool.not_eq_true'] at *
  exact hO.ntrans z y x h2 h1) (fun x y => by
  simp only [Bool.or_eq_true, Bool.not_eq_true', ltOf, decide_eq_false_iff_not]
  have := ha x y; omega) l
 refine this.imp fun h => ?_
 rename_i x y
 simpa only [Bool.not_eq_true', ltOf, decide_eq_false_iff_not] using h
abbrev Chg := Int × ByteArray × ByteArray × ByteArray
def PAsc (L : List Chg) : Prop := L.Pairwise fun x y => cmpS x.2.1 y.2.1 < 0
theorem cS_irr (z : ByteArray) : ¬ cmpS z z < 0 := by have := (cmpS_lin.zero z z).2 rfl; omega
theorem PAsc.ext {L K : List Chg} (h1 : PAsc L) (h2 : PAsc K) (h : ∀ z, z ∈ L ↔ z ∈ K) : L = K :=
 strict_ext2 (c := fun x y : Chg => cmpS x.2.1 y.2.1 < 0) (fun z => cS_irr _) (fun _ _ _ => cmpS_lin.trans _ _ _) h1 h2 h
def PDist (L : List Chg) : Prop := (L.map fun x => x.2.1).Nodup
def sortC (L : List Chg) : List Chg := L.mergeSort fun x y => !(ltOf cmpChange) y x
theorem cmpC_path {x y : Chg} (h : x.2.1 ≠ y.2.1) : cmpChange x y = cmpS x.2.1 y.2.1 := by
 unfold cmpChange lexC
 rw [if_pos (fun e => h ((cmpS_lin.zero _ _).1 e))]
theorem cmpC_zero {x y : Chg} (h : cmpChange x y = 0) : x.2.1 = y.2.1 := by
 by_cases e : x.2.1 = y.2.1
 ·exact e
 ·rw [cmpC_path e] at h; exact (cmpS_lin.zero _ _).1 h
theorem sortC_mem {L : List Chg} {z : Chg} : z ∈ sortC L ↔ z ∈ L := List.mem_mergeSort
theorem sortC_asc {L : List Chg} (h : PDist L) : PAsc (sortC L) := by
 have h1 := sort_pair cmpChange_swo cmpChange_anti L
 have h2 : (sortC L).Pairwise fun x y => x.2.1 ≠ y.2.1 := by
  have : ((sortC L).map fun x => x.2.1).Nodup := ((List.mergeSort_perm L _).map _).nodup_iff.2 h
  exact List.pairwise_map.1 this
 refine (h1.and h2).imp fun {x y} h => ?_
 obtain ⟨a, b⟩ := h
 rw [cmpC_path (Ne.symm b)] at a
 have e1 := cmpS_lin.anti x.2.1 y.2.1
 have e2 : cmpS y.2.1 x.2.1 ≠ 0 := fun e => b ((cmpS_lin.zero _ _).1 e).symm
 omega
theorem sortC_ext {L K : List Chg} (h1 : PDist L) (h2 : PDist K) (h : ∀ z, z ∈ L ↔ z ∈ K) : sortC L = sortC K :=
 (sortC_asc h1).ext (sortC_asc h2) fun z => by rw [sortC_mem, sortC_mem]; exact h z
theorem PDist.perm {L K : List Chg} (h : PDist L) (hp : L.Perm K) : PDist K := (hp.map _).nodup_iff.1 h
theorem sort_eq {N : Nat} {L K : List Chg} (hN : 10 ≤ N) (hl : L.length < 1000000) (hp : L.Perm K) (hd : PDist K) : slices_SortFunc_api_Change_api_Change_S_filediff_Diff_1 N L = some (sortC K) := by
 have hdL : PDist L := hd.perm hp.symm
 unfold slices_SortFunc_api_Change_api_Change_S_filediff_Diff_1
 rw [if_pos ⟨hN, by omega, fun x hx y hy h => key_inj hdL hx hy (cmpC_zero h)⟩]
 exact congrArg some (sortC_ext hdL hd fun z => hp.mem_iff)
end Go.Proofs.YtgggihpbhmbjaaaGreatDoor
