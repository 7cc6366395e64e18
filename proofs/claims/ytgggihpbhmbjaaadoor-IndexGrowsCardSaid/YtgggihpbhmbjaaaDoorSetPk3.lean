/- Sorted lists without repetitions. No condition. -/
import Derived.Test.YtgggihpbhmbjaaaDoorLink3
namespace Go.Proofs.YtgggihpbhmbjaaaDoor
open Go Go.Dc Go.Sort Go.Proofs
def dedup {α : Type} [DecidableEq α] : List α → List α
 | [] => []
 | [x] => [x]
 | x :: y :: l => if x = y then dedup (y :: l) else x :: dedup (y :: l)
theorem dedup_mem {α : Type} [DecidableEq α] : ∀ (l : List α) (z : α), z ∈ dedup l ↔ z ∈ l
 | [], z => Iff.rfl
 | [x], z => Iff.rfl
 | x :: y :: l, z => by
  have ih := dedup_mem (y :: l) z
  simp only [dedup]
  split
  ·rename_i h
   rw [ih, h]; simp
  ·rw [List.mem_cons, ih]; simp
def Strict {α : Type} (c : α → α → Int) (l : List α) : Prop := l.Pairwise fun x y => c x y < 0
def Weak {α : Type} (c : α → α → Int) (l : List α) : Prop := l.Pairwise fun x y => c x y ≤ 0
theorem dedup_strict {α : Type} [DecidableEq α] {c : α → α → Int} (hc : Lin c) : ∀ {l : List α}, Weak c l → Strict c (dedup l)
 | [], _ => List.Pairwise.nil
 | [x], _ => by simp [Strict, dedup]
 | x :: y :: l, h => by
  obtain ⟨h1, h2⟩ := List.pairwise_cons.1 h
  have ih := dedup_strict hc (l := y :: l) h2
  simp only [dedup]
  split
  ·exact ih
  ·rename_i hne
   refine List.pairwise_cons.2 ⟨fun z hz => ?_, ih⟩
   rw [dedup_mem] at hz
   have hxy : c x y < 0 := by
    have a := h1 y (List.mem_cons_self ..)
    have b := hc.zero x y
    rcases Int.lt_or_eq_of_le a with g | g
    ·exact g
    ·exact absurd (b.1 g) hne
   rcases List.mem_cons.1 hz with rfl | hz
   ·exact hxy
   ·have hyz := (List.pairwise_cons.1 h2).1 z hz
    rcases Int.lt_or_eq_of_le hyz with g | g
    ·exact hc.trans _ _ _ hxy g
    ·rw [← (hc.zero y z).1 g]; exact hxy
theorem strict_ext {α : Type} {c : α → α → Int} (hc : Lin c) : ∀ {l k : List α}, Strict c l → Strict c k → (∀ z, z ∈ l ↔ z ∈ k) → l = k
 | [], [], _, _, _ => rfl
 | [], y :: k, _, _, h => by have := (h y).2 (List.mem_cons_self ..); cases this
 | x :: l, [], _, _, h => by have := (h x).1 (List.mem_cons_self ..); cases this
 | x :: l, y :: k, h1, h2, h => by
  obtain ⟨a1, a2⟩ := List.pairwise_cons.1 h1
  obtain ⟨b1, b2⟩ := List.pairwise_cons.1 h2
  have irr : ∀ z, ¬ c z z < 0 := fun z => by have := (hc.zero z z).2 rfl; omega
  have hxy : x = y := by
   rcases List.mem_cons.1 ((h x).1 (List.mem_cons_self ..)) with e | e
   ·exact e
   ·rcases List.mem_cons.1 ((h y).2 (List.mem_cons_self ..)) with g | g
    ·exact g.symm
    ·have p := b1 x e; have q := a1 y g
     exact absurd (hc.trans _ _ _ p q) (irr y)
  subst hxy
  have : l = k := strict_ext hc a2 b2 fun z => by
   constructor
   ·intro hz
    rcases List.mem_cons.1 ((h z).1 (List.mem_cons_of_mem _ hz)) with e | e
    ·rw [e] at hz; exact absurd (a1 x hz) (irr x)
    ·exact e
   ·intro hz
    rcases List.mem_cons.1 ((h z).2 (List.mem_cons_of_mem _ hz)) with e | e
    ·rw [e] at hz; exact absurd (b1 x hz) (irr x)
    ·exact e
  rw [this]
theorem sort_weak {α : Type} {c : α → α → Int} (hc : Lin c) (l : List α) : Weak c (l.mergeSort fun x y => !(ltOf c) y x) := by
 have := List.pairwise_mergeSort (le := fun x y => !(ltOf c) y x) (fun x y z h1 h2 => by
  simp only [Bool.not_eq_true', ltOf, decide_eq_false_iff_not] at *
  intro h3
  have s := hc.swo.ntrans z y x (by simpa [ltOf] using h2) (by simpa [ltOf] using h1)
  simp [ltOf] at s; omega) (fun x y => by
  simp only [Bool.or_eq_true, Bool.not_eq_true', ltOf, decide_eq_false_iff_not]
  have := hc.anti x y; omega) l
 refine this.imp fun h => ?_
 rename_i x y
 simp only [Bool.not_eq_true', ltOf, decide_eq_false_iff_not] at h
 have := hc.anti y x; have := hc.anti x y
 omega
theorem dedup_snoc {α : Type} [DecidableEq α] : ∀ (l : List α) (z x : α), dedup (l ++ [z, x]) = if z = x then dedup (l ++ [z]) else dedup (l ++ [z]) ++ [x]
 | [], z, x => by
  simp only [List.nil_append, dedup]
  split
  ·rename_i h; simp [h]
  ·simp
 | [a], z, x => by
  simp only [List.cons_append, List.nil_append, dedup]
  by_cases h1 : a = z
  ·by_cases h2 : z = x <;> simp [h1, h2]
  ·by_cases h2 : z = x <;> simp [h1, h2]
 | a :: b :: l, z, x => by
  have ih := dedup_snoc (b :: l) z x
  simp only [List.cons_append] at ih ⊢
  simp only [dedup]
  by_cases h1 : a = b
  ·rw [if_pos h1, if_pos h1]; exact ih
  ·rw [if_neg h1, if_neg h1, ih]
   split <;> simp
end Go.Proofs.YtgggihpbhmbjaaaDoor
