/- Comparisons that are linear orders. No condition. -/
import Derived.Test.YtgggihpbhmbjaaaGreatDoorSorty6
import Derived.Test.YtgggihpbhmbjaaaGreatDoorTaby6
namespace Go.Dc
open Go.Proofs Go.Shelf Go.Sort
structure Lin {α : Type} (c : α → α → Int) : Prop where
 zero : ∀ x y, c x y = 0 ↔ x = y
 anti : ∀ x y, c x y < 0 ↔ 0 < c y x
 trans : ∀ x y z, c x y < 0 → c y z < 0 → c x z < 0
theorem Lin.swo {α : Type} {c : α → α → Int} (h : Lin c) : SWO (ltOf c) where
 irrefl x := by simp only [ltOf, decide_eq_false_iff_not]; have := (h.zero x x).2 rfl; omega
 trans x y z h1 h2 := by simp only [ltOf, decide_eq_true_eq] at *; exact h.trans x y z h1 h2
 ntrans x y z h1 h2 := by
  simp only [ltOf, decide_eq_false_iff_not] at *
  intro h3
  have a1 := h.anti x y; have a2 := h.anti y x; have a3 := h.anti y z; have a4 := h.anti z y
  by_cases e1 : c x y = 0
  ·rw [(h.zero x y).1 e1] at h3; exact h2 h3
  by_cases e2 : c y z = 0
  ·rw [← (h.zero y z).1 e2] at h3; exact h1 h3
  have b1 : c y x < 0 := a2.2 (by omega)
  have b2 : c z y < 0 := a4.2 (by omega)
  have b3 := h.trans z y x b2 b1
  have := (h.anti x z).1 h3
  omega
theorem swo_pull {α β : Type} {c : β → β → Int} (h : SWO (ltOf c)) (g : α → β) : SWO (ltOf fun x y => c (g x) (g y)) := ⟨fun _ => h.irrefl _, fun _ _ _ => h.trans _ _ _, fun _ _ _ => h.ntrans _ _ _⟩
def cmpI (x y : Int) : Int := if x < y then -1 else if x > y then 1 else 0
theorem cmpI_lin : Lin cmpI where
 zero x y := by unfold cmpI; split <;> (try split) <;> omega
 anti x y := by unfold cmpI; repeat' split <;> omega
 trans x y z := by unfold cmpI; repeat' split <;> omega
def lexC {α β : Type} (c : α → α → Int) (d : β → β → Int) (x y : α × β) : Int := if c x.1 y.1 ≠ 0 then c x.1 y.1 else d x.2 y.2
theorem lexC_lin {α β : Type} {c : α → α → Int} {d : β → β → Int} (hc : Lin c) (hd : Lin d) : Lin (lexC c d) where
 zero x y := by
  have h1 := hc.zero x.1 y.1; have h2 := hd.zero x.2 y.2
  unfold lexC
  split
  ·rename_i h; exact ⟨fun g => absurd g h, fun g => absurd (h1.2 (by rw [g])) h⟩
  ·rename_i h
   have h := h1.1 (Decidable.of_not_not h)
   rw [h2]; exact ⟨fun g => Prod.ext h g, fun g => by rw [g]⟩
 anti x y := by
  have h1 := hc.anti x.1 y.1; have h2 := hd.anti x.2 y.2; have h3 := hc.zero x.1 y.1; have h4 := hc.zero y.1 x.1
  unfold lexC
  by_cases e : x.1 = y.1
  ·rw [if_neg (by rw [ne_eq, Decidable.not_not, h3]; exact e), if_neg (by rw [ne_eq, Decidable.not_not, h4]; exact e.symm)]; exact h2
  ·rw [if_pos (fun g => e (h3.1 g)), if_pos (fun g => e (h4.1 g).symm)]; exact h1
 trans x y z g1 g2 := by
  have h1 := hc.zero x.1 y.1; have h2 := hc.zero y.1 z.1; have h3 := hc.zero x.1 z.1
  unfold lexC at *
  by_cases e1 : x.1 = y.1
  ·rw [if_neg (by rw [ne_eq, Decidable.not_not, h1]; exact e1)] at g1
   by_cases e2 : y.1 = z.1
   ·rw [if_neg (by rw [ne_eq, Decidable.not_not, h2]; exact e2)] at g2
    rw [if_neg (by rw [ne_eq, Decidable.not_not, h3]; exact e1.trans e2)]
    exact hd.trans _ _ _ g1 g2
   ·rw [if_pos (fun g => e2 (h2.1 g))] at g2
    rw [if_pos (fun g => e2 (e1.symm.trans (h3.1 g))), e1]; exact g2
  ·rw [if_pos (fun g => e1 (h1.1 g))] at g1
   by_cases e2 : y.1 = z.1
   ·rw [if_pos (fun g => e1 ((h3.1 g).trans e2.symm)), ← e2]; exact g1
   ·rw [if_pos (fun g => e2 (h2.1 g))] at g2
    have g3 := hc.trans _ _ _ g1 g2
    rw [if_pos (by omega)]; exact g3
def cmpL : List UInt8 → List UInt8 → Int
 | [], [] => 0
 | [], _ :: _ => -1
 | _ :: _, [] => 1
 | x :: l, y :: k => if x = y then cmpL l k else if x < y then -1 else 1
theorem u8_lt (x y : UInt8) : x < y ↔ x.toNat < y.toNat := Iff.rfl
theorem u8_eq {x y : UInt8} (h : x.toNat = y.toNat) : x = y := UInt8.toNat_inj.1 h
theorem cmpL_lin : Lin cmpL where
 zero := by
  intro l
  induction l with
  | nil => intro k; cases k <;> simp [cmpL]
  | cons x l ih =>
   intro k
   cases k with
   | nil => simp [cmpL]
   | cons y k =>
    simp only [cmpL]
    by_cases h : x = y
    ·rw [if_pos h, ih k, h]; simp
    ·rw [if_neg h]; split <;> simp [h]
 anti := by
  intro l
  induction l with
  | nil => intro k; cases k <;> simp [cmpL]
  | cons x l ih =>
   intro k
   cases k with
   | nil => simp [cmpL]
   | cons y k =>
    simp only [cmpL]
    by_cases h : x = y
    ·rw [if_pos h, if_pos h.symm]; exact ih k
    ·rw [if_neg h, if_neg (Ne.symm h)]
     have : ¬ x.toNat = y.toNat := fun e => h (u8_eq e)
     simp only [u8_lt]
     split <;> split <;> omega
 trans := by
  intro l
  induction l with
  | nil => intro k m h1 h2; cases k <;> cases m <;> simp [cmpL] at *
  | cons x l ih =>
   intro k m h1 h2
   cases k with
   | nil => simp [cmpL] at h1
   | cons y k =>
    cases m with
    | nil => simp [cmpL] at h2
    | cons z m =>
     simp only [cmpL, u8_lt] at *
     by_cases e1 : x = y
     ·subst e1
      rw [if_pos rfl] at h1
      by_cases e2 : x = z
      ·rw [if_pos e2] at h2 ⊢; exact ih k m h1 h2
      ·rw [if_neg e2] at h2 ⊢; exact h2
     ·rw [if_neg e1] at h1
      have hlt : x.toNat < y.toNat := by
       by_cases g : x.toNat < y.toNat
       ·exact g
       ·rw [if_neg g] at h1; omega
      by_cases e2 : y = z
      ·subst e2; rw [if_neg e1, if_pos hlt]; omega
      ·rw [if_neg e2] at h2
       have hlt2 : y.toNat < z.toNat := by
        by_cases g : y.toNat < z.toNat
        ·exact g
        ·rw [if_neg g] at h2; omega
       rw [if_neg (fun e => by rw [e] at hlt; omega), if_pos (by omega)]; omega
def cmpF (l k : List UInt8) : Int := match (List.range (min l.length k.length)).find? fun i => l.getD i 0 != k.getD i 0 with
 | some i => if l.getD i 0 < k.getD i 0 then -1 else 1
 | none => if l.length < k.length then -1 else if l.length > k.length then 1 else 0
theorem cmpF_eq : ∀ l k : List UInt8, cmpF l k = cmpL l k
 | [], [] => by simp [cmpF, cmpL]
 | [], _ :: _ => by simp [cmpF, cmpL]
 | _ :: _, [] => by simp [cmpF, cmpL]
 | x :: l, y :: k => by
  have ih := cmpF_eq l k
  unfold cmpF at ih ⊢
  rw [show min (x :: l).length (y :: k).length = min l.length k.length + 1 by simp only [List.length_cons]; omega, List.range_succ_eq_map, List.find?_cons]
  by_cases h : x = y
  ·subst h
   have e0 : ((x :: l).getD 0 0 != (x :: k).getD 0 0) = false := by simp
   rw [e0]
   simp only [List.find?_map, Function.comp_def, cmpL, if_true]
   rw [← ih]
   have e1 : (fun i => (x :: l).getD (Nat.succ i) 0 != (x :: k).getD (Nat.succ i) 0) = fun i => l.getD i 0 != k.getD i 0 := by
    funext i; simp
   rw [e1]
   cases (List.range (min l.length k.length)).find? fun i => l.getD i 0 != k.getD i 0 with
   | none => simp
   | some i => simp
  ·have e0 : ((x :: l).getD 0 0 != (y :: k).getD 0 0) = true := by simpa using h
   rw [e0]
   simp [cmpL, h]
theorem get_list (a : ByteArray) (i : Nat) : a[i]! = a.data.toList.getD i 0 := by
 by_cases h : i < a.size
 ·have h2 : i < a.data.toList.length := by simpa using h
  rw [getElem!_pos a i h, List.getD_eq_getElem?_getD, List.getElem?_eq_getElem h2]
  simp
  rfl
 ·have h2 : ¬ i < a.data.toList.length := by simpa using h
  rw [getElem!_neg a i h, List.getD_eq_getElem?_getD, List.getElem?_eq_none (by omega)]
  rfl
theorem cmpS_eq (a b : ByteArray) : cmpS a b = cmpL a.data.toList b.data.toList := by
 rw [← cmpF_eq]
 have e1 : a.data.toList.length = a.size := by simp
 have e2 : b.data.toList.length = b.size := by simp
 unfold cmpS cmpF
 rw [e1, e2]
 simp only [get_list]
 generalize List.find? (fun i => a.data.toList.getD i 0 != b.data.toList.getD i 0) (List.range (min a.size b.size)) = o
 cases o <;> rfl
theorem cmpS_lin : Lin cmpS where
 zero x y := by
  rw [cmpS_eq, cmpL_lin.zero]
  exact ⟨fun h => by cases x; cases y; simp at h; subst h; rfl, fun h => by rw [h]⟩
 anti x y := by rw [cmpS_eq, cmpS_eq]; exact cmpL_lin.anti _ _
 trans x y z h1 h2 := by rw [cmpS_eq] at *; exact cmpL_lin.trans _ _ _ h1 h2
end Go.Dc
