/- The index: which are well-formed; how one grows by a record. No condition. -/
import Derived.Test.YtgggihpbhmbjaaaDoorLevDk3
namespace Go.Proofs.YtgggihpbhmbjaaaDoor
open Go Go.Dc Go.Sort Go.Proofs
abbrev Pst := Ky × List Int
abbrev Ixx := List Pst × Int
abbrev Rcd := (ByteArray × ByteArray) × Int × Int × Int × (Int × Int × Int) × Bool × (List (Ky × Int))
def prevO {α : Type} (L : List α) : Nat → Option α
 | 0 => none
 | j + 1 => L[j]?
def recB (n : Int) : Option Int → List Int → Bool
 | _, [] => true
 | o, r :: R => (decide (0 ≤ r ∧ r < n) && o.all fun q => decide (q < r)) && recB n (some r) R
def postB (n : Int) : Option Pst → List Pst → Bool
 | _, [] => true
 | o, p :: L => (checkP p.1 && ((o.all fun q => decide (cK q.1 p.1 < 0)) && !p.2.isEmpty)) && (recB n none p.2 && postB n (some p) L)
def checkX (x : Ixx) : Bool := decide (0 ≤ x.2 ∧ x.2 ≤ 512) && postB x.2 none x.1
def SmallX (x : Ixx) : Prop := x.1.length ≤ 1048576 ∧ ∀ p ∈ x.1, p.1.2.1.size ≤ 1048576 ∧ p.2.length ≤ 1048576
theorem fact_Check_small {N : Nat} (hN : 3000000 < N) {k : Ky} (h : k.2.1.size ≤ 1048576) : fact_Check N (k.1, k.2.1, k.2.2) = some (checkP k) := fact_Check_eq (k := k) (by omega) (by omega)
theorem Compare_eq {N : Nat} (hN : 3000000 < N) (x y : Ky) : fact_Compare N (x.1, x.2.1, x.2.2) (y.1, y.2.1, y.2.2) = some (cK x y) := fact_Compare_T (by omega) x y
theorem rec_loop {N : Nat} {x : Ixx} {p : Pst} (hl : p.2.length < 2000000) : ∀ (d i M : Nat), i + d = p.2.length → d < M →
  loopM (index_Check_L2 N x p) M (i : Int) = some (if recB x.2 (prevO p.2 i) (p.2.drop i) = true then .inl () else .inr false)
 | _, _, 0, _, h => absurd h (Nat.not_lt_zero _)
 | d, i, M + 1, h1, h2 => by
  simp only [loopM, index_Check_L2]
  cases d with
  | zero =>
   have hc : ¬ ((i : Int) < (p.2.length : Int)) := by omega
   simp only [hc, decide_false, Bool.false_eq_true, if_false, Option.bind_some]
   rw [List.drop_of_length_le (by omega)]; simp [recB]
  | succ d =>
   have hi : i < p.2.length := by omega
   have hc : ((i : Int) < (p.2.length : Int)) := by omega
   have w2 : IntKind.wrap .i64 ((i : Int) + 1) = ((i + 1 : Nat) : Int) := by rw [wi64 (by omega) (by omega)]; omega
   have hdrop : p.2.drop i = p.2[i] :: p.2.drop (i + 1) := (List.getElem_cons_drop hi).symm
   have hp1 : prevO p.2 (i + 1) = some p.2[i] := List.getElem?_eq_getElem hi
   have ho : (if (decide (p.2[i] < 0)) = true then (some true) else (if (decide (p.2[i] ≥ x.2)) = true then (some true) else (if (decide ((i : Int) > 0)) = true then ((idx p.2 (IntKind.wrap .i64 ((i : Int) - 1))).bind fun x4 => some (decide (p.2[i] ≤ x4))) else (some false))) : Option Bool) = some (!(decide (0 ≤ p.2[i] ∧ p.2[i] < x.2) && (prevO p.2 i).all fun q => decide (q < p.2[i]))) := by
    by_cases g1 : p.2[i] < 0
    ·have : ¬ (0 ≤ p.2[i] ∧ p.2[i] < x.2) := by omega
     simp [g1, this]
    ·by_cases g2 : p.2[i] ≥ x.2
     ·have : ¬ (0 ≤ p.2[i] ∧ p.2[i] < x.2) := by omega
      simp only [g1, g2, this, decide_true, decide_false, Bool.false_eq_true, if_false, if_true, Bool.false_and, Bool.not_false]
     ·have : (0 ≤ p.2[i] ∧ p.2[i] < x.2) := by omega
      simp only [g1, g2, this, and_self, decide_true, decide_false, Bool.false_eq_true, if_false, Bool.true_and]
      cases i with
      | zero => simp [prevO]
      | succ j =>
       have hj : j < p.2.length := by omega
       have g3 : ((j + 1 : Nat) : Int) > 0 := by omega
       have w1 : IntKind.wrap .i64 (((j + 1 : Nat) : Int) - 1) = (j : Int) := by rw [wi64 (by omega) (by omega)]; omega
       have hp : prevO p.2 (j + 1) = some p.2[j] := List.getElem?_eq_getElem hj
       simp only [g3, decide_true, if_true, w1, idx_nat hj, Option.bind_some, hp, Option.all_some]
       congr 1
       by_cases g4 : p.2[j] < p.2[j + 1]
       ·have : ¬ p.2[j + 1] ≤ p.2[j] := by omega
        simp [g4, this]
       ·have : p.2[j + 1] ≤ p.2[j] := by omega
        simp [g4, this]
   simp only [hc, decide_true, if_true, idx_nat hi, Option.bind_some]
   rw [ho, hdrop]
   simp only [Option.bind_some, recB]
   rcases Bool.eq_false_or_eq_true (decide (0 ≤ p.2[i] ∧ p.2[i] < x.2) && (prevO p.2 i).all fun q => decide (q < p.2[i])) with hb | hb
   ·simp only [hb, Bool.not_true, Bool.false_eq_true, if_false, Option.bind_some, w2, Bool.true_and]
    rw [rec_loop hl d (i + 1) M (by omega) (by omega), hp1]
   ·simp only [hb, Bool.not_false, if_true, Option.bind_some, Bool.false_and, Bool.false_eq_true, if_false]
theorem post_loop {N : Nat} (hN : 3000000 < N) {x : Ixx} (hx : SmallX x) : ∀ (d i M : Nat), i + d = x.1.length → d < M →
  loopM (index_Check_L1 N x) M (i : Int) = some (if postB x.2 (prevO x.1 i) (x.1.drop i) = true then .inl () else .inr false)
 | _, _, 0, _, h => absurd h (Nat.not_lt_zero _)
 | d, i, M + 1, h1, h2 => by
  have hl := hx.1
  simp only [loopM, index_Check_L1]
  cases d with
  | zero =>
   have hc : ¬ ((i : Int) < (x.1.length : Int)) := by omega
   simp only [hc, decide_false, Bool.false_eq_true, if_false, Option.bind_some]
   rw [List.drop_of_length_le (by omega)]; simp [postB]
  | succ d =>
   have hi : i < x.1.length := by omega
   have hc : ((i : Int) < (x.1.length : Int)) := by omega
   have w2 : IntKind.wrap .i64 ((i : Int) + 1) = ((i + 1 : Nat) : Int) := by rw [wi64 (by omega) (by omega)]; omega
   have hdrop : x.1.drop i = x.1[i] :: x.1.drop (i + 1) := (List.getElem_cons_drop hi).symm
   have hp1 : prevO x.1 (i + 1) = some x.1[i] := List.getElem?_eq_getElem hi
   have hs := hx.2 x.1[i] (List.getElem_mem hi)
   have he : ((List.length x.1[i].2 : Int) == 0) = x.1[i].2.isEmpty := by
    cases x.1[i].2 with
    | nil => rfl
    | cons a l => simp only [List.length_cons, List.isEmpty_cons, beq_eq_false_iff_ne]; omega
   have ho : ((fact_Check N (x.1[i].1.1, x.1[i].1.2.1, x.1[i].1.2.2)).bind fun y1 => if (!y1) = true then (some true) else (if (decide ((i : Int) > 0)) = true then ((idx x.1 (IntKind.wrap .i64 ((i : Int) - 1))).bind fun x2 => (fact_Compare N (x2.1.1, x2.1.2.1, x2.1.2.2) (x.1[i].1.1, x.1[i].1.2.1, x.1[i].1.2.2)).bind fun y2 => if (decide (y2 ≥ 0)) = true then (some true) else (some ((List.length x.1[i].2 : Int) == 0))) else (some ((List.length x.1[i].2 : Int) == 0))) : Option Bool)
     = some (!(checkP x.1[i].1 && (((prevO x.1 i).all fun q => decide (cK q.1 x.1[i].1 < 0)) && !x.1[i].2.isEmpty))) := by
    rw [fact_Check_small hN hs.1]
    simp only [Option.bind_some, he]
    cases checkP x.1[i].1 with
    | false => rfl
    | true =>
     simp only [Bool.not_true, Bool.false_eq_true, if_false, Bool.true_and]
     cases i with
     | zero => simp [prevO]
     | succ j =>
      have hj : j < x.1.length := by omega
      have g3 : ((j + 1 : Nat) : Int) > 0 := by omega
      have w1 : IntKind.wrap .i64 (((j + 1 : Nat) : Int) - 1) = (j : Int) := by rw [wi64 (by omega) (by omega)]; omega
      have hp : prevO x.1 (j + 1) = some x.1[j] := List.getElem?_eq_getElem hj
      simp only [g3, decide_true, if_true, w1, idx_nat hj, Option.bind_some, hp, Option.all_some, Compare_eq hN]
      by_cases g4 : cK x.1[j].1 x.1[j + 1].1 < 0
      ·have : ¬ cK x.1[j].1 x.1[j + 1].1 ≥ 0 := by omega
       simp [g4, this]
      ·have : cK x.1[j].1 x.1[j + 1].1 ≥ 0 := by omega
       simp [g4, this]
   have hr : loopM (index_Check_L2 N x x.1[i]) N 0 = some (if recB x.2 none x.1[i].2 = true then .inl () else .inr false) := rec_loop (by omega) x.1[i].2.length 0 N (by omega) (by omega)
   simp only [hc, decide_true, if_true, idx_nat hi, Option.bind_some]
   rw [ho, hdrop, hr]
   simp only [Option.bind_some, postB]
   rcases Bool.eq_false_or_eq_true (checkP x.1[i].1 && (((prevO x.1 i).all fun q => decide (cK q.1 x.1[i].1 < 0)) && !x.1[i].2.isEmpty)) with hb | hb
   ·rcases Bool.eq_false_or_eq_true (recB x.2 none x.1[i].2) with hc2 | hc2
    ·simp only [hb, hc2, Bool.not_true, Bool.false_eq_true, if_false, if_true, Option.bind_some, w2, Bool.true_and]
     rw [post_loop hN hx d (i + 1) M (by omega) (by omega), hp1]
    ·simp only [hb, hc2, Bool.not_true, Bool.false_eq_true, if_false, Option.bind_some, Bool.true_and, Bool.false_and]
   ·simp only [hb, Bool.not_false, if_true, Option.bind_some, Bool.false_and, Bool.false_eq_true, if_false]
theorem Check_eq {N : Nat} (hN : 3000000 < N) {x : Ixx} (hx : SmallX x) : index_Check N x = some (checkX x) := by
 have h1 : loopM (index_Check_L1 N x) N 0 = some (if postB x.2 none x.1 = true then .inl () else .inr false) := post_loop hN hx x.1.length 0 N (by omega) (by have := hx.1; omega)
 simp only [index_Check, checkX]
 by_cases g1 : x.2 < 0
 ·have : ¬ (0 ≤ x.2 ∧ x.2 ≤ 512) := by omega
  simp [g1, this]
 ·by_cases g2 : x.2 > 512
  ·have : ¬ (0 ≤ x.2 ∧ x.2 ≤ 512) := by omega
   simp [g1, g2, this]
  ·have : (0 ≤ x.2 ∧ x.2 ≤ 512) := by omega
   simp only [g1, g2, this, and_self, decide_true, decide_false, Bool.false_eq_true, if_false, Bool.true_and, Option.bind_some, h1]
   cases postB x.2 none x.1 <;> rfl
def RecOK (n : Int) (R : List Int) : Prop := (∀ r ∈ R, 0 ≤ r ∧ r < n) ∧ R.Pairwise (· < ·)
theorem recB_iff {n : Int} : ∀ {R : List Int} {o : Option Int}, recB n o R = true ↔ RecOK n R ∧ ∀ q, o = some q → ∀ r ∈ R, q < r
 | [], o => by simp [recB, RecOK]
 | r :: R, o => by
  have ih := recB_iff (n := n) (R := R) (o := some r)
  simp only [recB, Bool.and_eq_true, decide_eq_true_eq, ih, RecOK, List.mem_cons, List.pairwise_cons]
  constructor
  ·rintro ⟨⟨h1, h2⟩, ⟨h3, h4⟩, h5⟩
   refine ⟨⟨fun q hq => ?_, fun q hq => h5 r rfl q hq, h4⟩, fun q hq z hz => ?_⟩
   ·rcases hq with rfl | hq
    ·exact h1
    ·exact h3 q hq
   ·subst hq
    have h2 : q < r := by simpa using h2
    rcases hz with rfl | hz
    ·exact h2
    ·have := h5 r rfl z hz; omega
  ·rintro ⟨⟨h1, h2, h3⟩, h4⟩
   refine ⟨⟨h1 r (.inl rfl), ?_⟩, ⟨fun q hq => h1 q (.inr hq), h3⟩, fun q hq z hz => ?_⟩
   ·cases o with
    | none => rfl
    | some q => simpa using h4 q rfl r (.inl rfl)
   ·cases hq; exact h2 z hz
def PostOK (n : Int) (p : Pst) : Prop := checkP p.1 = true ∧ p.2 ≠ [] ∧ RecOK n p.2
abbrev Asc (L : List Pst) : Prop := L.Pairwise fun p q => cK p.1 q.1 < 0
theorem postB_iff {n : Int} : ∀ {L : List Pst} {o : Option Pst}, postB n o L = true ↔ (∀ p ∈ L, PostOK n p) ∧ Asc L ∧ ∀ q, o = some q → ∀ p ∈ L, cK q.1 p.1 < 0
 | [], o => by simp [postB]
 | p :: L, o => by
  have ih := postB_iff (n := n) (L := L) (o := some p)
  have hr := recB_iff (n := n) (R := p.2) (o := none)
  simp only [postB, Bool.and_eq_true, Bool.not_eq_true', List.isEmpty_eq_false_iff, ih, hr, List.mem_cons, List.pairwise_cons]
  constructor
  ·rintro ⟨⟨h1, h2, h3⟩, ⟨h4, _⟩, h5, h6, h7⟩
   refine ⟨fun q hq => ?_, ⟨fun q hq => h7 p rfl q hq, h6⟩, fun q hq z hz => ?_⟩
   ·rcases hq with rfl | hq
    ·exact ⟨h1, h3, h4⟩
    ·exact h5 q hq
   ·subst hq
    have h2 : cK q.1 p.1 < 0 := by simpa using h2
    rcases hz with rfl | hz
    ·exact h2
    ·exact cK_lin.trans _ _ _ h2 (h7 p rfl z hz)
  ·rintro ⟨h1, ⟨h2, h3⟩, h4⟩
   obtain ⟨a1, a2, a3⟩ := h1 p (.inl rfl)
   refine ⟨⟨a1, ?_, a2⟩, ⟨a3, fun q hq => by cases hq⟩, fun q hq => h1 q (.inr hq), h3, fun q hq z hz => ?_⟩
   ·cases o with
    | none => rfl
    | some q => simpa using h4 q rfl p (.inl rfl)
   ·cases hq; exact h2 z hz
def WellX (x : Ixx) : Prop := (0 ≤ x.2 ∧ x.2 ≤ 512) ∧ (∀ p ∈ x.1, PostOK x.2 p) ∧ Asc x.1
theorem checkX_iff {x : Ixx} : checkX x = true ↔ WellX x := by
 simp only [checkX, Bool.and_eq_true, decide_eq_true_eq, postB_iff, WellX]
 constructor
 ·rintro ⟨h1, h2, h3, _⟩; exact ⟨h1, h2, h3⟩
 ·rintro ⟨h1, h2, h3⟩; exact ⟨h1, h2, h3, fun q hq => by cases hq⟩
end Go.Proofs.YtgggihpbhmbjaaaDoor
