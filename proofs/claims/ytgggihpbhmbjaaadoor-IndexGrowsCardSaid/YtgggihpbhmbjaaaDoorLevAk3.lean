/- fact.Set: the keys of a list, ascending, each once. No condition. -/
import Derived.Test.YtgggihpbhmbjaaaDoorTConk3
import Derived.Test.YtgggihpbhmbjaaaDoorSetPk3
import Derived.Test.YtgggihpbhmbjaaaDoorPlaink3
namespace Go.Proofs.YtgggihpbhmbjaaaDoor
open Go Go.Dc Go.Sort Go.Proofs
abbrev Ky := Int × ByteArray × ByteArray
abbrev cK : Ky → Ky → Int := lexC cmpI (lexC cmpS cmpS)
theorem cK_lin : Lin cK := lexC_lin cmpI_lin (lexC_lin cmpS_lin cmpS_lin)
theorem keyEq (x y : Ky) : ((x.1 == y.1) && ((x.2.1.toList == y.2.1.toList) && ((x.2.2.toList == y.2.2.toList) && true))) = decide (x = y) := by
 have bt : ∀ a b : ByteArray, (a.toList == b.toList) = decide (a = b) := fun a b => by
  rw [Bool.eq_iff_iff]
  simp only [beq_iff_eq, decide_eq_true_eq]
  constructor
  ·intro h
   rw [ByteArray.toList_eq, ByteArray.toList_eq] at h
   exact Go.WideShapes.bytes_inj h
  ·rintro rfl; rfl
 rw [bt, bt, Bool.and_true, Bool.eq_iff_iff]
 simp only [Bool.and_eq_true, beq_iff_eq, decide_eq_true_eq]
 exact ⟨fun h => Prod.ext h.1 (Prod.ext h.2.1 h.2.2), fun h => by subst h; exact ⟨rfl, rfl, rfl⟩⟩
section
variable {α : Type} [DecidableEq α]
theorem dedup_take (y : List α) (k : Nat) (hk : k + 1 < y.length) : dedup (y.take (k + 2)) = if y[k] = y[k + 1] then dedup (y.take (k + 1)) else dedup (y.take (k + 1)) ++ [y[k + 1]] := by
 have e1 : y.take (k + 1) = y.take k ++ [y[k]] := List.take_succ_eq_append_getElem (by omega)
 have e2 : y.take (k + 2) = y.take k ++ [y[k], y[k + 1]] := by
  rw [List.take_succ_eq_append_getElem (show k + 1 < y.length from hk), e1, List.append_assoc]; rfl
 rw [e2, dedup_snoc, ← e1]
theorem dedup_one (y : List α) (h : 0 < y.length) : dedup (y.take 1) = y.take 1 := by
 cases y with
 | nil => simp at h
 | cons a y => simp [dedup]
end
theorem inner {N : Nat} {y : List Ky} {k : Nat} (hlen : y.length < 1000000) : ∀ (d j k1 M : Nat) (l : List Ky), k + j + d = y.length → d < M → 1 ≤ j → k ≤ k1 → k1 + 1 ≤ k + j → l.length = y.length → l.drop k1 = y.drop k1 → l.take k1 = dedup (y.take (k + j)) →
  ∃ (k2 : Nat) (l2 : List Ky), loopM (fact_Set_L2 N y (k : Int)) M ((k1 : Int), (j : Int), l) = some ((k2 : Int), l2) ∧ k2 < y.length ∧ l2.length = y.length ∧ l2.take k2 = dedup y
 | d, j, k1, 0, l, _, h, _, _, _, _, _, _ => absurd h (Nat.not_lt_zero _)
 | d, j, k1, M + 1, l, h1, h2, h3, h4, h5, h6, h7, h8 => by
  have elen : Int.toNat (List.length y : Int) = y.length := by simp
  have etk : Int.toNat (k : Int) = k := by simp
  have get : ∀ i, k1 ≤ i → (hi : i < y.length) → l[i]? = some y[i] := fun i hi hl => by
   have e1 : (l.drop k1)[i - k1]? = (y.drop k1)[i - k1]? := by rw [h7]
   rw [List.getElem?_drop, List.getElem?_drop] at e1
   have : k1 + (i - k1) = i := by omega
   rw [this] at e1
   rw [e1]; simp [hl]
  simp only [loopM, fact_Set_L2, elen, etk]
  rw [List.take_of_length_le (by omega)]
  cases d with
  | zero =>
   have hc : ¬ ((j : Int) < ((y.length - k : Nat) : Int)) := by omega
   simp only [hc, decide_false, Bool.false_eq_true, if_false, Option.bind_some]
   refine ⟨k1, l, rfl, by omega, h6, ?_⟩
   rw [h8, List.take_of_length_le (by omega)]
  | succ d =>
   have hc : ((j : Int) < ((y.length - k : Nat) : Int)) := by omega
   have w1 : IntKind.wrap .i64 ((j : Int) - 1) = ((j - 1 : Nat) : Int) := by rw [wi64 (by omega) (by omega)]; omega
   have w2 : IntKind.wrap .i64 ((j : Int) + 1) = ((j + 1 : Nat) : Int) := by rw [wi64 (by omega) (by omega)]; omega
   have w3 : IntKind.wrap .i64 ((k1 : Int) + 1) = ((k1 + 1 : Nat) : Int) := by rw [wi64 (by omega) (by omega)]; omega
   have x3 : idx (l.drop k) (j : Int) = some (y[k + j]'(by omega)) := by
    simp only [idx, Int.natCast_nonneg, if_true, Int.toNat_natCast, List.getElem?_drop]
    exact get (k + j) (by omega) (by omega)
   have x4 : idx (l.drop k) ((j - 1 : Nat) : Int) = some (y[k + (j - 1)]'(by omega)) := by
    simp only [idx, Int.natCast_nonneg, if_true, Int.toNat_natCast, List.getElem?_drop]
    exact get (k + (j - 1)) (by omega) (by omega)
   have x6 : idx l (k1 : Int) = some (l[k1]'(by omega)) := idx_nat (by omega)
   have ejj : k + (j - 1) + 1 = k + j := by omega
   have hd := dedup_take y (k + (j - 1)) (by omega)
   have ed : k + (j - 1) + 2 = k + j + 1 := by omega
   simp only [ed, ejj] at hd
   simp only [hc, decide_true, if_true, w1, x3, x4, Option.bind_some, keyEq]
   by_cases heq : y[k + j]'(by omega) = y[k + (j - 1)]'(by omega)
   ·simp only [heq, decide_true, Bool.not_true, Bool.false_eq_true, if_false, Option.bind_some, w2]
    rw [if_pos heq.symm] at hd
    exact inner hlen d (j + 1) k1 M l (by omega) (by omega) (by omega) h4 (by omega) h6 h7 (by rw [h8, ← hd]; rfl)
   ·simp only [heq, decide_false, Bool.not_false, if_true, Option.bind_some, x6, w3, w2]
    rw [if_neg (fun e => heq e.symm)] at hd
    refine inner hlen d (j + 1) (k1 + 1) M _ (by omega) (by omega) (by omega) (by omega) (by omega) (by simpa using h6) ?_ ?_
    ·simp only [Int.toNat_natCast]
     rw [List.drop_set_of_lt (by omega)]
     have := congrArg (List.drop 1) h7
     simpa [List.drop_drop] using this
    ·simp only [Int.toNat_natCast]
     rw [List.take_succ_eq_append_getElem (by simp; omega)]
     simp only [List.getElem_set_self]
     rw [List.take_set_of_le (by omega), h8]
     exact hd.symm
theorem outer {N : Nat} {y1 y : List Ky} (hlen : y.length < 1000000) (hy1 : y1.length = y.length) (hN : y.length < N) : ∀ (d k M : Nat), k + 1 + d = y.length → d < M → dedup (y.take (k + 1)) = y.take (k + 1) →
  ∃ o, loopM (fact_Set_L1 N y1 y) M ((k + 1 : Nat) : Int) = some o ∧ (o = .inl () ∧ dedup y = y ∨ o = .inr (dedup y))
 | d, k, 0, _, h, _ => absurd h (Nat.not_lt_zero _)
 | d, k, M + 1, h1, h2, h3 => by
  simp only [loopM, fact_Set_L1, hy1]
  cases d with
  | zero =>
   have hc : ¬ (((k + 1 : Nat) : Int) < (y.length : Int)) := by omega
   simp only [hc, decide_false, Bool.false_eq_true, if_false, Option.bind_some]
   refine ⟨_, rfl, .inl ⟨rfl, ?_⟩⟩
   rw [List.take_of_length_le (by omega)] at h3; exact h3
  | succ d =>
   have hc : (((k + 1 : Nat) : Int) < (y.length : Int)) := by omega
   have w1 : IntKind.wrap .i64 (((k + 1 : Nat) : Int) - 1) = (k : Int) := by rw [wi64 (by omega) (by omega)]; omega
   have w2 : IntKind.wrap .i64 (((k + 1 : Nat) : Int) + 1) = ((k + 1 + 1 : Nat) : Int) := by rw [wi64 (by omega) (by omega)]; omega
   have x1 : idx y ((k + 1 : Nat) : Int) = some (y[k + 1]'(by omega)) := idx_nat (by omega)
   have x2 : idx y (k : Int) = some (y[k]'(by omega)) := idx_nat (by omega)
   have hd := dedup_take y k (by omega)
   simp only [hc, decide_true, if_true, w1, x1, x2, Option.bind_some, keyEq]
   by_cases heq : y[k + 1]'(by omega) = y[k]'(by omega)
   ·rw [if_pos heq.symm] at hd
    simp only [heq, decide_true, if_true]
    have hchk : chkS y ((k + 1 : Nat) : Int) (y.length : Int) = some () := by unfold chkS; rw [if_pos (by omega)]
    obtain ⟨k2, l2, e1, e2, e3, e4⟩ := inner (N := N) (y := y) (k := k + 1) hlen (y.length - (k + 2)) 1 (k + 1) N y (by omega) (by omega) (by omega) (by omega) (by omega) rfl rfl (by rw [show k + 1 + 1 = k + 2 by omega, hd, h3])
    have e1' : loopM (fact_Set_L2 N y ((k + 1 : Nat) : Int)) N (((k + 1 : Nat) : Int), 1, y) = some ((k2 : Int), l2) := e1
    simp only [hchk, e1', Option.bind_some]
    have hchk2 : chkS l2 (k2 : Int) (l2.length : Int) = some () := by unfold chkS; rw [if_pos (by omega)]
    have hcl : clearM l2 (k2 : Int) ((0, (⟨#[]⟩ : ByteArray), (⟨#[]⟩ : ByteArray)) : Ky) = some (l2.take k2 ++ List.replicate (l2.length - k2) (0, (⟨#[]⟩ : ByteArray), (⟨#[]⟩ : ByteArray))) := by
     unfold clearM; rw [if_pos (by omega)]; simp
    have hchk3 : chkS (l2.take k2 ++ List.replicate (l2.length - k2) ((0, (⟨#[]⟩ : ByteArray), (⟨#[]⟩ : ByteArray)) : Ky)) 0 (k2 : Int) = some () := by
     unfold chkS; rw [if_pos]; simp only [List.length_append, List.length_take, List.length_replicate]; omega
    simp only [hchk2, hcl, hchk3, Option.bind_some]
    refine ⟨_, rfl, .inr ?_⟩
    simp only [Int.toNat_natCast]
    rw [List.take_append_of_le_length (by simp only [List.length_take]; omega), List.take_take, Nat.min_self, e4]
   ·rw [if_neg (fun e => heq e.symm)] at hd
    simp only [heq, decide_false, Bool.false_eq_true, if_false, w2, Option.bind_some]
    refine outer hlen hy1 hN d (k + 1) M (by omega) (by omega) ?_
    rw [show k + 1 + 1 = k + 2 by omega, hd, h3, List.take_succ_eq_append_getElem (show k + 1 < y.length by omega)]
theorem dedup_len {α : Type} [DecidableEq α] : ∀ l : List α, (dedup l).length ≤ l.length
 | [] => Nat.le_refl _
 | [x] => Nat.le_refl _
 | x :: y :: l => by
  have := dedup_len (y :: l)
  simp only [dedup]
  split
  ·simp only [List.length_cons] at *; omega
  ·simp only [List.length_cons] at *; omega
def canon (L : List Ky) : List Ky := dedup (L.mergeSort fun x y => !(ltOf cK) y x)
theorem canon_strict (L : List Ky) : Strict cK (canon L) := dedup_strict cK_lin (sort_weak cK_lin L)
theorem canon_mem {L : List Ky} {z : Ky} : z ∈ canon L ↔ z ∈ L := by unfold canon; rw [dedup_mem]; exact List.mem_mergeSort
theorem canon_len (L : List Ky) : (canon L).length ≤ L.length := by
 have := dedup_len (L.mergeSort fun x y => !(ltOf cK) y x)
 simpa [canon] using this
theorem fact_Set_law {N : Nat} {L : List Ky} (hL : L.length < 1000000) (hN : L.length + 10 < N) : fact_Set N L = some (canon L) := by
 have hm : (maxLen : Nat) = 9223372036854775807 := rfl
 have h1 : slices_Clone_api_Key_api_Key_O L = some L := by
  unfold slices_Clone_api_Key_api_Key_O appM; rw [if_pos (by omega)]
 have h2 : slices_SortFunc_api_Key_api_Key_S_fact_Compare N L = some (L.mergeSort fun x y => !(ltOf cK) y x) := by
  unfold slices_SortFunc_api_Key_api_Key_S_fact_Compare; rw [if_pos (by omega)]
 unfold canon
 generalize hy : (L.mergeSort fun x y => !(ltOf cK) y x) = y at h2
 have hly : y.length = L.length := by rw [← hy]; simp
 simp only [fact_Set, h1, h2, Option.bind_some]
 by_cases hc : (L.length : Int) < 2
 ·simp only [hc, decide_true, if_true, Option.bind_some]
  rcases y with _ | ⟨a, _ | ⟨b, y⟩⟩
  ·rfl
  ·rfl
  ·simp only [List.length_cons] at hly; omega
 ·simp only [hc, decide_false, Bool.false_eq_true, if_false, Option.bind_some]
  obtain ⟨o, e1, e2⟩ := outer (N := N) (y1 := L) (y := y) (by omega) (by omega) (by omega) (y.length - 1) 0 N (by omega) (by omega) (dedup_one y (by omega))
  have e1' : loopM (fact_Set_L1 N L y) N 1 = some o := e1
  rcases e2 with ⟨rfl, h⟩ | rfl
  ·simp only [e1', Option.bind_some, h]
  ·simp only [e1', Option.bind_some]
end Go.Proofs.YtgggihpbhmbjaaaDoor
