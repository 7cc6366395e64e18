/- The reference's set of keys: one inserted after the other. No condition. -/
import Derived.Test.YtgggihpbhmbjaaaDoorLevBk3
namespace Go.Proofs.YtgggihpbhmbjaaaDoor
open Go Go.Dc Go.Sort Go.Proofs
theorem less_cmpK : ∀ a b : List UInt8, Op.bytesLess a b = decide (cmpL a b < 0)
 | [], [] => rfl
 | [], _ :: _ => rfl
 | _ :: _, [] => rfl
 | x :: a, y :: b => by
  rw [show Op.bytesLess (x :: a) (y :: b) = (decide (x < y) || ((x == y) && Op.bytesLess a b)) from rfl, less_cmpK a b]
  by_cases h : x = y
  ·subst h
   have h0 : ¬ x < x := by simp only [u8_lt]; omega
   have e : cmpL (x :: a) (x :: b) = cmpL a b := by simp [cmpL]
   simp [h0, e]
  ·have h2 : (x == y) = false := by simpa using h
   by_cases h3 : x < y
   ·have e : cmpL (x :: a) (y :: b) = -1 := by simp [cmpL, h, h3]
    simp [h3, e]
   ·have e : cmpL (x :: a) (y :: b) = 1 := by simp [cmpL, h, h3]
    simp [h2, h3, e]
theorem less_cmpS (a b : ByteArray) : Op.bytesLess a.toList b.toList = decide (cmpS a b < 0) := by
 rw [less_cmpK, cmpS_eq, ByteArray.toList_eq, ByteArray.toList_eq]
theorem btK (a b : ByteArray) : (a.toList == b.toList) = decide (a = b) := by
 rw [Bool.eq_iff_iff]
 simp only [beq_iff_eq, decide_eq_true_eq]
 constructor
 ·intro h
  rw [ByteArray.toList_eq, ByteArray.toList_eq] at h
  exact Go.WideShapes.bytes_inj h
 ·rintro rfl; rfl
theorem cmpI_neg {x y : Int} (h : x ≠ y) : cmpI x y < 0 ↔ x < y := by
 unfold cmpI; split <;> (try split) <;> omega
theorem refLess_eq {N : Nat} (x y : Ky) : testgateref10_Less N x y = some (decide (cK x y < 0)) := by
 have hI := cmpI_lin.zero x.1 y.1
 have hS := cmpS_lin.zero x.2.1 y.2.1
 simp only [testgateref10_Less, btK, less_cmpS]
 by_cases h1 : x.1 = y.1
 ·have e0 : cmpI x.1 y.1 = 0 := hI.2 h1
  have e1 : (x.1 != y.1) = false := by simp [h1]
  rw [e1]
  simp only [Bool.false_eq_true, if_false]
  have e2 : cK x y = lexC cmpS cmpS x.2 y.2 := by simp only [cK, lexC, e0, ne_eq, not_true_eq_false, if_false]
  by_cases h2 : x.2.1 = y.2.1
  ·have e3 : cmpS x.2.1 y.2.1 = 0 := hS.2 h2
   have e4 : cK x y = cmpS x.2.2 y.2.2 := by rw [e2]; simp only [lexC, e3, ne_eq, not_true_eq_false, if_false]
   rw [e4]; simp [h2]
  ·have e3 : cmpS x.2.1 y.2.1 ≠ 0 := fun g => h2 (hS.1 g)
   have e4 : cK x y = cmpS x.2.1 y.2.1 := by rw [e2]; simp only [lexC, ne_eq, e3, not_false_eq_true, if_true]
   rw [e4]; simp [h2]
 ·have e0 : cmpI x.1 y.1 ≠ 0 := fun g => h1 (hI.1 g)
  have e1 : (x.1 != y.1) = true := by simp [h1]
  have e2 : cK x y = cmpI x.1 y.1 := by simp only [cK, lexC, ne_eq, e0, not_false_eq_true, if_true]
  rw [e1, if_pos rfl, e2]
  simp only [cmpI_neg h1]
def insK : List Ky → Ky → List Ky
 | [], x => [x]
 | y :: L, x => if cK y x < 0 then y :: insK L x else if y = x then y :: L else x :: y :: L
def posK : List Ky → Ky → Nat
 | [], _ => 0
 | y :: L, x => if cK y x < 0 then posK L x + 1 else 0
theorem posK_le : ∀ (L : List Ky) (x : Ky), posK L x ≤ L.length
 | [], _ => Nat.le_refl _
 | y :: L, x => by
  have := posK_le L x
  simp only [posK, List.length_cons]
  split <;> omega
theorem insK_pos : ∀ (L : List Ky) (x : Ky), insK L x = if L[posK L x]? = some x then L else L.take (posK L x) ++ x :: L.drop (posK L x)
 | [], x => by simp [insK, posK]
 | y :: L, x => by
  simp only [insK, posK]
  by_cases h : cK y x < 0
  ·simp only [h, if_true, List.getElem?_cons_succ, List.take_succ_cons, List.drop_succ_cons]
   rw [insK_pos L x]
   split <;> rfl
  ·simp only [h, if_false, List.getElem?_cons_zero, Option.some.injEq, List.take_zero, List.drop_zero, List.nil_append]
theorem insK_mem : ∀ {L : List Ky} {x z : Ky}, z ∈ insK L x ↔ z = x ∨ z ∈ L
 | [], x, z => by simp [insK]
 | y :: L, x, z => by
  simp only [insK]
  split
  ·simp only [List.mem_cons, insK_mem (L := L)]
   constructor
   ·rintro (h | h | h)
    ·exact .inr (.inl h)
    ·exact .inl h
    ·exact .inr (.inr h)
   ·rintro (h | h | h)
    ·exact .inr (.inl h)
    ·exact .inl h
    ·exact .inr (.inr h)
  ·split
   ·rename_i e; subst e
    simp only [List.mem_cons]
    constructor
    ·exact fun h => .inr h
    ·rintro (h | h)
     ·exact .inl h
     ·exact h
   ·simp only [List.mem_cons]
theorem insK_len : ∀ (L : List Ky) (x : Ky), (insK L x).length ≤ L.length + 1
 | [], _ => Nat.le_refl _
 | y :: L, x => by
  have := insK_len L x
  simp only [insK]
  split
  ·simp only [List.length_cons]; omega
  ·split <;> simp only [List.length_cons] <;> omega
theorem insK_strict : ∀ {L : List Ky} {x : Ky}, Strict cK L → Strict cK (insK L x)
 | [], x, _ => List.pairwise_singleton _ x
 | y :: L, x, h => by
  have h' := List.pairwise_cons.1 h
  simp only [insK]
  split
  ·rename_i hc
   refine List.pairwise_cons.2 ⟨fun z hz => ?_, insK_strict h'.2⟩
   rcases insK_mem.1 hz with rfl | hz
   ·exact hc
   ·exact h'.1 z hz
  ·rename_i hc
   split
   ·exact h
   ·rename_i hne
    have hxy : cK x y < 0 := by
     have a1 := cK_lin.zero y x; have a2 := cK_lin.anti x y
     refine a2.2 ?_
     have : cK y x ≠ 0 := fun g => hne (a1.1 g)
     omega
    refine List.pairwise_cons.2 ⟨fun z hz => ?_, h⟩
    rcases List.mem_cons.1 hz with rfl | hz
    ·exact hxy
    ·exact cK_lin.trans x y z hxy (h'.1 z hz)
theorem insK_loop {N : Nat} {L : List Ky} {x : Ky} (hl : L.length < 1000000) : ∀ (d i M : Nat), i + d = L.length → d < M → loopM (testgateref10_Insert_L1 N L x) M (i : Int) = some ((i + posK (L.drop i) x : Nat) : Int)
 | _, _, 0, _, h => absurd h (Nat.not_lt_zero _)
 | d, i, M + 1, h1, h2 => by
  simp only [loopM, testgateref10_Insert_L1]
  cases d with
  | zero =>
   have hc : ¬ ((i : Int) < (L.length : Int)) := by omega
   simp only [hc, decide_false, Bool.false_eq_true, if_false, Option.bind_some]
   rw [List.drop_of_length_le (by omega)]; rfl
  | succ d =>
   have hi : i < L.length := by omega
   have hc : ((i : Int) < (L.length : Int)) := by omega
   have w2 : IntKind.wrap .i64 ((i : Int) + 1) = ((i + 1 : Nat) : Int) := by rw [wi64 (by omega) (by omega)]; omega
   have hb := refLess_eq (N := N) L[i] x
   simp only [hc, decide_true, if_true, idx_nat hi, Option.bind_some]
   rw [hb]
   have hdrop : L.drop i = L[i] :: L.drop (i + 1) := (List.getElem_cons_drop hi).symm
   simp only [Option.bind_some]
   rw [hdrop]
   simp only [posK]
   by_cases hbb : cK L[i] x < 0
   ·simp only [hbb, decide_true, if_true, w2, Option.bind_some]
    rw [insK_loop hl d (i + 1) M (by omega) (by omega)]
    congr 2; omega
   ·simp [hbb]
theorem Insert_eq {N : Nat} {L : List Ky} (x : Ky) (hl : L.length < 1000000) (hN : L.length < N) : testgateref10_Insert N L x = some (insK L x) := by
 have h1 := insK_loop (N := N) (L := L) (x := x) hl L.length 0 N (by omega) hN
 have h1' : loopM (testgateref10_Insert_L1 N L x) N 0 = some ((posK L x : Nat) : Int) := by
  have e : (0 + posK (L.drop 0) x : Nat) = posK L x := by rw [List.drop_zero, Nat.zero_add]
  rw [e] at h1; exact h1
 have hp := posK_le L x
 rw [insK_pos]
 generalize hk : posK L x = k at *
 have w : IntKind.wrap .i64 ((k : Int) + 1) = ((k + 1 : Nat) : Int) := by rw [wi64 (by omega) (by omega)]; omega
 have fin : ∀ (_ : L[k]? ≠ some x), ((appendS 40 L [((0, (⟨#[]⟩ : ByteArray), (⟨#[]⟩ : ByteArray)) : Ky)]).bind fun l1 => (chkS l1 (IntKind.wrap .i64 ((k : Int) + 1)) (List.length l1 : Int)).bind fun _ => (chkS l1 (k : Int) (List.length l1 : Int)).bind fun _ => (copyM l1 (IntKind.wrap .i64 ((k : Int) + 1)) (k : Int)).bind fun l2 => (idx l2 (k : Int)).bind fun _ => some (List.set l2 (Int.toNat (k : Int)) (x.1, x.2.1, x.2.2))) = some (L.take k ++ x :: L.drop k) := by
  intro _
  rw [w, appendS_some (by simp only [List.length_cons, List.length_nil]; omega) (by decide)]
  simp only [Option.bind_some]
  generalize hz : ((0, (⟨#[]⟩ : ByteArray), (⟨#[]⟩ : ByteArray)) : Ky) = z
  have hlen : (L ++ [z]).length = L.length + 1 := by simp
  have c1 : chkS (L ++ [z]) ((k + 1 : Nat) : Int) ((L ++ [z]).length : Int) = some () := by unfold chkS; rw [if_pos (by rw [hlen]; omega)]
  have c2 : chkS (L ++ [z]) (k : Int) ((L ++ [z]).length : Int) = some () := by unfold chkS; rw [if_pos (by rw [hlen]; omega)]
  have c3 : copyM (L ++ [z]) ((k + 1 : Nat) : Int) (k : Int) = some (copyL (L ++ [z]) (k + 1) k) := by unfold copyM; rw [if_pos (by rw [hlen]; omega)]; rfl
  simp only [c1, c2, c3, Option.bind_some]
  have e : copyL (L ++ [z]) (k + 1) k = (L ++ [z]).take (k + 1) ++ L.drop k := by
   have t1 : ((L ++ [z]).drop k).take (L.length - k) = L.drop k := by
    rw [List.drop_append_of_le_length hp, List.take_append_of_le_length (by rw [List.length_drop]; omega), List.take_of_length_le (by rw [List.length_drop]; omega)]
   have t2 : (L ++ [z]).drop (L.length + 1) = [] := List.drop_of_length_le (by rw [hlen]; omega)
   unfold copyL
   rw [hlen, show min (L.length + 1 - k) (L.length + 1 - (k + 1)) = L.length - k by omega, show k + 1 + (L.length - k) = L.length + 1 by omega, t1, t2, List.append_nil]
  have hlt : k < (copyL (L ++ [z]) (k + 1) k).length := by rw [e]; simp only [List.length_append, List.length_take, List.length_cons, List.length_nil, List.length_drop]; omega
  rw [idx_nat hlt]
  simp only [Option.bind_some, Int.toNat_natCast]
  congr 1
  rw [e]
  have e2 : (L ++ [z]).take (k + 1) = L.take k ++ [((L ++ [z])[k]'(by rw [hlen]; omega))] := by
   rw [List.take_succ_eq_append_getElem (by rw [hlen]; omega), List.take_append_of_le_length hp]
  rw [e2, List.append_assoc, List.set_append_right _ _ (by simp only [List.length_take]; omega)]
  have e3 : k - (L.take k).length = 0 := by simp only [List.length_take]; omega
  rw [e3]; rfl
 simp only [testgateref10_Insert, h1', Option.bind_some]
 by_cases hc : (k : Int) < (L.length : Int)
 ·have hi : k < L.length := by omega
  simp only [hc, decide_true, if_true, idx_nat hi, Option.bind_some, keyEq]
  by_cases he : L[k] = x
  ·simp only [he, decide_true, if_true]
   rw [if_pos (by rw [List.getElem?_eq_getElem hi, he])]
  ·simp only [he, decide_false, Bool.false_eq_true, if_false]
   have hne : L[k]? ≠ some x := by rw [List.getElem?_eq_getElem hi]; intro g; exact he (Option.some.inj g)
   rw [if_neg hne]
   exact fin hne
 ·simp only [hc, decide_false, Bool.false_eq_true, if_false, Option.bind_some]
  have hne : L[k]? ≠ some x := by rw [List.getElem?_eq_none (by omega)]; intro g; cases g
  rw [if_neg hne]
  exact fin hne
theorem Set_loop {N : Nat} {L : List Ky} (hl : L.length < 500000) (hN : 1000000 ≤ N) : ∀ (d i M : Nat) (S : List Ky), i + d = L.length → d < M → S.length ≤ i → loopM (testgateref11_Set_L1 N L) M (S, (i : Int)) = some ((L.drop i).foldl insK S)
 | _, _, 0, _, _, h, _ => absurd h (Nat.not_lt_zero _)
 | d, i, M + 1, S, h1, h2, h3 => by
  simp only [loopM, testgateref11_Set_L1]
  cases d with
  | zero =>
   have hc : ¬ ((i : Int) < (L.length : Int)) := by omega
   simp only [hc, decide_false, Bool.false_eq_true, if_false, Option.bind_some]
   rw [List.drop_of_length_le (by omega)]; rfl
  | succ d =>
   have hi : i < L.length := by omega
   have hc : ((i : Int) < (L.length : Int)) := by omega
   have w2 : IntKind.wrap .i64 ((i : Int) + 1) = ((i + 1 : Nat) : Int) := by rw [wi64 (by omega) (by omega)]; omega
   have hins := Insert_eq (N := N) (L := S) L[i] (by omega) (by omega)
   simp only [hc, decide_true, if_true, idx_nat hi, Option.bind_some]
   rw [show testgateref10_Insert N S (L[i].1, L[i].2.1, L[i].2.2) = some (insK S L[i]) from hins]
   have hdrop : L.drop i = L[i] :: L.drop (i + 1) := (List.getElem_cons_drop hi).symm
   have hle := insK_len S L[i]
   simp only [Option.bind_some, w2]
   rw [Set_loop hl hN d (i + 1) M _ (by omega) (by omega) (by omega), hdrop]
   rfl
theorem foldK_strict : ∀ (L S : List Ky), Strict cK S → Strict cK (L.foldl insK S)
 | [], _, h => h
 | _ :: L, _, h => foldK_strict L _ (insK_strict h)
theorem foldK_mem : ∀ {L S : List Ky} {z : Ky}, z ∈ L.foldl insK S ↔ z ∈ L ∨ z ∈ S
 | [], S, z => by simp
 | x :: L, S, z => by
  simp only [List.foldl_cons, List.mem_cons]
  rw [foldK_mem, insK_mem]
  constructor
  ·rintro (h | h | h)
   ·exact .inl (.inr h)
   ·exact .inl (.inl h)
   ·exact .inr h
  ·rintro ((h | h) | h)
   ·exact .inr (.inl h)
   ·exact .inl h
   ·exact .inr (.inr h)
theorem refSet_eq {N : Nat} {L : List Ky} (hl : L.length < 500000) (hN : 1000000 ≤ N) : testgateref11_Set N L = some (canon L) := by
 have h1 : loopM (testgateref11_Set_L1 N L) N (([] : List Ky), 0) = some (L.foldl insK []) := Set_loop hl hN L.length 0 N [] (by omega) (by omega) (Nat.le_refl _)
 simp only [testgateref11_Set, h1, Option.bind_some]
 congr 1
 exact strict_ext cK_lin (foldK_strict L [] List.Pairwise.nil) (canon_strict L) fun z => by rw [foldK_mem, canon_mem]; simp
end Go.Proofs.YtgggihpbhmbjaaaDoor
