/- Changes of files: their order, sorted lists, the list of all changes. No condition. -/
import Derived.Test.YtgggihpbhmbjaaaGreatDoorFrBy6
import Derived.Test.YtgggihpbhmbjaaaGreatDoorSetPy6
namespace Go.Proofs.YtgggihpbhmbjaaaGreatDoor
open Go Go.Dc Go.Sort Go.Proofs
theorem less_cmp : ∀ a b : List UInt8, Op.bytesLess a b = decide (cmpL a b < 0)
 | [], [] => rfl
 | [], _ :: _ => rfl
 | _ :: _, [] => rfl
 | x :: a, y :: b => by
  rw [show Op.bytesLess (x :: a) (y :: b) = (decide (x < y) || ((x == y) && Op.bytesLess a b)) from rfl, less_cmp a b]
  by_cases h : x = y
  ·subst h
   have h0 : ¬ x < x := by simp only [u8_lt]; omega
   have e : cmpL (x :: a) (x :: b) = cmpL a b := by simp [cmpL]
   simp [h0, e]
  ·have h2 : (x == y) = false := by simpa using h
   by_cases h3 : x < y
   ·have e : cmpL (x :: a) (y :: b) = -1 := by simp [cmpL, h, h3]
    simp [h3, e]
   ·have e : cmpL (x :: a) (y :: b) = 1 := by simp [cmpL, h, h3]
    simp [h2, h3, e]
theorem blt_cmp (a b : ByteArray) : blt a b = decide (cmpS a b < 0) := by
 unfold blt
 rw [less_cmp, cmpS_eq, ByteArray.toList_eq, ByteArray.toList_eq]
theorem blt_iff {a b : ByteArray} : blt a b = true ↔ cmpS a b < 0 := by rw [blt_cmp, decide_eq_true_eq]
theorem strict_ext2 {α : Type} {c : α → α → Prop} (irr : ∀ z, ¬ c z z) (tr : ∀ x y z, c x y → c y z → c x z) : ∀ {l k : List α}, l.Pairwise c → k.Pairwise c → (∀ z, z ∈ l ↔ z ∈ k) → l = k
 | [], [], _, _, _ => rfl
 | [], y :: k, _, _, h => by have := (h y).2 (List.mem_cons_self ..); cases this
 | x :: l, [], _, _, h => by have := (h x).1 (List.mem_cons_self ..); cases this
 | x :: l, y :: k, h1, h2, h => by
  obtain ⟨a1, a2⟩ := List.pairwise_cons.1 h1
  obtain ⟨b1, b2⟩ := List.pairwise_cons.1 h2
  have hxy : x = y := by
   rcases List.mem_cons.1 ((h x).1 (List.mem_cons_self ..)) with e | e
   ·exact e
   ·rcases List.mem_cons.1 ((h y).2 (List.mem_cons_self ..)) with g | g
    ·exact g.symm
    ·exact absurd (tr _ _ _ (b1 x e) (a1 y g)) (irr y)
  subst hxy
  have : l = k := strict_ext2 irr tr a2 b2 fun z => by
   constructor
   ·intro hz
    rcases List.mem_cons.1 ((h z).1 (List.mem_cons_of_mem _ hz)) with e | e
    ·rw [e] at hz; exact absurd (a1 x hz) (irr x)
    ·exact e
   ·intro hz
    rcases List.mem_cons.1 ((h z).2 (List.mem_cons_of_mem _ hz)) with e | e
    ·rw [e] at hz; exact absurd (b1 x hz) (irr x)
    ·exact e
  rw [this]
theorem key_inj {α β : Type} {f : α → β} : ∀ {l : List α}, (l.map f).Nodup → ∀ {x y : α}, x ∈ l → y ∈ l → f x = f y → x = y
 | a :: l, h, x, y, hx, hy, e => by
  simp only [List.map_cons, List.nodup_cons] at h
  rcases List.mem_cons.1 hx with h1 | h1
  ·rcases List.mem_cons.1 hy with h2 | h2
   ·rw [h1, h2]
   ·exact absurd (by rw [← h1, e]; exact List.mem_map_of_mem h2) h.1
  ·rcases List.mem_cons.1 hy with h2 | h2
   ·exact absurd (by rw [← h2, ← e]; exact List.mem_map_of_mem h1) h.1
   ·exact key_inj h.2 h1 h2 e
theorem sort_pair {α : Type} {c : α → α → Int} (hO : SWO (ltOf c)) (ha : ∀ x y, c x y < 0 ↔ 0 < c y x) (l : List α) : (l.mergeSort fun x y => !(ltOf c) y x).Pairwise fun x y => ¬ c y x < 0 := by
 have := List.pairwise_mergeSort (le := fun x y => !(ltOf c) y x) (fun x y z h1 h2 => by
  simp only [Bool.not_eq_true'] at *
  exact hO.ntrans z y x h2 h1) (fun x y => by
  simp only [Bool.or_eq_true, Bool.not_eq_true', ltOf, decide_eq_false_iff_not]
  have := ha x y; omega) l
 refine this.imp fun h => ?_
 rename_i x y
 simpa only [Bool.not_eq_true', ltOf, decide_eq_false_iff_not] using h
abbrev Chg := Int × ByteArray × ByteArray × ByteArray
def PAsc (L : List Chg) : Prop := L.Pairwise fun x y => cmpS x.2.1 y.2.1 < 0
theorem cS_irr (z : ByteArray) : ¬ cmpS z z < 0 := by have := (cmpS_lin.zero z z).2 rfl; omega
theorem PAsc.ext {L K : List Chg} (h1 : PAsc L) (h2 : PAsc K) (h : ∀ z, z ∈ L ↔ z ∈ K) : L = K :=
 strict_ext2 (c := fun x y : Chg => cmpS x.2.1 y.2.1 < 0) (fun z => cS_irr _) (fun _ _ _ => cmpS_lin.trans _ _ _) h1 h2 h
def PDist (L : List Chg) : Prop := (L.map fun x => x.2.1).Nodup
def sortC (L : List Chg) : List Chg := L.mergeSort fun x y => !(ltOf qIj) y x
theorem cmpC_path {x y : Chg} (h : x.2.1 ≠ y.2.1) : qIj x y = cmpS x.2.1 y.2.1 := by
 unfold qIj lexC
 rw [if_pos (fun e => h ((cmpS_lin.zero _ _).1 e))]
theorem cmpC_zero {x y : Chg} (h : qIj x y = 0) : x.2.1 = y.2.1 := by
 by_cases e : x.2.1 = y.2.1
 ·exact e
 ·rw [cmpC_path e] at h; exact (cmpS_lin.zero _ _).1 h
theorem sortC_mem {L : List Chg} {z : Chg} : z ∈ sortC L ↔ z ∈ L := List.mem_mergeSort
theorem sortC_asc {L : List Chg} (h : PDist L) : PAsc (sortC L) := by
 have h1 := sort_pair cmpChange_swo qMa L
 have h2 : (sortC L).Pairwise fun x y => x.2.1 ≠ y.2.1 := by
  have : ((sortC L).map fun x => x.2.1).Nodup := ((List.mergeSort_perm L _).map _).nodup_iff.2 h
  exact List.pairwise_map.1 this
 refine (h1.and h2).imp fun {x y} h => ?_
 obtain ⟨a, b⟩ := h
 rw [cmpC_path (Ne.symm b)] at a
 have e1 := cmpS_lin.anti x.2.1 y.2.1
 have e2 : cmpS y.2.1 x.2.1 ≠ 0 := fun e => b ((cmpS_lin.zero _ _).1 e).symm
 omega
theorem sortC_ext {L K : List Chg} (h1 : PDist L) (h2 : PDist K) (h : ∀ z, z ∈ L ↔ z ∈ K) : sortC L = sortC K :=
 (sortC_asc h1).ext (sortC_asc h2) fun z => by rw [sortC_mem, sortC_mem]; exact h z
theorem PDist.perm {L K : List Chg} (h : PDist L) (hp : L.Perm K) : PDist K := (hp.map _).nodup_iff.1 h
theorem sort_eq {N : Nat} {L K : List Chg} (hN : 10 ≤ N) (hl : L.length < 1000000) (hp : L.Perm K) (hd : PDist K) : qBg N L = some (sortC K) := by
 have hdL : PDist L := hd.perm hp.symm
 unfold qBg
 rw [if_pos ⟨hN, by omega, fun x hx y hy h => key_inj hdL hx hy (cmpC_zero h)⟩]
 exact congrArg some (sortC_ext hdL hd fun z => hp.mem_iff)
def beforeP (x y : Chg) : Bool := blt x.2.1 y.2.1 || (decide (x.2.1 = y.2.1) && decide (x.1 < y.1))
def insC : List Chg → Chg → List Chg
 | [], x => [x]
 | y :: L, x => if beforeP x y = true then x :: y :: L else y :: insC L x
theorem insC_perm : ∀ (L : List Chg) (x : Chg), (insC L x).Perm (x :: L)
 | [], x => .refl _
 | y :: L, x => by
  simp only [insC]
  split
  ·exact .refl _
  ·exact (List.Perm.cons y (insC_perm L x)).trans (.swap x y L)
theorem insC_len (L : List Chg) (x : Chg) : (insC L x).length = L.length + 1 := (insC_perm L x).length_eq
theorem insC_asc : ∀ {L : List Chg} {x : Chg}, PAsc L → (∀ y ∈ L, x.2.1 ≠ y.2.1) → PAsc (insC L x)
 | [], x, _, _ => by simp [insC, PAsc]
 | y :: L, x, h, hx => by
  obtain ⟨a1, a2⟩ := List.pairwise_cons.1 h
  have hne := hx y (List.mem_cons_self ..)
  have e : beforeP x y = decide (cmpS x.2.1 y.2.1 < 0) := by simp [beforeP, hne, blt_cmp]
  simp only [insC, e, decide_eq_true_eq]
  split
  ·rename_i h1
   refine List.pairwise_cons.2 ⟨fun z hz => ?_, h⟩
   rcases List.mem_cons.1 hz with rfl | hz
   ·exact h1
   ·exact cmpS_lin.trans _ _ _ h1 (a1 z hz)
  ·rename_i h1
   refine List.pairwise_cons.2 ⟨fun z hz => ?_, insC_asc a2 fun y hy => hx y (List.mem_cons_of_mem _ hy)⟩
   rcases List.mem_cons.1 ((insC_perm L x).mem_iff.1 hz) with rfl | hz
   ·have e1 := cmpS_lin.anti y.2.1 z.2.1
    have e2 : cmpS z.2.1 y.2.1 ≠ 0 := fun e => hne ((cmpS_lin.zero _ _).1 e)
    show cmpS y.2.1 z.2.1 < 0
    omega
   ·exact a1 z hz
theorem before_eq {N : Nat} (x y : Chg) : qFz N x y = some (beforeP x y) := by
 simp only [qFz, beforeP, blt, eqB]
 generalize Op.bytesLess x.2.1.toList y.2.1.toList = b
 cases b <;> by_cases h2 : x.2.1 = y.2.1 <;> simp [h2]
def posC : List Chg → Chg → Nat
 | [], _ => 0
 | y :: L, x => if beforeP x y = true then 0 else posC L x + 1
theorem posC_le : ∀ (L : List Chg) (x : Chg), posC L x ≤ L.length
 | [], _ => Nat.le_refl _
 | y :: L, x => by
  have := posC_le L x
  simp only [posC, List.length_cons]
  split <;> omega
theorem insC_pos : ∀ (L : List Chg) (x : Chg), insC L x = L.take (posC L x) ++ x :: L.drop (posC L x)
 | [], _ => rfl
 | y :: L, x => by
  simp only [insC, posC]
  split
  ·rfl
  ·rw [insC_pos L x]; rfl
theorem ins_loop {N : Nat} {L : List Chg} {x : Chg} (hl : L.length < 1000000) : ∀ (d i M : Nat), i + d = L.length → d < M → qBf (qDn N L x) M (i : Int) = some ((i + posC (L.drop i) x : Nat) : Int)
 | _, _, 0, _, h => absurd h (Nat.not_lt_zero _)
 | d, i, M + 1, h1, h2 => by
  simp only [qBf, qDn]
  cases d with
  | zero =>
   have hc : ¬ ((i : Int) < (L.length : Int)) := by omega
   simp only [hc, decide_false, Bool.false_eq_true, if_false, Option.bind_some]
   rw [List.drop_of_length_le (by omega)]; rfl
  | succ d =>
   have hi : i < L.length := by omega
   have hc : ((i : Int) < (L.length : Int)) := by omega
   have w2 : IntKind.wrap .i64 ((i : Int) + 1) = ((i + 1 : Nat) : Int) := by rw [wi64 (by omega) (by omega)]; omega
   have hb := before_eq (N := N) x L[i]
   simp only [hc, decide_true, if_true, qCe hi, Option.bind_some]
   rw [hb]
   have hdrop : L.drop i = L[i] :: L.drop (i + 1) := (List.getElem_cons_drop hi).symm
   simp only [Option.bind_some]
   rw [hdrop]
   simp only [posC]
   cases hbb : beforeP x L[i] with
   | true => simp
   | false =>
    simp only [Bool.not_false, if_true, Bool.false_eq_true, if_false, w2, Option.bind_some]
    rw [ins_loop hl d (i + 1) M (by omega) (by omega)]
    congr 2; omega
theorem insert_eqC {N : Nat} {L : List Chg} (x : Chg) (hl : L.length < 1000000) (hN : L.length < N) : qDo N L x = some (insC L x) := by
 have h1 := ins_loop (N := N) (L := L) (x := x) hl L.length 0 N (by omega) hN
 have h1' : qBf (qDn N L x) N 0 = some ((posC L x : Nat) : Int) := by
  have e : (0 + posC (L.drop 0) x : Nat) = posC L x := by rw [List.drop_zero, Nat.zero_add]
  rw [e] at h1; exact h1
 have hp := posC_le L x
 generalize hk : posC L x = k at *
 have w : IntKind.wrap .i64 ((k : Int) + 1) = ((k + 1 : Nat) : Int) := by rw [wi64 (by omega) (by omega)]; omega
 simp only [qDo, h1', Option.bind_some, w]
 rw [qCn (by simp only [List.length_cons, List.length_nil]; omega) (by decide)]
 simp only [Option.bind_some]
 generalize hz : ((0, (⟨#[]⟩ : ByteArray), (⟨#[]⟩ : ByteArray), (⟨#[]⟩ : ByteArray)) : Chg) = z
 have hlen : (L ++ [z]).length = L.length + 1 := by simp
 have c1 : chkS (L ++ [z]) ((k + 1 : Nat) : Int) ((L ++ [z]).length : Int) = some () := by unfold chkS; rw [if_pos (by rw [hlen]; omega)]
 have c2 : chkS (L ++ [z]) (k : Int) ((L ++ [z]).length : Int) = some () := by unfold chkS; rw [if_pos (by rw [hlen]; omega)]
 have c3 : copyM (L ++ [z]) ((k + 1 : Nat) : Int) (k : Int) = some (copyL (L ++ [z]) (k + 1) k) := by unfold copyM; rw [if_pos (by rw [hlen]; omega)]; rfl
 simp only [c1, c2, c3, Option.bind_some]
 have e : copyL (L ++ [z]) (k + 1) k = (L ++ [z]).take (k + 1) ++ L.drop k := by
  have t1 : ((L ++ [z]).drop k).take (L.length - k) = L.drop k := by
   rw [List.drop_append_of_le_length hp, List.take_append_of_le_length (by rw [List.length_drop]; omega), List.take_of_length_le (by rw [List.length_drop]; omega)]
  have t2 : (L ++ [z]).drop (L.length + 1) = [] := List.drop_of_length_le (by rw [hlen]; omega)
  unfold copyL
  rw [hlen, show min (L.length + 1 - k) (L.length + 1 - (k + 1)) = L.length - k by omega, show k + 1 + (L.length - k) = L.length + 1 by omega, t1, t2, List.append_nil]
 have hlt : k < (copyL (L ++ [z]) (k + 1) k).length := by rw [e]; simp only [List.length_append, List.length_take, List.length_cons, List.length_nil, List.length_drop]; omega
 rw [qCe hlt]
 simp only [Option.bind_some, Int.toNat_natCast]
 congr 1
 rw [e, insC_pos, hk]
 have e2 : (L ++ [z]).take (k + 1) = L.take k ++ [((L ++ [z])[k]'(by rw [hlen]; omega))] := by
  rw [List.take_succ_eq_append_getElem (by rw [hlen]; omega), List.take_append_of_le_length hp]
 rw [e2, List.append_assoc, List.set_append_right _ _ (by simp only [List.length_take]; omega)]
 have e3 : k - (L.take k).length = 0 := by simp only [List.length_take]; omega
 rw [e3]; rfl
end Go.Proofs.YtgggihpbhmbjaaaGreatDoor
