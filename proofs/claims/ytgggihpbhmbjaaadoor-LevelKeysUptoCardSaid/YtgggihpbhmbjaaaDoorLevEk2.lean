/- LevelKeys: which keys take the place of others at each level, or the errors; which levels are finer. What is read of the arguments is small. -/
import Derived.Test.YtgggihpbhmbjaaaDoorLevDk2
namespace Go.Proofs.YtgggihpbhmbjaaaDoor
open Go Go.Dc Go.Sort Go.Proofs
def keyR (n : Int) (k : Ky) : Ky × Int := if 1 ≤ n ∧ n ≤ 3 then (if checkP k = true then (keyP n k, 0) else ((0, e0, e0), 1)) else ((0, e0, e0), 3)
theorem refCheck_eq {N : Nat} {k : Ky} (hN : 100 < N) : testgateref11_Check N k = some (checkP k) := by
 obtain ⟨q, x, y⟩ := k
 simp only [testgateref11_Check, checkP, refName_eq (N := N) (s := x) hN, refName_eq (N := N) (s := y) hN, refPath_eq (N := N) (s := x) hN, Option.bind_some, beq_e0]
 by_cases g1 : q = 1
 ·subst g1; simp; cases nameP x <;> rfl
 by_cases g2 : q = 2
 ·subst g2; simp; cases nameP x <;> rfl
 by_cases g3 : q = 3
 ·subst g3; simp; cases pathB x.data.toList <;> rfl
 by_cases g4 : q = 4
 ·subst g4; simp; cases pathB x.data.toList <;> rfl
 by_cases g5 : q = 5
 ·subst g5; simp; cases nameP x <;> rfl
 by_cases g6 : q = 6
 ·subst g6; simp; cases nameP x <;> rfl
 by_cases g7 : q = 7
 ·subst g7; simp; cases nameP x <;> rfl
 simp [g1, g2, g3, g4, g5, g6, g7]
theorem known_eq {N : Nat} (n : Int) : level_known N n = some (decide (1 ≤ n ∧ n ≤ 3)) := by
 simp only [level_known, ge_iff_le]
 by_cases h : 1 ≤ n
 ·simp [h]
 ·simp [h]
theorem check_kind {k : Ky} (h : checkP k = true) : k.1 = 1 ∨ k.1 = 2 ∨ k.1 = 3 ∨ k.1 = 4 ∨ k.1 = 5 ∨ k.1 = 6 ∨ k.1 = 7 := by
 by_cases g : k.1 = 1 ∨ k.1 = 2 ∨ k.1 = 3 ∨ k.1 = 4 ∨ k.1 = 5 ∨ k.1 = 6 ∨ k.1 = 7
 ·exact g
 ·simp only [not_or] at g
  obtain ⟨g1, g2, g3, g4, g5, g6, g7⟩ := g
  simp [checkP, g1, g2, g3, g4, g5, g6, g7] at h
theorem level_Key_eq {N : Nat} {n : Int} {k : Ky} (h1 : k.2.1.size < 100000000) (hN : 2 * k.2.1.size + 1000 < N) : level_Key N k n = some (keyR n k) := by
 simp only [level_Key, known_eq, Option.bind_some, keyR]
 by_cases hn : 1 ≤ n ∧ n ≤ 3
 ·rw [show fact_Check N (k.1, k.2.1, k.2.2) = some (checkP k) from fact_Check_eq h1 hN]
  simp only [hn, decide_true, Bool.not_true, Bool.false_eq_true, if_false, Option.bind_some, and_self, if_true]
  cases hc : checkP k with
  | false => rfl
  | true =>
   have hq := check_kind hc
   simp only [Bool.not_true, Bool.false_eq_true, if_false, if_true]
   have hn : n = 1 ∨ n = 2 ∨ n = 3 := by omega
   obtain ⟨q, x, y⟩ := k
   simp only at hq
   rcases hq with rfl | rfl | rfl | rfl | rfl | rfl | rfl <;> rcases hn with rfl | rfl | rfl <;> rfl
 ·simp only [hn, decide_false, Bool.not_false, if_true, if_false]
  rfl
theorem ref_Key_eq {N : Nat} {n : Int} {k : Ky} (hN : 100 < N) : testgateref12_Key N k n = some (keyR n k) := by
 simp only [testgateref12_Key, keyR]
 by_cases hn : 1 ≤ n ∧ n ≤ 3
 ·have g1 : ¬ n < 1 := by omega
  have g2 : ¬ n > 3 := by omega
  rw [show testgateref11_Check N (k.1, k.2.1, k.2.2) = some (checkP k) from refCheck_eq hN]
  simp only [g1, g2, hn, decide_false, Bool.false_eq_true, if_false, Option.bind_some, and_self, if_true]
  cases hc : checkP k with
  | false => rfl
  | true =>
   have hq := check_kind hc
   simp only [Bool.not_true, Bool.false_eq_true, if_false, if_true]
   have hn : n = 1 ∨ n = 2 ∨ n = 3 := by omega
   obtain ⟨q, x, y⟩ := k
   simp only at hq
   rcases hq with rfl | rfl | rfl | rfl | rfl | rfl | rfl <;> rcases hn with rfl | rfl | rfl <;> rfl
 ·simp only [hn, if_false]
  by_cases g1 : n < 1
  ·simp only [g1, decide_true, if_true, Option.bind_some]; rfl
  ·have g2 : n > 3 := by omega
   simp only [g1, g2, decide_true, decide_false, Bool.false_eq_true, if_false, if_true, Option.bind_some]; rfl
def keysR (n : Int) (L : List Ky) : List Ky × Int := if 1 ≤ n ∧ n ≤ 3 then (if L.all checkP = true then (canon (L.map (keyP n)), 0) else ([], 1)) else ([], 3)
def SmallK (L : List Ky) : Prop := ∀ k ∈ L, k.2.1.size ≤ 1048576
theorem keysA {N : Nat} {n : Int} (hn : 1 ≤ n ∧ n ≤ 3) {L : List Ky} (hl : L.length < 500000) (hL : SmallK L) (hN : 3000000 < N) : ∀ (d i M : Nat) (S : List Ky), i + d = L.length → d < M → S.length ≤ i →
  loopM (level_Keys_L1 N L n) M (S, (i : Int)) = some (if (L.drop i).all checkP = true then .inl (S ++ (L.drop i).map (keyP n)) else .inr ([], 1))
 | _, _, 0, _, _, h, _ => absurd h (Nat.not_lt_zero _)
 | d, i, M + 1, S, h1, h2, h3 => by
  simp only [loopM, level_Keys_L1]
  cases d with
  | zero =>
   have hc : ¬ ((i : Int) < (L.length : Int)) := by omega
   simp only [hc, decide_false, Bool.false_eq_true, if_false, Option.bind_some]
   rw [List.drop_of_length_le (by omega)]; simp
  | succ d =>
   have hi : i < L.length := by omega
   have hc : ((i : Int) < (L.length : Int)) := by omega
   have w2 : IntKind.wrap .i64 ((i : Int) + 1) = ((i + 1 : Nat) : Int) := by rw [wi64 (by omega) (by omega)]; omega
   have hs := hL L[i] (List.getElem_mem hi)
   have hkey := level_Key_eq (N := N) (n := n) (k := L[i]) (by omega) (by omega)
   have hdrop : L.drop i = L[i] :: L.drop (i + 1) := (List.getElem_cons_drop hi).symm
   simp only [hc, decide_true, if_true, idx_nat hi, Option.bind_some]
   rw [show level_Key N (L[i].1, L[i].2.1, L[i].2.2) n = some (keyR n L[i]) from hkey, hdrop]
   simp only [Option.bind_some, keyR, hn, and_self, if_true, List.all_cons]
   by_cases hck : checkP L[i] = true
   ·simp only [hck, if_true, bne_self_eq_false, Bool.false_eq_true, if_false, Bool.true_and]
    rw [appendS_some (by simp only [List.length_cons, List.length_nil]; omega) (by decide)]
    simp only [Option.bind_some, w2]
    rw [keysA hn hl hL hN d (i + 1) M _ (by omega) (by omega) (by simp only [List.length_append, List.length_cons, List.length_nil]; omega)]
    rw [List.append_assoc, List.map_cons]; rfl
   ·simp [hck]
theorem keysB {N : Nat} {n : Int} (hn : 1 ≤ n ∧ n ≤ 3) {L : List Ky} (hl : L.length < 500000) (hN : 3000000 < N) : ∀ (d i M : Nat) (S : List Ky), i + d = L.length → d < M → S.length ≤ i →
  loopM (testgateref12_Keys_L1 N L n) M (S, (i : Int)) = some (if (L.drop i).all checkP = true then .inl (S ++ (L.drop i).map (keyP n)) else .inr ([], 1))
 | _, _, 0, _, _, h, _ => absurd h (Nat.not_lt_zero _)
 | d, i, M + 1, S, h1, h2, h3 => by
  simp only [loopM, testgateref12_Keys_L1]
  cases d with
  | zero =>
   have hc : ¬ ((i : Int) < (L.length : Int)) := by omega
   simp only [hc, decide_false, Bool.false_eq_true, if_false, Option.bind_some]
   rw [List.drop_of_length_le (by omega)]; simp
  | succ d =>
   have hi : i < L.length := by omega
   have hc : ((i : Int) < (L.length : Int)) := by omega
   have w2 : IntKind.wrap .i64 ((i : Int) + 1) = ((i + 1 : Nat) : Int) := by rw [wi64 (by omega) (by omega)]; omega
   have hkey := ref_Key_eq (N := N) (n := n) (k := L[i]) (by omega)
   have hdrop : L.drop i = L[i] :: L.drop (i + 1) := (List.getElem_cons_drop hi).symm
   simp only [hc, decide_true, if_true, idx_nat hi, Option.bind_some]
   rw [show testgateref12_Key N (L[i].1, L[i].2.1, L[i].2.2) n = some (keyR n L[i]) from hkey, hdrop]
   simp only [Option.bind_some, keyR, hn, and_self, if_true, List.all_cons]
   by_cases hck : checkP L[i] = true
   ·simp only [hck, if_true, bne_self_eq_false, Bool.false_eq_true, if_false, Bool.true_and]
    rw [appendS_some (by simp only [List.length_cons, List.length_nil]; omega) (by decide)]
    simp only [Option.bind_some, w2]
    rw [keysB hn hl hN d (i + 1) M _ (by omega) (by omega) (by simp only [List.length_append, List.length_cons, List.length_nil]; omega)]
    rw [List.append_assoc, List.map_cons]; rfl
   ·simp [hck]
theorem Keys_eq {N : Nat} (n : Int) {L : List Ky} (hl : L.length < 500000) (hL : SmallK L) (hN : 3000000 < N) : level_Keys N L n = some (keysR n L) := by
 simp only [level_Keys, known_eq, Option.bind_some, keysR]
 by_cases hn : 1 ≤ n ∧ n ≤ 3
 ·have h1 : loopM (level_Keys_L1 N L n) N (([] : List Ky), 0) = _ := keysA hn hl hL hN L.length 0 N [] (by omega) (by omega) (Nat.le_refl _)
  simp only [hn, and_self, decide_true, Bool.not_true, Bool.false_eq_true, if_false, if_true, h1, Option.bind_some, List.drop_zero, List.nil_append]
  cases L.all checkP with
  | false => rfl
  | true =>
   simp only [if_true]
   rw [fact_Set_law (by simp only [List.length_map]; omega) (by simp only [List.length_map]; omega)]
   rfl
 ·simp only [hn, decide_false, Bool.not_false, if_true, if_false]
theorem refKeys_eq {N : Nat} (n : Int) {L : List Ky} (hl : L.length < 500000) (hN : 3000000 < N) : testgateref12_Keys N L n = some (keysR n L) := by
 simp only [testgateref12_Keys, keysR]
 by_cases hn : 1 ≤ n ∧ n ≤ 3
 ·have h1 : loopM (testgateref12_Keys_L1 N L n) N (([] : List Ky), 0) = _ := keysB hn hl hN L.length 0 N [] (by omega) (by omega) (Nat.le_refl _)
  have g1 : ¬ n < 1 := by omega
  have g2 : ¬ n > 3 := by omega
  simp only [hn, and_self, g1, g2, decide_false, Bool.false_eq_true, if_false, if_true, h1, Option.bind_some, List.drop_zero, List.nil_append]
  cases L.all checkP with
  | false => rfl
  | true =>
   simp only [if_true]
   rw [refSet_eq (by simp only [List.length_map]; omega) (by omega)]
   rfl
 ·simp only [hn, if_false]
  by_cases g1 : n < 1
  ·simp only [g1, decide_true, if_true, Option.bind_some]
  ·have g2 : n > 3 := by omega
   simp only [g1, g2, decide_true, decide_false, Bool.false_eq_true, if_false, if_true, Option.bind_some]
theorem keysR_len (n : Int) (L : List Ky) : (keysR n L).1.length ≤ L.length := by
 have := canon_len (L.map (keyP n))
 unfold keysR
 split
 ·split
  ·simpa using this
  ·simp
 ·simp
def finerP (a b : Int) : Bool := decide (1 ≤ a ∧ b ≤ 3 ∧ a < b)
theorem refFiner_eq {N : Nat} (a b : Int) : testgateref12_Finer N a b = some (finerP a b) := by
 simp only [testgateref12_Finer, finerP, ge_iff_le]
 by_cases h1 : 1 ≤ a
 ·by_cases h2 : b ≤ 3
  ·simp [h1, h2]
  ·simp [h1, h2]
 ·simp [h1]
theorem Finer_eq {N : Nat} (a b : Int) : level_Finer N a b = some (finerP a b) := by
 simp only [level_Finer, known_eq, Option.bind_some]
 by_cases ha : 1 ≤ a ∧ a ≤ 3
 ·by_cases hb : 1 ≤ b ∧ b ≤ 3
  ·simp only [ha, hb, and_self, decide_true, if_true]
   have ha : a = 1 ∨ a = 2 ∨ a = 3 := by omega
   have hb : b = 1 ∨ b = 2 ∨ b = 3 := by omega
   rcases ha with rfl | rfl | rfl <;> rcases hb with rfl | rfl | rfl <;> rfl
  ·have : finerP a b = false := decide_eq_false (by omega)
   simp only [ha, hb, and_self, decide_true, decide_false, Bool.false_eq_true, if_true, if_false, Option.bind_some, this]
 ·have : finerP a b = false := decide_eq_false (by omega)
  simp only [ha, decide_false, Bool.false_eq_true, if_false, Option.bind_some, this]
theorem keys3 {N : Nat} (n : Int) {L : List Ky} (hl : L.length < 500000) (hL : SmallK L) (hN : 3000000 < N) : ∀ (d i M : Nat), i + d = L.length → d < M → loopM (testgatelaw12_LevelKeys_L3 N n L) M (i : Int) = some (.inl ())
 | _, _, 0, _, h => absurd h (Nat.not_lt_zero _)
 | d, i, M + 1, h1, h2 => by
  simp only [loopM, testgatelaw12_LevelKeys_L3]
  cases d with
  | zero =>
   have hc : ¬ ((i : Int) < (L.length : Int)) := by omega
   simp only [hc, decide_false, Bool.false_eq_true, if_false, Option.bind_some]
  | succ d =>
   have hi : i < L.length := by omega
   have hc : ((i : Int) < (L.length : Int)) := by omega
   have w2 : IntKind.wrap .i64 ((i : Int) + 1) = ((i + 1 : Nat) : Int) := by rw [wi64 (by omega) (by omega)]; omega
   have hs := hL L[i] (List.getElem_mem hi)
   have k1 := level_Key_eq (N := N) (n := n) (k := L[i]) (by omega) (by omega)
   have k2 := ref_Key_eq (N := N) (n := n) (k := L[i]) (by omega)
   simp only [hc, decide_true, if_true, idx_nat hi, Option.bind_some]
   rw [show level_Key N (L[i].1, L[i].2.1, L[i].2.2) n = some (keyR n L[i]) from k1, show testgateref12_Key N (L[i].1, L[i].2.1, L[i].2.2) n = some (keyR n L[i]) from k2]
   simp only [Option.bind_some, keyEq, decide_true, Bool.not_true, Bool.false_eq_true, if_false, bne_self_eq_false, w2]
   exact keys3 n hl hL hN d (i + 1) M (by omega) (by omega)
theorem Keys_ok2 {N : Nat} (hN : 3000000 < N) (p0 : List Int) (p1 : List Ky) (h1 : p1.length ≤ 1048576) (h2 : SmallK p1) (p2 p3 : Int) : Ok (testgatelaw12_LevelKeys N p0 p1 p2 p3) fun b => b = true := by
 unfold testgatelaw12_LevelKeys
 refine Ok.bind (P := fun o1 => o1.length ≤ 5 ∧ SmallK o1) ?_ ?_
 ·refine Ok.ite (fun hc => ?_) fun hc => Ok.mk ⟨?_, h2⟩
  ·have hc := of_decide_eq_true hc
   have hx : subS p1 0 5 = some (p1.take 5) := by
    unfold subS
    rw [if_pos (by omega)]
    simp
   rw [hx]
   refine Ok.mk ⟨by simp only [List.length_take]; omega, fun k hk => h2 k (List.mem_of_mem_take hk)⟩
  ·simp only [decide_eq_true_eq] at hc; omega
 ·rintro o1 ⟨ho1, hs1⟩
  refine Ok.next (by omega) (by omega) (by decide) (by decide) fun r r0 r1 => ?_
  refine Ok.loop (fun s => ∃ (a : Int), s.2.2.1 = p0 ∧ s.2.2.2 = a ∧ 0 ≤ a ∧ a + 3 * s.2.1 ≤ 100 ∧ 0 ≤ s.2.1 ∧ s.2.1 + s.1.length ≤ 8 ∧ SmallK s.1) (fun s => s.2.1.toNat) (fun b => b.1.length ≤ 8 ∧ SmallK b.1 ∧ b.2.1 = p0 ∧ 0 ≤ b.2.2 ∧ b.2.2 ≤ 100)
   (fun s hs => ?_) ⟨0 + 1, rfl, rfl, by omega, by simp only; omega, r0, by simp only [List.length_nil]; omega, fun k hk => by simp at hk⟩ (by simp only; omega) fun b hb => ?_
  ·obtain ⟨L, i, t, a⟩ := s
   obtain ⟨a', g1, g2, g3, g4, g5, g6, g7⟩ := hs
   simp only at g1 g2 g3 g4 g5 g6 g7
   subst g1; subst g2
   unfold testgatelaw12_LevelKeys_L1
   refine Ok.ite (fun hc => ?_) fun hc => ?_
   ·have hc := of_decide_eq_true hc
    simp only at hc
    refine Ok.bind (Key_ok (l := t) (a := a) g3 (by omega)) ?_
    rintro _ ⟨a2, k, rfl, q1, q2, q3⟩
    refine Ok.app (by simp only [List.length_cons, List.length_nil]; omega) (by decide) (Ok.mk ?_)
    have w : IntKind.wrap .i64 (i - 1) = i - 1 := wi64 (by omega) (by omega)
    have hkm := List.all_eq_true.1 made_checkP k q3
    simp only [Bool.and_eq_true, decide_eq_true_eq] at hkm
    refine ⟨⟨a2, rfl, rfl, by omega, ?_, ?_, ?_, fun k' hk' => ?_⟩, ?_⟩
    ·simp only [w]; omega
    ·simp only [w]; omega
    ·simp only [w, List.length_append, List.length_cons, List.length_nil]; omega
    ·rcases List.mem_append.1 hk' with hk' | hk'
     ·exact g7 k' hk'
     ·simp only [List.mem_cons, List.not_mem_nil, or_false] at hk'; subst hk'; simp only; omega
    ·simp only [w]; omega
   ·exact Ok.mk ⟨by simp only at g5 g6 ⊢; omega, g7, rfl, g3, by simp only at g4 g5 ⊢; omega⟩
  ·obtain ⟨hb1, hb2, hb3, hb4, hb5⟩ := hb
   refine Ok.chance (by omega) (by omega) (by decide) (by decide) fun ch => ?_
   refine Ok.bind (P := fun o3 => o3.length ≤ 13 ∧ SmallK o3) ?_ ?_
   ·refine Ok.ite (fun _ => ?_) fun _ => Ok.mk ⟨by omega, hb2⟩
    refine Ok.app (by omega) (by decide) (Ok.mk ⟨by rw [List.length_append]; omega, fun k hk => ?_⟩)
    rcases List.mem_append.1 hk with hk | hk
    ·exact hb2 k hk
    ·exact hs1 k hk
   ·rintro o3 ⟨ho3, hs3⟩
    refine Ok.loop (fun s => ∃ j : Nat, s = (j : Int) ∧ j ≤ 6) (fun s => 6 - s.toNat) (fun b => b = .inl ()) (fun s hs => ?_) ⟨0, rfl, by decide⟩ (by simp only [Int.toNat_zero]; omega) fun o ho => ?_
    ·obtain ⟨j, rfl, hj⟩ := hs
     unfold testgatelaw12_LevelKeys_L2
     refine Ok.ite (fun hc => ?_) fun hc => Ok.mk rfl
     have hc := of_decide_eq_true hc
     have hjl : j < [1, 2, 3, 0, 4, p2].length := by omega
     have hj6 : j < 6 := hjl
     rw [idx_nat hjl]
     simp only [Option.bind_some]
     generalize [1, 2, 3, 0, 4, p2][j] = n
     have hkl := keysR_len n o3
     rw [Keys_eq n (by omega) hs3 hN, refKeys_eq n (by omega) hN]
     simp only [Option.bind_some, bne_self_eq_false, Bool.false_eq_true, if_false]
     rw [Same_refl (by omega) (by omega)]
     simp only [Option.bind_some, Bool.not_true, Bool.false_eq_true, if_false, Finer_eq, refFiner_eq, beq_self_eq_true]
     have hs4 : SmallK (o3 ++ o1) := fun k hk => by
      rcases List.mem_append.1 hk with hk | hk
      ·exact hs3 k hk
      ·exact hs1 k hk
     refine Ok.app (by omega) (by decide) ?_
     rw [show loopM (testgatelaw12_LevelKeys_L3 N n (o3 ++ o1)) N 0 = some (.inl ()) from keys3 n (by rw [List.length_append]; omega) hs4 hN (o3 ++ o1).length 0 N (by omega) (by rw [List.length_append]; omega)]
     have w : IntKind.wrap .i64 ((j : Int) + 1) = ((j + 1 : Nat) : Int) := by rw [wi64 (by omega) (by omega)]; omega
     simp only [Option.bind_some, w]
     exact Ok.mk ⟨⟨j + 1, rfl, by omega⟩, by simp only [Int.toNat_natCast]; omega⟩
    ·subst ho
     simp only
     rw [level_awake (by omega)]
     exact Ok.mk rfl
theorem testgatelaw12_LevelKeys_true (l : List Int) (_gl : l.length ≤ 1048576 ∧ ∀ x ∈ l, (Lit.int .i64 x).wf = true) (raw : List Ky) (graw : raw.length ≤ 1048576 ∧ ∀ k ∈ raw, (Lit.int .i64 k.1).wf = true ∧ k.2.1.size ≤ 1048576 ∧ k.2.2.size ≤ 1048576) (a : Int) (_ga : (Lit.int .i64 a).wf = true) (b : Int) (_gb : (Lit.int .i64 b).wf = true) :
  ∃ N, testgatelaw12_LevelKeys N l raw a b = some true := by
 refine ⟨4000000, ?_⟩
 obtain ⟨x, h1, rfl⟩ := Keys_ok2 (N := 4000000) (by decide) l raw graw.1 (fun k hk => (graw.2 k hk).2.1) a b
 exact h1
end Go.Proofs.YtgggihpbhmbjaaaDoor
