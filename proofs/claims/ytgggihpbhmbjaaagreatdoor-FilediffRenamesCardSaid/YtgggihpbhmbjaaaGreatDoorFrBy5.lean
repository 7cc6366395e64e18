/- Revisions: what Find, Put, Remove, Move and IsSource return. No condition. -/
import Derived.Test.YtgggihpbhmbjaaaGreatDoorFrAy5
namespace Go.Proofs.YtgggihpbhmbjaaaGreatDoor
open Go Go.Dc
def lowK : List File → ByteArray → Nat
 | [], _ => 0
 | f :: L, p => if blt f.1 p = true then lowK L p + 1 else 0
theorem lowK_le (L : List File) (p : ByteArray) : lowK L p ≤ L.length := by
 induction L with
 | nil => exact Nat.le_refl _
 | cons f L ih => simp only [lowK]; split <;> simp only [List.length_cons] <;> omega
theorem lowK_spec {L : List File} (ha : Asc L) (p : ByteArray) : ∀ h, ∀ hh : h < L.length, (blt (L[h]).1 p = true ↔ h < lowK L p) := by
 induction L with
 | nil => intro h hh; cases hh
 | cons f L ih =>
  have ha' := List.pairwise_cons.1 ha
  intro h hh
  simp only [lowK]
  by_cases hf : blt f.1 p = true
  ·rw [if_pos hf]
   cases h with
   | zero => simp [hf]
   | succ h => simpa using ih ha'.2 h (by simpa using hh)
  ·rw [if_neg hf]
   cases h with
   | zero => simpa using hf
   | succ h =>
    simp only [List.getElem_cons_succ, Nat.not_lt_zero, iff_false]
    intro h2
    exact hf (blt_trans (ha'.1 _ (List.getElem_mem (by simpa using hh))) h2)
def hereB (p : ByteArray) (f : File) : Option ByteArray := if f.1 = p then some f.2 else none
theorem fget_low {L : List File} (ha : Asc L) (p : ByteArray) : fget L p = (L[lowK L p]?).bind (hereB p) := by
 induction L with
 | nil => rfl
 | cons f L ih =>
  have ha' := List.pairwise_cons.1 ha
  simp only [lowK, fget]
  by_cases hf : blt f.1 p = true
  ·rw [if_pos hf, if_neg (blt_ne hf), List.getElem?_cons_succ, ih ha'.2]
  ·rw [if_neg hf, List.getElem?_cons_zero]
   simp only [Option.bind_some, hereB]
   by_cases he : f.1 = p
   ·rw [if_pos he, if_pos he]
   ·rw [if_neg he, if_neg he]
    have hp : blt p f.1 = true := by
     rcases blt_total f.1 p with h | h | h
     ·exact absurd h hf
     ·exact absurd h he
     ·exact h
    exact fget_none_lt fun g hg => blt_trans hp (ha'.1 g hg)
theorem at_eq {N : Nat} {L : List File} (ha : Asc L) (p : ByteArray) (hl : L.length < 1000000) (hN : L.length < N) : revision_at N L p = some ((lowK L p : Int), (fget L p).isSome) := by
 have hk := lowK_le L p
 have hloop := loopM_eq (f := revision_at_L1 N L p) (fun s => ∃ i j : Nat, s = ((i : Int), (j : Int)) ∧ i ≤ lowK L p ∧ lowK L p ≤ j ∧ j ≤ L.length) (fun s => s.2.toNat - s.1.toNat) (fun _ => (lowK L p : Int)) (by
  rintro _ ⟨i, j, rfl, h1, h2, h3⟩
  simp only [revision_at_L1]
  by_cases hij : i < j
  ·right
   rw [if_pos (by simpa using hij)]
   have eh : IntKind.wrap .i64 (Int.fdiv (IntKind.wrap .u64 (IntKind.wrap .i64 ((i : Int) + (j : Int)))) (2 ^ 1)) = (((i + j) / 2 : Nat) : Int) := by
    rw [wi64 (x := (i : Int) + (j : Int)) (by omega) (by omega), wu64 (by omega) (by omega), Int.fdiv_eq_ediv_of_nonneg _ (by decide), wi64 (by omega) (by omega)]
    omega
   have hh : (i + j) / 2 < L.length := by omega
   have hsp := lowK_spec ha p _ hh
   rw [eh, idx_nat hh]
   simp only [Option.bind_some]
   by_cases hb : blt (L[(i + j) / 2]).1 p = true
   ·have hlt := hsp.1 hb
    have hb' : Op.bytesLess (L[(i + j) / 2]).1.toList p.toList = true := hb
    rw [hb', if_pos (by rfl), wi64 (by omega) (by omega)]
    exact ⟨_, rfl, ⟨(i + j) / 2 + 1, j, by simp, by omega, h2, h3⟩, by simp only; omega, trivial⟩
   ·have hge : ¬ (i + j) / 2 < lowK L p := fun h => hb (hsp.2 h)
    have hb' : Op.bytesLess (L[(i + j) / 2]).1.toList p.toList = false := by
     cases hq : Op.bytesLess (L[(i + j) / 2]).1.toList p.toList with
     | false => rfl
     | true => exact absurd hq hb
    rw [hb', if_neg (by simp)]
    exact ⟨_, rfl, ⟨i, (i + j) / 2, rfl, h1, by omega, by omega⟩, by simp only; omega, trivial⟩
  ·left
   have e1 : i = lowK L p := by omega
   rw [if_neg (by simpa using hij)]
   simp only [e1]) N (0, (L.length : Int)) ⟨0, L.length, rfl, Nat.zero_le _, hk, Nat.le_refl _⟩ (by simp only; omega)
 simp only [revision_at]
 rw [hloop]
 simp only [Option.bind_some]
 rw [fget_low ha]
 rcases Nat.lt_or_ge (lowK L p) L.length with hlt | hge
 ·rw [if_pos (by simp only [decide_eq_true_eq]; omega), idx_nat hlt, List.getElem?_eq_getElem hlt]
  simp only [Option.bind_some, eqB, hereB]
  by_cases he : (L[lowK L p]).1 = p
  ·rw [if_pos he, decide_eq_true he]; rfl
  ·rw [if_neg he, decide_eq_false he]; rfl
 ·rw [if_neg (by simp only [decide_eq_true_eq]; omega), List.getElem?_eq_none hge]
  rfl
def emptyB : ByteArray := ⟨#[]⟩
def findR (o : Option ByteArray) : ByteArray × Bool := match o with
 | some b => (b, true)
 | none => (emptyB, false)
def findP (L : List File) (p : ByteArray) : ByteArray × Bool := if checkP L = 0 then findR (fget L p) else (emptyB, false)
abbrev PathsOk (N : Nat) (L : List File) : Prop := ∀ g ∈ L, lexer_Path N g.1 = some (pathB g.1.data.toList)
theorem Find_eq {N : Nat} {L : List File} (p : ByteArray) (hP : PathsOk N L) (hN : 100 < N) : revision_Find N L p = some (findP L p) := by
 simp only [revision_Find, Check_eq hP hN, Option.bind_some]
 unfold findP
 by_cases hc : checkP L = 0
 ·rw [if_neg (by simp [hc]), if_pos hc]
  have hw := checkP_wf.1 hc
  rw [at_eq hw.2.1 p (by have := hw.1; omega) (by have := hw.1; omega)]
  simp only [Option.bind_some]
  have hfl := fget_low hw.2.1 p
  rcases Nat.lt_or_ge (lowK L p) L.length with hlt | hge
  ·rw [List.getElem?_eq_getElem hlt] at hfl
   rw [idx_nat hlt]
   simp only [Option.bind_some, hereB] at hfl
   by_cases he : (L[lowK L p]).1 = p
   ·rw [if_pos he] at hfl; rw [hfl]; rfl
   ·rw [if_neg he] at hfl; rw [hfl]; rfl
  ·rw [List.getElem?_eq_none hge] at hfl; rw [hfl]; rfl
 ·rw [if_pos (by simpa using hc), if_neg hc]; rfl
theorem reffind_loop {N : Nat} {L : List File} {p : ByteArray} (hl : L.length < 1000000) : ∀ (d i M : Nat), i + d = L.length → d < M → loopM (testgateref07_Find_L1 N L p) M (i : Int) = some (match fget (L.drop i) p with | some b => .inr (b, true) | none => .inl ())
 | _, _, 0, _, h => by omega
 | 0, i, M + 1, hd, _ => by
  simp only [loopM, testgateref07_Find_L1]
  rw [if_neg (by simp only [decide_eq_true_eq]; omega), List.drop_eq_nil_of_le (by omega)]
  rfl
 | d + 1, i, M + 1, hd, hM => by
  have hi : i < L.length := by omega
  simp only [loopM, testgateref07_Find_L1]
  rw [if_pos (by simp only [decide_eq_true_eq]; omega), idx_nat hi, List.drop_eq_getElem_cons hi]
  simp only [Option.bind_some, eqB, decide_eq_true_eq, fget]
  by_cases he : (L[i]).1 = p
  ·rw [if_pos he, if_pos he]; rfl
  ·rw [if_neg he, if_neg he, wi64 (by omega) (by omega)]
   have e1 : (i : Int) + 1 = ((i + 1 : Nat) : Int) := by omega
   simp only [Option.bind_some]
   rw [e1, reffind_loop hl d (i + 1) M (by omega) (by omega)]
theorem refFind_eq {N : Nat} {L : List File} (p : ByteArray) (hN : 100 < N) : testgateref07_Find N L p = some (findP L p) := by
 simp only [testgateref07_Find, refCheck_eq hN, Option.bind_some]
 unfold findP
 by_cases hc : checkP L = 0
 ·rw [if_neg (by simp [hc]), if_pos hc]
  have hw := (checkP_wf.1 hc).1
  have := reffind_loop (N := N) (L := L) (p := p) (by omega) L.length 0 N (by omega) (by omega)
  rw [show ((0 : Nat) : Int) = 0 from rfl, List.drop_zero] at this
  rw [this]
  cases fget L p <;> rfl
 ·rw [if_pos (by simpa using hc), if_neg hc]; rfl
theorem without_loop {N : Nat} {L : List File} {p : ByteArray} (hl : L.length < 1000000) : ∀ (d i M : Nat) (acc : List File), i + d = L.length → d < M → acc.length ≤ i → loopM (testgateref07_without_L1 N L p) M ((i : Int), acc) = some (acc ++ fdel (L.drop i) p)
 | _, _, 0, _, _, h, _ => by omega
 | 0, i, M + 1, acc, hd, _, _ => by
  simp only [loopM, testgateref07_without_L1]
  rw [if_neg (by simp only [decide_eq_true_eq]; omega), List.drop_eq_nil_of_le (by omega)]
  simp [fdel]
 | d + 1, i, M + 1, acc, hd, hM, hacc => by
  have hi : i < L.length := by omega
  simp only [loopM, testgateref07_without_L1]
  rw [if_pos (by simp only [decide_eq_true_eq]; omega), idx_nat hi, List.drop_eq_getElem_cons hi]
  have e1 : (i : Int) + 1 = ((i + 1 : Nat) : Int) := by omega
  simp only [Option.bind_some, eqB]
  unfold fdel
  rw [List.filter_cons, wi64 (by omega) (by omega), e1]
  by_cases he : (L[i]).1 = p
  ·rw [if_neg (by simp [he]), if_neg (by simp [he])]
   simp only [Option.bind_some]
   exact without_loop hl d (i + 1) M acc (by omega) (by omega) (by omega)
  ·rw [if_pos (by simp [he]), if_pos (by simp [he]), appendS_some (by simp only [List.length_cons, List.length_nil]; omega) (by omega)]
   simp only [Option.bind_some]
   rw [without_loop hl d (i + 1) M _ (by omega) (by omega) (by simp; omega)]
   simp [fdel]
theorem without_eq {N : Nat} {L : List File} (p : ByteArray) (hl : L.length < 1000000) (hN : L.length < N) : testgateref07_without N L p = some (fdel L p) := by
 have := without_loop (N := N) (L := L) (p := p) hl L.length 0 N [] (by omega) hN (Nat.zero_le _)
 rw [show ((0 : Nat) : Int) = 0 from rfl, List.drop_zero, List.nil_append] at this
 simp only [testgateref07_without, this, Option.bind_some]
theorem with_loop {N : Nat} {L : List File} {p b : ByteArray} (hl : L.length < 1000000) : ∀ (d i M : Nat) (done : Bool) (acc : List File), i + d = L.length → d < M → acc.length ≤ i + done.toNat → (done = false → fget (L.drop i) p = none) →
  ∃ o : Bool × List File, loopM (testgateref07_with_L1 N L (p, b)) M (done, (i : Int), acc) = some o ∧ o.2.length ≤ L.length + 1 ∧ (if o.1 = true then o.2 else o.2 ++ [(p, b)]) = acc ++ (if done = true then L.drop i else fput (L.drop i) p b)
 | _, _, 0, _, _, _, h, _, _ => by omega
 | 0, i, M + 1, done, acc, hd, _, hacc, _ => by
  refine ⟨(done, acc), ?_, by simp only; cases done <;> simp only [Bool.toNat_true, Bool.toNat_false] at hacc <;> omega, ?_⟩
  ·simp only [loopM, testgateref07_with_L1]
   rw [if_neg (by simp only [decide_eq_true_eq]; omega)]
   rfl
  ·rw [List.drop_eq_nil_of_le (by omega)]
   cases done <;> simp [fput]
 | d + 1, i, M + 1, done, acc, hd, hM, hacc, hno => by
  have hi : i < L.length := by omega
  have e1 : (i : Int) + 1 = ((i + 1 : Nat) : Int) := by omega
  simp only [loopM, testgateref07_with_L1]
  rw [if_pos (by simp only [decide_eq_true_eq]; omega), idx_nat hi, wi64 (by omega) (by omega), e1]
  rw [List.drop_eq_getElem_cons hi] at hno ⊢
  simp only [Option.bind_some]
  cases done with
  | true =>
   simp only [Bool.toNat_true] at hacc
   obtain ⟨o, h1, h2, h3⟩ := with_loop (N := N) (p := p) (b := b) hl d (i + 1) M true (acc ++ [((L[i]).1, (L[i]).2)]) (by omega) (by omega) (by simp; omega) (fun h => by cases h)
   refine ⟨o, ?_, h2, ?_⟩
   ·simp only [Bool.not_true, Bool.false_eq_true, if_false, Option.bind_some]
    rw [appendS_some (by simp only [List.length_cons, List.length_nil]; omega) (by omega)]
    simp only [Option.bind_some]
    exact h1
   ·rw [h3]; simp only [if_true, List.append_assoc, List.cons_append, List.nil_append]
  | false =>
   simp only [Bool.toNat_false] at hacc
   have hno := hno rfl
   simp only [fget] at hno
   have hne : ¬ (L[i]).1 = p := by intro h; rw [if_pos h] at hno; cases hno
   rw [if_neg hne] at hno
   simp only [Bool.not_false, if_true, Option.bind_some]
   by_cases hb : blt p (L[i]).1 = true
   ·have hb' : Op.bytesLess p.toList (L[i]).1.toList = true := hb
    obtain ⟨o, h1, h2, h3⟩ := with_loop (N := N) (p := p) (b := b) hl d (i + 1) M true ((acc ++ [(p, b)]) ++ [((L[i]).1, (L[i]).2)]) (by omega) (by omega) (by simp; omega) (fun h => by cases h)
    refine ⟨o, ?_, h2, ?_⟩
    ·rw [hb', if_pos rfl, appendS_some (by simp only [List.length_cons, List.length_nil]; omega) (by omega)]
     simp only [Option.bind_some]
     rw [appendS_some (by simp only [List.length_append, List.length_cons, List.length_nil]; omega) (by omega)]
     simp only [Option.bind_some]
     exact h1
    ·have g3 : fput (L[i] :: L.drop (i + 1)) p b = (p, b) :: L[i] :: L.drop (i + 1) := by rw [fput, if_pos hb]
     rw [h3, g3]; simp only [if_true, List.append_assoc, List.cons_append, List.nil_append, Bool.false_eq_true, if_false]
   ·have hb' : Op.bytesLess p.toList (L[i]).1.toList = false := by
     cases hq : Op.bytesLess p.toList (L[i]).1.toList with
     | false => rfl
     | true => exact absurd hq hb
    obtain ⟨o, h1, h2, h3⟩ := with_loop (N := N) (p := p) (b := b) hl d (i + 1) M false (acc ++ [((L[i]).1, (L[i]).2)]) (by omega) (by omega) (by simp; omega) (fun _ => hno)
    refine ⟨o, ?_, h2, ?_⟩
    ·rw [hb', if_neg (by simp)]
     simp only [Option.bind_some]
     rw [appendS_some (by simp only [List.length_cons, List.length_nil]; omega) (by omega)]
     simp only [Option.bind_some]
     exact h1
    ·have g3 : fput (L[i] :: L.drop (i + 1)) p b = L[i] :: fput (L.drop (i + 1)) p b := by rw [fput, if_neg hb, if_neg hne]
     rw [h3, g3]; simp only [List.append_assoc, List.cons_append, List.nil_append, Bool.false_eq_true, if_false]
theorem with_eq {N : Nat} {L : List File} (p b : ByteArray) (hl : L.length < 1000000) (hN : L.length < N) (hno : fget L p = none) : testgateref07_with N L (p, b) = some (fput L p b) := by
 obtain ⟨o, h1, h2, h3⟩ := with_loop (N := N) (L := L) (p := p) (b := b) hl L.length 0 N false [] (by omega) hN (by simp) (fun _ => by rw [List.drop_zero]; exact hno)
 simp only [testgateref07_with]
 rw [show ((0 : Nat) : Int) = 0 from rfl] at h1
 rw [h1]
 simp only [List.drop_zero, List.nil_append, Bool.false_eq_true, if_false] at h3
 simp only [Option.bind_some]
 cases ho : o.1 with
 | true => rw [ho] at h3; simp only [if_true] at h3; simp [h3]
 | false =>
  rw [ho] at h3
  simp only [Bool.false_eq_true, if_false] at h3
  simp only [Bool.not_false, if_true]
  rw [appendS_some (by simp only [List.length_cons, List.length_nil]; omega) (by omega), h3]
  rfl
def moveP (L : List File) (p q : ByteArray) : List File × Int :=
 if checkP L ≠ 0 then ([], checkP L) else if pathB q.data.toList = false then ([], 6) else
  match fget L p with
  | none => ([], 18)
  | some b => if (fget L q).isSome = true then ([], 19) else (fput (fdel L p) q b, 0)
theorem refMove_eq {N : Nat} {L : List File} (p q : ByteArray) (hN : 100 < N) : testgateref07_Move N L p q = some (moveP L p q) := by
 simp only [testgateref07_Move, refCheck_eq hN, Option.bind_some]
 unfold moveP
 by_cases hc : checkP L = 0
 ·have hw := checkP_wf.1 hc
  have hlen := hw.1
  rw [if_neg (by simp [hc]), if_neg (by simp [hc]), refPath_eq hN]
  simp only [Option.bind_some]
  by_cases hb : pathB q.data.toList = false
  ·rw [if_pos (by simp [hb]), if_pos hb]
  have hb' : pathB q.data.toList = true := by simpa using hb
  rw [if_neg (by simp [hb']), if_neg hb, refFind_eq p hN, refFind_eq q hN]
  simp only [Option.bind_some]
  unfold findP
  rw [if_pos hc, if_pos hc]
  cases hg : fget L p with
  | none => simp [findR]
  | some b =>
   simp only [findR, Bool.not_true, Bool.false_eq_true, if_false]
   cases hs : fget L q with
   | some b' => simp
   | none =>
    simp only [Bool.false_eq_true, if_false, Option.isSome_none]
    have hdl : (fdel L p).length ≤ L.length := List.length_filter_le _ _
    rw [without_eq p (by omega) (by omega)]
    simp only [Option.bind_some]
    rw [with_eq q b (by omega) (by omega) (by rw [fget_del, hs]; split <;> rfl)]
    simp only [Option.bind_some]
 ·rw [if_pos (by simpa using hc), if_pos hc]
end Go.Proofs.YtgggihpbhmbjaaaGreatDoor
