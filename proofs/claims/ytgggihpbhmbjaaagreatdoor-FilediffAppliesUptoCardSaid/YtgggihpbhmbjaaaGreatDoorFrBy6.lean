/- Revisions: what Find, Put, Remove, Move and IsSource return. No condition. -/
import Derived.Test.YtgggihpbhmbjaaaGreatDoorFrAy6
namespace Go.Proofs.YtgggihpbhmbjaaaGreatDoor
open Go Go.Dc
def lowK : List File → ByteArray → Nat
 | [], _ => 0
 | f :: L, p => if blt f.1 p = true then lowK L p + 1 else 0
theorem lowK_le (L : List File) (p : ByteArray) : lowK L p ≤ L.length := by
 induction L with
 | nil => exact Nat.le_refl _
 | cons f L ih => simp only [lowK]; split <;> simp only [List.length_cons] <;> omega
theorem lowK_spec {L : List File} (ha : Asc L) (p : ByteArray) : ∀ h, ∀ hh : h < L.length, (blt (L[h]).1 p = true ↔ h < lowK L p) := by
 induction L with
 | nil => intro h hh; cases hh
 | cons f L ih =>
  have ha' := List.pairwise_cons.1 ha
  intro h hh
  simp only [lowK]
  by_cases hf : blt f.1 p = true
  ·rw [if_pos hf]
   cases h with
   | zero => simp [hf]
   | succ h => simpa using ih ha'.2 h (by simpa using hh)
  ·rw [if_neg hf]
   cases h with
   | zero => simpa using hf
   | succ h =>
    simp only [List.getElem_cons_succ, Nat.not_lt_zero, iff_false]
    intro h2
    exact hf (qJy (ha'.1 _ (List.getElem_mem (by simpa using hh))) h2)
def hereB (p : ByteArray) (f : File) : Option ByteArray := if f.1 = p then some f.2 else none
theorem fget_low {L : List File} (ha : Asc L) (p : ByteArray) : fget L p = (L[lowK L p]?).bind (hereB p) := by
 induction L with
 | nil => rfl
 | cons f L ih =>
  have ha' := List.pairwise_cons.1 ha
  simp only [lowK, fget]
  by_cases hf : blt f.1 p = true
  ·rw [if_pos hf, if_neg (blt_ne hf), List.getElem?_cons_succ, ih ha'.2]
  ·rw [if_neg hf, List.getElem?_cons_zero]
   simp only [Option.bind_some, hereB]
   by_cases he : f.1 = p
   ·rw [if_pos he, if_pos he]
   ·rw [if_neg he, if_neg he]
    have hp : blt p f.1 = true := by
     rcases qMq f.1 p with h | h | h
     ·exact absurd h hf
     ·exact absurd h he
     ·exact h
    exact qJf fun g hg => qJy hp (ha'.1 g hg)
theorem fput_low {L : List File} (ha : Asc L) (p b : ByteArray) : fput L p b = if (fget L p).isSome = true then L.set (lowK L p) (p, b) else L.take (lowK L p) ++ (p, b) :: L.drop (lowK L p) := by
 induction L with
 | nil => rfl
 | cons f L ih =>
  have ha' := List.pairwise_cons.1 ha
  have ih := ih ha'.2
  rcases qMq f.1 p with h | h | h
  ·have g1 : fget (f :: L) p = fget L p := by rw [fget, if_neg (blt_ne h)]
   have g2 : lowK (f :: L) p = lowK L p + 1 := by rw [lowK, if_pos h]
   have g3 : fput (f :: L) p b = f :: fput L p b := by rw [fput, if_neg (by rw [blt_asymm h]; simp), if_neg (blt_ne h)]
   rw [g1, g2, g3, ih]
   split <;> rfl
  ·subst h
   have g1 : fget (f :: L) f.1 = some f.2 := by rw [fget, if_pos rfl]
   have g2 : lowK (f :: L) f.1 = 0 := by rw [lowK, if_neg (by rw [qIm]; simp)]
   have g3 : fput (f :: L) f.1 b = (f.1, b) :: L := by rw [fput, if_neg (by rw [qIm]; simp), if_pos rfl]
   rw [g1, g2, g3]; rfl
  ·have g1 : fget (f :: L) p = none := qJf fun g hg => by
    rcases List.mem_cons.1 hg with rfl | hg
    ·exact h
    ·exact qJy h (ha'.1 g hg)
   have g2 : lowK (f :: L) p = 0 := by rw [lowK, if_neg (by rw [blt_asymm h]; simp)]
   have g3 : fput (f :: L) p b = (p, b) :: f :: L := by rw [fput, if_pos h]
   rw [g1, g2, g3]; rfl
theorem at_eq {N : Nat} {L : List File} (ha : Asc L) (p : ByteArray) (hl : L.length < 1000000) (hN : L.length < N) : qLm N L p = some ((lowK L p : Int), (fget L p).isSome) := by
 have hk := lowK_le L p
 have hloop := loopM_eq (f := qIs N L p) (fun s => ∃ i j : Nat, s = ((i : Int), (j : Int)) ∧ i ≤ lowK L p ∧ lowK L p ≤ j ∧ j ≤ L.length) (fun s => s.2.toNat - s.1.toNat) (fun _ => (lowK L p : Int)) (by
  rintro _ ⟨i, j, rfl, h1, h2, h3⟩
  simp only [qIs]
  by_cases hij : i < j
  ·right
   rw [if_pos (by simpa using hij)]
   have eh : IntKind.wrap .i64 (Int.fdiv (IntKind.wrap .u64 (IntKind.wrap .i64 ((i : Int) + (j : Int)))) (2 ^ 1)) = (((i + j) / 2 : Nat) : Int) := by
    rw [wi64 (x := (i : Int) + (j : Int)) (by omega) (by omega), wu64 (by omega) (by omega), Int.fdiv_eq_ediv_of_nonneg _ (by decide), wi64 (by omega) (by omega)]
    omega
   have hh : (i + j) / 2 < L.length := by omega
   have hsp := lowK_spec ha p _ hh
   rw [eh, qCe hh]
   simp only [Option.bind_some]
   by_cases hb : blt (L[(i + j) / 2]).1 p = true
   ·have hlt := hsp.1 hb
    have hb' : Op.bytesLess (L[(i + j) / 2]).1.toList p.toList = true := hb
    rw [hb', if_pos (by rfl), wi64 (by omega) (by omega)]
    exact ⟨_, rfl, ⟨(i + j) / 2 + 1, j, by simp, by omega, h2, h3⟩, by simp only; omega, trivial⟩
   ·have hge : ¬ (i + j) / 2 < lowK L p := fun h => hb (hsp.2 h)
    have hb' : Op.bytesLess (L[(i + j) / 2]).1.toList p.toList = false := by
     cases hq : Op.bytesLess (L[(i + j) / 2]).1.toList p.toList with
     | false => rfl
     | true => exact absurd hq hb
    rw [hb', if_neg (by simp)]
    exact ⟨_, rfl, ⟨i, (i + j) / 2, rfl, h1, by omega, by omega⟩, by simp only; omega, trivial⟩
  ·left
   have e1 : i = lowK L p := by omega
   rw [if_neg (by simpa using hij)]
   simp only [e1]) N (0, (L.length : Int)) ⟨0, L.length, rfl, Nat.zero_le _, hk, Nat.le_refl _⟩ (by simp only; omega)
 simp only [qLm]
 rw [hloop]
 simp only [Option.bind_some]
 rw [fget_low ha]
 rcases Nat.lt_or_ge (lowK L p) L.length with hlt | hge
 ·rw [if_pos (by simp only [decide_eq_true_eq]; omega), qCe hlt, List.getElem?_eq_getElem hlt]
  simp only [Option.bind_some, eqB, hereB]
  by_cases he : (L[lowK L p]).1 = p
  ·rw [if_pos he, decide_eq_true he]; rfl
  ·rw [if_neg he, decide_eq_false he]; rfl
 ·rw [if_neg (by simp only [decide_eq_true_eq]; omega), List.getElem?_eq_none hge]
  rfl
def qEj : ByteArray := ⟨#[]⟩
def findR (o : Option ByteArray) : ByteArray × Bool := match o with
 | some b => (b, true)
 | none => (qEj, false)
def findP (L : List File) (p : ByteArray) : ByteArray × Bool := if qGf L = 0 then findR (fget L p) else (qEj, false)
abbrev qJv (N : Nat) (L : List File) : Prop := ∀ g ∈ L, qJn N g.1 = some (qIp g.1.data.toList)
theorem Find_eq {N : Nat} {L : List File} (p : ByteArray) (hP : qJv N L) (hN : 100 < N) : qHu N L p = some (findP L p) := by
 simp only [qHu, Check_eq hP hN, Option.bind_some]
 unfold findP
 by_cases hc : qGf L = 0
 ·rw [if_neg (by simp [hc]), if_pos hc]
  have hw := qHp.1 hc
  rw [at_eq hw.2.1 p (by have := hw.1; omega) (by have := hw.1; omega)]
  simp only [Option.bind_some]
  have hfl := fget_low hw.2.1 p
  rcases Nat.lt_or_ge (lowK L p) L.length with hlt | hge
  ·rw [List.getElem?_eq_getElem hlt] at hfl
   rw [qCe hlt]
   simp only [Option.bind_some, hereB] at hfl
   by_cases he : (L[lowK L p]).1 = p
   ·rw [if_pos he] at hfl; rw [hfl]; rfl
   ·rw [if_neg he] at hfl; rw [hfl]; rfl
  ·rw [List.getElem?_eq_none hge] at hfl; rw [hfl]; rfl
 ·rw [if_pos (by simpa using hc), if_neg hc]; rfl
theorem reffind_loop {N : Nat} {L : List File} {p : ByteArray} (hl : L.length < 1000000) : ∀ (d i M : Nat), i + d = L.length → d < M → qBf (qDy N L p) M (i : Int) = some (match fget (L.drop i) p with | some b => .inr (b, true) | none => .inl ())
 | _, _, 0, _, h => by omega
 | 0, i, M + 1, hd, _ => by
  simp only [qBf, qDy]
  rw [if_neg (by simp only [decide_eq_true_eq]; omega), List.drop_eq_nil_of_le (by omega)]
  rfl
 | d + 1, i, M + 1, hd, hM => by
  have hi : i < L.length := by omega
  simp only [qBf, qDy]
  rw [if_pos (by simp only [decide_eq_true_eq]; omega), qCe hi, List.drop_eq_getElem_cons hi]
  simp only [Option.bind_some, eqB, decide_eq_true_eq, fget]
  by_cases he : (L[i]).1 = p
  ·rw [if_pos he, if_pos he]; rfl
  ·rw [if_neg he, if_neg he, wi64 (by omega) (by omega)]
   have e1 : (i : Int) + 1 = ((i + 1 : Nat) : Int) := by omega
   simp only [Option.bind_some]
   rw [e1, reffind_loop hl d (i + 1) M (by omega) (by omega)]
theorem refFind_eq {N : Nat} {L : List File} (p : ByteArray) (hN : 100 < N) : qCr N L p = some (findP L p) := by
 simp only [qCr, qLj hN, Option.bind_some]
 unfold findP
 by_cases hc : qGf L = 0
 ·rw [if_neg (by simp [hc]), if_pos hc]
  have hw := (qHp.1 hc).1
  have := reffind_loop (N := N) (L := L) (p := p) (by omega) L.length 0 N (by omega) (by omega)
  rw [show ((0 : Nat) : Int) = 0 from rfl, List.drop_zero] at this
  rw [this]
  cases fget L p <;> rfl
 ·rw [if_pos (by simpa using hc), if_neg hc]; rfl
theorem appM_some {α : Type} {k : Nat} {l : List α} (h : l.length * k ≤ 140737488355328) (h2 : l.length ≤ 1000000) : appM k l = some l := by
 unfold appM; rw [if_pos ⟨h, by simp only [maxLen]; omega⟩]
end Go.Proofs.YtgggihpbhmbjaaaGreatDoor
