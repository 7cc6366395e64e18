/- Revisions: what Find, Put, Remove, Move and IsSource return. No condition. -/
import Derived.Test.YtfodebccikifcaaDoorRevAr1
namespace Go.Proofs.YtfodebccikifcaaDoor
open Go Go.Dc
def lowK : List File → ByteArray → Nat
 | [], _ => 0
 | f :: L, p => if blt f.1 p = true then lowK L p + 1 else 0
theorem lowK_le (L : List File) (p : ByteArray) : lowK L p ≤ L.length := by
 induction L with
 | nil => exact Nat.le_refl _
 | cons f L ih => simp only [lowK]; split <;> simp only [List.length_cons] <;> omega
theorem lowK_spec {L : List File} (ha : Asc L) (p : ByteArray) : ∀ h, ∀ hh : h < L.length, (blt (L[h]).1 p = true ↔ h < lowK L p) := by
 induction L with
 | nil => intro h hh; cases hh
 | cons f L ih =>
  have ha' := List.pairwise_cons.1 ha
  intro h hh
  simp only [lowK]
  by_cases hf : blt f.1 p = true
  ·rw [if_pos hf]
   cases h with
   | zero => simp [hf]
   | succ h => simpa using ih ha'.2 h (by simpa using hh)
  ·rw [if_neg hf]
   cases h with
   | zero => simpa using hf
   | succ h =>
    simp only [List.getElem_cons_succ, Nat.not_lt_zero, iff_false]
    intro h2
    exact hf (blt_trans (ha'.1 _ (List.getElem_mem (by simpa using hh))) h2)
def hereB (p : ByteArray) (f : File) : Option ByteArray := if f.1 = p then some f.2 else none
theorem fget_low {L : List File} (ha : Asc L) (p : ByteArray) : fget L p = (L[lowK L p]?).bind (hereB p) := by
 induction L with
 | nil => rfl
 | cons f L ih =>
  have ha' := List.pairwise_cons.1 ha
  simp only [lowK, fget]
  by_cases hf : blt f.1 p = true
  ·rw [if_pos hf, if_neg (blt_ne hf), List.getElem?_cons_succ, ih ha'.2]
  ·rw [if_neg hf, List.getElem?_cons_zero]
   simp only [Option.bind_some, hereB]
   by_cases he : f.1 = p
   ·rw [if_pos he, if_pos he]
   ·rw [if_neg he, if_neg he]
    have hp : blt p f.1 = true := by
     rcases blt_total f.1 p with h | h | h
     ·exact absurd h hf
     ·exact absurd h he
     ·exact h
    exact fget_none_lt fun g hg => blt_trans hp (ha'.1 g hg)
theorem fput_low {L : List File} (ha : Asc L) (p b : ByteArray) : fput L p b = if (fget L p).isSome = true then L.set (lowK L p) (p, b) else L.take (lowK L p) ++ (p, b) :: L.drop (lowK L p) := by
 induction L with
 | nil => rfl
 | cons f L ih =>
  have ha' := List.pairwise_cons.1 ha
  have ih := ih ha'.2
  rcases blt_total f.1 p with h | h | h
  ·have g1 : fget (f :: L) p = fget L p := by rw [fget, if_neg (blt_ne h)]
   have g2 : lowK (f :: L) p = lowK L p + 1 := by rw [lowK, if_pos h]
   have g3 : fput (f :: L) p b = f :: fput L p b := by rw [fput, if_neg (by rw [blt_asymm h]; simp), if_neg (blt_ne h)]
   rw [g1, g2, g3, ih]
   split <;> rfl
  ·subst h
   have g1 : fget (f :: L) f.1 = some f.2 := by rw [fget, if_pos rfl]
   have g2 : lowK (f :: L) f.1 = 0 := by rw [lowK, if_neg (by rw [blt_irrefl]; simp)]
   have g3 : fput (f :: L) f.1 b = (f.1, b) :: L := by rw [fput, if_neg (by rw [blt_irrefl]; simp), if_pos rfl]
   rw [g1, g2, g3]; rfl
  ·have g1 : fget (f :: L) p = none := fget_none_lt fun g hg => by
    rcases List.mem_cons.1 hg with rfl | hg
    ·exact h
    ·exact blt_trans h (ha'.1 g hg)
   have g2 : lowK (f :: L) p = 0 := by rw [lowK, if_neg (by rw [blt_asymm h]; simp)]
   have g3 : fput (f :: L) p b = (p, b) :: f :: L := by rw [fput, if_pos h]
   rw [g1, g2, g3]; rfl
theorem fdel_low {L : List File} (ha : Asc L) {p : ByteArray} (hs : (fget L p).isSome = true) : fdel L p = L.take (lowK L p) ++ L.drop (lowK L p + 1) := by
 induction L with
 | nil => simp [fget] at hs
 | cons f L ih =>
  have ha' := List.pairwise_cons.1 ha
  simp only [fget] at hs
  unfold fdel
  rw [List.filter_cons]
  simp only [lowK]
  by_cases he : f.1 = p
  ·subst he
   rw [if_neg (by simp), if_neg (by rw [blt_irrefl]; simp)]
   simp only [List.take_zero, List.nil_append, Nat.zero_add, List.drop_succ_cons, List.drop_zero]
   exact List.filter_eq_self.2 fun g hg => by
    have := blt_ne (ha'.1 g hg)
    simp only [decide_eq_true_eq]
    exact fun e => this e.symm
  ·rw [if_neg he] at hs
   rw [if_pos (by simpa using he)]
   have hb : blt f.1 p = true := by
    obtain ⟨b, hb⟩ := Option.isSome_iff_exists.1 hs
    exact ha'.1 _ (fget_mem hb)
   rw [if_pos hb]
   have := ih ha'.2 hs
   unfold fdel at this
   rw [this]; rfl
theorem at_eq {N : Nat} {L : List File} (ha : Asc L) (p : ByteArray) (hl : L.length < 1000000) (hN : L.length < N) : revision_at N L p = some ((lowK L p : Int), (fget L p).isSome) := by
 have hk := lowK_le L p
 have hloop := loopM_eq (f := revision_at_L1 N L p) (fun s => ∃ i j : Nat, s = ((i : Int), (j : Int)) ∧ i ≤ lowK L p ∧ lowK L p ≤ j ∧ j ≤ L.length) (fun s => s.2.toNat - s.1.toNat) (fun _ => (lowK L p : Int)) (by
  rintro _ ⟨i, j, rfl, h1, h2, h3⟩
  simp only [revision_at_L1]
  by_cases hij : i < j
  ·right
   rw [if_pos (by simpa using hij)]
   have eh : IntKind.wrap .i64 (Int.fdiv (IntKind.wrap .u64 (IntKind.wrap .i64 ((i : Int) + (j : Int)))) (2 ^ 1)) = (((i + j) / 2 : Nat) : Int) := by
    rw [wi64 (x := (i : Int) + (j : Int)) (by omega) (by omega), wu64 (by omega) (by omega), Int.fdiv_eq_ediv_of_nonneg _ (by decide), wi64 (by omega) (by omega)]
    omega
   have hh : (i + j) / 2 < L.length := by omega
   have hsp := lowK_spec ha p _ hh
   rw [eh, idx_nat hh]
   simp only [Option.bind_some]
   by_cases hb : blt (L[(i + j) / 2]).1 p = true
   ·have hlt := hsp.1 hb
    have hb' : Op.bytesLess (L[(i + j) / 2]).1.toList p.toList = true := hb
    rw [hb', if_pos (by rfl), wi64 (by omega) (by omega)]
    exact ⟨_, rfl, ⟨(i + j) / 2 + 1, j, by simp, by omega, h2, h3⟩, by simp only; omega, trivial⟩
   ·have hge : ¬ (i + j) / 2 < lowK L p := fun h => hb (hsp.2 h)
    have hb' : Op.bytesLess (L[(i + j) / 2]).1.toList p.toList = false := by
     cases hq : Op.bytesLess (L[(i + j) / 2]).1.toList p.toList with
     | false => rfl
     | true => exact absurd hq hb
    rw [hb', if_neg (by simp)]
    exact ⟨_, rfl, ⟨i, (i + j) / 2, rfl, h1, by omega, by omega⟩, by simp only; omega, trivial⟩
  ·left
   have e1 : i = lowK L p := by omega
   rw [if_neg (by simpa using hij)]
   simp only [e1]) N (0, (L.length : Int)) ⟨0, L.length, rfl, Nat.zero_le _, hk, Nat.le_refl _⟩ (by simp only; omega)
 simp only [revision_at]
 rw [hloop]
 simp only [Option.bind_some]
 rw [fget_low ha]
 rcases Nat.lt_or_ge (lowK L p) L.length with hlt | hge
 ·rw [if_pos (by simp only [decide_eq_true_eq]; omega), idx_nat hlt, List.getElem?_eq_getElem hlt]
  simp only [Option.bind_some, eqB, hereB]
  by_cases he : (L[lowK L p]).1 = p
  ·rw [if_pos he, decide_eq_true he]; rfl
  ·rw [if_neg he, decide_eq_false he]; rfl
 ·rw [if_neg (by simp only [decide_eq_true_eq]; omega), List.getElem?_eq_none hge]
  rfl
def emptyB : ByteArray := ⟨#[]⟩
def findR (o : Option ByteArray) : ByteArray × Bool := match o with
 | some b => (b, true)
 | none => (emptyB, false)
def findP (L : List File) (p : ByteArray) : ByteArray × Bool := if checkP L = 0 then findR (fget L p) else (emptyB, false)
abbrev PathsOk (N : Nat) (L : List File) : Prop := ∀ g ∈ L, lexer_Path N g.1 = some (pathB g.1.data.toList)
theorem Find_eq {N : Nat} {L : List File} (p : ByteArray) (hP : PathsOk N L) (hN : 100 < N) : revision_Find N L p = some (findP L p) := by
 simp only [revision_Find, Check_eq hP hN, Option.bind_some]
 unfold findP
 by_cases hc : checkP L = 0
 ·rw [if_neg (by simp [hc]), if_pos hc]
  have hw := checkP_wf.1 hc
  rw [at_eq hw.2.1 p (by have := hw.1; omega) (by have := hw.1; omega)]
  simp only [Option.bind_some]
  have hfl := fget_low hw.2.1 p
  rcases Nat.lt_or_ge (lowK L p) L.length with hlt | hge
  ·rw [List.getElem?_eq_getElem hlt] at hfl
   rw [idx_nat hlt]
   simp only [Option.bind_some, hereB] at hfl
   by_cases he : (L[lowK L p]).1 = p
   ·rw [if_pos he] at hfl; rw [hfl]; rfl
   ·rw [if_neg he] at hfl; rw [hfl]; rfl
  ·rw [List.getElem?_eq_none hge] at hfl; rw [hfl]; rfl
 ·rw [if_pos (by simpa using hc), if_neg hc]; rfl
def putP (L : List File) (p b : ByteArray) : List File × Int :=
 if checkP L ≠ 0 then ([], checkP L) else if pathB p.data.toList = false then ([], 6) else if 16384 < b.size ∨ 64 < (fput L p b).length then ([], 2) else (fput L p b, 0)
theorem appM_some {α : Type} {k : Nat} {l : List α} (h : l.length * k ≤ 140737488355328) (h2 : l.length ≤ 1000000) : appM k l = some l := by
 unfold appM; rw [if_pos ⟨h, by simp only [maxLen]; omega⟩]
theorem Put_eq {N : Nat} {L : List File} (p b : ByteArray) (hP : PathsOk N L) (hp : lexer_Path N p = some (pathB p.data.toList)) (hN : 100 < N) : revision_Put N L p b = some (putP L p b) := by
 simp only [revision_Put, Check_eq hP hN, Option.bind_some]
 unfold putP
 by_cases hc : checkP L = 0
 ·have hw := checkP_wf.1 hc
  have hlen := hw.1
  rw [if_neg (by simp [hc]), if_neg (by simp [hc]), hp]
  simp only [Option.bind_some]
  by_cases hb : pathB p.data.toList = false
  ·rw [if_pos (by simp [hb]), if_pos hb]
  have hb' : pathB p.data.toList = true := by simpa using hb
  rw [if_neg (by simp [hb']), if_neg hb, at_eq hw.2.1 p (by omega) (by omega)]
  simp only [Option.bind_some]
  have hfl := fput_length_in hw.2.1 (p := p) b
  by_cases h16 : 16384 < b.size
  ·rw [if_pos (by simp only [decide_eq_true_eq]; omega), if_pos (.inl h16)]
   rfl
  rw [if_neg (by simp only [decide_eq_true_eq]; omega)]
  have hcl : slices_Clone_api_File_api_File_O L = some L := appM_some (by omega) (by omega)
  cases hs : (fget L p).isSome with
  | true =>
   rw [hs] at hfl
   simp only [if_true] at hfl
   rw [if_neg (by simp), if_neg (by omega)]
   simp only [Option.bind_some, Bool.false_eq_true, if_false, hcl, if_true]
   have hlt : lowK L p < L.length := by
    rcases Nat.lt_or_ge (lowK L p) L.length with h | h
    ·exact h
    ·rw [fget_low hw.2.1, List.getElem?_eq_none h] at hs; cases hs
   rw [idx_nat hlt]
   simp only [Option.bind_some, Int.toNat_natCast]
   rw [fput_low hw.2.1, if_pos hs]
   have hee : (L[lowK L p]).1 = p := by
    rw [fget_low hw.2.1, List.getElem?_eq_getElem hlt] at hs
    simp only [Option.bind_some, hereB] at hs
    by_cases he : (L[lowK L p]).1 = p
    ·exact he
    ·rw [if_neg he] at hs; cases hs
   rw [hee]
  | false =>
   rw [hs] at hfl
   simp only [Bool.false_eq_true, if_false] at hfl
   rw [if_pos (by simp)]
   simp only [Option.bind_some]
   by_cases h64 : L.length = 64
   ·rw [if_pos (by rw [beq_iff_eq]; omega), if_pos (by omega)]
   rw [if_neg (by rw [beq_iff_eq]; omega), if_neg (by omega)]
   simp only [hcl, Option.bind_some, Bool.false_eq_true, if_false]
   have hk := lowK_le L p
   unfold insertS
   rw [if_pos ⟨by omega, by omega, by omega, by simp only [maxLen]; omega⟩, fput_low hw.2.1, if_neg (by simp [hs])]
   simp only [Option.bind_some, Int.toNat_natCast]
 ·rw [if_pos (by simpa using hc), if_pos hc]
def removeP (L : List File) (p : ByteArray) : List File × Int :=
 if checkP L ≠ 0 then ([], checkP L) else if (fget L p).isSome = false then ([], 18) else (fdel L p, 0)
theorem Remove_eq {N : Nat} {L : List File} (p : ByteArray) (hP : PathsOk N L) (hN : 100 < N) : revision_Remove N L p = some (removeP L p) := by
 simp only [revision_Remove, Check_eq hP hN, Option.bind_some]
 unfold removeP
 by_cases hc : checkP L = 0
 ·have hw := checkP_wf.1 hc
  have hlen := hw.1
  rw [if_neg (by simp [hc]), if_neg (by simp [hc]), at_eq hw.2.1 p (by omega) (by omega)]
  simp only [Option.bind_some]
  cases hs : (fget L p).isSome with
  | false => simp
  | true =>
   have hlt : lowK L p < L.length := by
    rcases Nat.lt_or_ge (lowK L p) L.length with h | h
    ·exact h
    ·rw [fget_low hw.2.1, List.getElem?_eq_none h] at hs; cases hs
   have hcl : slices_Clone_api_File_api_File_O L = some L := appM_some (by omega) (by omega)
   rw [if_neg (by simp), if_neg (by simp), hcl]
   simp only [Option.bind_some]
   unfold deleteS
   rw [if_pos ⟨by omega, by omega, by rw [wi64 (by omega) (by omega)], by simp only [maxLen]; omega⟩, fdel_low hw.2.1 hs]
   simp only [Option.bind_some, Int.toNat_natCast]
 ·rw [if_pos (by simpa using hc), if_pos hc]
def moveP (L : List File) (p q : ByteArray) : List File × Int :=
 if checkP L ≠ 0 then ([], checkP L) else if pathB q.data.toList = false then ([], 6) else
  match fget L p with
  | none => ([], 18)
  | some b => if (fget L q).isSome = true then ([], 19) else (fput (fdel L p) q b, 0)
theorem Move_eq {N : Nat} {L : List File} (p q : ByteArray) (hP : PathsOk N L) (hq : lexer_Path N q = some (pathB q.data.toList)) (hN : 100 < N) : revision_Move N L p q = some (moveP L p q) := by
 simp only [revision_Move, Check_eq hP hN, Option.bind_some]
 unfold moveP
 by_cases hc : checkP L = 0
 ·have hw := checkP_wf.1 hc
  have hlen := hw.1
  rw [if_neg (by simp [hc]), if_neg (by simp [hc]), hq]
  simp only [Option.bind_some]
  by_cases hb : pathB q.data.toList = false
  ·rw [if_pos (by simp [hb]), if_pos hb]
  have hb' : pathB q.data.toList = true := by simpa using hb
  rw [if_neg (by simp [hb']), if_neg hb, Find_eq p hP hN, at_eq hw.2.1 q (by omega) (by omega)]
  simp only [Option.bind_some]
  unfold findP
  rw [if_pos hc]
  cases hg : fget L p with
  | none => simp [findR]
  | some b =>
   simp only [findR, Bool.not_true, Bool.false_eq_true, if_false]
   cases hs : (fget L q).isSome with
   | true => simp
   | false =>
    simp only [Bool.false_eq_true, if_false]
    rw [Remove_eq p hP hN]
    simp only [Option.bind_some]
    have hrem : removeP L p = (fdel L p, 0) := by
     unfold removeP; rw [if_neg (by simp [hc]), if_neg (by simp [hg])]
    rw [hrem]
    have hwd := hw.del p
    have hcd := checkP_wf.2 hwd
    rw [Put_eq (L := fdel L p) q b (fun g hg' => hP g (List.mem_filter.1 hg').1) hq hN]
    simp only [Option.bind_some]
    have hbs := (hw.2.2 _ (fget_mem hg)).2
    simp only at hbs
    have hl1 := fdel_length hw.2.1 (p := p)
    rw [hg] at hl1
    simp only [Option.isSome_some, if_true] at hl1
    have hl2 := fput_length (fdel L p) q b
    have hpos : 0 < L.length := List.length_pos_of_mem (fget_mem hg)
    unfold putP
    rw [if_neg (by simp [hcd]), if_neg (by simp [hb']), if_neg (by omega)]
 ·rw [if_pos (by simpa using hc), if_pos hc]
def isSourceP (s : ByteArray) : Bool := pathB s.data.toList && decide (4 < s.size) && decide (s.extract (s.size - 4) s.size = (⟨#[46, 115, 114, 99]⟩ : ByteArray))
theorem IsSource_eq {N : Nat} {s : ByteArray} (hp : lexer_Path N s = some (pathB s.data.toList)) : revision_IsSource N s = some (isSourceP s) := by
 simp only [revision_IsSource, hp, Option.bind_some]
 unfold isSourceP
 cases hb : pathB s.data.toList with
 | false => simp
 | true =>
  have h80 : s.size ≤ 80 := by
   have : s.data.toList.length ≤ 80 := (of_decide_eq_true hb).1
   have e := size_list' s
   omega
  rw [if_pos rfl]
  by_cases h4 : 4 < s.size
  ·rw [if_pos (by simp only [decide_eq_true_eq]; omega)]
   have e4 : ByteArray.size (⟨#[46, 115, 114, 99]⟩ : ByteArray) = 4 := rfl
   simp only [strings_HasSuffix, internal_stringslite_HasSuffix, e4]
   rw [if_pos (by simp only [decide_eq_true_eq]; omega), show IntKind.wrap .i64 ((s.size : Int) - ((4 : Nat) : Int)) = ((s.size - 4 : Nat) : Int) by rw [wi64 (by omega) (by omega)]; omega, subB_some (by omega) (by omega) (by omega)]
   simp only [Option.bind_some, Int.toNat_natCast, eqB, decide_eq_true h4, Bool.true_and]
  ·rw [if_neg (by simp only [decide_eq_true_eq]; omega), decide_eq_false h4]; rfl
end Go.Proofs.YtfodebccikifcaaDoor
