/- Revisions: the order of strings, files that ascend, look-ups, what is put and taken away, in plain Lean. No condition. -/
import Derived.Test.YtgggihpbhmbjaaaGreatDoorPthZy6
namespace Go.Proofs.YtgggihpbhmbjaaaGreatDoor
open Go Go.Dc
abbrev File := ByteArray × ByteArray
def blt (a b : ByteArray) : Bool := Op.bytesLess a.toList b.toList
theorem toList_inj {a b : ByteArray} (h : a.toList = b.toList) : a = b := by
 have h1 : (a.toList == b.toList) = true := by rw [h]; exact beq_self_eq_true _
 rw [bytes_eq'] at h1
 exact of_decide_eq_true h1
theorem less_irrefl : ∀ a : List UInt8, Op.bytesLess a a = false
 | [] => rfl
 | x :: a => by simp [Op.bytesLess, less_irrefl a]
theorem less_trans : ∀ a b c : List UInt8, Op.bytesLess a b = true → Op.bytesLess b c = true → Op.bytesLess a c = true
 | _, _, [], _, h => by simp [Op.bytesLess] at h
 | _, [], _ :: _, h, _ => by simp [Op.bytesLess] at h
 | [], _ :: _, _ :: _, _, _ => rfl
 | x :: a, y :: b, z :: c, h1, h2 => by
  simp only [Op.bytesLess, Bool.or_eq_true, decide_eq_true_eq, Bool.and_eq_true, beq_iff_eq] at h1 h2 ⊢
  rcases h1 with h1 | ⟨rfl, h1⟩ <;> rcases h2 with h2 | ⟨rfl, h2⟩
  ·exact .inl (UInt8.lt_trans h1 h2)
  ·exact .inl h1
  ·exact .inl h2
  ·exact .inr ⟨rfl, less_trans a b c h1 h2⟩
theorem less_total : ∀ a b : List UInt8, Op.bytesLess a b = true ∨ a = b ∨ Op.bytesLess b a = true
 | [], [] => .inr (.inl rfl)
 | [], _ :: _ => .inl rfl
 | _ :: _, [] => .inr (.inr rfl)
 | x :: a, y :: b => by
  simp only [Op.bytesLess, Bool.or_eq_true, decide_eq_true_eq, Bool.and_eq_true, beq_iff_eq, List.cons.injEq]
  rcases less_total a b with h | h | h
  ·rcases Nat.lt_trichotomy x.toNat y.toNat with g | g | g
   ·exact .inl (.inl (UInt8.lt_iff_toNat_lt.2 g))
   ·have g := UInt8.toNat_inj.1 g; exact .inl (.inr ⟨g, h⟩)
   ·exact .inr (.inr (.inl (UInt8.lt_iff_toNat_lt.2 g)))
  ·rcases Nat.lt_trichotomy x.toNat y.toNat with g | g | g
   ·exact .inl (.inl (UInt8.lt_iff_toNat_lt.2 g))
   ·have g := UInt8.toNat_inj.1 g; exact .inr (.inl ⟨g, h⟩)
   ·exact .inr (.inr (.inl (UInt8.lt_iff_toNat_lt.2 g)))
  ·rcases Nat.lt_trichotomy x.toNat y.toNat with g | g | g
   ·exact .inl (.inl (UInt8.lt_iff_toNat_lt.2 g))
   ·have g := UInt8.toNat_inj.1 g; exact .inr (.inr (.inr ⟨g.symm, h⟩))
   ·exact .inr (.inr (.inl (UInt8.lt_iff_toNat_lt.2 g)))
theorem qIm (a : ByteArray) : blt a a = false := less_irrefl _
theorem qJy {a b c : ByteArray} (h1 : blt a b = true) (h2 : blt b c = true) : blt a c = true := less_trans _ _ _ h1 h2
theorem qMq (a b : ByteArray) : blt a b = true ∨ a = b ∨ blt b a = true := by
 rcases less_total a.toList b.toList with h | h | h
 ·exact .inl h
 ·exact .inr (.inl (toList_inj h))
 ·exact .inr (.inr h)
theorem blt_asymm {a b : ByteArray} (h : blt a b = true) : blt b a = false := by
 cases h2 : blt b a with
 | false => rfl
 | true => have := qJy h h2; rw [qIm] at this; cases this
theorem blt_ne {a b : ByteArray} (h : blt a b = true) : a ≠ b := by rintro rfl; rw [qIm] at h; cases h
def Asc (L : List File) : Prop := L.Pairwise fun f g => blt f.1 g.1 = true
def fget : List File → ByteArray → Option ByteArray
 | [], _ => none
 | f :: L, p => if f.1 = p then some f.2 else fget L p
def fput : List File → ByteArray → ByteArray → List File
 | [], p, b => [(p, b)]
 | f :: L, p, b => if blt p f.1 = true then (p, b) :: f :: L else if f.1 = p then (p, b) :: L else f :: fput L p b
def fdel (L : List File) (p : ByteArray) : List File := L.filter fun f => decide (f.1 ≠ p)
theorem qJf {L : List File} {p : ByteArray} (h : ∀ f ∈ L, blt p f.1 = true) : fget L p = none := by
 induction L with
 | nil => rfl
 | cons f L ih =>
  have h1 := h f (List.mem_cons_self ..)
  simp only [fget]
  rw [if_neg (fun e => by rw [e, qIm] at h1; cases h1)]
  exact ih fun g hg => h g (List.mem_cons_of_mem _ hg)
theorem fget_mem {L : List File} {p b : ByteArray} (h : fget L p = some b) : (p, b) ∈ L := by
 induction L with
 | nil => simp [fget] at h
 | cons f L ih =>
  simp only [fget] at h
  split at h
  ·rename_i e; simp only [Option.some.injEq] at h; subst h; subst e; exact List.mem_cons_self ..
  ·exact List.mem_cons_of_mem _ (ih h)
theorem qIg {L : List File} (ha : Asc L) {f : File} (h : f ∈ L) : fget L f.1 = some f.2 := by
 induction L with
 | nil => cases h
 | cons g L ih =>
  have h2 := List.pairwise_cons.1 ha
  rcases List.mem_cons.1 h with rfl | h
  ·simp [fget]
  ·simp only [fget]
   rw [if_neg (blt_ne (h2.1 f h)), ih h2.2 h]
theorem Asc.ext : ∀ {L K : List File}, Asc L → Asc K → (∀ p, fget L p = fget K p) → L = K
 | [], [], _, _, _ => rfl
 | [], f :: K, _, _, h => by have := h f.1; simp [fget] at this
 | f :: L, [], _, _, h => by have := h f.1; simp [fget] at this
 | f :: L, g :: K, hL, hK, h => by
  have hL' := List.pairwise_cons.1 hL
  have hK' := List.pairwise_cons.1 hK
  have e : f.1 = g.1 := by
   rcases qMq f.1 g.1 with hl | hl | hl
   ·have h1 := h f.1
    rw [qJf (L := g :: K) (fun x hx => by
     rcases List.mem_cons.1 hx with rfl | hx
     ·exact hl
     ·exact qJy hl (hK'.1 x hx))] at h1
    simp [fget] at h1
   ·exact hl
   ·have h1 := h g.1
    rw [qJf (L := f :: L) (fun x hx => by
     rcases List.mem_cons.1 hx with rfl | hx
     ·exact hl
     ·exact qJy hl (hL'.1 x hx))] at h1
    simp [fget] at h1
  have e2 : f.2 = g.2 := by have := h f.1; rw [e] at this; simpa [fget, e] using this
  have e3 : f = g := Prod.ext e e2
  subst e3
  congr 1
  refine Asc.ext hL'.2 hK'.2 fun p => ?_
  by_cases hp : f.1 = p
  ·subst hp
   rw [qJf hL'.1, qJf hK'.1]
  ·have := h p
   simpa [fget, hp] using this
theorem fput_mem {L : List File} {p b : ByteArray} {f : File} (h : f ∈ fput L p b) : f = (p, b) ∨ f ∈ L := by
 induction L with
 | nil => simp [fput] at h; exact .inl h
 | cons g L ih =>
  simp only [fput] at h
  split at h
  ·rcases List.mem_cons.1 h with h | h
   ·exact .inl h
   ·exact .inr h
  ·split at h
   ·rcases List.mem_cons.1 h with h | h
    ·exact .inl h
    ·exact .inr (List.mem_cons_of_mem _ h)
   ·rcases List.mem_cons.1 h with h | h
    ·exact .inr (h ▸ List.mem_cons_self ..)
    ·rcases ih h with h | h
     ·exact .inl h
     ·exact .inr (List.mem_cons_of_mem _ h)
theorem Asc.put {L : List File} (h : Asc L) (p b : ByteArray) : Asc (fput L p b) := by
 induction L with
 | nil => exact List.pairwise_singleton _ _
 | cons g L ih =>
  have h' := List.pairwise_cons.1 h
  simp only [fput]
  split
  ·rename_i h1
   refine List.pairwise_cons.2 ⟨fun x hx => ?_, h⟩
   rcases List.mem_cons.1 hx with rfl | hx
   ·exact h1
   ·exact qJy h1 (h'.1 x hx)
  ·rename_i h1
   split
   ·rename_i h2
    exact List.pairwise_cons.2 ⟨fun x hx => by have := h'.1 x hx; rw [h2] at this; exact this, h'.2⟩
   ·rename_i h2
    refine List.pairwise_cons.2 ⟨fun x hx => ?_, ih h'.2⟩
    rcases fput_mem hx with rfl | hx
    ·rcases qMq g.1 p with h3 | h3 | h3
     ·exact h3
     ·exact absurd h3 h2
     ·exact absurd h3 h1
    ·exact h'.1 x hx
theorem fget_put {L : List File} (h : Asc L) (p b q : ByteArray) : fget (fput L p b) q = if p = q then some b else fget L q := by
 induction L with
 | nil => simp [fput, fget]
 | cons g L ih =>
  have h' := List.pairwise_cons.1 h
  simp only [fput]
  split
  ·simp [fget]
  ·rename_i h1
   split
   ·rename_i h2
    subst h2
    simp only [fget]
    split <;> simp
   ·rename_i h2
    simp only [fget, ih h'.2]
    by_cases hq : p = q
    ·subst hq; simp [h2]
    ·simp [hq]
theorem Asc.del {L : List File} (h : Asc L) (p : ByteArray) : Asc (fdel L p) := List.Pairwise.filter _ h
theorem qLo (L : List File) (p b : ByteArray) : (fput L p b).length ≤ L.length + 1 := by
 induction L with
 | nil => simp [fput]
 | cons g L ih =>
  simp only [fput]
  split
  ·simp
  ·split
   ·simp
   ·simp only [List.length_cons]; omega
def fileOk (f : File) : Prop := qIp f.1.data.toList = true ∧ f.2.size ≤ 16384
def WF (L : List File) : Prop := L.length ≤ 64 ∧ Asc L ∧ ∀ f ∈ L, fileOk f
theorem WF.put {L : List File} (h : WF L) {p b : ByteArray} (hp : qIp p.data.toList = true) (hb : b.size ≤ 16384) (hl : (fput L p b).length ≤ 64) : WF (fput L p b) :=
 ⟨hl, h.2.1.put p b, fun f hf => by
  rcases fput_mem hf with rfl | hf
  ·exact ⟨hp, hb⟩
  ·exact h.2.2 f hf⟩
theorem WF.del {L : List File} (h : WF L) (p : ByteArray) : WF (fdel L p) :=
 ⟨Nat.le_trans (List.length_filter_le _ _) h.1, h.2.1.del p, fun f hf => h.2.2 f ((List.mem_filter.1 hf).1)⟩
def lessQ (q : Option ByteArray) (p : ByteArray) : Bool := match q with
 | some x => blt p x
 | none => false
def checkF : Option ByteArray → List File → Int
 | _, [] => 0
 | q, f :: L =>
  if qIp f.1.data.toList = false then 6
  else if q = some f.1 then 10
  else if lessQ q f.1 = true then 6
  else if 16384 < f.2.size then 2
  else checkF (some f.1) L
def qGf (L : List File) : Int := if 64 < L.length then 2 else checkF none L
theorem checkF_wf : ∀ {L : List File} {q : Option ByteArray}, checkF q L = 0 ↔ Asc L ∧ (∀ f ∈ L, fileOk f) ∧ ∀ x, q = some x → ∀ f ∈ L, blt x f.1 = true
 | [], q => by simp [checkF, Asc]
 | f :: L, q => by
  have ih := checkF_wf (L := L) (q := some f.1)
  simp only [checkF]
  by_cases h1 : qIp f.1.data.toList = false
  ·rw [if_pos h1]
   refine ⟨fun h => by omega, fun h => ?_⟩
   have := (h.2.1 f (List.mem_cons_self ..)).1; rw [h1] at this; cases this
  rw [if_neg h1]
  have h1 : qIp f.1.data.toList = true := by simpa using h1
  by_cases h2 : q = some f.1
  ·rw [if_pos h2]
   refine ⟨fun h => by omega, fun h => ?_⟩
   have := h.2.2 _ h2 f (List.mem_cons_self ..); rw [qIm] at this; cases this
  rw [if_neg h2]
  by_cases h3 : lessQ q f.1 = true
  ·rw [if_pos h3]
   refine ⟨fun h => by omega, fun h => ?_⟩
   cases q with
   | none => cases h3
   | some x => have := h.2.2 x rfl f (List.mem_cons_self ..); rw [show lessQ (some x) f.1 = blt f.1 x from rfl, blt_asymm this] at h3; cases h3
  rw [if_neg h3]
  by_cases h4 : 16384 < f.2.size
  ·rw [if_pos h4]
   refine ⟨fun h => by omega, fun h => ?_⟩
   have := (h.2.1 f (List.mem_cons_self ..)).2; omega
  rw [if_neg h4, ih]
  have hq : ∀ x, q = some x → blt x f.1 = true := fun x hx => by
   subst hx
   rcases qMq x f.1 with g | g | g
   ·exact g
   ·exact absurd (by rw [g]) h2
   ·exact absurd g h3
  constructor
  ·rintro ⟨a1, a2, a3⟩
   refine ⟨List.pairwise_cons.2 ⟨a3 f.1 rfl, a1⟩, fun g hg => ?_, fun x hx g hg => ?_⟩
   ·rcases List.mem_cons.1 hg with rfl | hg
    ·exact ⟨h1, by omega⟩
    ·exact a2 g hg
   ·rcases List.mem_cons.1 hg with rfl | hg
    ·exact hq x hx
    ·exact qJy (hq x hx) (a3 f.1 rfl g hg)
  ·rintro ⟨a1, a2, a3⟩
   have a1 := List.pairwise_cons.1 a1
   exact ⟨a1.2, fun g hg => a2 g (List.mem_cons_of_mem _ hg), fun x hx => by cases hx; exact a1.1⟩
theorem qHp {L : List File} : qGf L = 0 ↔ WF L := by
 unfold qGf WF
 by_cases h : 64 < L.length
 ·rw [if_pos h]; exact ⟨fun h => by omega, fun g => by omega⟩
 ·rw [if_neg h, checkF_wf]
  exact ⟨fun g => ⟨by omega, g.1, g.2.1⟩, fun g => ⟨g.2.1, g.2.2, fun x hx => by cases hx⟩⟩
def resC (c : Int) : Unit ⊕ Int := if c = 0 then .inl () else .inr c
def qAt (L : List File) (i : Nat) : Option ByteArray := if i = 0 then none else (L[i - 1]?).map (·.1)
theorem check_loop {L : List File} {f : Int → Option (Int ⊕ (Unit ⊕ Int))}
  (step : ∀ i : Nat, ∀ h : i < L.length, f (i : Int) = if qIp L[i].1.data.toList = false then some (.inr (.inr 6)) else if qAt L i = some L[i].1 then some (.inr (.inr 10)) else if lessQ (qAt L i) L[i].1 = true then some (.inr (.inr 6)) else if 16384 < L[i].2.size then some (.inr (.inr 2)) else some (.inl ((i : Int) + 1)))
  (stop : f (L.length : Int) = some (.inr (.inl ()))) : ∀ (d i M : Nat), i + d = L.length → d < M → qBf f M (i : Int) = some (resC (checkF (qAt L i) (L.drop i)))
 | _, _, 0, _, h => by omega
 | 0, i, M + 1, hd, _ => by
  have : i = L.length := by omega
  subst this
  simp [qBf, stop, checkF, resC]
 | d + 1, i, M + 1, hd, hM => by
  have hi : i < L.length := by omega
  have ih := check_loop step stop d (i + 1) M (by omega) (by omega)
  have e1 : (i : Int) + 1 = ((i + 1 : Nat) : Int) := by omega
  have e2 : qAt L (i + 1) = some L[i].1 := by simp [qAt, hi]
  simp only [qBf, step i hi]
  rw [List.drop_eq_getElem_cons hi]
  simp only [checkF]
  by_cases h1 : qIp L[i].1.data.toList = false
  ·rw [if_pos h1, if_pos h1]; rfl
  rw [if_neg h1, if_neg h1]
  by_cases h2 : qAt L i = some L[i].1
  ·rw [if_pos h2, if_pos h2]; rfl
  rw [if_neg h2, if_neg h2]
  by_cases h3 : lessQ (qAt L i) L[i].1 = true
  ·rw [if_pos h3, if_pos h3]; rfl
  rw [if_neg h3, if_neg h3]
  by_cases h4 : 16384 < L[i].2.size
  ·rw [if_pos h4, if_pos h4]; rfl
  rw [if_neg h4, if_neg h4, e1]
  simp only [Option.bind_some]
  rw [ih, e2]
theorem eqB (x y : ByteArray) : (x.toList == y.toList) = decide (x = y) := bytes_eq' x y
theorem check_of {N : Nat} {L : List File} {P : ByteArray → Option Bool} {f : Int → Option (Int ⊕ (Unit ⊕ Int))} (hP : ∀ g ∈ L, P g.1 = some (qIp g.1.data.toList))
  (hf : ∀ s1, f s1 = if (decide (s1 < (List.length L : Int))) = true then ((idx L s1).bind fun x1 => (P x1.1).bind fun y1 => if (!y1) = true then (some (.inr (.inr (6)))) else ((if (decide (s1 > 0)) = true then ((idx L (IntKind.wrap .i64 (s1 - 1))).bind fun x2 => some (x1.1.toList == x2.1.toList)) else (some false) : Option (Bool)).bind fun o2 => if o2 = true then (some (.inr (.inr (10)))) else ((if (decide (s1 > 0)) = true then ((idx L (IntKind.wrap .i64 (s1 - 1))).bind fun x3 => some (Op.bytesLess x1.1.toList x3.1.toList)) else (some false) : Option (Bool)).bind fun o3 => if o3 = true then (some (.inr (.inr (6)))) else (if (decide ((ByteArray.size x1.2 : Int) > 16384)) = true then (some (.inr (.inr (2)))) else (some (.inl (IntKind.wrap .i64 (s1 + 1)))))))) else (some (.inr (.inl ()))))
  (hN : 100 < N) : (if (decide ((List.length L : Int) > 64)) = true then (some 2) else ((qBf f N 0).bind fun out1 => (match out1 with | .inl _ => some 0 | .inr z => some z)) : Option Int) = some (qGf L) := by
 unfold qGf
 by_cases h : 64 < L.length
 ·rw [if_pos h, if_pos (by simp only [decide_eq_true_eq]; omega)]
 ·rw [if_neg h, if_neg (by simp only [decide_eq_true_eq]; omega)]
  have key := check_loop (L := L) (f := f) (fun i hi => by
   rw [hf, if_pos (by simp only [decide_eq_true_eq]; omega), qCe hi]
   simp only [Option.bind_some, hP _ (List.getElem_mem hi)]
   by_cases h1 : qIp L[i].1.data.toList = false
   ·rw [if_pos (by rw [h1]; rfl), if_pos h1]
   have h1' : qIp L[i].1.data.toList = true := by simpa using h1
   rw [if_neg (by rw [h1']; simp), if_neg h1]
   by_cases h0 : 0 < i
   ·have hi1 : i - 1 < L.length := by omega
    have ew : IntKind.wrap .i64 ((i : Int) - 1) = ((i - 1 : Nat) : Int) := by rw [wi64 (by omega) (by omega)]; omega
    have eq : qAt L i = some (L[i - 1]).1 := by simp [qAt, hi1]; omega
    rw [ew, qCe hi1, eq]
    have ed : decide ((i : Int) > 0) = true := by simp only [decide_eq_true_eq]; omega
    simp only [Option.bind_some, eqB, ed, if_true, decide_eq_true_eq, Option.some.injEq]
    by_cases h2 : L[i].1 = (L[i - 1]).1
    ·rw [if_pos h2, if_pos h2.symm]
    rw [if_neg h2, if_neg (show ¬ (L[i - 1]).1 = L[i].1 from fun e => h2 e.symm)]
    have el : lessQ (some (L[i - 1]).1) L[i].1 = Op.bytesLess L[i].1.toList (L[i - 1]).1.toList := rfl
    rw [el]
    by_cases h3 : Op.bytesLess L[i].1.toList (L[i - 1]).1.toList = true
    ·rw [if_pos h3, if_pos h3]
    rw [if_neg h3, if_neg h3]
    by_cases h4 : 16384 < L[i].2.size
    ·rw [if_pos (by omega), if_pos h4]
    ·rw [if_neg (by omega), if_neg h4, wi64 (by omega) (by omega)]
   ·have h0 : i = 0 := by omega
    subst h0
    have ed : decide (((0 : Nat) : Int) > 0) = false := by decide
    have eq : qAt L 0 = none := rfl
    have el : lessQ none (L[0]).1 = false := rfl
    simp only [ed, Bool.false_eq_true, if_false, Option.bind_some, eq, decide_eq_true_eq, reduceCtorEq, el]
    by_cases h4 : 16384 < L[0].2.size
    ·rw [if_pos (by omega), if_pos h4]
    ·rw [if_neg (by omega), if_neg h4, wi64 (by omega) (by omega)]) (by rw [hf, if_neg (by simp)]) L.length 0 N (by omega) (by omega)
  rw [show ((0 : Nat) : Int) = 0 from rfl] at key
  rw [key, List.drop_zero]
  have eq : qAt L 0 = none := rfl
  rw [eq]
  simp only [Option.bind_some, resC]
  by_cases hc : checkF none L = 0
  ·rw [if_pos hc, hc]
  ·rw [if_neg hc]
theorem Check_eq {N : Nat} {L : List File} (hP : ∀ g ∈ L, qJn N g.1 = some (qIp g.1.data.toList)) (hN : 100 < N) : qGe N L = some (qGf L) :=
 check_of (f := qIq N L) (P := qJn N) hP (fun _ => rfl) hN
theorem qLj {N : Nat} {L : List File} (hN : 100 < N) : qDl N L = some (qGf L) :=
 check_of (f := qGo N L) (P := qEm N) (fun _ _ => refPath_eq hN) (fun _ => rfl) hN
theorem same_loop {L K : List File} {f : Int → Option (Int ⊕ (Unit ⊕ Bool))} (hl : L.length = K.length) (hm : L.length < 1000000000)
  (hf : ∀ s1, f s1 = if (decide (s1 < (List.length L : Int))) = true then ((idx L s1).bind fun x1 => (idx K s1).bind fun x2 => if (!((x1.1.toList == x2.1.toList) && ((x1.2.toList == x2.2.toList) && true))) = true then (some (.inr (.inr (false)))) else (some (.inl (IntKind.wrap .i64 (s1 + 1))))) else (some (.inr (.inl ())))) :
  ∀ (d i M : Nat), i + d = L.length → d < M → qBf f M (i : Int) = some (if L.drop i = K.drop i then .inl () else .inr false)
 | _, _, 0, _, h => by omega
 | 0, i, M + 1, hd, _ => by
  simp only [qBf, hf]
  rw [if_neg (by simp only [decide_eq_true_eq]; omega)]
  simp only [Option.bind_some]
  rw [if_pos (by rw [List.drop_eq_nil_of_le (by omega), List.drop_eq_nil_of_le (by omega)])]
 | d + 1, i, M + 1, hd, hM => by
  have hi : i < L.length := by omega
  have hk : i < K.length := by omega
  simp only [qBf, hf]
  rw [if_pos (by simp only [decide_eq_true_eq]; omega), qCe hi]
  simp only [Option.bind_some]
  rw [qCe hk]
  simp only [Option.bind_some, eqB, Bool.and_true]
  rw [List.drop_eq_getElem_cons hi, List.drop_eq_getElem_cons hk]
  by_cases h1 : L[i] = K[i]
  ·rw [if_neg (by simp [h1]), wi64 (by omega) (by omega)]
   have e1 : (i : Int) + 1 = ((i + 1 : Nat) : Int) := by omega
   simp only [Option.bind_some]
   rw [e1, same_loop hl hm hf d (i + 1) M (by omega) (by omega)]
   simp only [h1, List.cons.injEq, true_and]
  ·rw [if_pos (by
    have : ¬ (L[i].1 = K[i].1 ∧ L[i].2 = K[i].2) := fun h => h1 (Prod.ext h.1 h.2)
    simp only [Bool.not_eq_true', Bool.and_eq_false_iff, decide_eq_false_iff_not]
    by_cases h2 : L[i].1 = K[i].1
    ·exact .inr fun h3 => this ⟨h2, h3⟩
    ·exact .inl h2)]
   simp only [Option.bind_some, List.cons.injEq, h1, false_and, if_false]
theorem same_of {L K : List File} {f : Int → Option (Int ⊕ (Unit ⊕ Bool))} {N : Nat} (hm : L.length < 1000000000) (hN : L.length < N)
  (hf : ∀ s1, f s1 = if (decide (s1 < (List.length L : Int))) = true then ((idx L s1).bind fun x1 => (idx K s1).bind fun x2 => if (!((x1.1.toList == x2.1.toList) && ((x1.2.toList == x2.2.toList) && true))) = true then (some (.inr (.inr (false)))) else (some (.inl (IntKind.wrap .i64 (s1 + 1))))) else (some (.inr (.inl ())))) :
  (if ((List.length L : Int) != (List.length K : Int)) = true then (some false) else ((qBf f N 0).bind fun out1 => (match out1 with | .inl _ => some true | .inr z => some z)) : Option Bool) = some (decide (L = K)) := by
 by_cases hl : L.length = K.length
 ·rw [if_neg (by rw [bne_iff_ne]; omega)]
  have := same_loop hl hm hf L.length 0 N (by omega) hN
  rw [show ((0 : Nat) : Int) = 0 from rfl] at this
  rw [this]
  simp only [List.drop_zero, Option.bind_some]
  by_cases h : L = K
  ·rw [if_pos h, decide_eq_true h]
  ·rw [if_neg h, decide_eq_false h]
 ·rw [if_pos (by rw [bne_iff_ne]; omega), decide_eq_false (fun h => hl (by rw [h]))]
theorem refSame_eq {N : Nat} {L K : List File} (hm : L.length < 1000000000) (hN : L.length < N) : qDp N L K = some (decide (L = K)) :=
 same_of (f := qHc N L K) hm hN (fun _ => rfl)
end Go.Proofs.YtgggihpbhmbjaaaGreatDoor
