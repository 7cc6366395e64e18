/- The plain laws of frames in bytes: what the program's functions and the reference's answer. No condition but those of each theorem. -/
import Derived.Test.YtfodebccikifcaaGreatDoorWrNumy1
namespace Go.Proofs.YtfodebccikifcaaGreatDoor
open Go Go.Dc
def ckStep (s : Nat × Nat) (c : UInt8) : Nat × Nat := ((s.1 + c.toNat) % 65521, (s.2 + (s.1 + c.toNat) % 65521) % 65521)
def ckS (l : List UInt8) : Nat × Nat := l.foldl ckStep (1, 0)
def ck (l : List UInt8) : Nat := (ckS l).1 + 65536 * (ckS l).2
theorem ckS_lt (l : List UInt8) : (ckS l).1 < 65521 ∧ (ckS l).2 < 65521 := by
 unfold ckS
 have : ∀ (l : List UInt8) (s : Nat × Nat), s.1 < 65521 ∧ s.2 < 65521 → (l.foldl ckStep s).1 < 65521 ∧ (l.foldl ckStep s).2 < 65521 := by
  intro l
  induction l with
  | nil => intro s h; exact h
  | cons c l ih => intro s _; exact ih _ ⟨Nat.mod_lt _ (by omega), Nat.mod_lt _ (by omega)⟩
 exact this l _ (by simp)
theorem ck_lt (l : List UInt8) : ck l < 4294967296 := by have := ckS_lt l; unfold ck; omega
theorem ckS_snoc (l : List UInt8) (c : UInt8) : ckS (l ++ [c]) = ckStep (ckS l) c := by simp [ckS]
theorem loopM_steps' {σ β : Type} {f : σ → Option (σ ⊕ β)} (st : Nat → σ) (k : Nat) (res : β) (step : ∀ i, i < k → f (st i) = some (.inl (st (i + 1)))) (stop : f (st k) = some (.inr res)) {N : Nat} (hN : k < N) : loopM f N (st 0) = some res := by
 have key : ∀ d i M, i + d = k → d < M → loopM f M (st i) = some res := by
  intro d
  induction d with
  | zero => intro i M h hM; obtain ⟨M', rfl⟩ : ∃ M', M = M' + 1 := ⟨M - 1, by omega⟩; simp only [Nat.add_zero] at h; subst h; simp [loopM, stop]
  | succ d ih =>
   intro i M h hM
   obtain ⟨M', rfl⟩ : ∃ M', M = M' + 1 := ⟨M - 1, by omega⟩
   have := ih (i + 1) M' (by omega) (by omega)
   simp [loopM, step i (by omega), this]
 exact key k 0 N (by omega) hN
theorem ck_loop {N : Nat} {l : List UInt8} (hl : l.length < 9223372036854775807) (hN : l.length < N) (f : Int × Int × Int → Option ((Int × Int × Int) ⊕ (Int × Int)))
  (hf : ∀ s, f s = if (decide (s.2.2 < (List.length l : Int))) = true then ((idx l s.2.2).bind fun x1 => some (.inl (Int.tmod (IntKind.wrap .u32 (s.1 + (IntKind.wrap .u32 (x1.toNat : Int)))) 65521, Int.tmod (IntKind.wrap .u32 (s.2.1 + (Int.tmod (IntKind.wrap .u32 (s.1 + (IntKind.wrap .u32 (x1.toNat : Int)))) 65521))) 65521, IntKind.wrap .i64 (s.2.2 + 1)))) else (some (.inr (s.1, s.2.1)))) :
  loopM f N (1, 0, 0) = some (((ckS l).1 : Int), ((ckS l).2 : Int)) := by
 have := loopM_steps' (f := f) (fun i => (((ckS (l.take i)).1 : Int), ((ckS (l.take i)).2 : Int), (i : Int))) l.length (((ckS l).1 : Int), ((ckS l).2 : Int)) (fun i hi => by
  have hc : ((i : Int) < (l.length : Int)) := by omega
  have hb := byte_bounds l[i]
  have hs := ckS_lt (l.take i)
  rw [hf]
  simp only [hc, decide_true, if_true, idx_nat hi, Option.bind_some]
  rw [wu32 (x := (l[i].toNat : Int)) (by omega) (by omega), wu32 (x := ((ckS (l.take i)).1 : Int) + (l[i].toNat : Int)) (by omega) (by omega)]
  have e1 : Int.tmod (((ckS (l.take i)).1 : Int) + (l[i].toNat : Int)) 65521 = ((((ckS (l.take i)).1 + l[i].toNat) % 65521 : Nat) : Int) := by
   rw [Int.tmod_eq_emod_of_nonneg (by omega)]; omega
  rw [e1, wu32 (by omega) (by omega)]
  have e2 : Int.tmod (((ckS (l.take i)).2 : Int) + ((((ckS (l.take i)).1 + l[i].toNat) % 65521 : Nat) : Int)) 65521 = ((((ckS (l.take i)).2 + ((ckS (l.take i)).1 + l[i].toNat) % 65521) % 65521 : Nat) : Int) := by
   rw [Int.tmod_eq_emod_of_nonneg (by omega)]; omega
  rw [e2, wi64 (by omega) (by omega), List.take_succ_eq_append_getElem hi, ckS_snoc]
  rfl) (by rw [hf]; simp) hN
 simpa [ckS] using this
theorem checksum_eq {N : Nat} {l : List UInt8} (hl : l.length < 9223372036854775807) (hN : l.length < N) : wire_Checksum N l = some (ck l : Int) := by
 have hs := ckS_lt l
 unfold wire_Checksum
 rw [ck_loop hl hN (wire_Checksum_L1 N l) (fun s => rfl)]
 simp only [Option.bind_some]
 rw [wu32 (x := ((ckS l).2 : Int) * 2 ^ 16) (by omega) (by omega), wu32 (by omega) (by omega)]
 congr 1; unfold ck; omega
theorem refchecksum_eq {N : Nat} {l : List UInt8} (hl : l.length < 9223372036854775807) (hN : l.length < N) : testgateref03_Checksum N l = some (ck l : Int) := by
 have hs := ckS_lt l
 unfold testgateref03_Checksum
 rw [ck_loop hl hN (testgateref03_Checksum_L1 N l) (fun s => rfl)]
 simp only [Option.bind_some]
 rw [wu32 (x := 65536 * ((ckS l).2 : Int)) (by omega) (by omega), wu32 (by omega) (by omega)]
 congr 1
def le4 (c : Nat) : List UInt8 := [UInt8.ofNat c, UInt8.ofNat (c / 256), UInt8.ofNat (c / 65536), UInt8.ofNat (c / 16777216)]
def headL (kind : Int) (p : List UInt8) : List UInt8 := [247, toU8 (IntKind.wrap .u8 kind)] ++ encU p.length ++ p
def frameL (kind : Int) (p : List UInt8) : List UInt8 := headL kind p ++ le4 (ck ((headL kind p).drop 1))
def frameR (kind : Int) (p : List UInt8) : List UInt8 × Int :=
 if kind < 1 ∨ 255 < kind then ([], 3) else if 2097152 < p.length then ([], 2) else (frameL kind p, 0)
theorem le4_eq (c : Nat) : [toU8 (IntKind.wrap .u8 (c : Int)), toU8 (IntKind.wrap .u8 (Int.fdiv (c : Int) (2 ^ 8))), toU8 (IntKind.wrap .u8 (Int.fdiv (c : Int) (2 ^ 16))), toU8 (IntKind.wrap .u8 (Int.fdiv (c : Int) (2 ^ 24)))] = le4 c := by
 have e8 : Int.fdiv (c : Int) ((2 : Int) ^ 8) = ((c / 256 : Nat) : Int) := by rw [Int.fdiv_eq_ediv_of_nonneg _ (by decide)]; omega
 have e16 : Int.fdiv (c : Int) ((2 : Int) ^ 16) = ((c / 65536 : Nat) : Int) := by rw [Int.fdiv_eq_ediv_of_nonneg _ (by decide)]; omega
 have e24 : Int.fdiv (c : Int) ((2 : Int) ^ 24) = ((c / 16777216 : Nat) : Int) := by rw [Int.fdiv_eq_ediv_of_nonneg _ (by decide)]; omega
 rw [e8, e16, e24, toU8_wrap', toU8_wrap', toU8_wrap', toU8_wrap']
 rfl
theorem headL_len {kind : Int} {p : List UInt8} : (headL kind p).length ≤ p.length + 12 ∧ 2 ≤ (headL kind p).length := by
 have := encU_len p.length
 simp only [headL, List.length_append, List.length_cons, List.length_nil]; omega
theorem frameL_len (kind : Int) (p : List UInt8) : (frameL kind p).length = (headL kind p).length + 4 := by simp [frameL, le4]
theorem wire_Frame_eq {N : Nat} {kind : Int} {p : List UInt8} (hN : 2097200 < N ∨ p.length + 20 < N) (hN2 : 20 < N) : wire_Frame N (kind, p) = some (frameR kind p) := by
 unfold wire_Frame frameR
 by_cases h1 : kind < 1
 ·simp [h1]
 ·by_cases h2 : kind > 255
  ·have : 255 < kind := h2
   simp [h1, this]
  ·have h2' : ¬ 255 < kind := h2
   by_cases h3 : 2097152 < p.length
   ·have : (p.length : Int) > 2097152 := by omega
    simp [h1, h2', h3, this]
   ·have h3' : ¬ (p.length : Int) > 2097152 := by omega
    have hh := headL_len (kind := kind) (p := p)
    simp only [h1, decide_false, Bool.false_eq_true, if_false, h2, Option.bind_some, h3', h2', h3, or_false]
    rw [wu64 (by omega) (by omega), wire_PutUint_eq (by omega) (by omega) (by simp)]
    simp only [Option.bind_some]
    have hu := encU_len p.length
    rw [appendS_some (by simp only [List.length_append, List.length_cons, List.length_nil]; omega) (by omega)]
    simp only [Option.bind_some]
    have hd : subS (headL kind p) 1 ((headL kind p).length : Int) = some ((headL kind p).drop 1) := by rw [subS_some (by omega) (by omega) (by omega)]; simp
    simp only [headL] at hd hh ⊢
    rw [hd]
    simp only [Option.bind_some]
    rw [checksum_eq (by simp only [List.length_drop]; omega) (by simp only [List.length_drop]; omega)]
    simp only [Option.bind_some]
    rw [le4_eq, appendS_some (by simp only [le4, List.length_append, List.length_cons, List.length_nil]; omega) (by omega)]
    rfl
theorem ref_Frame_eq {N : Nat} {kind : Int} {p : List UInt8} (hN : 2097200 < N ∨ p.length + 20 < N) (hN2 : 20 < N) : testgateref03_Frame N (kind, p) = some (frameR kind p) := by
 unfold testgateref03_Frame frameR
 by_cases h1 : kind < 1
 ·simp [h1]
 ·by_cases h2 : kind > 255
  ·have : 255 < kind := h2
   simp [h1, this]
  ·have h2' : ¬ 255 < kind := h2
   by_cases h3 : 2097152 < p.length
   ·have : (p.length : Int) > 2097152 := by omega
    simp [h1, h2', h3, this]
   ·have h3' : ¬ (p.length : Int) > 2097152 := by omega
    have hh := headL_len (kind := kind) (p := p)
    simp only [h1, decide_false, Bool.false_eq_true, if_false, h2, Option.bind_some, h3', h2', h3, or_false]
    rw [wu64 (by omega) (by omega), ref_PutUint_eq (by omega) (by omega) (by simp)]
    simp only [Option.bind_some]
    have hu := encU_len p.length
    rw [appendS_some (by simp only [List.length_append, List.length_cons, List.length_nil]; omega) (by omega)]
    simp only [Option.bind_some]
    have hd : subS (headL kind p) 1 ((headL kind p).length : Int) = some ((headL kind p).drop 1) := by rw [subS_some (by omega) (by omega) (by omega)]; simp
    simp only [headL] at hd hh ⊢
    rw [hd]
    simp only [Option.bind_some]
    rw [refchecksum_eq (by simp only [List.length_drop]; omega) (by simp only [List.length_drop]; omega)]
    simp only [Option.bind_some]
    rw [le4_eq, appendS_some (by simp only [le4, List.length_append, List.length_cons, List.length_nil]; omega) (by omega)]
    rfl
def by4 (l : List UInt8) (e : Nat) : Nat := (l.getD e 0).toNat + 256 * (l.getD (e + 1) 0).toNat + 65536 * (l.getD (e + 2) 0).toNat + 16777216 * (l.getD (e + 3) 0).toNat
def nextR (l : List UInt8) (i : Int) : (Int × List UInt8) × Int × Int :=
 if i < 0 ∨ i > l.length then ((0, []), 0, 3) else
 if i = l.length then ((0, []), 0, 7) else
 if (l.getD i.toNat 0).toNat ≠ 247 then ((0, []), 0, 6) else
 if i + 1 = l.length then ((0, []), 0, 7) else
 if (l.getD (i.toNat + 1) 0).toNat = 0 then ((0, []), 0, 6) else
 if (uintP l (i + 2)).2.2 ≠ 0 then ((0, []), 0, (uintP l (i + 2)).2.2) else
 if (uintP l (i + 2)).1 > 2097152 then ((0, []), 0, 2) else
 if (uintP l (i + 2)).1 + 4 > l.length - (uintP l (i + 2)).2.1 then ((0, []), 0, 7) else
 if ck ((l.take ((uintP l (i + 2)).2.1 + (uintP l (i + 2)).1).toNat).drop (i.toNat + 1)) ≠ by4 l ((uintP l (i + 2)).2.1 + (uintP l (i + 2)).1).toNat then ((0, []), 0, 8) else
 ((((l.getD (i.toNat + 1) 0).toNat : Int), (l.take ((uintP l (i + 2)).2.1 + (uintP l (i + 2)).1).toNat).drop (uintP l (i + 2)).2.1.toNat), (uintP l (i + 2)).2.1 + (uintP l (i + 2)).1 + 4, 0)
theorem uintP_ok {l : List UInt8} {i : Int} (h : (uintP l i).2.2 = 0) : ∃ n k : Nat, uintP l i = ((n : Int), (k : Int), 0) ∧ 0 ≤ i ∧ i.toNat < k ∧ k ≤ l.length := by
 simp only [uintP] at *
 by_cases h0 : i < 0 ∨ i > l.length
 ·rw [if_pos h0] at h; cases h
 ·rw [if_neg h0] at h ⊢
  have ha : i.toNat ≤ l.length := by omega
  obtain ⟨he1, he2⟩ := uend_le ha
  generalize uend l i.toNat = e at *
  split at h
  ·cases h
  ·rename_i h1
   rw [if_neg h1]
   split at h
   ·cases h
   ·rename_i h2
    rw [if_neg h2]
    exact ⟨uval l i.toNat (e - i.toNat + 1) 0, e + 1, by simp, by omega, by omega, by omega⟩
theorem iOr_comm (k : IntKind) (a b : Int) : iOr k a b = iOr k b a := by simp only [iOr, BitVec.or_comm]
theorem or4 (b0 b1 b2 b3 : UInt8) : iOr .u32 (iOr .u32 (iOr .u32 (IntKind.wrap .u32 (b0.toNat : Int)) (IntKind.wrap .u32 ((IntKind.wrap .u32 (b1.toNat : Int)) * 2 ^ 8))) (IntKind.wrap .u32 ((IntKind.wrap .u32 (b2.toNat : Int)) * 2 ^ 16))) (IntKind.wrap .u32 ((IntKind.wrap .u32 (b3.toNat : Int)) * 2 ^ 24)) =
  ((b0.toNat + 256 * b1.toNat + 65536 * b2.toNat + 16777216 * b3.toNat : Nat) : Int) := by
 have h0 := b0.toNat_lt
 have h1 := b1.toNat_lt
 have h2 := b2.toNat_lt
 have h3 := b3.toNat_lt
 rw [wu32 (x := (b0.toNat : Int)) (by omega) (by omega), wu32 (x := (b1.toNat : Int)) (by omega) (by omega), wu32 (x := (b2.toNat : Int)) (by omega) (by omega), wu32 (x := (b3.toNat : Int)) (by omega) (by omega)]
 rw [wu32 (x := (b1.toNat : Int) * 2 ^ 8) (by omega) (by omega), wu32 (x := (b2.toNat : Int) * 2 ^ 16) (by omega) (by omega), wu32 (x := (b3.toNat : Int) * 2 ^ 24) (by omega) (by omega)]
 have e1 : ((b1.toNat : Int) * 2 ^ 8) = ((256 * b1.toNat : Nat) : Int) := by omega
 have e2 : ((b2.toNat : Int) * 2 ^ 16) = ((65536 * b2.toNat : Nat) : Int) := by omega
 have e3 : ((b3.toNat : Int) * 2 ^ 24) = ((16777216 * b3.toNat : Nat) : Int) := by omega
 rw [e1, e2, e3]
 rw [iOr_comm .u32 (b0.toNat : Int), iOr_u32_add (k := 8) ⟨b1.toNat, by omega⟩ (by omega) (by omega)]
 rw [iOr_comm .u32 ((256 * b1.toNat + b0.toNat : Nat) : Int), iOr_u32_add (k := 16) ⟨b2.toNat, by omega⟩ (by omega) (by omega)]
 rw [iOr_comm .u32 ((65536 * b2.toNat + (256 * b1.toNat + b0.toNat) : Nat) : Int), iOr_u32_add (k := 24) ⟨b3.toNat, by omega⟩ (by omega) (by omega)]
 congr 1; omega
theorem getD_at {l : List UInt8} {i : Nat} (h : i < l.length) : l.getD i 0 = l[i] := by simp [List.getD_eq_getElem?_getD, h]
theorem wire_Next_eq {N : Nat} {l : List UInt8} {i : Int} (hl : l.length < 1000000000000) (hN : l.length + 20 < N) : wire_Next N l i = some (nextR l i) := by
 unfold wire_Next nextR
 have e1 : (if (decide (i < 0)) = true then (some true) else (some (decide (i > (List.length l : Int)))) : Option Bool) = some (decide (i < 0 ∨ i > l.length)) := by
  by_cases h : i < 0 <;> simp [h]
 rw [e1]
 by_cases h0 : i < 0 ∨ i > l.length
 ·simp only [h0, decide_true, Option.bind_some, if_true]
 simp only [h0, decide_false, Option.bind_some, Bool.false_eq_true, if_false]
 obtain ⟨a, rfl⟩ : ∃ a : Nat, i = a := ⟨i.toNat, by omega⟩
 by_cases h1 : (a : Int) = l.length
 ·simp [h1]
 have ha : a < l.length := by omega
 simp only [beq_iff_eq, h1, if_false, idx_nat ha, Option.bind_some, Int.toNat_natCast, getD_at ha]
 by_cases h2 : ¬ l[a].toNat = 247
 ·have : ((l[a].toNat : Int) != 247) = true := by simp; omega
  simp [this, h2]
 replace h2 := Decidable.of_not_not h2
 have e2 : ((l[a].toNat : Int) != 247) = false := by simp; omega
 simp only [e2, Bool.false_eq_true, if_false, Option.bind_some, bne_self_eq_false]
 simp only [h2, ne_eq, not_true_eq_false, if_false]
 rw [wi64 (x := (a : Int) + 1) (by omega) (by omega)]
 by_cases h3 : (a : Int) + 1 = l.length
 ·simp [h3]
 have ha1 : a + 1 < l.length := by omega
 have ei : idx l ((a : Int) + 1) = some l[a + 1] := idx_nat (i := a + 1) ha1
 simp only [h3, if_false, ei, Option.bind_some, getD_at ha1, beq_iff_eq]
 by_cases h4 : l[a + 1].toNat = 0
 ·have : ((l[a + 1].toNat : Int) = 0) := by omega
  simp [this, h4]
 have h4' : ¬ ((l[a + 1].toNat : Int) = 0) := by omega
 have hb := byte_bounds l[a + 1]
 simp only [h4', if_false, Option.bind_some, bne_self_eq_false, Bool.false_eq_true, h4]
 rw [wi64 (x := (a : Int) + 1 + 1) (by omega) (by omega), wi64 (x := (l[a + 1].toNat : Int)) (by omega) (by omega)]
 rw [wire_Uint_eq (by omega) (by omega)]
 rw [show (a : Int) + 1 + 1 = (a : Int) + 2 by omega]
 simp only [Option.bind_some]
 obtain ⟨n, k, hn, hk, e, hu, he⟩ := uintP_bounds (l := l) (i := (a : Int) + 2) (by omega)
 by_cases h5 : ¬ (uintP l ((a : Int) + 2)).2.2 = 0
 ·have : ((uintP l ((a : Int) + 2)).2.2 != 0) = true := by simp [h5]
  simp only [this, if_true, Option.bind_some, h5, not_false_eq_true]
 replace h5 := Decidable.of_not_not h5
 obtain ⟨n, k, hu, _, hak, hk⟩ := uintP_ok h5
 simp only [hu, bne_self_eq_false, Bool.false_eq_true, if_false, not_true_eq_false]
 by_cases h6 : (n : Int) > 2097152
 ·simp [h6]
 simp only [h6, decide_false, Bool.false_eq_true, if_false]
 rw [wi64 (x := (n : Int)) (by omega) (by omega), wi64 (x := (n : Int) + 4) (by omega) (by omega), wi64 (x := (l.length : Int) - (k : Int)) (by omega) (by omega), wi64 (x := (k : Int) + (n : Int)) (by omega) (by omega)]
 by_cases h7 : (n : Int) + 4 > (l.length : Int) - (k : Int)
 ·simp [h7]
 have hE : ((k : Int) + (n : Int)) = ((k + n : Nat) : Int) := by omega
 simp only [h7, decide_false, Bool.false_eq_true, if_false, hE]
 rw [subS_some (by omega) (by omega) (by omega)]
 simp only [Option.bind_some, Int.toNat_natCast]
 rw [appendS_some (by simp; omega) (by omega)]
 simp only [Option.bind_some, bne_self_eq_false, Bool.false_eq_true, if_false, List.nil_append]
 have i0 : idx l ((k + n : Nat) : Int) = some (l[k + n]'(by omega)) := idx_nat (by omega)
 have i1 : idx l (IntKind.wrap .i64 (((k + n : Nat) : Int) + 1)) = some (l[k + n + 1]'(by omega)) := by rw [wi64 (by omega) (by omega)]; exact idx_nat (i := k + n + 1) (by omega)
 have i2 : idx l (IntKind.wrap .i64 (((k + n : Nat) : Int) + 2)) = some (l[k + n + 2]'(by omega)) := by rw [wi64 (by omega) (by omega)]; exact idx_nat (i := k + n + 2) (by omega)
 have i3 : idx l (IntKind.wrap .i64 (((k + n : Nat) : Int) + 3)) = some (l[k + n + 3]'(by omega)) := by rw [wi64 (by omega) (by omega)]; exact idx_nat (i := k + n + 3) (by omega)
 have is : subS l ((a : Int) + 1) ((k + n : Nat) : Int) = some ((l.take (k + n)).drop (a + 1)) := by
  rw [subS_some (by omega) (by omega) (by omega)]; simp; congr 1
 simp only [i0, i1, i2, i3, is, Option.bind_some]
 rw [checksum_eq (by simp; omega) (by simp; omega), or4]
 simp only [Option.bind_some]
 have e4 : by4 l (k + n) = (l[k + n]'(by omega)).toNat + 256 * (l[k + n + 1]'(by omega)).toNat + 65536 * (l[k + n + 2]'(by omega)).toNat + 16777216 * (l[k + n + 3]'(by omega)).toNat := by
  simp only [by4]; rw [getD_at (by omega), getD_at (by omega), getD_at (by omega), getD_at (by omega)]
 rw [← e4]
 by_cases h8 : ck ((l.take (k + n)).drop (a + 1)) = by4 l (k + n)
 ·simp only [h8, bne_self_eq_false, Bool.false_eq_true, if_false, not_true_eq_false, Option.bind_some]
  rw [wi64 (by omega) (by omega)]
 ·have : (((by4 l (k + n) : Nat) : Int) != ((ck ((l.take (k + n)).drop (a + 1)) : Nat) : Int)) = true := by simp; omega
  simp [this, h8]
theorem ref_Next_eq {N : Nat} {l : List UInt8} {i : Int} (hl : l.length < 1000000000000) (hN : l.length + 20 < N) : testgateref03_Next N l i = some (nextR l i) := by
 unfold testgateref03_Next nextR
 have e1 : (if (decide (i < 0)) = true then (some true) else (some (decide (i > (List.length l : Int)))) : Option Bool) = some (decide (i < 0 ∨ i > l.length)) := by
  by_cases h : i < 0 <;> simp [h]
 rw [e1]
 by_cases h0 : i < 0 ∨ i > l.length
 ·simp only [h0, decide_true, Option.bind_some, if_true]
 simp only [h0, decide_false, Option.bind_some, Bool.false_eq_true, if_false]
 obtain ⟨a, rfl⟩ : ∃ a : Nat, i = a := ⟨i.toNat, by omega⟩
 by_cases h1 : (a : Int) = l.length
 ·simp [h1]
 have ha : a < l.length := by omega
 simp only [beq_iff_eq, h1, if_false, idx_nat ha, Option.bind_some, Int.toNat_natCast, getD_at ha]
 by_cases h2 : ¬ l[a].toNat = 247
 ·have : ((l[a].toNat : Int) != 247) = true := by simp; omega
  simp [this, h2]
 replace h2 := Decidable.of_not_not h2
 have e2 : ((l[a].toNat : Int) != 247) = false := by simp; omega
 simp only [e2, Bool.false_eq_true, if_false]
 simp only [h2, ne_eq, not_true_eq_false, if_false]
 rw [wi64 (x := (a : Int) + 1) (by omega) (by omega)]
 by_cases h3 : (a : Int) + 1 = l.length
 ·simp [h3]
 have ha1 : a + 1 < l.length := by omega
 have ei : idx l ((a : Int) + 1) = some l[a + 1] := idx_nat (i := a + 1) ha1
 simp only [h3, if_false, ei, Option.bind_some, getD_at ha1]
 by_cases h4 : l[a + 1].toNat = 0
 ·have : ((l[a + 1].toNat : Int) = 0) := by omega
  simp [this, h4]
 have h4' : ¬ ((l[a + 1].toNat : Int) = 0) := by omega
 have hb := byte_bounds l[a + 1]
 simp only [h4', if_false, h4]
 rw [wi64 (x := (a : Int) + 2) (by omega) (by omega), wi64 (x := (l[a + 1].toNat : Int)) (by omega) (by omega)]
 rw [ref_Uint_eq (by omega) (by omega)]
 simp only [Option.bind_some]
 by_cases h5 : ¬ (uintP l ((a : Int) + 2)).2.2 = 0
 ·have : ((uintP l ((a : Int) + 2)).2.2 != 0) = true := by simp [h5]
  simp only [this, if_true, h5, not_false_eq_true]
 replace h5 := Decidable.of_not_not h5
 obtain ⟨n, k, hu, _, hak, hk⟩ := uintP_ok h5
 simp only [hu, bne_self_eq_false, Bool.false_eq_true, if_false, not_true_eq_false]
 by_cases h6 : (n : Int) > 2097152
 ·simp [h6]
 simp only [h6, decide_false, Bool.false_eq_true, if_false]
 rw [wi64 (x := (n : Int)) (by omega) (by omega), wi64 (x := (n : Int) + 4) (by omega) (by omega), wi64 (x := (l.length : Int) - (k : Int)) (by omega) (by omega), wi64 (x := (k : Int) + (n : Int)) (by omega) (by omega)]
 by_cases h7 : (n : Int) + 4 > (l.length : Int) - (k : Int)
 ·simp [h7]
 have hE : ((k : Int) + (n : Int)) = ((k + n : Nat) : Int) := by omega
 simp only [h7, decide_false, Bool.false_eq_true, if_false, hE]
 have is : subS l ((a : Int) + 1) ((k + n : Nat) : Int) = some ((l.take (k + n)).drop (a + 1)) := by
  rw [subS_some (by omega) (by omega) (by omega)]; simp; congr 1
 have i0 : idx l ((k + n : Nat) : Int) = some (l[k + n]'(by omega)) := idx_nat (by omega)
 have i1 : idx l (IntKind.wrap .i64 (((k + n : Nat) : Int) + 1)) = some (l[k + n + 1]'(by omega)) := by rw [wi64 (by omega) (by omega)]; exact idx_nat (i := k + n + 1) (by omega)
 have i2 : idx l (IntKind.wrap .i64 (((k + n : Nat) : Int) + 2)) = some (l[k + n + 2]'(by omega)) := by rw [wi64 (by omega) (by omega)]; exact idx_nat (i := k + n + 2) (by omega)
 have i3 : idx l (IntKind.wrap .i64 (((k + n : Nat) : Int) + 3)) = some (l[k + n + 3]'(by omega)) := by rw [wi64 (by omega) (by omega)]; exact idx_nat (i := k + n + 3) (by omega)
 simp only [is, Option.bind_some]
 rw [refchecksum_eq (by simp; omega) (by simp; omega)]
 simp only [i0, i1, i2, i3, Option.bind_some]
 have e4 : by4 l (k + n) = (l[k + n]'(by omega)).toNat + 256 * (l[k + n + 1]'(by omega)).toNat + 65536 * (l[k + n + 2]'(by omega)).toNat + 16777216 * (l[k + n + 3]'(by omega)).toNat := by
  simp only [by4]; rw [getD_at (by omega), getD_at (by omega), getD_at (by omega), getD_at (by omega)]
 have b0 := (l[k + n]'(by omega)).toNat_lt
 have b1 := (l[k + n + 1]'(by omega)).toNat_lt
 have b2 := (l[k + n + 2]'(by omega)).toNat_lt
 have b3 := (l[k + n + 3]'(by omega)).toNat_lt
 have hc := ck_lt ((l.take (k + n)).drop (a + 1))
 have hf8 : ∀ c : Nat, IntKind.wrap .u8 (Int.fdiv (c : Int) ((2 : Int) ^ 8)) = ((c / 2 ^ 8 % 256 : Nat) : Int) := fun c => by
  rw [Int.fdiv_eq_ediv_of_nonneg _ (by decide), wrap_u8']; omega
 have hf16 : ∀ c : Nat, IntKind.wrap .u8 (Int.fdiv (c : Int) ((2 : Int) ^ 16)) = ((c / 2 ^ 16 % 256 : Nat) : Int) := fun c => by
  rw [Int.fdiv_eq_ediv_of_nonneg _ (by decide), wrap_u8']; omega
 have hf24 : ∀ c : Nat, IntKind.wrap .u8 (Int.fdiv (c : Int) ((2 : Int) ^ 24)) = ((c / 2 ^ 24 % 256 : Nat) : Int) := fun c => by
  rw [Int.fdiv_eq_ediv_of_nonneg _ (by decide), wrap_u8']; omega
 have hf0 : ∀ c : Nat, IntKind.wrap .u8 (c : Int) = ((c % 256 : Nat) : Int) := fun c => by rw [wrap_u8']; omega
 simp only [hf8, hf16, hf24, hf0, Int.toNat_natCast]
 generalize ck ((l.take (k + n)).drop (a + 1)) = c at *
 have hsub : subS l (k : Int) ((k + n : Nat) : Int) = some ((l.take (k + n)).drop k) := by rw [subS_some (by omega) (by omega) (by omega)]; simp only [Int.toNat_natCast]
 have happ : appendS 1 ([] : List UInt8) ((l.take (k + n)).drop k) = some ((l.take (k + n)).drop k) := by rw [appendS_some (by simp; omega) (by omega)]; simp
 by_cases h8 : c = by4 l (k + n)
 ·have g0 : (l[k + n]'(by omega)).toNat = c % 256 := by omega
  have g1 : (l[k + n + 1]'(by omega)).toNat = c / 2 ^ 8 % 256 := by omega
  have g2 : (l[k + n + 2]'(by omega)).toNat = c / 2 ^ 16 % 256 := by omega
  have g3 : (l[k + n + 3]'(by omega)).toNat = c / 2 ^ 24 % 256 := by omega
  rw [if_neg (show ¬ ¬ (c = by4 l (k + n)) from fun hh => hh h8)]
  simp only [g0, g1, g2, g3, bne_self_eq_false, Bool.false_eq_true, if_false, Option.bind_some, hsub, happ]
  rw [wi64 (by omega) (by omega)]
 ·rw [if_pos h8]
  by_cases g0 : (l[k + n]'(by omega)).toNat = c % 256
  ·by_cases g1 : (l[k + n + 1]'(by omega)).toNat = c / 2 ^ 8 % 256
   ·by_cases g2 : (l[k + n + 2]'(by omega)).toNat = c / 2 ^ 16 % 256
    ·have g3 : ¬ (l[k + n + 3]'(by omega)).toNat = c / 2 ^ 24 % 256 := by omega
     have g3' : (((l[k + n + 3]'(by omega)).toNat : Int) != ((c / 2 ^ 24 % 256 : Nat) : Int)) = true := by rw [bne_iff_ne]; omega
     simp only [g0, g1, g2, g3', bne_self_eq_false, Bool.false_eq_true, if_false, Option.bind_some, if_true]
    ·have g2' : (((l[k + n + 2]'(by omega)).toNat : Int) != ((c / 2 ^ 16 % 256 : Nat) : Int)) = true := by rw [bne_iff_ne]; omega
     simp only [g0, g1, g2', bne_self_eq_false, Bool.false_eq_true, if_false, Option.bind_some, if_true]
   ·have g1' : (((l[k + n + 1]'(by omega)).toNat : Int) != ((c / 2 ^ 8 % 256 : Nat) : Int)) = true := by rw [bne_iff_ne]; omega
    simp only [g0, g1', bne_self_eq_false, Bool.false_eq_true, if_false, Option.bind_some, if_true]
  ·have g0' : (((l[k + n]'(by omega)).toNat : Int) != ((c % 256 : Nat) : Int)) = true := by rw [bne_iff_ne]; omega
   simp only [g0', Option.bind_some, if_true]
theorem nextR_ok {l : List UInt8} {i : Int} (h : (nextR l i).2.2 = 0) : i + 7 ≤ (nextR l i).2.1 ∧ (nextR l i).2.1 ≤ l.length := by
 unfold nextR at *
 split at h
 ·cases h
 ·rename_i g0; rw [if_neg g0]
  split at h
  ·cases h
  ·rename_i g1; rw [if_neg g1]
   split at h
   ·cases h
   ·rename_i g2; rw [if_neg g2]
    split at h
    ·cases h
    ·rename_i g3; rw [if_neg g3]
     split at h
     ·cases h
     ·rename_i g4; rw [if_neg g4]
      split at h
      ·rename_i g5; exact absurd h g5
      ·rename_i g5; rw [if_neg g5]
       obtain ⟨n, k, hu, h1, h2, h3⟩ := uintP_ok (Decidable.of_not_not g5)
       split at h
       ·cases h
       ·rename_i g6; rw [if_neg g6]
        split at h
        ·cases h
        ·rename_i g7; rw [if_neg g7]
         split at h
         ·cases h
         ·rename_i g8; rw [if_neg g8]
          rw [hu] at g7 ⊢
          simp only at g7 ⊢
          omega
def framesF : Nat → List UInt8 → Int → List (Int × List UInt8) → List (Int × List UInt8) × Int × Int
 | 0, _, i, acc => (acc, i, 0)
 | k + 1, l, i, acc => if i < l.length then (if (nextR l i).2.2 ≠ 0 then (acc, i, (nextR l i).2.2) else framesF k l (nextR l i).2.1 (acc ++ [(nextR l i).1])) else (acc, i, 0)
def framesR (l : List UInt8) : List (Int × List UInt8) × Int × Int := framesF (l.length + 1) l 0 []
theorem wire_Frames_loop {N : Nat} {l : List UInt8} (hl : l.length < 1000000000000) (hN : l.length + 20 < N) : ∀ (k M : Nat) (i : Int) (acc : List (Int × List UInt8)), 0 ≤ i → i ≤ l.length → (l.length : Int) < i + k → k ≤ M → (acc.length : Int) ≤ i →
  ∃ r, loopM (wire_Frames_L1 N l) M (i, 0, i, acc, 0) = some r ∧ ((∃ e0, r = .inl (e0, (framesF k l i acc).2.1, (framesF k l i acc).1, 0) ∧ (framesF k l i acc).2.2 = 0) ∨ (r = .inr ((framesF k l i acc).2.2, (framesF k l i acc).2.1, (framesF k l i acc).1, 1)))
 | 0, M, i, acc, h0, h1, h2, _, _ => by omega
 | k + 1, M, i, acc, h0, h1, h2, hM, ha => by
  obtain ⟨M', rfl⟩ : ∃ M', M = M' + 1 := ⟨M - 1, by omega⟩
  simp only [loopM, wire_Frames_L1, framesF]
  by_cases hi : i < (l.length : Int)
  ·simp only [hi, decide_true, if_true, wire_Next_eq hl hN, Option.bind_some]
   by_cases he : (nextR l i).2.2 = 0
   ·obtain ⟨g1, g2⟩ := nextR_ok he
    simp only [he, bne_self_eq_false, Bool.false_eq_true, if_false, ne_eq, not_true_eq_false]
    rw [appendS_some (by simp; omega) (by omega)]
    simp only [Option.bind_some, Bool.false_eq_true, if_false]
    exact wire_Frames_loop hl hN k M' _ _ (by omega) g2 (by omega) (by omega) (by simp; omega)
   ·have hb : ((nextR l i).2.2 != 0) = true := by simp [he]
    simp only [hb, if_true, Option.bind_some, ne_eq, he, not_false_eq_true]
    exact ⟨_, rfl, .inr rfl⟩
  ·simp only [hi, decide_false, Bool.false_eq_true, if_false, Option.bind_some]
   exact ⟨_, rfl, .inl ⟨0, rfl, trivial⟩⟩
theorem wire_Frames_eq {N : Nat} {l : List UInt8} (hl : l.length < 1000000000000) (hN : l.length + 20 < N) : wire_Frames N l = some (framesR l) := by
 obtain ⟨r, h1, h2⟩ := wire_Frames_loop hl hN (l.length + 1) N 0 [] (by omega) (by omega) (by omega) (by omega) (by simp)
 unfold wire_Frames framesR
 rw [h1]
 rcases h2 with ⟨e0, rfl, h3⟩ | rfl
 ·simp [h3, Prod.ext_iff]
 ·simp
theorem ref_Frames_loop {N : Nat} {l : List UInt8} (hl : l.length < 1000000000000) (hN : l.length + 20 < N) : ∀ (k M : Nat) (i : Int) (acc : List (Int × List UInt8)), 0 ≤ i → i ≤ l.length → (l.length : Int) < i + k → k ≤ M → (acc.length : Int) ≤ i →
  ∃ r, loopM (testgateref03_Frames_L1 N l) M (acc, i) = some r ∧ ((r = .inl ((framesF k l i acc).1, (framesF k l i acc).2.1) ∧ (framesF k l i acc).2.2 = 0) ∨ (r = .inr (framesF k l i acc)))
 | 0, M, i, acc, h0, h1, h2, _, _ => by omega
 | k + 1, M, i, acc, h0, h1, h2, hM, ha => by
  obtain ⟨M', rfl⟩ : ∃ M', M = M' + 1 := ⟨M - 1, by omega⟩
  simp only [loopM, testgateref03_Frames_L1, framesF]
  by_cases hi : i < (l.length : Int)
  ·simp only [hi, decide_true, if_true, ref_Next_eq hl hN, Option.bind_some]
   by_cases he : (nextR l i).2.2 = 0
   ·obtain ⟨g1, g2⟩ := nextR_ok he
    simp only [he, bne_self_eq_false, Bool.false_eq_true, if_false, ne_eq, not_true_eq_false]
    rw [appendS_some (by simp; omega) (by omega)]
    simp only [Option.bind_some]
    exact ref_Frames_loop hl hN k M' _ _ (by omega) g2 (by omega) (by omega) (by simp; omega)
   ·have hb : ((nextR l i).2.2 != 0) = true := by simp [he]
    simp only [hb, if_true, Option.bind_some, ne_eq, he, not_false_eq_true]
    exact ⟨_, rfl, .inr rfl⟩
  ·simp only [hi, decide_false, Bool.false_eq_true, if_false, Option.bind_some]
   exact ⟨_, rfl, .inl ⟨rfl, trivial⟩⟩
theorem ref_Frames_eq {N : Nat} {l : List UInt8} (hl : l.length < 1000000000000) (hN : l.length + 20 < N) : testgateref03_Frames N l = some (framesR l) := by
 obtain ⟨r, h1, h2⟩ := ref_Frames_loop hl hN (l.length + 1) N 0 [] (by omega) (by omega) (by omega) (by omega) (by simp)
 unfold testgateref03_Frames framesR
 rw [h1]
 rcases h2 with ⟨rfl, h3⟩ | rfl
 ·simp only [Option.bind_some]
  exact congrArg some (Prod.ext rfl (Prod.ext rfl h3.symm))
 ·simp
theorem framesF_len {l : List UInt8} : ∀ (k : Nat) (i : Int) (acc : List (Int × List UInt8)), 0 ≤ i → i ≤ l.length → (acc.length : Int) ≤ i → ((framesF k l i acc).1.length : Int) ≤ l.length
 | 0, i, acc, h0, h1, h2 => by simp only [framesF]; omega
 | k + 1, i, acc, h0, h1, h2 => by
  simp only [framesF]
  split
  ·split
   ·simp only; omega
   ·rename_i he
    obtain ⟨g1, g2⟩ := nextR_ok (Decidable.of_not_not he)
    exact framesF_len k _ _ (by omega) g2 (by simp; omega)
  ·simp only; omega
theorem framesR_len (l : List UInt8) : (framesR l).1.length ≤ l.length := by
 have := framesF_len (l := l) (l.length + 1) 0 [] (by omega) (by omega) (by simp)
 unfold framesR; omega
end Go.Proofs.YtfodebccikifcaaGreatDoor
