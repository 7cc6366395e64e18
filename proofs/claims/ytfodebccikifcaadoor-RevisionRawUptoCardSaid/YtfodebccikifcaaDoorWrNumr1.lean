/- The plain laws of numbers and strings in bytes: what the decompiled functions of wire and of its reference answer. No condition. -/
import Derived.Test.YtfodebccikifcaaDoorTConr1
import Derived.Test.YtfodebccikifcaaDoorPlainr1
import Derived.Test.YtfodebccikifcaaDoorFramer1
namespace Go.Proofs.YtfodebccikifcaaDoor
open Go Go.Dc
def encF : Nat → Nat → List UInt8
 | 0, n => [UInt8.ofNat n]
 | k + 1, n => if n < 128 then [UInt8.ofNat n] else UInt8.ofNat (n % 128 + 128) :: encF k (n / 128)
def encU (n : Nat) : List UInt8 := encF 9 n
theorem encF_len : ∀ k n, (encF k n).length ≤ k + 1
 | 0, n => by simp [encF]
 | k + 1, n => by
  simp only [encF]
  split
  ·simp
  ·have := encF_len k (n / 128); simp only [List.length_cons]; omega
theorem encU_len (n : Nat) : (encU n).length ≤ 10 := encF_len 9 n
theorem toU8_nat' (n : Nat) : toU8 (n : Int) = UInt8.ofNat n := by simp [toU8]
theorem toU8_wrap' (n : Nat) : toU8 (IntKind.wrap .u8 (n : Int)) = UInt8.ofNat n := by
 rw [wrap_u8', show ((n : Int) % 256) = ((n % 256 : Nat) : Int) by omega, toU8_nat']
 apply UInt8.toNat_inj.1
 simp [UInt8.toNat_ofNat']
theorem put_loop (f : Int × List UInt8 → Option ((Int × List UInt8) ⊕ (Int × List UInt8)))
  (h1 : ∀ (n : Nat) (out : List UInt8), 128 ≤ n → n < 18446744073709551616 → out.length + 1 ≤ 140737488355328 → f ((n : Int), out) = some (.inl (((n / 128 : Nat) : Int), out ++ [UInt8.ofNat (n % 128 + 128)])))
  (h2 : ∀ (n : Nat) (out : List UInt8), n < 128 → f ((n : Int), out) = some (.inr ((n : Int), out))) :
  ∀ (k N n : Nat) (out : List UInt8), n < 18446744073709551616 → n < 128 ^ (k + 1) → k < N → out.length + k ≤ 140737488355328 →
   ∃ (r : Nat) (o : List UInt8), loopM f N ((n : Int), out) = some ((r : Int), o) ∧ r < 128 ∧ o ++ [UInt8.ofNat r] = out ++ encF k n
 | k, 0, _, _, _, _, h, _ => absurd h (Nat.not_lt_zero _)
 | 0, N + 1, n, out, _, hn, _, _ => ⟨n, out, by simp [loopM, h2 n out (by simpa using hn)], by simpa using hn, by simp [encF]⟩
 | k + 1, N + 1, n, out, hm, hn, hk, ho => by
  by_cases h : n < 128
  ·exact ⟨n, out, by simp [loopM, h2 n out h], h, by simp [encF, h]⟩
  ·obtain ⟨r, o, h3, h4, h5⟩ := put_loop f h1 h2 k N (n / 128) (out ++ [UInt8.ofNat (n % 128 + 128)]) (by omega) (by rw [Nat.pow_succ] at hn; omega) (by omega) (by simp only [List.length_append, List.length_cons, List.length_nil]; omega)
   refine ⟨r, o, ?_, h4, by rw [h5]; simp [encF, h]⟩
   simp only [loopM, h1 n out (by omega) hm (by omega), Option.bind_some, h3]
theorem wire_PutUint_eq {N : Nat} {l : List UInt8} {n : Nat} (hn : n < 18446744073709551616) (hN : 9 < N) (hl : l.length + 10 ≤ 140737488355328) : wire_PutUint N l (n : Int) = some (l ++ encU n) := by
 obtain ⟨r, o, h1, h2, h3⟩ := put_loop (wire_PutUint_L1 N) (fun n out h1 h2 h3 => by
  have e : ((n : Int) ≥ 128) := by omega
  simp only [wire_PutUint_L1, e, decide_true, if_true]
  rw [wrap_u8', show ((n : Int) % 256) = ((n % 256 : Nat) : Int) by omega, iOr_128 _ (by omega), toU8_nat', appendS_some (by simpa using h3) (by omega)]
  have e1 : n % 256 % 128 = n % 128 := by omega
  have e2 : Int.fdiv (n : Int) (2 ^ 7) = ((n / 128 : Nat) : Int) := by rw [Int.fdiv_eq_ediv_of_nonneg _ (by omega)]; omega
  rw [e1, e2]; rfl) (fun n out h => by
  have e : ¬ ((n : Int) ≥ 128) := by omega
  simp [wire_PutUint_L1, e]) 9 N n l hn (by omega) hN (by omega)
 have hol : o.length + 1 = l.length + (encF 9 n).length := by have := congrArg List.length h3; simpa using this
 have := encF_len 9 n
 simp only [wire_PutUint]
 rw [appendS_some (by simp; omega) (by omega)]
 simp only [Option.bind_some, List.nil_append, h1]
 rw [toU8_wrap', appendS_some (by simp; omega) (by omega), h3]; rfl
theorem ref_PutUint_eq {N : Nat} {l : List UInt8} {n : Nat} (hn : n < 18446744073709551616) (hN : 9 < N) (hl : l.length + 10 ≤ 140737488355328) : testgateref03_PutUint N l (n : Int) = some (l ++ encU n) := by
 obtain ⟨r, o, h1, h2, h3⟩ := put_loop (testgateref03_PutUint_L1 N) (fun n out h1 h2 h3 => by
  have e : ((n : Int) ≥ 128) := by omega
  simp only [testgateref03_PutUint_L1, e, decide_true, if_true]
  have e1 : Int.tmod (n : Int) 128 = ((n % 128 : Nat) : Int) := rfl
  have e2 : Int.tdiv (n : Int) 128 = ((n / 128 : Nat) : Int) := rfl
  rw [e1, e2, wu8 (x := ((n % 128 : Nat) : Int)) (by omega) (by omega), show (((n % 128 : Nat) : Int) + 128) = ((n % 128 + 128 : Nat) : Int) by omega, toU8_wrap', appendS_some (by simpa using h3) (by omega), wu64 (by omega) (by omega)]; rfl) (fun n out h => by
  have e : ¬ ((n : Int) ≥ 128) := by omega
  simp [testgateref03_PutUint_L1, e]) 9 N n l hn (by omega) hN (by omega)
 have hol : o.length + 1 = l.length + (encF 9 n).length := by have := congrArg List.length h3; simpa using this
 have := encF_len 9 n
 simp only [testgateref03_PutUint]
 rw [appendS_some (by simp; omega) (by omega)]
 simp only [Option.bind_some, List.nil_append, h1]
 rw [toU8_wrap', appendS_some (by simp; omega) (by omega), h3]; rfl
theorem wire_PutText_eq {N : Nat} {l : List UInt8} {s : ByteArray} (hN : 9 < N) (hl : l.length + 10 + s.size ≤ 140737488355328) : wire_PutText N l s = some (l ++ encU s.size ++ s.data.toList) := by
 have := encU_len s.size
 simp only [wire_PutText, wu64 (x := (s.size : Int)) (by omega) (by omega), wire_PutUint_eq (l := l) (n := s.size) (by omega) hN (by omega), Option.bind_some]
 rw [appendS_some (by simp only [List.length_append, Array.length_toList, ByteArray.size_data]; omega) (by omega)]; rfl
theorem ref_PutText_eq {N : Nat} {l : List UInt8} {s : ByteArray} (hN : 9 < N) (hl : l.length + 10 + s.size ≤ 140737488355328) : testgateref03_PutText N l s = some (l ++ encU s.size ++ s.data.toList) := by
 have := encU_len s.size
 simp only [testgateref03_PutText, wu64 (x := (s.size : Int)) (by omega) (by omega), ref_PutUint_eq (l := l) (n := s.size) (by omega) hN (by omega), Option.bind_some]
 rw [appendS_some (by simp only [List.length_append, Array.length_toList, ByteArray.size_data]; omega) (by omega)]; rfl
def uend (l : List UInt8) (a : Nat) : Nat := a + ((l.drop a).takeWhile (fun b => decide (128 ≤ b.toNat))).length
theorem uend_le {l : List UInt8} {a : Nat} (h : a ≤ l.length) : a ≤ uend l a ∧ uend l a ≤ l.length := by
 have := (List.takeWhile_sublist (fun b : UInt8 => decide (128 ≤ b.toNat)) (l := l.drop a)).length_le
 simp only [List.length_drop] at this
 unfold uend; omega
theorem uend_step {l : List UInt8} {a : Nat} (h : a < l.length) (hb : 128 ≤ l[a].toNat) : uend l (a + 1) = uend l a := by
 unfold uend
 rw [List.drop_eq_getElem_cons h, List.takeWhile_cons]
 simp [hb]; omega
theorem uend_stop {l : List UInt8} {a : Nat} (h : a < l.length) (hb : l[a].toNat < 128) : uend l a = a := by
 unfold uend
 rw [List.drop_eq_getElem_cons h, List.takeWhile_cons]
 simp [show ¬ 128 ≤ l[a].toNat by omega]
theorem uend_out {l : List UInt8} {a : Nat} (h : l.length ≤ a) : uend l a = a := by
 unfold uend
 rw [List.drop_eq_nil_of_le h]; rfl
theorem end_loop (f : Int → Option (Int ⊕ Int)) (l : List UInt8) (hl : l.length < 9223372036854775807)
  (h : ∀ s : Int, f s = ((if (decide (s < (List.length l : Int))) = true then ((idx l s).bind fun x1 => some (decide ((x1.toNat : Int) ≥ 128))) else (some false) : Option (Bool)).bind fun o3 => if o3 = true then (some (.inl (IntKind.wrap .i64 (s + 1)))) else (some (.inr s))))
  (N a : Nat) (ha : a ≤ l.length) (hN : l.length - a < N) : loopM f N (a : Int) = some ((uend l a : Nat) : Int) := by
 refine loopM_eq (fun s => ∃ k : Nat, s = (k : Int) ∧ k ≤ l.length) (fun s => l.length - s.toNat) (fun s => ((uend l s.toNat : Nat) : Int)) ?_ N (a : Int) ⟨a, rfl, ha⟩ (by simpa using hN)
 rintro s ⟨k, rfl, hk⟩
 rw [h]
 by_cases hlt : k < l.length
 ·have e : ((k : Int) < (l.length : Int)) := by omega
  by_cases hb : 128 ≤ l[k].toNat
  ·right
   have e2 : ((l[k].toNat : Int) ≥ 128) := by omega
   refine ⟨((k + 1 : Nat) : Int), ?_, ⟨k + 1, rfl, by omega⟩, by simp; omega, ?_⟩
   ·simp only [e, decide_true, if_true, idx_nat hlt, Option.bind_some, e2]
    rw [wi64 (by omega) (by omega)]; rfl
   ·simp only [Int.toNat_natCast, uend_step hlt hb]
  ·left
   have e2 : ¬ ((l[k].toNat : Int) ≥ 128) := by omega
   simp only [e, decide_true, if_true, idx_nat hlt, Option.bind_some, e2, decide_false, Bool.false_eq_true, if_false, Int.toNat_natCast, uend_stop hlt (by omega)]
 ·left
  have e : ¬ ((k : Int) < (l.length : Int)) := by omega
  simp only [e, decide_false, Bool.false_eq_true, if_false, Option.bind_some, Int.toNat_natCast, uend_out (by omega : l.length ≤ k)]
def uval (l : List UInt8) (a : Nat) : Nat → Nat → Nat
 | 0, n => n
 | k + 1, n => uval l a k ((n * 128 + (l.getD (a + k) 0).toNat % 128) % 18446744073709551616)
theorem uval_lt (l : List UInt8) (a : Nat) : ∀ k n, n < 18446744073709551616 → uval l a k n < 18446744073709551616
 | 0, n, h => h
 | k + 1, n, _ => uval_lt l a k _ (Nat.mod_lt _ (by omega))
theorem val_loop (f : Int × Int → Option ((Int × Int) ⊕ Int)) (l : List UInt8) (a : Nat) (hl : l.length < 9223372036854775807)
  (h1 : ∀ (n i : Nat) (hi : i < l.length), a ≤ i → n < 18446744073709551616 → f ((n : Int), (i : Int)) = some (.inl (((n * 128 + l[i].toNat % 128) % 18446744073709551616 : Nat), (i : Int) - 1)))
  (h2 : ∀ (n : Nat), f ((n : Int), (a : Int) - 1) = some (.inr (n : Int))) :
  ∀ (k N n : Nat), a + k ≤ l.length → n < 18446744073709551616 → k < N → loopM f N ((n : Int), (a : Int) + k - 1) = some ((uval l a k n : Nat) : Int)
 | _, 0, _, _, _, h => absurd h (Nat.not_lt_zero _)
 | 0, N + 1, n, _, _, _ => by
  have e : (a : Int) + ((0 : Nat) : Int) - 1 = (a : Int) - 1 := by omega
  rw [e]; simp [loopM, h2, uval]
 | k + 1, N + 1, n, hk, hn, hN => by
  have hi : a + k < l.length := by omega
  have e : (a : Int) + ((k + 1 : Nat) : Int) - 1 = ((a + k : Nat) : Int) := by omega
  have := val_loop f l a hl h1 h2 k N ((n * 128 + l[a + k].toNat % 128) % 18446744073709551616) (by omega) (Nat.mod_lt _ (by omega)) (by omega)
  rw [e]
  simp only [loopM, h1 n (a + k) hi (by omega) hn]
  have e2 : ((a + k : Nat) : Int) - 1 = (a : Int) + (k : Int) - 1 := by omega
  simp only [Option.bind_some]
  rw [e2, this]
  simp [uval, List.getD, hi]
def uintP (l : List UInt8) (i : Int) : Int × Int × Int :=
 if i < 0 ∨ i > l.length then (0, 0, 3) else
  let a := i.toNat
  let e := uend l a
  if e = l.length then (0, 0, 7) else
   if e - a ≥ 10 ∨ (e - a = 9 ∧ (l.getD e 0).toNat > 1) ∨ (a < e ∧ (l.getD e 0).toNat = 0) then (0, 0, 6) else
    ((uval l a (e - a + 1) 0 : Nat), (e : Int) + 1, 0)
theorem wire_Uint_eq {N : Nat} {l : List UInt8} {i : Int} (hl : l.length < 9223372036854775807) (hN : l.length + 1 < N) : wire_Uint N l i = some (uintP l i) := by
 simp only [wire_Uint, uintP]
 by_cases h0 : i < 0
 ·simp [h0]
 by_cases h1 : i > l.length
 ·simp [h0, h1]
 obtain ⟨a, rfl⟩ : ∃ a : Nat, i = a := ⟨i.toNat, by omega⟩
 have ha : a ≤ l.length := by omega
 obtain ⟨he1, he2⟩ := uend_le ha
 have hlen := end_loop (wire_Uint_L1 N l) l hl (fun s => rfl) N a ha (by omega)
 simp only [h0, h1, decide_false, Bool.false_eq_true, if_false, Option.bind_some, or_self, Int.toNat_natCast, hlen]
 generalize hee : uend l a = e at *
 by_cases h2 : e = l.length
 ·subst h2; simp
 have h2' : (((e : Int) == (l.length : Int)) = true) ↔ False := by simp; omega
 have hlt : e < l.length := by omega
 have e1 : (IntKind.wrap .i64 ((IntKind.wrap .i64 ((e : Int) - a)) + 1)) = ((e - a + 1 : Nat) : Int) := by
  rw [wi64 (x := (e : Int) - a) (by omega) (by omega), wi64 (by omega) (by omega)]; omega
 simp only [h2', if_false, e1, idx_nat hlt, Option.bind_some, h2]
 have hget : l.getD e 0 = l[e] := by simp [List.getD, hlt]
 simp only [hget]
 have hv : loopM (wire_Uint_L2 N l a) N (0, (e : Int)) = some ((uval l a (e - a + 1) 0 : Nat) : Int) := by
  have := val_loop (wire_Uint_L2 N l a) l a hl (fun n i hi hai hn => by
   have e0 : ((i : Int) ≥ (a : Int)) := by omega
   simp only [wire_Uint_L2, e0, decide_true, if_true, idx_nat hi, Option.bind_some]
   rw [iAnd_127, wu64 (x := ((l[i].toNat % 128 : Nat) : Int)) (by omega) (by omega), wi64 (by omega) (by omega)]
   rw [show IntKind.wrap .u64 ((n : Int) * 2 ^ 7) = ((n * 128 % 18446744073709551616 : Nat) : Int) by rw [wrap_u64']; omega]
   rw [iOr_u64_add (k := 7) (by omega) (by omega) (by omega)]
   rw [show n * 128 % 18446744073709551616 + l[i].toNat % 128 = (n * 128 + l[i].toNat % 128) % 18446744073709551616 by omega]) (fun n => by
   have e0 : ¬ ((a : Int) - 1 ≥ (a : Int)) := by omega
   simp only [wire_Uint_L2, e0, decide_false, Bool.false_eq_true, if_false]) (e - a + 1) N 0 (by omega) (by omega) (by omega)
  have e3 : (a : Int) + ((e - a + 1 : Nat) : Int) - 1 = (e : Int) := by omega
  rw [e3] at this
  exact this
 by_cases c1 : e - a ≥ 10
 ·have : (((e - a + 1 : Nat) : Int) > 10) := by omega
  simp only [this, c1, decide_true, if_true, Option.bind_some, true_or]
 have c1' : ¬ (((e - a + 1 : Nat) : Int) > 10) := by omega
 simp only [c1', decide_false, Bool.false_eq_true, if_false, c1, false_or]
 by_cases c2 : e - a = 9
 ·have c2' : ((((e - a + 1 : Nat) : Int) == 10) = true) := by rw [c2]; rfl
  have c2g : (((e - a + 1 : Nat) : Int) > 1) := by omega
  have c2h : a < e := by omega
  have c2e : (e - a = 9) = True := eq_true c2
  simp only [c2', if_true, c2e, true_and, c2g, decide_true, c2h]
  by_cases c3 : 1 < l[e].toNat
  ·have : ((l[e].toNat : Int) > 1) := by omega
   simp [this, c3]
  ·have : ¬ ((l[e].toNat : Int) > 1) := by omega
   simp only [this, decide_false, Bool.false_eq_true, if_false, Option.bind_some, c3, gt_iff_lt, false_or]
   by_cases c4 : l[e].toNat = 0
   ·simp [c4]
   ·have c4' : (((l[e].toNat : Int) == 0) = true) ↔ False := by simp; omega
    simp only [c4', if_false, c4]
    simp only [hv, Option.bind_some, wi64 (x := (e : Int) + 1) (by omega) (by omega)]
 ·have c2' : ((((e - a + 1 : Nat) : Int) == 10) = true) ↔ False := by simp; omega
  simp only [c2', if_false, c2, false_and, false_or]
  by_cases c5 : a < e
  ·have c5' : (((e - a + 1 : Nat) : Int) > 1) := by omega
   simp only [c5', decide_true, if_true, Option.bind_some, c5, true_and]
   by_cases c4 : l[e].toNat = 0
   ·simp [c4]
   ·have c4' : (((l[e].toNat : Int) == 0) = true) ↔ False := by simp; omega
    simp only [c4', if_false, c4, hv, Option.bind_some, wi64 (x := (e : Int) + 1) (by omega) (by omega)]
  ·have c5' : ¬ (((e - a + 1 : Nat) : Int) > 1) := by omega
   simp only [c5', decide_false, Bool.false_eq_true, if_false, Option.bind_some, c5, false_and, hv, wi64 (x := (e : Int) + 1) (by omega) (by omega)]
theorem ref_Uint_eq {N : Nat} {l : List UInt8} {i : Int} (hl : l.length < 9223372036854775807) (hN : l.length + 1 < N) : testgateref03_Uint N l i = some (uintP l i) := by
 simp only [testgateref03_Uint, uintP]
 by_cases h0 : i < 0
 ·simp [h0]
 by_cases h1 : i > l.length
 ·simp [h0, h1]
 obtain ⟨a, rfl⟩ : ∃ a : Nat, i = a := ⟨i.toNat, by omega⟩
 have ha : a ≤ l.length := by omega
 obtain ⟨he1, he2⟩ := uend_le ha
 have hlen := end_loop (testgateref03_Uint_L1 N l) l hl (fun s => rfl) N a ha (by omega)
 simp only [h0, h1, decide_false, Bool.false_eq_true, if_false, Option.bind_some, or_self, Int.toNat_natCast, hlen]
 generalize hee : uend l a = e at *
 by_cases h2 : e = l.length
 ·subst h2; simp
 have h2' : (((e : Int) == (l.length : Int)) = true) ↔ False := by simp; omega
 have hlt : e < l.length := by omega
 have e1 : (IntKind.wrap .i64 ((e : Int) - a)) = ((e - a : Nat) : Int) := by
  rw [wi64 (x := (e : Int) - a) (by omega) (by omega)]; omega
 simp only [h2', if_false, e1, idx_nat hlt, Option.bind_some, h2]
 have hget : l.getD e 0 = l[e] := by simp [List.getD, hlt]
 simp only [hget]
 have hv : loopM (testgateref03_Uint_L2 N l a) N (0, (e : Int)) = some ((uval l a (e - a + 1) 0 : Nat) : Int) := by
  have := val_loop (testgateref03_Uint_L2 N l a) l a hl (fun n i hi hai hn => by
   have e0 : ((i : Int) ≥ (a : Int)) := by omega
   simp only [testgateref03_Uint_L2, e0, decide_true, if_true, idx_nat hi, Option.bind_some]
   have e2 : Int.tmod (l[i].toNat : Int) 128 = ((l[i].toNat % 128 : Nat) : Int) := rfl
   rw [e2, wi64 (by omega) (by omega)]
   rw [show IntKind.wrap .u64 ((IntKind.wrap .u64 ((n : Int) * 128)) + (IntKind.wrap .u64 ((l[i].toNat % 128 : Nat) : Int))) = (((n * 128 + l[i].toNat % 128) % 18446744073709551616 : Nat) : Int) by
    simp only [wrap_u64']; omega]) (fun n => by
   have e0 : ¬ ((a : Int) - 1 ≥ (a : Int)) := by omega
   simp only [testgateref03_Uint_L2, e0, decide_false, Bool.false_eq_true, if_false]) (e - a + 1) N 0 (by omega) (by omega) (by omega)
  have e3 : (a : Int) + ((e - a + 1 : Nat) : Int) - 1 = (e : Int) := by omega
  rw [e3] at this
  exact this
 by_cases c1 : e - a ≥ 10
 ·have : (((e - a : Nat) : Int) ≥ 10) := by omega
  simp [this, c1]
 have c1' : ¬ (((e - a : Nat) : Int) ≥ 10) := by omega
 simp only [c1', decide_false, Bool.false_eq_true, if_false, c1, false_or]
 by_cases c2 : e - a = 9
 ·have c2' : ((((e - a : Nat) : Int) == 9) = true) := by rw [c2]; rfl
  have c2g : ((e : Int) > (a : Int)) := by omega
  have c2h : a < e := by omega
  have c2e : (e - a = 9) = True := eq_true c2
  simp only [c2', if_true, c2e, true_and, c2g, decide_true, c2h]
  by_cases c3 : 1 < l[e].toNat
  ·have : ((l[e].toNat : Int) > 1) := by omega
   simp [this, c3]
  ·have : ¬ ((l[e].toNat : Int) > 1) := by omega
   simp only [this, decide_false, Bool.false_eq_true, if_false, Option.bind_some, c3, gt_iff_lt, false_or]
   by_cases c4 : l[e].toNat = 0
   ·simp [c4]
   ·have c4' : (((l[e].toNat : Int) == 0) = true) ↔ False := by simp; omega
    simp only [c4', if_false, c4]
    simp only [hv, Option.bind_some, wi64 (x := (e : Int) + 1) (by omega) (by omega)]
 ·have c2' : ((((e - a : Nat) : Int) == 9) = true) ↔ False := by simp; omega
  simp only [c2', if_false, c2, false_and, false_or]
  by_cases c5 : a < e
  ·have c5' : ((e : Int) > (a : Int)) := by omega
   simp only [c5', decide_true, if_true, Option.bind_some, c5, true_and]
   by_cases c4 : l[e].toNat = 0
   ·simp [c4]
   ·have c4' : (((l[e].toNat : Int) == 0) = true) ↔ False := by simp; omega
    simp only [c4', if_false, c4, hv, Option.bind_some, wi64 (x := (e : Int) + 1) (by omega) (by omega)]
  ·have c5' : ¬ ((e : Int) > (a : Int)) := by omega
   simp only [c5', decide_false, Bool.false_eq_true, if_false, Option.bind_some, c5, false_and, hv, wi64 (x := (e : Int) + 1) (by omega) (by omega)]
theorem uintP_bounds {l : List UInt8} {i : Int} (hl : l.length < 9223372036854775807) : ∃ n k : Nat, n < 18446744073709551616 ∧ k ≤ l.length ∧ ∃ e : Int, uintP l i = ((n : Int), (k : Int), e) ∧ 0 ≤ e ∧ e ≤ 7 := by
 simp only [uintP]
 by_cases h0 : i < 0 ∨ i > l.length
 ·rw [if_pos h0]; exact ⟨0, 0, by omega, by omega, 3, rfl, by omega, by omega⟩
 ·rw [if_neg h0]
  have ha : i.toNat ≤ l.length := by omega
  obtain ⟨he1, he2⟩ := uend_le ha
  generalize uend l i.toNat = e at *
  split
  ·exact ⟨0, 0, by omega, by omega, 7, rfl, by omega, by omega⟩
  ·split
   ·exact ⟨0, 0, by omega, by omega, 6, rfl, by omega, by omega⟩
   ·exact ⟨uval l i.toNat (e - i.toNat + 1) 0, e + 1, uval_lt _ _ _ _ (by omega), by omega, 0, by simp, by omega, by omega⟩
def textP (l : List UInt8) (i most : Int) : ByteArray × Int × Int :=
 let y := uintP l i
 if y.2.2 = 0 then
  if most < 0 ∨ y.1 > most then (⟨#[]⟩, 0, 2) else
   if y.1 > l.length - y.2.1 then (⟨#[]⟩, 0, 7) else
    (strOf ((l.take (y.2.1 + y.1).toNat).drop y.2.1.toNat), y.2.1 + y.1, 0)
 else (⟨#[]⟩, 0, y.2.2)
theorem textP_of {U : Option (Int × Int × Int)} {l : List UInt8} {i most : Int} (hl : l.length < 9223372036854775807) (hm : -9223372036854775808 ≤ most ∧ most ≤ 9223372036854775807) (hU : U = some (uintP l i)) :
  (U.bind fun y1 => if (y1.2.2 != 0) = true then (some ((⟨#[]⟩ : ByteArray), 0, y1.2.2)) else ((if (decide (most < 0)) = true then (some true) else (some (decide (y1.1 > (IntKind.wrap .u64 most)))) : Option (Bool)).bind fun o1 => if o1 = true then (some ((⟨#[]⟩ : ByteArray), 0, 2)) else (if (decide (y1.1 > (IntKind.wrap .u64 (IntKind.wrap .i64 ((List.length l : Int) - y1.2.1))))) = true then (some ((⟨#[]⟩ : ByteArray), 0, 7)) else ((subS l y1.2.1 (IntKind.wrap .i64 (y1.2.1 + (IntKind.wrap .i64 y1.1)))).bind fun l1 => some (strOf l1, IntKind.wrap .i64 (y1.2.1 + (IntKind.wrap .i64 y1.1)), (0 : Int)))))) = some (textP l i most) := by
 obtain ⟨n, k, hn, hk, e, he, he0, he7⟩ := uintP_bounds (i := i) hl
 subst hU
 simp only [Option.bind_some, textP, he]
 by_cases h : e = 0
 ·subst h
  have h2' : ((0 : Int) != 0) = true ↔ False := by simp
  simp only [h2', if_false, if_true]
  by_cases hm0 : most < 0
  ·simp [hm0]
  ·simp only [hm0, decide_false, Bool.false_eq_true, if_false, Option.bind_some, false_or]
   rw [wu64 (x := most) (by omega) (by omega)]
   by_cases hnm : (n : Int) > most
   ·simp [hnm]
   ·simp only [hnm, decide_false, Bool.false_eq_true, if_false]
    rw [wi64 (x := (l.length : Int) - (k : Int)) (by omega) (by omega), wu64 (x := (l.length : Int) - (k : Int)) (by omega) (by omega)]
    by_cases hr : (n : Int) > (l.length : Int) - (k : Int)
    ·simp [hr]
    ·simp only [hr, decide_false, Bool.false_eq_true, if_false]
     rw [wi64 (x := (n : Int)) (by omega) (by omega), wi64 (x := (k : Int) + (n : Int)) (by omega) (by omega), subS_some (by omega) (by omega) (by omega)]
     rfl
 ·have : (e != 0) = true := by simp [h]
  simp [this, h]
theorem wire_Text_eq {N : Nat} {l : List UInt8} {i most : Int} (hl : l.length < 9223372036854775807) (hm : -9223372036854775808 ≤ most ∧ most ≤ 9223372036854775807) (hN : l.length + 1 < N) : wire_Text N l i most = some (textP l i most) :=
 textP_of hl hm (wire_Uint_eq hl hN)
theorem ref_Text_eq {N : Nat} {l : List UInt8} {i most : Int} (hl : l.length < 9223372036854775807) (hm : -9223372036854775808 ≤ most ∧ most ≤ 9223372036854775807) (hN : l.length + 1 < N) : testgateref03_Text N l i most = some (textP l i most) :=
 textP_of hl hm (ref_Uint_eq hl hN)
theorem same_eq {N : Nat} (a : List UInt8) : testgateref03_Same N a a = some true := by simp [testgateref03_Same]
end Go.Proofs.YtfodebccikifcaaDoor
