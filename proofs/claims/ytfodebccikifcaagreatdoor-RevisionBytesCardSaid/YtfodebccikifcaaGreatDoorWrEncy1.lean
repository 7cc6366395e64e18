/- The plain laws of reading what was written: numbers and strings. No condition but those of each theorem. -/
import Derived.Test.YtfodebccikifcaaGreatDoorWrNumy1
namespace Go.Proofs.YtfodebccikifcaaGreatDoor
open Go Go.Dc
def dvl : List UInt8 → Nat
 | [] => 0
 | b :: r => b.toNat % 128 + 128 * dvl r
theorem dvl_snoc (xs : List UInt8) (x : UInt8) : dvl (xs ++ [x]) = dvl xs + 128 ^ xs.length * (x.toNat % 128) := by
 induction xs with
 | nil => simp [dvl]
 | cons y r ih =>
  simp only [List.cons_append, dvl, ih, List.length_cons, Nat.pow_succ]
  rw [Nat.mul_add, ← Nat.mul_assoc, Nat.mul_comm 128 (128 ^ r.length)]; omega
theorem uval_eq (l : List UInt8) (a : Nat) : ∀ k n, a + k ≤ l.length → n < 18446744073709551616 → uval l a k n = (n * 128 ^ k + dvl ((l.drop a).take k)) % 18446744073709551616
 | 0, n, _, h => by simp [uval, dvl, Nat.mod_eq_of_lt h]
 | k + 1, n, h, hn => by
  have hlt : a + k < l.length := by omega
  have e : (l.drop a).take (k + 1) = (l.drop a).take k ++ [l[a + k]] := by
   rw [List.take_add_one]
   simp [hlt]
  have hlen : ((l.drop a).take k).length = k := by simp; omega
  rw [uval, uval_eq l a k _ (by omega) (Nat.mod_lt _ (by omega)), e, dvl_snoc, hlen]
  have hg : l.getD (a + k) 0 = l[a + k] := by simp [List.getD, hlt]
  rw [hg]
  generalize dvl ((l.drop a).take k) = D
  generalize l[a + k].toNat % 128 = d
  have e2 : n * 128 ^ (k + 1) + (D + 128 ^ k * d) = (n * 128 + d) * 128 ^ k + D := by
   rw [Nat.pow_succ, Nat.add_mul, Nat.mul_comm (128 ^ k) 128, Nat.mul_assoc, Nat.mul_comm d]; omega
  rw [e2, Nat.add_mod, Nat.mul_mod, Nat.mod_mod, ← Nat.mul_mod, ← Nat.add_mod]
theorem encF_spec : ∀ k n, n < 128 ^ (k + 1) → ∃ ini : List UInt8, ∃ b : UInt8, encF k n = ini ++ [b] ∧ b.toNat = n / 128 ^ ini.length ∧ b.toNat < 128 ∧ (ini ≠ [] → 1 ≤ b.toNat) ∧ (∀ x ∈ ini, 128 ≤ x.toNat) ∧ ini.length ≤ k ∧ dvl (encF k n) = n
 | 0, n, h => by
  refine ⟨[], UInt8.ofNat n, rfl, ?_, ?_, by simp, by simp, by simp, ?_⟩
  ·simp [UInt8.toNat_ofNat']; omega
  ·simp [UInt8.toNat_ofNat']; omega
  ·simp [encF, dvl, UInt8.toNat_ofNat']; omega
 | k + 1, n, h => by
  by_cases hn : n < 128
  ·refine ⟨[], UInt8.ofNat n, by simp [encF, hn], ?_, ?_, by simp, by simp, by simp, ?_⟩
   ·simp [UInt8.toNat_ofNat']; omega
   ·simp [UInt8.toNat_ofNat']; omega
   ·simp [encF, hn, dvl, UInt8.toNat_ofNat']
    try omega
  ·obtain ⟨ini, b, h1, h2, h3, h4, h5, h6, h7⟩ := encF_spec k (n / 128) (by rw [Nat.pow_succ] at h; omega)
   refine ⟨UInt8.ofNat (n % 128 + 128) :: ini, b, by simp [encF, hn, h1], ?_, h3, fun _ => ?_, ?_, by simpa using h6, ?_⟩
   ·rw [h2, List.length_cons, Nat.pow_succ, Nat.mul_comm, Nat.div_div_eq_div_mul]
   ·cases ini with
    | nil => simp at h2; omega
    | cons y r => exact h4 (by simp)
   ·intro x hx
    rcases List.mem_cons.1 hx with rfl | hx
    ·simp [UInt8.toNat_ofNat']; omega
    ·exact h5 x hx
   ·simp only [encF, hn, if_false, dvl, h7]
    simp [UInt8.toNat_ofNat']; omega
theorem takeWhile_all {p : UInt8 → Bool} {ini post : List UInt8} {b : UInt8} (h : ∀ x ∈ ini, p x = true) (hb : p b = false) : (ini ++ b :: post).takeWhile p = ini := by
 induction ini with
 | nil => simp [hb]
 | cons y r ih =>
  rw [List.cons_append, List.takeWhile_cons, h y (List.mem_cons_self ..)]
  simp [ih (fun x hx => h x (List.mem_cons_of_mem _ hx))]
theorem uintP_enc {pre post : List UInt8} {n : Nat} (hn : n < 18446744073709551616) : uintP (pre ++ (encU n ++ post)) (pre.length : Int) = ((n : Int), ((pre.length + (encU n).length : Nat) : Int), 0) := by
 obtain ⟨ini, b, h1, h2, h3, h4, h5, h6, h7⟩ := encF_spec 9 n (by omega)
 have he : encU n = ini ++ [b] := h1
 generalize hl : pre ++ (encU n ++ post) = l
 have hll : l.length = pre.length + (ini.length + 1) + post.length := by rw [← hl, he]; simp; omega
 have hd : l.drop pre.length = ini ++ b :: post := by rw [← hl, he]; simp
 have hend : uend l pre.length = pre.length + ini.length := by
  unfold uend
  rw [hd, takeWhile_all (fun x hx => by simp [h5 x hx]) (by simp; omega)]
 have hb : l.getD (pre.length + ini.length) 0 = b := by
  rw [← hl, he]; simp [List.getD]
 have hv : uval l pre.length (ini.length + 1) 0 = n := by
  rw [uval_eq _ _ _ _ (by omega) (by omega), hd]
  have : (ini ++ b :: post).take (ini.length + 1) = encF 9 n := by rw [h1]; simp [List.take_append, List.take_of_length_le]
  rw [this, h7]; simp; omega
 have hlast : ini.length = 9 → b.toNat ≤ 1 := by intro h9; rw [h2, h9]; omega
 simp only [uintP]
 rw [if_neg (by omega)]
 simp only [Int.toNat_natCast, hend, hb]
 have e : pre.length + ini.length - pre.length = ini.length := by omega
 rw [if_neg (by omega), e, if_neg (by
  rintro (h | h | h)
  ·omega
  ·have := hlast h.1; omega
  ·have : ini ≠ [] := by rintro rfl; simp at h
   have := h4 this; omega), hv, he]
 simp; omega
theorem strOf_data (s : ByteArray) : strOf s.data.toList = s := by
 cases s; simp [strOf]
theorem textP_enc {pre post : List UInt8} {s : ByteArray} {most : Int} (hs : s.size < 18446744073709551616) (hm : (s.size : Int) ≤ most) : textP (pre ++ (encU s.size ++ (s.data.toList ++ post))) (pre.length : Int) most = (s, ((pre.length + (encU s.size).length + s.size : Nat) : Int), 0) := by
 simp only [textP, uintP_enc hs, if_true]
 rw [if_neg (by omega), if_neg (by simp only [List.length_append, Array.length_toList, ByteArray.size_data]; omega)]
 have e : ((pre ++ (encU s.size ++ (s.data.toList ++ post))).take (((pre.length + (encU s.size).length : Nat) : Int) + (s.size : Int)).toNat).drop ((pre.length + (encU s.size).length : Nat) : Int).toNat = s.data.toList := by
  have e1 : (((pre.length + (encU s.size).length : Nat) : Int) + (s.size : Int)).toNat = (pre ++ encU s.size ++ s.data.toList).length := by simp; omega
  have e2 : (((pre.length + (encU s.size).length : Nat) : Int)).toNat = (pre ++ encU s.size).length := by simp only [List.length_append]; omega
  rw [e1, e2, show pre ++ (encU s.size ++ (s.data.toList ++ post)) = pre ++ encU s.size ++ s.data.toList ++ post by simp, List.take_left, List.drop_left]
 rw [e, strOf_data]
 simp
end Go.Proofs.YtfodebccikifcaaGreatDoor
