/- Plain lemmas on the words of the decompiled functions. No condition. -/
import Derived.Test.YtfodebccikifcaaGreatDoorMapy1
namespace Go.Dc
theorem wi64 {x : Int} (h1 : -9223372036854775808 ≤ x) (h2 : x ≤ 9223372036854775807) : IntKind.wrap .i64 x = x := by simp [IntKind.wrap, IntKind.signed, IntKind.bits]; omega
theorem wu64 {x : Int} (h1 : 0 ≤ x) (h2 : x ≤ 18446744073709551615) : IntKind.wrap .u64 x = x := by simp [IntKind.wrap, IntKind.signed, IntKind.bits]; omega
theorem wu32 {x : Int} (h1 : 0 ≤ x) (h2 : x ≤ 4294967295) : IntKind.wrap .u32 x = x := by simp [IntKind.wrap, IntKind.signed, IntKind.bits]; omega
theorem wu8 {x : Int} (h1 : 0 ≤ x) (h2 : x ≤ 255) : IntKind.wrap .u8 x = x := by simp [IntKind.wrap, IntKind.signed, IntKind.bits]; omega
theorem wrap_u64' (x : Int) : IntKind.wrap .u64 x = x % 18446744073709551616 := by simp [IntKind.wrap, IntKind.signed, IntKind.bits]
theorem wrap_u8' (x : Int) : IntKind.wrap .u8 x = x % 256 := by simp [IntKind.wrap, IntKind.signed, IntKind.bits]
theorem byte_bounds (x : UInt8) : 0 ≤ (x.toNat : Int) ∧ (x.toNat : Int) ≤ 255 := by have := x.toNat_lt; omega
theorem idx_some {α : Type} {l : List α} {i : Int} (h0 : 0 ≤ i) (h : i.toNat < l.length) : idx l i = some l[i.toNat] := by simp [idx, h0, h]
theorem idx_nat {α : Type} {l : List α} {i : Nat} (h : i < l.length) : idx l (i : Int) = some l[i] := by simp [idx, h]
theorem idxB_nat {s : ByteArray} {i : Nat} (h : i < s.size) : idxB s (i : Int) = some s[i] := by simp [idxB, h]
theorem appendS_some {α : Type} {b : Nat} {l k : List α} (h : (l.length + k.length) * b ≤ 140737488355328) (hb : 0 < b) : appendS b l k = some (l ++ k) := by
 have : l.length + k.length ≤ maxLen := by
  have : (l.length + k.length) * 1 ≤ (l.length + k.length) * b := Nat.mul_le_mul_left _ hb
  simp only [maxLen]; omega
 simp [appendS, h, this]
theorem subS_some {α : Type} {l : List α} {lo hi : Int} (h1 : 0 ≤ lo) (h2 : lo ≤ hi) (h3 : hi ≤ l.length) : subS l lo hi = some ((l.take hi.toNat).drop lo.toNat) := by simp [subS, h1, h2, h3]
theorem subB_some {l : ByteArray} {lo hi : Int} (h1 : 0 ≤ lo) (h2 : lo ≤ hi) (h3 : hi ≤ l.size) : subB l lo hi = some (l.extract lo.toNat hi.toNat) := by simp [subB, h1, h2, h3]
theorem loopM_eq {σ β : Type} {f : σ → Option (σ ⊕ β)} (I : σ → Prop) (μ : σ → Nat) (res : σ → β)
  (h : ∀ s, I s → f s = some (.inr (res s)) ∨ ∃ s', f s = some (.inl s') ∧ I s' ∧ μ s' < μ s ∧ res s' = res s) : ∀ (N : Nat) (s : σ), I s → μ s < N → loopM f N s = some (res s)
 | 0, _, _, hn => absurd hn (Nat.not_lt_zero _)
 | N + 1, s, hs, hn => by
  rcases h s hs with h1 | ⟨s', h1, h2, h3, h4⟩
  ·simp [loopM, h1]
  ·rw [← h4, ← loopM_eq I μ res h N s' h2 (by omega)]
   simp [loopM, h1]
theorem loopM_ex {σ β : Type} {f : σ → Option (σ ⊕ β)} (I : σ → Prop) (μ : σ → Nat) (R : β → Prop)
  (h : ∀ s, I s → (∃ b, f s = some (.inr b) ∧ R b) ∨ ∃ s', f s = some (.inl s') ∧ I s' ∧ μ s' < μ s) : ∀ (N : Nat) (s : σ), I s → μ s < N → ∃ b, loopM f N s = some b ∧ R b
 | 0, _, _, hn => absurd hn (Nat.not_lt_zero _)
 | N + 1, s, hs, hn => by
  rcases h s hs with ⟨b, h1, h2⟩ | ⟨s', h1, h2, h3⟩
  ·exact ⟨b, by simp [loopM, h1], h2⟩
  ·obtain ⟨b, h4, h5⟩ := loopM_ex I μ R h N s' h2 (by omega)
   exact ⟨b, by simp [loopM, h1, h4], h5⟩
theorem ofInt_toNat32 (x : Int) : ((BitVec.ofInt 32 x).toNat : Int) = x % 4294967296 := by simp [BitVec.toNat_ofInt]; omega
theorem ofInt_toNat64 (x : Int) : ((BitVec.ofInt 64 x).toNat : Int) = x % 18446744073709551616 := by simp [BitVec.toNat_ofInt]; omega
theorem iAnd_127 (x : UInt8) : iAnd .u8 (x.toNat : Int) 127 = ((x.toNat % 128 : Nat) : Int) := by
 have : ∀ n : Fin 256, iAnd .u8 (n.val : Int) 127 = ((n.val % 128 : Nat) : Int) := by decide +kernel
 exact this ⟨x.toNat, x.toNat_lt⟩
theorem iOr_128 (x : Nat) (h : x < 256) : iOr .u8 (x : Int) 128 = ((x % 128 + 128 : Nat) : Int) := by
 have : ∀ n : Fin 256, iOr .u8 (n.val : Int) 128 = ((n.val % 128 + 128 : Nat) : Int) := by decide +kernel
 exact this ⟨x, h⟩
theorem iOr_u64_add {a d k : Nat} (ha : 2 ^ k ∣ a) (hd : d < 2 ^ k) (h : a + d < 18446744073709551616) : iOr .u64 (a : Int) (d : Int) = ((a + d : Nat) : Int) := by
 obtain ⟨q, rfl⟩ := ha
 have e : 2 ^ k * q ||| d = 2 ^ k * q + d := by
  have := Nat.shiftLeft_add_eq_or_of_lt hd q
  rw [Nat.shiftLeft_eq, Nat.mul_comm] at this
  exact this.symm
 have h1 : (BitVec.ofInt 64 ((2 ^ k * q : Nat) : Int)).toNat = 2 ^ k * q := by
  have := ofInt_toNat64 ((2 ^ k * q : Nat) : Int); omega
 have h2 : (BitVec.ofInt 64 (d : Int)).toNat = d := by
  have := ofInt_toNat64 (d : Int); omega
 show IntKind.wrap .u64 ((BitVec.ofInt 64 _ ||| BitVec.ofInt 64 _).toNat : Int) = _
 rw [BitVec.toNat_or, h1, h2, e]
 exact wu64 (by omega) (by omega)
theorem iOr_u32_add {a d k : Nat} (ha : 2 ^ k ∣ a) (hd : d < 2 ^ k) (h : a + d < 4294967296) : iOr .u32 (a : Int) (d : Int) = ((a + d : Nat) : Int) := by
 obtain ⟨q, rfl⟩ := ha
 have e : 2 ^ k * q ||| d = 2 ^ k * q + d := by
  have := Nat.shiftLeft_add_eq_or_of_lt hd q
  rw [Nat.shiftLeft_eq, Nat.mul_comm] at this
  exact this.symm
 have h1 : (BitVec.ofInt 32 ((2 ^ k * q : Nat) : Int)).toNat = 2 ^ k * q := by
  have := ofInt_toNat32 ((2 ^ k * q : Nat) : Int); omega
 have h2 : (BitVec.ofInt 32 (d : Int)).toNat = d := by
  have := ofInt_toNat32 (d : Int); omega
 show IntKind.wrap .u32 ((BitVec.ofInt 32 _ ||| BitVec.ofInt 32 _).toNat : Int) = _
 rw [BitVec.toNat_or, h1, h2, e]
 exact wu32 (by omega) (by omega)
end Go.Dc
