/- Plain lemmas on the words of the decompiled functions. No condition. -/
import Derived.Test.YtgggihpbhmbjaaaGreatDoorMapy6
namespace Go.Dc
theorem wi64 {x : Int} (h1 : -9223372036854775808 ≤ x) (h2 : x ≤ 9223372036854775807) : IntKind.wrap .i64 x = x := by simp [IntKind.wrap, IntKind.signed, IntKind.bits]; omega
theorem wu64 {x : Int} (h1 : 0 ≤ x) (h2 : x ≤ 18446744073709551615) : IntKind.wrap .u64 x = x := by simp [IntKind.wrap, IntKind.signed, IntKind.bits]; omega
theorem idx_some {α : Type} {l : List α} {i : Int} (h0 : 0 ≤ i) (h : i.toNat < l.length) : idx l i = some l[i.toNat] := by simp [idx, h0, h]
theorem qCe {α : Type} {l : List α} {i : Nat} (h : i < l.length) : idx l (i : Int) = some l[i] := by simp [idx, h]
theorem idxB_nat {s : ByteArray} {i : Nat} (h : i < s.size) : idxB s (i : Int) = some s[i] := by simp [idxB, h]
theorem qCn {α : Type} {b : Nat} {l k : List α} (h : (l.length + k.length) * b ≤ 140737488355328) (hb : 0 < b) : qEo b l k = some (l ++ k) := by
 have : l.length + k.length ≤ maxLen := by
  have : (l.length + k.length) * 1 ≤ (l.length + k.length) * b := Nat.mul_le_mul_left _ hb
  simp only [maxLen]; omega
 simp [qEo, h, this]
theorem subS_some {α : Type} {l : List α} {lo hi : Int} (h1 : 0 ≤ lo) (h2 : lo ≤ hi) (h3 : hi ≤ l.length) : subS l lo hi = some ((l.take hi.toNat).drop lo.toNat) := by simp [subS, h1, h2, h3]
theorem subB_some {l : ByteArray} {lo hi : Int} (h1 : 0 ≤ lo) (h2 : lo ≤ hi) (h3 : hi ≤ l.size) : subB l lo hi = some (l.extract lo.toNat hi.toNat) := by simp [subB, h1, h2, h3]
theorem loopM_eq {σ β : Type} {f : σ → Option (σ ⊕ β)} (I : σ → Prop) (μ : σ → Nat) (res : σ → β)
  (h : ∀ s, I s → f s = some (.inr (res s)) ∨ ∃ s', f s = some (.inl s') ∧ I s' ∧ μ s' < μ s ∧ res s' = res s) : ∀ (N : Nat) (s : σ), I s → μ s < N → qBf f N s = some (res s)
 | 0, _, _, hn => absurd hn (Nat.not_lt_zero _)
 | N + 1, s, hs, hn => by
  rcases h s hs with h1 | ⟨s', h1, h2, h3, h4⟩
  ·simp [qBf, h1]
  ·rw [← h4, ← loopM_eq I μ res h N s' h2 (by omega)]
   simp [qBf, h1]
theorem loopM_ex {σ β : Type} {f : σ → Option (σ ⊕ β)} (I : σ → Prop) (μ : σ → Nat) (R : β → Prop)
  (h : ∀ s, I s → (∃ b, f s = some (.inr b) ∧ R b) ∨ ∃ s', f s = some (.inl s') ∧ I s' ∧ μ s' < μ s) : ∀ (N : Nat) (s : σ), I s → μ s < N → ∃ b, qBf f N s = some b ∧ R b
 | 0, _, _, hn => absurd hn (Nat.not_lt_zero _)
 | N + 1, s, hs, hn => by
  rcases h s hs with ⟨b, h1, h2⟩ | ⟨s', h1, h2, h3⟩
  ·exact ⟨b, by simp [qBf, h1], h2⟩
  ·obtain ⟨b, h4, h5⟩ := loopM_ex I μ R h N s' h2 (by omega)
   exact ⟨b, by simp [qBf, h1, h4], h5⟩
end Go.Dc
