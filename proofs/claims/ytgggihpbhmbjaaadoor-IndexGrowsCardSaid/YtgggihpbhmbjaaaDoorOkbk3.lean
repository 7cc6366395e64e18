/- What a plain function surely answers: rules, and what is drawn from a tape. No condition. -/
import Derived.Test.YtgggihpbhmbjaaaDoorTConk3
import Derived.Test.YtgggihpbhmbjaaaDoorPlaink3
import Derived.Test.YtgggihpbhmbjaaaDoorFramek3
namespace Go.Proofs.YtgggihpbhmbjaaaDoor
open Go Go.Dc
def Ok {α : Type} (x : Option α) (Q : α → Prop) : Prop := ∃ a, x = some a ∧ Q a
section
variable {α β γ : Type} {Q : β → Prop}
theorem Ok.mk {a : β} (h : Q a) : Ok (some a) Q := ⟨a, rfl, h⟩
theorem Ok.bind {x : Option α} {P : α → Prop} {f : α → Option β} (h : Ok x P) (k : ∀ a, P a → Ok (f a) Q) : Ok (x.bind f) Q := by
 obtain ⟨a, rfl, ha⟩ := h
 exact k a ha
theorem Ok.mono {x : Option β} {P : β → Prop} (h : Ok x P) (k : ∀ a, P a → Q a) : Ok x Q := by
 obtain ⟨a, e, ha⟩ := h
 exact ⟨a, e, k a ha⟩
theorem Ok.assoc {x : Option α} {g : α → Option γ} {f : γ → Option β} (h : Ok (x.bind fun a => (g a).bind f) Q) : Ok ((x.bind g).bind f) Q := by
 rw [Option.bind_assoc]; exact h
theorem Ok.ite {c : Prop} [Decidable c] {x y : Option β} (h1 : c → Ok x Q) (h2 : ¬ c → Ok y Q) : Ok (if c then x else y) Q := by
 by_cases h : c
 ·rw [if_pos h]; exact h1 h
 ·rw [if_neg h]; exact h2 h
theorem Ok.someb {a : α} {f : α → Option β} (h : Ok (f a) Q) : Ok ((some a).bind f) Q := h
theorem Ok.app {b : Nat} {l k : List α} {f : List α → Option β} (hs : (l.length + k.length) * b ≤ 140737488355328) (hb : 0 < b) (h : Ok (f (l ++ k)) Q) : Ok ((appendS b l k).bind f) Q := by
 rw [appendS_some hs hb]; exact h
theorem Ok.loop {σ : Type} {f : σ → Option (σ ⊕ α)} {g : α → Option β} {s : σ} {N : Nat} (I : σ → Prop) (μ : σ → Nat) (R : α → Prop)
  (h : ∀ s, I s → Ok (f s) fun r => match r with | .inl s' => I s' ∧ μ s' < μ s | .inr b => R b) (hs : I s) (hN : μ s < N) (k : ∀ b, R b → Ok (g b) Q) : Ok ((loopM f N s).bind g) Q := by
 obtain ⟨b, h1, h2⟩ := loopM_ex I μ R (fun s hs => by
  obtain ⟨r, h1, h2⟩ := h s hs
  cases r with
  | inl s' => exact .inr ⟨s', h1, h2.1, h2.2⟩
  | inr b => exact .inl ⟨b, h1, h2⟩) N s hs hN
 rw [h1]; exact k b h2
end
theorem fold_ok' {N : Nat} {v n : Int} (hn : n ≤ 9223372036854775807) : ∃ r, testgatemake_Fold N v n = some r ∧ 0 ≤ r ∧ (1 ≤ n → r < n) := by
 simp only [testgatemake_Fold]
 by_cases h : n ≤ 1
 ·exact ⟨0, by simp [h], by omega, by omega⟩
 ·have hne : n ≠ 0 := by omega
  have h1 := Int.tmod_lt_of_pos v (show 0 < n by omega)
  have h2 := Int.lt_tmod_of_pos v (show 0 < n by omega)
  simp only [h, decide_false, Bool.false_eq_true, if_false, remS, hne, Option.bind_some]
  by_cases h3 : Int.tmod v n < 0
  ·refine ⟨Int.tmod v n + n, ?_, by omega, by omega⟩
   simp only [h3, decide_true, if_true, Option.bind_some]
   rw [wi64 (by omega) (by omega)]
  ·exact ⟨Int.tmod v n, by simp only [h3, decide_false, Bool.false_eq_true, if_false, Option.bind_some], by omega, by omega⟩
theorem next_ok' {N : Nat} {l : List Int} {a n : Int} (h0 : 0 ≤ a) (h1 : a < 4611686018427387904) (hn : n ≤ 9223372036854775807) : ∃ r, testgatemake_Tape_Next N (l, a) n = some ((l, a + 1), r) ∧ 0 ≤ r ∧ (1 ≤ n → r < n) := by
 simp only [testgatemake_Tape_Next]
 have hv : ∃ v, (if (decide (a < (List.length l : Int))) = true then ((idx l a).bind fun x1 => some x1) else (some (Int.tmod (IntKind.wrap .i64 (a * 7)) 11)) : Option Int) = some v := by
  by_cases h : a < (l.length : Int)
  ·exact ⟨_, by simp only [h, decide_true, if_true]; rw [idx_some h0 (by omega)]; rfl⟩
  ·exact ⟨_, by simp only [h, decide_false, Bool.false_eq_true, if_false]; rfl⟩
 obtain ⟨v, hv⟩ := hv
 obtain ⟨r, hr, h2, h3⟩ := fold_ok' (N := N) (v := v) hn
 exact ⟨r, by simp only [hv, Option.bind_some, hr]; rw [wi64 (by omega) (by omega)], h2, h3⟩
section
variable {β : Type} {Q : β → Prop} {N : Nat} {l : List Int} {a : Int}
theorem Ok.next {n : Int} {f : (List Int × Int) × Int → Option β} (h0 : 0 ≤ a) (h1 : a < 4611686018427387904) (hn : 1 ≤ n) (hn2 : n ≤ 1000000) (h : ∀ r, 0 ≤ r → r < n → Ok (f ((l, a + 1), r)) Q) : Ok ((testgatemake_Tape_Next N (l, a) n).bind f) Q := by
 obtain ⟨r, hr, g1, g2⟩ := next_ok' (N := N) (l := l) h0 h1 (show n ≤ 9223372036854775807 by omega)
 rw [hr]; exact h r g1 (g2 hn)
theorem Ok.chance {n m : Int} {f : (List Int × Int) × Bool → Option β} (h0 : 0 ≤ a) (h1 : a < 4611686018427387904) (hn : 1 ≤ m) (hn2 : m ≤ 1000000) (h : ∀ r, Ok (f ((l, a + 1), r)) Q) : Ok ((testgatemake_Tape_Chance N (l, a) n m).bind f) Q := by
 obtain ⟨r, hr, g1, g2⟩ := next_ok' (N := N) (l := l) h0 h1 (show m ≤ 9223372036854775807 by omega)
 simp only [testgatemake_Tape_Chance, hr, Option.bind_some]
 exact h _
theorem Ok.one {L : List ByteArray} {f : (List Int × Int) × ByteArray → Option β} (h0 : 0 ≤ a) (h1 : a < 4611686018427387904) (hL : 0 < L.length) (hL2 : L.length < 1000) (h : ∀ x ∈ L, Ok (f ((l, a + 1), x)) Q) : Ok ((testgatemake_Tape_One N (l, a) L).bind f) Q := by
 obtain ⟨r, hr, g1, g2⟩ := next_ok' (N := N) (l := l) h0 h1 (show (L.length : Int) ≤ 9223372036854775807 by omega)
 have g2 := g2 (by omega)
 have hlt : r.toNat < L.length := by omega
 simp only [testgatemake_Tape_One]
 rw [if_neg (by rw [beq_iff_eq]; omega), hr]
 simp only [Option.bind_some]
 rw [idx_some g1 hlt]
 exact h _ (List.getElem_mem hlt)
end
end Go.Proofs.YtgggihpbhmbjaaaDoor
