/- Loops over a list, in plain Lean. No condition. -/
import Derived.Test.YtgggihpbhmbjaaaGreatDoorPlainy6
namespace Go.Proofs.YtgggihpbhmbjaaaGreatDoor
open Go Go.Dc
def run {α τ β : Type} (step : τ → α → τ ⊕ β) (fin : τ → β) : List α → τ → β
 | [], t => fin t
 | x :: l, t => match step t x with
  | .inl t' => run step fin l t'
  | .inr b => b
theorem list_loop {α τ σ β : Type} {L : List α} (enc : τ → Nat → σ) {f : σ → Option (σ ⊕ β)} (step : τ → α → τ ⊕ β) (fin : τ → β) (I : Nat → τ → Prop)
  (hstep : ∀ t i, ∀ hi : i < L.length, I i t → f (enc t i) = some (match step t L[i] with | .inl t' => .inl (enc t' (i + 1)) | .inr b => .inr b))
  (hinv : ∀ t i, ∀ hi : i < L.length, ∀ t', I i t → step t L[i] = .inl t' → I (i + 1) t')
  (hfin : ∀ t, I L.length t → f (enc t L.length) = some (.inr (fin t))) : ∀ (d i M : Nat) (t : τ), i + d = L.length → d < M → I i t → qBf f M (enc t i) = some (run step fin (L.drop i) t)
 | _, _, 0, _, _, h, _ => absurd h (Nat.not_lt_zero _)
 | d, i, M + 1, t, h1, h2, h3 => by
  cases d with
  | zero =>
   have hi : i = L.length := by omega
   subst hi
   simp only [qBf, hfin t h3, Option.bind_some, List.drop_length, run]
  | succ d =>
   have hi : i < L.length := by omega
   have hd : L.drop i = L[i] :: L.drop (i + 1) := (List.getElem_cons_drop hi).symm
   simp only [qBf, hstep t i hi h3, Option.bind_some]
   rw [hd]
   simp only [run]
   cases hs : step t L[i] with
   | inl t' =>
    simp only
    exact list_loop enc step fin I hstep hinv hfin d (i + 1) M t' (by omega) (by omega) (hinv t i hi t' h3 hs)
   | inr b => rfl
theorem qIb {α τ σ β : Type} {L : List α} (enc : τ → Nat → σ) {f : σ → Option (σ ⊕ β)} (step : τ → α → τ ⊕ β) (fin : τ → β) (I : Nat → τ → Prop)
  (hstep : ∀ t i, ∀ hi : i < L.length, I i t → f (enc t i) = some (match step t L[i] with | .inl t' => .inl (enc t' (i + 1)) | .inr b => .inr b))
  (hinv : ∀ t i, ∀ hi : i < L.length, ∀ t', I i t → step t L[i] = .inl t' → I (i + 1) t')
  (hfin : ∀ t, I L.length t → f (enc t L.length) = some (.inr (fin t))) {M : Nat} {t : τ} (hM : L.length < M) (h0 : I 0 t) : qBf f M (enc t 0) = some (run step fin L t) := by
 have := list_loop enc step fin I hstep hinv hfin L.length 0 M t (by omega) hM h0
 rw [List.drop_zero] at this; exact this
theorem run_fold {α τ β : Type} {step : τ → α → τ ⊕ β} {fin : τ → β} (g : τ → α → τ) (h : ∀ t x, step t x = .inl (g t x)) : ∀ (l : List α) (t : τ), run step fin l t = fin (l.foldl g t)
 | [], _ => rfl
 | x :: l, t => by simp only [run, h, List.foldl_cons]; exact run_fold g h l _
theorem run_any {α β : Type} {step : Unit → α → Unit ⊕ β} {fin : Unit → β} {b : β} (p : α → Bool) (h : ∀ x, step () x = if p x = true then .inr b else .inl ()) : ∀ l : List α, run step fin l () = if l.any p = true then b else fin ()
 | [] => rfl
 | x :: l => by
  have ih := run_any (fin := fin) p h l
  rw [List.any_cons]
  by_cases hp : p x = true
  ·have e : step () x = .inr b := by rw [h, if_pos hp]
   simp only [run, e]
   rw [hp, Bool.true_or, if_pos rfl]
  ·have e : step () x = .inl () := by rw [h, if_neg hp]
   simp only [run, e]
   rw [ih, show p x = false by simpa using hp, Bool.false_or]
theorem drop_cons' {α : Type} {l : List α} {i : Nat} (h : i < l.length) : l.drop i = l[i] :: l.drop (i + 1) := (List.getElem_cons_drop h).symm
theorem take_snoc {α : Type} {l : List α} {i : Nat} (h : i < l.length) : l.take (i + 1) = l.take i ++ [l[i]] := List.take_succ_eq_append_getElem h
end Go.Proofs.YtgggihpbhmbjaaaGreatDoor
