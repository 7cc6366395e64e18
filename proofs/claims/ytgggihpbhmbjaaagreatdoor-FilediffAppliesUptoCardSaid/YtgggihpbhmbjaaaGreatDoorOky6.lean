/- What a plain function surely answers: rules, and the made arguments. No condition. -/
import Derived.Test.YtgggihpbhmbjaaaGreatDoorTCony6
import Derived.Test.YtgggihpbhmbjaaaGreatDoorPlainy6
import Derived.Test.YtgggihpbhmbjaaaGreatDoorFramey6
namespace Go.Proofs.YtgggihpbhmbjaaaGreatDoor
open Go Go.Dc
def Ok {α : Type} (x : Option α) (Q : α → Prop) : Prop := ∃ a, x = some a ∧ Q a
section
variable {α β γ : Type} {Q : β → Prop}
theorem Ok.mk {a : β} (h : Q a) : Ok (some a) Q := ⟨a, rfl, h⟩
theorem Ok.bind {x : Option α} {P : α → Prop} {f : α → Option β} (h : Ok x P) (k : ∀ a, P a → Ok (f a) Q) : Ok (x.bind f) Q := by
 obtain ⟨a, rfl, ha⟩ := h
 exact k a ha
theorem Ok.mono {x : Option β} {P : β → Prop} (h : Ok x P) (k : ∀ a, P a → Q a) : Ok x Q := by
 obtain ⟨a, e, ha⟩ := h
 exact ⟨a, e, k a ha⟩
theorem Ok.assoc {x : Option α} {g : α → Option γ} {f : γ → Option β} (h : Ok (x.bind fun a => (g a).bind f) Q) : Ok ((x.bind g).bind f) Q := by
 rw [Option.bind_assoc]; exact h
theorem Ok.ite {c : Prop} [Decidable c] {x y : Option β} (h1 : c → Ok x Q) (h2 : ¬ c → Ok y Q) : Ok (if c then x else y) Q := by
 by_cases h : c
 ·rw [if_pos h]; exact h1 h
 ·rw [if_neg h]; exact h2 h
theorem Ok.iteb {c : Prop} [Decidable c] {x y : Option α} {f : α → Option β} (h1 : c → Ok (x.bind f) Q) (h2 : ¬ c → Ok (y.bind f) Q) : Ok ((if c then x else y).bind f) Q := by
 by_cases h : c
 ·rw [if_pos h]; exact h1 h
 ·rw [if_neg h]; exact h2 h
theorem Ok.tt [Decidable (true = true)] {x y : Option β} (h : Ok x Q) : Ok (if true = true then x else y) Q := by rw [if_pos rfl]; exact h
theorem Ok.ff [Decidable (false = true)] {x y : Option β} (h : Ok y Q) : Ok (if false = true then x else y) Q := by rw [if_neg Bool.false_ne_true]; exact h
theorem Ok.ttb [Decidable (true = true)] {x y : Option α} {f : α → Option β} (h : Ok (x.bind f) Q) : Ok ((if true = true then x else y).bind f) Q := by rw [if_pos rfl]; exact h
theorem Ok.ffb [Decidable (false = true)] {x y : Option α} {f : α → Option β} (h : Ok (y.bind f) Q) : Ok ((if false = true then x else y).bind f) Q := by rw [if_neg Bool.false_ne_true]; exact h
theorem Ok.someb {a : α} {f : α → Option β} (h : Ok (f a) Q) : Ok ((some a).bind f) Q := h
theorem Ok.mapb {a : α} {g : α → γ} {f : γ → Option β} (h : Ok (f (g a)) Q) : Ok (((some a).map g).bind f) Q := h
theorem Ok.cat {x y : ByteArray} {f : ByteArray → Option β} (hs : x.size + y.size ≤ 1000000000) (h : ∀ s : ByteArray, s.size = x.size + y.size → Ok (f s) Q) : Ok ((catB x y).bind f) Q := by
 unfold catB
 rw [if_pos (by simp only [maxLen]; omega)]
 exact h _ (by simp)
theorem Ok.app {b : Nat} {l k : List α} {f : List α → Option β} (hs : (l.length + k.length) * b ≤ 140737488355328) (hb : 0 < b) (h : Ok (f (l ++ k)) Q) : Ok ((qEo b l k).bind f) Q := by
 rw [qCn hs hb]; exact h
theorem Ok.loop {σ : Type} {f : σ → Option (σ ⊕ α)} {g : α → Option β} {s : σ} {N : Nat} (I : σ → Prop) (μ : σ → Nat) (R : α → Prop)
  (h : ∀ s, I s → Ok (f s) fun r => match r with | .inl s' => I s' ∧ μ s' < μ s | .inr b => R b) (hs : I s) (hN : μ s < N) (k : ∀ b, R b → Ok (g b) Q) : Ok ((qBf f N s).bind g) Q := by
 obtain ⟨b, h1, h2⟩ := loopM_ex I μ R (fun s hs => by
  obtain ⟨r, h1, h2⟩ := h s hs
  cases r with
  | inl s' => exact .inr ⟨s', h1, h2.1, h2.2⟩
  | inr b => exact .inl ⟨b, h1, h2⟩) N s hs hN
 rw [h1]; exact k b h2
end
theorem qMf (a : Array UInt8) : (⟨a⟩ : ByteArray).size = a.size := rfl
theorem fold_ok' {N : Nat} {v n : Int} (hn : n ≤ 9223372036854775807) : ∃ r, qHm N v n = some r ∧ 0 ≤ r ∧ (1 ≤ n → r < n) := by
 simp only [qHm]
 by_cases h : n ≤ 1
 ·exact ⟨0, by simp [h], by omega, by omega⟩
 ·have hne : n ≠ 0 := by omega
  have h1 := Int.tmod_lt_of_pos v (show 0 < n by omega)
  have h2 := Int.lt_tmod_of_pos v (show 0 < n by omega)
  simp only [h, decide_false, Bool.false_eq_true, if_false, remS, hne, Option.bind_some]
  by_cases h3 : Int.tmod v n < 0
  ·refine ⟨Int.tmod v n + n, ?_, by omega, by omega⟩
   simp only [h3, decide_true, if_true, Option.bind_some]
   rw [wi64 (by omega) (by omega)]
  ·exact ⟨Int.tmod v n, by simp only [h3, decide_false, Bool.false_eq_true, if_false, Option.bind_some], by omega, by omega⟩
theorem next_ok' {N : Nat} {l : List Int} {a n : Int} (h0 : 0 ≤ a) (h1 : a < 4611686018427387904) (hn : n ≤ 9223372036854775807) : ∃ r, qBe N (l, a) n = some ((l, a + 1), r) ∧ 0 ≤ r ∧ (1 ≤ n → r < n) := by
 simp only [qBe]
 have hv : ∃ v, (if (decide (a < (List.length l : Int))) = true then ((idx l a).bind fun x1 => some x1) else (some (Int.tmod (IntKind.wrap .i64 (a * 7)) 11)) : Option Int) = some v := by
  by_cases h : a < (l.length : Int)
  ·exact ⟨_, by simp only [h, decide_true, if_true]; rw [idx_some h0 (by omega)]; rfl⟩
  ·exact ⟨_, by simp only [h, decide_false, Bool.false_eq_true, if_false]; rfl⟩
 obtain ⟨v, hv⟩ := hv
 obtain ⟨r, hr, h2, h3⟩ := fold_ok' (N := N) (v := v) hn
 exact ⟨r, by simp only [hv, Option.bind_some, hr]; rw [wi64 (by omega) (by omega)], h2, h3⟩
section
variable {β : Type} {Q : β → Prop} {N : Nat} {l : List Int} {a : Int}
theorem Ok.next {n : Int} {f : (List Int × Int) × Int → Option β} (h0 : 0 ≤ a) (h1 : a < 4611686018427387904) (hn : 1 ≤ n) (hn2 : n ≤ 1000000) (h : ∀ r, 0 ≤ r → r < n → Ok (f ((l, a + 1), r)) Q) : Ok ((qBe N (l, a) n).bind f) Q := by
 obtain ⟨r, hr, g1, g2⟩ := next_ok' (N := N) (l := l) h0 h1 (show n ≤ 9223372036854775807 by omega)
 rw [hr]; exact h r g1 (g2 hn)
theorem Ok.chance {n m : Int} {f : (List Int × Int) × Bool → Option β} (h0 : 0 ≤ a) (h1 : a < 4611686018427387904) (hn : 1 ≤ m) (hn2 : m ≤ 1000000) (h : ∀ r, Ok (f ((l, a + 1), r)) Q) : Ok ((qBq N (l, a) n m).bind f) Q := by
 obtain ⟨r, hr, g1, g2⟩ := next_ok' (N := N) (l := l) h0 h1 (show m ≤ 9223372036854775807 by omega)
 simp only [qBq, hr, Option.bind_some]
 exact h _
theorem Ok.one {L : List ByteArray} {f : (List Int × Int) × ByteArray → Option β} (h0 : 0 ≤ a) (h1 : a < 4611686018427387904) (hL : 0 < L.length) (hL2 : L.length < 1000) (h : ∀ x ∈ L, Ok (f ((l, a + 1), x)) Q) : Ok ((qAv N (l, a) L).bind f) Q := by
 obtain ⟨r, hr, g1, g2⟩ := next_ok' (N := N) (l := l) h0 h1 (show (L.length : Int) ≤ 9223372036854775807 by omega)
 have g2 := g2 (by omega)
 have hlt : r.toNat < L.length := by omega
 simp only [qAv]
 rw [if_neg (by rw [beq_iff_eq]; omega), hr]
 simp only [Option.bind_some]
 rw [idx_some g1 hlt]
 exact h _ (List.getElem_mem hlt)
theorem Ok.oneP {L : List ByteArray} {f : (List Int × Int) × ByteArray → Option β} (h0 : 0 ≤ a) (h1 : a < 4611686018427387904) (hc : decide ((List.length L : Int) > 0) = true) (hL2 : L.length < 1000) (hL3 : ∀ x ∈ L, x.size ≤ 12) (h : ∀ x : ByteArray, x.size ≤ 12 → Ok (f ((l, a + 1), x)) Q) : Ok ((qAv N (l, a) L).bind f) Q :=
 Ok.one h0 h1 (by have := of_decide_eq_true hc; omega) hL2 fun x hx => h x (hL3 x hx)
theorem Ok.oneS {L : List ByteArray} {f : (List Int × Int) × ByteArray → Option β} (h0 : 0 ≤ a) (h1 : a < 4611686018427387904) (hL : (decide (0 < L.length) && decide (L.length < 1000) && L.all fun x => decide (x.size ≤ 12)) = true) (h : ∀ x : ByteArray, x.size ≤ 12 → Ok (f ((l, a + 1), x)) Q) : Ok ((qAv N (l, a) L).bind f) Q := by
 simp only [Bool.and_eq_true, decide_eq_true_eq] at hL
 exact Ok.one h0 h1 hL.1.1 hL.1.2 fun x hx => h x (by simpa using List.all_eq_true.1 hL.2 x hx)
theorem Ok.pick {L : List Int} {f : (List Int × Int) × Int → Option β} (h0 : 0 ≤ a) (h1 : a < 4611686018427387904) (hL : 0 < L.length) (hL2 : L.length < 1000) (h : ∀ x ∈ L, Ok (f ((l, a + 1), x)) Q) : Ok ((qCg N (l, a) L).bind f) Q := by
 obtain ⟨r, hr, g1, g2⟩ := next_ok' (N := N) (l := l) h0 h1 (show (L.length : Int) ≤ 9223372036854775807 by omega)
 have g2 := g2 (by omega)
 have hlt : r.toNat < L.length := by omega
 simp only [qCg]
 rw [if_neg (by rw [beq_iff_eq]; omega), hr]
 simp only [Option.bind_some]
 rw [idx_some g1 hlt]
 exact h _ (List.getElem_mem hlt)
theorem Ok.pickS {L : List Int} {f : (List Int × Int) × Int → Option β} (h0 : 0 ≤ a) (h1 : a < 4611686018427387904) (hL : (decide (0 < L.length) && decide (L.length < 1000) && L.all fun x => decide (0 ≤ x ∧ x ≤ 9007199254740992)) = true) (h : ∀ x : Int, 0 ≤ x → x ≤ 9007199254740992 → Ok (f ((l, a + 1), x)) Q) : Ok ((qCg N (l, a) L).bind f) Q := by
 simp only [Bool.and_eq_true, decide_eq_true_eq] at hL
 exact Ok.pick h0 h1 hL.1.1 hL.1.2 fun x hx => by
  have := List.all_eq_true.1 hL.2 x hx
  simp only [decide_eq_true_eq] at this
  exact h x this.1 this.2
theorem digits_G : ∀ (k D : Nat) (x : Int), k < D → k ≤ 100 → 0 ≤ x → x < 10 ^ (k + 1) → x ≤ 9223372036854775806 → Ok (qFn N D x) fun s => s.size ≤ k + 1
 | _, 0, _, h, _, _, _, _ => absurd h (Nat.not_lt_zero _)
 | k, D + 1, x, hk, hk9, h0, h1, h2 => by
  show Ok (qFo N (qFn N D) x) _
  unfold qFo
  have hsz : ByteArray.size (⟨#[48, 49, 50, 51, 52, 53, 54, 55, 56, 57]⟩ : ByteArray) = 10 := rfl
  by_cases hx : x < 10
  ·rw [if_pos (by simpa using hx), wi64 (by omega) (by omega), subB_some h0 (by omega) (by omega)]
   refine Ok.mk ?_
   simp only [ByteArray.size_extract, hsz]; omega
  ·rw [if_neg (by simpa using hx)]
   obtain ⟨k, rfl⟩ : ∃ k', k = k' + 1 := by
    cases k with
    | zero => simp at h1; omega
    | succ k => exact ⟨k, rfl⟩
   obtain ⟨D, rfl⟩ : ∃ D', D = D' + 1 := ⟨D - 1, by omega⟩
   have e1 : Int.tdiv x 10 = x / 10 := Int.tdiv_eq_ediv_of_nonneg h0
   have e2 : Int.tmod x 10 = x % 10 := Int.tmod_eq_emod_of_nonneg h0
   have hp : (10 : Int) ^ (k + 1 + 1) = 10 * 10 ^ (k + 1) := by rw [Int.pow_succ]; omega
   rw [e1, e2, wi64 (by omega) (by omega)]
   refine Ok.bind (digits_G k (D + 1) (x / 10) (by omega) (by omega) (by omega) (by omega) (by omega)) fun s hs => ?_
   refine Ok.bind (digits_G 0 (D + 1) (x % 10) (by omega) (by omega) (by omega) (by simp; omega) (by omega)) fun t ht => ?_
   exact Ok.cat (by omega) fun u hu => Ok.mk (by omega)
theorem Digits_ok {x : Int} (h0 : 0 ≤ x) (h1 : x ≤ 9007199254740992) (hN : 100 < N) : Ok (qCj N x) fun s => s.size ≤ 16 :=
 digits_G 15 N x (by omega) (by omega) h0 (by rw [show (10 : Int) ^ (15 + 1) = 10000000000000000 from by kernel_rfl]; omega) (by omega)
theorem Ok.digits {x : Int} {f : ByteArray → Option β} (h0 : 0 ≤ x) (h1 : x ≤ 9007199254740992) (hN : 100 < N) (h : ∀ s : ByteArray, s.size ≤ 16 → Ok (f s) Q) : Ok ((qCj N x).bind f) Q := Ok.bind (Digits_ok h0 h1 hN) h
end
def qMx : Nat → Nat
 | 0 => 8
 | d + 1 => 3 * qMx d + 8
def sizeE : Nat → Nat
 | 0 => 22
 | d + 1 => 3 * sizeE d + 20
theorem sizeE_ge : ∀ d, 22 ≤ sizeE d
 | 0 => Nat.le_refl _
 | d + 1 => by have := sizeE_ge d; simp only [sizeE]; omega
section
variable {N : Nat} {l : List Int}
def ExprAt (N : Nat) (l : List Int) (E : (List Int × Int) → Int → List ByteArray → Option ((List Int × Int) × ByteArray)) (d : Nat) (ps : List ByteArray) : Prop :=
 ∀ a : Int, 0 ≤ a → a + qMx d < 2000000000000000000 → Ok (E (l, a) (d : Int) ps) fun y => ∃ a' s, y = ((l, a'), s) ∧ a ≤ a' ∧ a' ≤ a + qMx d ∧ s.size ≤ sizeE d
theorem Ok.expr {β : Type} {Q : β → Prop} {E : (List Int × Int) → Int → List ByteArray → Option ((List Int × Int) × ByteArray)} {d : Nat} {ps : List ByteArray} (hE : ExprAt N l E d ps) {a : Int} {f : (List Int × Int) × ByteArray → Option β} (h0 : 0 ≤ a) (h1 : a + qMx d < 2000000000000000000)
  (h : ∀ (a' : Int) (s : ByteArray), a ≤ a' → a' ≤ a + qMx d → s.size ≤ sizeE d → Ok (f ((l, a'), s)) Q) : Ok ((E (l, a) (d : Int) ps).bind f) Q :=
 Ok.bind (hE a h0 h1) fun y hy => by
  obtain ⟨a', s, rfl, g1, g2, g3⟩ := hy
  exact h a' s g1 g2 g3
theorem expr_small (d : Nat) (hd : d ≤ 5) : qMx d ≤ 10000 ∧ sizeE d ≤ 20000 := by
 match d, hd with
 | 0, _ => decide
 | 1, _ => decide
 | 2, _ => decide
 | 3, _ => decide
 | 4, _ => decide
 | 5, _ => decide
set_option maxHeartbeats 4000000 in
theorem expr_leaf {E : (List Int × Int) → Int → List ByteArray → Option ((List Int × Int) × ByteArray)} {d : Nat} {ps : List ByteArray} (hd : d = 0) (hps : ps.length < 1000) (hps2 : ∀ x ∈ ps, x.size ≤ 12) (hN : 100 < N) : ExprAt N l (qDv N E) d ps := by
 subst hd
 intro a h0 h1
 have hc : qMx 0 = 8 := rfl
 have hz : sizeE 0 = 22 := rfl
 simp only [qDv, hc, hz, qDh, qFa]
 rw [if_pos (show decide (((0 : Nat) : Int) ≤ 0) = true by decide)]
 repeat' first
  | with_reducible apply Ok.tt
  | with_reducible apply Ok.ff
  | with_reducible apply Ok.ttb
  | with_reducible apply Ok.ffb
  | with_reducible apply Ok.assoc
  | ((with_reducible apply Ok.iteb) <;> intro _)
  | ((with_reducible apply Ok.ite) <;> intro _)
  | with_reducible apply Ok.someb
  | with_reducible apply Ok.mapb
  | ((with_reducible refine Ok.mk ⟨_, _, rfl, ?_, ?_, ?_⟩) <;> omega)
  | ((with_reducible refine Ok.next ?_ ?_ ?_ ?_ (fun _ _ _ => ?_)) <;> try omega)
  | ((with_reducible refine Ok.chance ?_ ?_ ?_ ?_ (fun _ => ?_)) <;> try omega)
  | ((with_reducible refine Ok.pickS ?_ ?_ (by decide) (fun _ _ _ => ?_)) <;> try omega)
  | ((with_reducible refine Ok.oneP ?_ ?_ (by assumption) hps hps2 (fun _ _ => ?_)) <;> try omega)
  | ((with_reducible refine Ok.oneS ?_ ?_ (by decide) (fun _ _ => ?_)) <;> try omega)
  | ((with_reducible refine Ok.digits ?_ ?_ hN (fun _ _ => ?_)) <;> try omega)
  | ((with_reducible refine Ok.cat ?_ (fun _ h => ?_)) <;> simp only [qMf, List.size_toArray, List.length_cons, List.length_nil, Nat.reduceAdd] at * <;> try omega)
  | ((with_reducible refine Ok.cat ?_ (fun _ _ => ?_)) <;> try omega)
  | (apply Ok.iteb <;> intro _)
  | dsimp only
 all_goals omega
theorem Ok.pick01 {β : Type} {Q : β → Prop} {a : Int} {f : (List Int × Int) × Int → Option β} (h0 : 0 ≤ a) (h1 : a < 4611686018427387904) (h : ∀ x : Int, x = 0 ∨ x = 1 → Ok (f ((l, a + 1), x)) Q) : Ok ((qCg N (l, a) [0, 0, 0, 1]).bind f) Q :=
 Ok.pick h0 h1 (by decide) (by decide) fun x hx => h x (by simp at hx; omega)
theorem Ok.exprloop {β : Type} {Q : β → Prop} {E : (List Int × Int) → Int → List ByteArray → Option ((List Int × Int) × ByteArray)} {d : Nat} {ps : List ByteArray} (hE : ExprAt N l E d ps) (hd : d ≤ 5) {p1 : Int} (hp : IntKind.wrap .i64 (p1 - 1) = (d : Int)) {s : ByteArray} {n a : Int} {f : ByteArray × List Int × Int → Option β}
  (hn : n = 0 ∨ n = 1) (h0 : 0 ≤ a) (h1 : a + qMx d < 2000000000000000000) (hs : s.size ≤ 100000000) (hN : 100 < N) (h : ∀ (s' : ByteArray) (a' : Int), a ≤ a' → a' ≤ a + qMx d → s'.size ≤ s.size + sizeE d + 2 → Ok (f (s', l, a')) Q) : Ok ((qBf (qGc N E p1 ps) N (s, n, l, a)).bind f) Q := by
 have hsm := expr_small d hd
 refine Ok.loop (fun st => ∃ s' n' a', st = (s', n', l, a') ∧ ((n' = n ∧ a' = a ∧ s' = s) ∨ (n' = 0 ∧ a ≤ a' ∧ a' ≤ a + qMx d ∧ s'.size ≤ s.size + sizeE d + 2))) (fun st => st.2.1.toNat) (fun b => ∃ s' a', b = (s', l, a') ∧ a ≤ a' ∧ a' ≤ a + qMx d ∧ s'.size ≤ s.size + sizeE d + 2) ?_ ⟨s, n, a, rfl, .inl ⟨rfl, rfl, rfl⟩⟩ (by simp only; omega) ?_
 ·rintro _ ⟨s', n', a', rfl, hc⟩
  simp only [qGc]
  by_cases hn0 : n' > 0
  ·rw [if_pos (by simpa using hn0), hp]
   have hc : n' = n ∧ a' = a ∧ s' = s := hc.resolve_right fun h => by omega
   obtain ⟨rfl, rfl, rfl⟩ := hc
   refine Ok.expr hE h0 h1 fun a2 t g1 g2 g3 => ?_
   refine Ok.cat (by simp only [qMf, List.size_toArray, List.length_cons, List.length_nil, Nat.reduceAdd]; omega) fun u hu => ?_
   simp only [qMf, List.size_toArray, List.length_cons, List.length_nil, Nat.reduceAdd] at hu
   refine Ok.cat (by omega) fun v hv => ?_
   refine Ok.mk ⟨⟨v, _, a2, rfl, .inr ⟨by rw [wi64 (by omega) (by omega)]; omega, g1, g2, by omega⟩⟩, ?_⟩
   simp only
   rw [wi64 (by omega) (by omega)]
   omega
  ·rw [if_neg (by simpa using hn0)]
   refine Ok.mk ⟨s', a', rfl, ?_⟩
   rcases hc with ⟨_, rfl, rfl⟩ | ⟨_, g1, g2, g3⟩
   ·omega
   ·exact ⟨g1, g2, g3⟩
 ·rintro _ ⟨s', a', rfl, g1, g2, g3⟩
  exact h s' a' g1 g2 g3
set_option maxHeartbeats 8000000 in
theorem expr_step {E : (List Int × Int) → Int → List ByteArray → Option ((List Int × Int) × ByteArray)} {d : Nat} {ps : List ByteArray} (hE : ExprAt N l E d ps) (hd : d ≤ 4) (hps : ps.length < 1000) (hps2 : ∀ x ∈ ps, x.size ≤ 12) (hN : 100 < N) : ExprAt N l (qDv N E) (d + 1) ps := by
 intro a h0 h1
 have hc : qMx (d + 1) = 3 * qMx d + 8 := rfl
 have hz : sizeE (d + 1) = 3 * sizeE d + 20 := rfl
 have hge := sizeE_ge d
 have hsm := expr_small d (by omega)
 have hw : IntKind.wrap .i64 (((d + 1 : Nat) : Int) - 1) = (d : Int) := by rw [wi64 (by omega) (by omega)]; omega
 simp only [qDv, hc, hz, qDh, qFa, qDr, hw]
 repeat' first
  | with_reducible apply Ok.tt
  | with_reducible apply Ok.ff
  | with_reducible apply Ok.ttb
  | with_reducible apply Ok.ffb
  | with_reducible apply Ok.assoc
  | ((with_reducible apply Ok.iteb) <;> intro _)
  | ((with_reducible apply Ok.ite) <;> intro _)
  | with_reducible apply Ok.someb
  | with_reducible apply Ok.mapb
  | ((with_reducible refine Ok.mk ⟨_, _, rfl, ?_, ?_, ?_⟩) <;> omega)
  | ((with_reducible refine Ok.next ?_ ?_ ?_ ?_ (fun _ _ _ => ?_)) <;> try omega)
  | ((with_reducible refine Ok.chance ?_ ?_ ?_ ?_ (fun _ => ?_)) <;> try omega)
  | ((with_reducible refine Ok.pick01 ?_ ?_ (fun _ _ => ?_)) <;> try omega)
  | ((with_reducible refine Ok.exprloop hE (by omega) hw (by assumption) ?_ ?_ ?_ hN (fun _ _ _ _ _ => ?_)) <;> try omega)
  | ((with_reducible refine Ok.expr hE ?_ ?_ (fun _ _ _ _ _ => ?_)) <;> try omega)
  | ((with_reducible refine Ok.pickS ?_ ?_ (by decide) (fun _ _ _ => ?_)) <;> try omega)
  | ((with_reducible refine Ok.oneP ?_ ?_ (by assumption) hps hps2 (fun _ _ => ?_)) <;> try omega)
  | ((with_reducible refine Ok.oneS ?_ ?_ (by decide) (fun _ _ => ?_)) <;> try omega)
  | ((with_reducible refine Ok.digits ?_ ?_ hN (fun _ _ => ?_)) <;> try omega)
  | ((with_reducible refine Ok.cat ?_ (fun _ h => ?_)) <;> simp only [qMf, List.size_toArray, List.length_cons, List.length_nil, Nat.reduceAdd] at * <;> try omega)
  | ((with_reducible refine Ok.cat ?_ (fun _ _ => ?_)) <;> try omega)
  | (apply Ok.iteb <;> intro _)
  | dsimp only
 all_goals omega
theorem expr_G : ∀ (d D : Nat) (ps : List ByteArray), d < D → d ≤ 5 → ps.length < 1000 → (∀ x ∈ ps, x.size ≤ 12) → 100 < N → ExprAt N l (qGj N D) d ps
 | _, 0, _, h, _, _, _, _ => absurd h (Nat.not_lt_zero _)
 | 0, D + 1, ps, _, _, h1, h2, hN => expr_leaf (E := qGj N D) rfl h1 h2 hN
 | d + 1, D + 1, ps, h, hd, h1, h2, hN => expr_step (expr_G d D ps (by omega) (by omega) h1 h2 hN) (by omega) h1 h2 hN
theorem Expr_at {d : Nat} {ps : List ByteArray} (hd : d ≤ 5) (h1 : ps.length < 1000) (h2 : ∀ x ∈ ps, x.size ≤ 12) (hN : 100 < N) : ExprAt N l (qFe N) d ps := expr_G d N ps (by omega) hd h1 h2 hN
theorem Ok.expr3 {β : Type} {Q : β → Prop} {ps : List ByteArray} {a : Int} {f : (List Int × Int) × ByteArray → Option β} (hN : 100 < N) (h0 : 0 ≤ a) (h1 : a + 10000 < 2000000000000000000) (hps : ps.length ≤ 2 ∧ ∀ x ∈ ps, x.size ≤ 12)
  (h : ∀ (a' : Int) (s : ByteArray), a ≤ a' → a' ≤ a + 10000 → s.size ≤ 854 → Ok (f ((l, a'), s)) Q) : Ok ((qFe N (l, a) 3 ps).bind f) Q :=
 Ok.expr (d := 3) (Expr_at (by omega) (by omega) hps.2 hN) h0 (by have : qMx 3 = 320 := rfl; have : qMx 2 = 104 := rfl; omega) fun a' s g1 g2 g3 => h a' s g1 (by have : qMx 3 = 320 := rfl; omega) (by have : sizeE 3 = 854 := rfl; omega)
theorem Ok.expr2 {β : Type} {Q : β → Prop} {ps : List ByteArray} {a : Int} {f : (List Int × Int) × ByteArray → Option β} (hN : 100 < N) (h0 : 0 ≤ a) (h1 : a + 10000 < 2000000000000000000) (hps : ps.length ≤ 2 ∧ ∀ x ∈ ps, x.size ≤ 12)
  (h : ∀ (a' : Int) (s : ByteArray), a ≤ a' → a' ≤ a + 10000 → s.size ≤ 854 → Ok (f ((l, a'), s)) Q) : Ok ((qFe N (l, a) 2 ps).bind f) Q :=
 Ok.expr (d := 2) (Expr_at (by omega) (by omega) hps.2 hN) h0 (by have : qMx 3 = 320 := rfl; have : qMx 2 = 104 := rfl; omega) fun a' s g1 g2 g3 => h a' s g1 (by have : qMx 2 = 104 := rfl; omega) (by have : sizeE 2 = 278 := rfl; omega)
set_option maxHeartbeats 8000000 in
theorem Decl_ok {a : Int} (hN : 100 < N) (h0 : 0 ≤ a) (h1 : a < 1000000000000000000) : Ok (qFg N (l, a)) fun y => ∃ a' s, y = ((l, a'), s) ∧ a ≤ a' ∧ a' ≤ a + 10010 ∧ s.size ≤ 890 := by
 simp only [qFg, qIe, qDh, qDr]
 repeat' first
  | with_reducible apply Ok.tt
  | with_reducible apply Ok.ff
  | with_reducible apply Ok.ttb
  | with_reducible apply Ok.ffb
  | with_reducible apply Ok.assoc
  | ((with_reducible apply Ok.iteb) <;> intro _)
  | ((with_reducible apply Ok.ite) <;> intro _)
  | with_reducible apply Ok.someb
  | with_reducible apply Ok.mapb
  | ((with_reducible refine Ok.mk ⟨_, _, rfl, ?_, ?_, ?_⟩) <;> omega)
  | ((with_reducible refine Ok.next ?_ ?_ ?_ ?_ (fun _ _ _ => ?_)) <;> try omega)
  | ((with_reducible refine Ok.chance ?_ ?_ ?_ ?_ (fun _ => ?_)) <;> try omega)
  | ((with_reducible refine Ok.expr3 hN ?_ ?_ ?_ (fun _ _ _ _ _ => ?_)) <;> first | omega | exact ⟨by decide, by decide⟩ | skip)
  | ((with_reducible refine Ok.expr2 hN ?_ ?_ ?_ (fun _ _ _ _ _ => ?_)) <;> first | omega | exact ⟨by decide, by decide⟩ | skip)
  | (with_reducible refine Ok.app (by simp) (by decide) ?_)
  | ((with_reducible refine Ok.pickS ?_ ?_ (by decide) (fun _ _ _ => ?_)) <;> try omega)
  | ((with_reducible refine Ok.oneS ?_ ?_ (by decide) (fun _ _ => ?_)) <;> try omega)
  | ((with_reducible refine Ok.digits ?_ ?_ hN (fun _ _ => ?_)) <;> try omega)
  | ((with_reducible refine Ok.cat ?_ (fun _ h => ?_)) <;> simp only [qMf, List.size_toArray, List.length_cons, List.length_nil, Nat.reduceAdd] at * <;> try omega)
  | ((with_reducible refine Ok.cat ?_ (fun _ _ => ?_)) <;> try omega)
  | (apply Ok.iteb <;> intro _)
  | dsimp only
 all_goals omega
theorem Has_ok {L : List ByteArray} {x : ByteArray} (hL : L.length < 1000000) (hN : L.length < N) : Ok (qFw N L x) fun _ => True := by
 unfold qFw
 refine Ok.loop (fun st => ∃ j : Nat, st = (j : Int) ∧ j ≤ L.length) (fun st => L.length - st.toNat) (fun _ => True) ?_ ⟨0, rfl, Nat.zero_le _⟩ (by show L.length - (0 : Int).toNat < N; omega) ?_
 ·rintro _ ⟨j, rfl, hj⟩
  simp only [qHs]
  by_cases h : j < L.length
  ·rw [if_pos (by simpa using h), qCe h]
   simp only [Option.bind_some]
   refine Ok.ite (fun _ => Ok.mk trivial) fun _ => Ok.mk ⟨⟨j + 1, by rw [wi64 (by omega) (by omega)]; omega, by omega⟩, ?_⟩
   rw [wi64 (by omega) (by omega)]; omega
  ·rw [if_neg (by simpa using h)]; exact Ok.mk trivial
 ·intro b _
  cases b <;> exact Ok.mk trivial
theorem Ok.has {β : Type} {Q : β → Prop} {L : List ByteArray} {x : ByteArray} {f : Bool → Option β} (hL : L.length < 1000000) (hN : L.length < N) (h : ∀ b, Ok (f b) Q) : Ok ((qFw N L x).bind f) Q := Ok.bind (Has_ok hL hN) fun b _ => h b
theorem Ok.decl {β : Type} {Q : β → Prop} {a : Int} {f : (List Int × Int) × ByteArray → Option β} (hN : 100 < N) (h0 : 0 ≤ a) (h1 : a < 1000000000000000000)
  (h : ∀ (a' : Int) (s : ByteArray), a ≤ a' → a' ≤ a + 10010 → s.size ≤ 890 → Ok (f ((l, a'), s)) Q) : Ok ((qFg N (l, a)).bind f) Q :=
 Ok.bind (Decl_ok hN h0 h1) fun y hy => by
  obtain ⟨a', s, rfl, g1, g2, g3⟩ := hy
  exact h a' s g1 g2 g3
theorem head_ok {β : Type} {Q : β → Prop} {y : (List Int × Int) × ByteArray} {f : ByteArray → Option β} (hs : y.2.size ≤ 890) (hN : 3000 < N) (h : ∀ s : ByteArray, Ok (f s) Q) : Ok ((qBf (qEy N y) N (y.2, 0)).bind f) Q := by
 refine Ok.loop (fun st => ∃ j : Nat, st.2 = (j : Int) ∧ j ≤ y.2.size) (fun st => y.2.size - st.2.toNat) (fun _ => True) ?_ ⟨0, rfl, Nat.zero_le _⟩ (by simp only; omega) (fun b _ => h b)
 rintro ⟨s, _⟩ ⟨j, rfl, hj⟩
 simp only [qEy]
 by_cases hlt : j < y.2.size
 ·rw [if_pos (by simpa using hlt), idxB_nat hlt]
  simp only [Option.bind_some]
  refine Ok.bind (P := fun _ => True) (Ok.ite (fun _ => Ok.mk trivial) fun _ => Ok.mk trivial) fun b _ => ?_
  refine Ok.ite (fun _ => ?_) fun _ => ?_
  ·rw [subB_some (by omega) (by omega) (by omega)]; exact Ok.mk trivial
  ·refine Ok.mk ⟨⟨j + 1, by simp only; rw [wi64 (by omega) (by omega)]; omega, by omega⟩, ?_⟩
   simp only; rw [wi64 (by omega) (by omega)]; omega
 ·rw [if_neg (by simpa using hlt)]; exact Ok.mk trivial
theorem Source_ok {a : Int} {pk : ByteArray} (hN : 3000 < N) (h0 : 0 ≤ a) (h1 : a < 100000000000000000) (hp : pk.size ≤ 12) : Ok (qDm N (l, a) pk) fun y => ∃ a' s, y = ((l, a'), s) ∧ a ≤ a' ∧ a' ≤ a + 100000 ∧ s.size ≤ 4700 := by
 simp only [qDm]
 refine Ok.cat (by simp only [qMf, List.size_toArray, List.length_cons, List.length_nil, Nat.reduceAdd]; omega) fun s1 e1 => ?_
 simp only [qMf, List.size_toArray, List.length_cons, List.length_nil, Nat.reduceAdd] at e1
 refine Ok.cat (by simp only [qMf, List.size_toArray, List.length_cons, List.length_nil, Nat.reduceAdd]; omega) fun s2 e2 => ?_
 simp only [qMf, List.size_toArray, List.length_cons, List.length_nil, Nat.reduceAdd] at e2
 refine Ok.chance h0 (by omega) (by omega) (by omega) fun c => ?_
 refine Ok.bind (P := fun s : ByteArray => s.size ≤ 60) (Ok.ite (fun _ => Ok.cat (by simp only [qMf, List.size_toArray, List.length_cons, List.length_nil, Nat.reduceAdd]; omega) fun s3 e3 => Ok.mk (by simp only [qMf, List.size_toArray, List.length_cons, List.length_nil, Nat.reduceAdd] at e3; omega)) fun _ => Ok.mk (by omega)) fun o1 e3 => ?_
 dsimp only
 refine Ok.next (by omega) (by omega) (by omega) (by omega) fun r g1 g2 => ?_
 dsimp only
 -- imports
 refine Ok.loop (fun st => ∃ s L n a', st = (s, L, n, l, a') ∧ 0 ≤ n ∧ n ≤ 2 ∧ (L.length : Int) + n ≤ 2 ∧ (s.size : Int) ≤ 60 + 30 * (2 - n) ∧ a ≤ a' ∧ a' ≤ a + 10 + (2 - n)) (fun st => st.2.2.1.toNat) (fun b => ∃ s a', b = (s, l, a') ∧ s.size ≤ 120 ∧ a ≤ a' ∧ a' ≤ a + 20) ?_ ⟨o1, [], r, a + 1 + 1, rfl, g1, by omega, by simp only [List.length_nil]; omega, by omega, by omega, by omega⟩ (by simp only; omega) ?_
 ·rintro _ ⟨s, L, n, a', rfl, k1, k2, k3, k4, k5, k6⟩
  simp only [qGp, qCs]
  by_cases hn : n > 0
  ·rw [if_pos (by simpa using hn)]
   refine Ok.assoc (Ok.someb ?_)
   refine Ok.assoc (Ok.oneS (by omega) (by omega) (by decide) fun x hx => ?_)
   dsimp only
   refine Ok.assoc (Ok.bind (P := fun _ => True) (Ok.ite (fun _ => Ok.has (by omega) (by omega) fun b => Ok.mk trivial) fun _ => Ok.mk trivial) fun o4 _ => ?_)
   refine Ok.iteb (fun _ => ?_) fun _ => ?_
   ·refine Ok.assoc (Ok.app (by simp only [List.length_cons, List.length_nil]; omega) (by decide) ?_)
    refine Ok.assoc (Ok.cat (by simp only [qMf, List.size_toArray, List.length_cons, List.length_nil, Nat.reduceAdd]; omega) fun t1 f1 => ?_)
    simp only [qMf, List.size_toArray, List.length_cons, List.length_nil, Nat.reduceAdd] at f1
    refine Ok.assoc (Ok.cat (by simp only [qMf, List.size_toArray, List.length_cons, List.length_nil, Nat.reduceAdd]; omega) fun t2 f2 => ?_)
    simp only [qMf, List.size_toArray, List.length_cons, List.length_nil, Nat.reduceAdd] at f2
    refine Ok.assoc (Ok.cat (by omega) fun t3 f3 => Ok.someb (Ok.mk ?_))
    dsimp only
    rw [wi64 (by omega) (by omega)]
    exact ⟨⟨t3, _, _, _, rfl, by omega, by omega, by simp only [List.length_append, List.length_cons, List.length_nil]; omega, by omega, by omega, by omega⟩, by omega⟩
   ·refine Ok.someb (Ok.mk ?_)
    dsimp only
    rw [wi64 (by omega) (by omega)]
    exact ⟨⟨s, _, _, _, rfl, by omega, by omega, by omega, by omega, by omega, by omega⟩, by omega⟩
  ·rw [if_neg (by simpa using hn)]
   exact Ok.mk ⟨s, a', rfl, by omega, k5, by omega⟩
 rintro _ ⟨s, b1, rfl, q1, q2, q3⟩
 dsimp only
 refine Ok.next (by omega) (by omega) (by omega) (by omega) fun r2 g3 g4 => ?_
 dsimp only
 -- declarations
 refine Ok.loop (fun st => ∃ s L n a', st = (s, L, n, l, a') ∧ 0 ≤ n ∧ n ≤ 5 ∧ (L.length : Int) + n ≤ 5 ∧ (s.size : Int) ≤ 120 + 890 * (5 - n) ∧ a ≤ a' ∧ a' ≤ a + 100 + 10020 * (5 - n)) (fun st => st.2.2.1.toNat) (fun b => ∃ s a', b = (s, l, a') ∧ s.size ≤ 4580 ∧ a ≤ a' ∧ a' ≤ a + 60000) ?_ ⟨s, [], _, b1 + 1, rfl, by rw [wi64 (by omega) (by omega)]; omega, by rw [wi64 (by omega) (by omega)]; omega, by rw [wi64 (by omega) (by omega)]; simp only [List.length_nil]; omega, by rw [wi64 (by omega) (by omega)]; omega, by omega, by rw [wi64 (by omega) (by omega)]; omega⟩ (by simp only; rw [wi64 (by omega) (by omega)]; omega) ?_
 ·rintro _ ⟨s, L, n, a', rfl, k1, k2, k3, k4, k5, k6⟩
  simp only [qGq]
  by_cases hn : n > 0
  ·rw [if_pos (by simpa using hn)]
   refine Ok.assoc (Ok.decl (by omega) (by omega) (by omega) fun a2 d v1 v2 v3 => ?_)
   refine Ok.assoc (head_ok (y := ((l, a2), d)) v3 hN fun hd => ?_)
   dsimp only
   refine Ok.assoc (Ok.bind (P := fun o : Bool × List Int × Int => o.2.1 = l ∧ a2 ≤ o.2.2 ∧ o.2.2 ≤ a2 + 1) (Ok.has (by omega) (by omega) fun b => Ok.ite (fun _ => Ok.mk ⟨rfl, by simp only; omega, by simp only; omega⟩) fun _ => Ok.chance (by omega) (by omega) (by omega) (by omega) fun c => Ok.mk ⟨rfl, by simp only; omega, by simp only; omega⟩) fun o9 h9 => ?_)
   obtain ⟨b9, l9, a9⟩ := o9
   obtain ⟨rfl, w1, w2⟩ := h9
   dsimp only at w1 w2 ⊢
   refine Ok.iteb (fun _ => ?_) fun _ => ?_
   ·refine Ok.assoc (Ok.app (by simp only [List.length_cons, List.length_nil]; omega) (by decide) ?_)
    refine Ok.assoc (Ok.cat (by omega) fun t3 f3 => Ok.someb (Ok.mk ?_))
    dsimp only
    rw [wi64 (by omega) (by omega)]
    exact ⟨⟨t3, _, _, _, rfl, by omega, by omega, by simp only [List.length_append, List.length_cons, List.length_nil]; omega, by omega, by omega, by omega⟩, by omega⟩
   ·refine Ok.someb (Ok.mk ?_)
    dsimp only
    rw [wi64 (by omega) (by omega)]
    exact ⟨⟨s, _, _, _, rfl, by omega, by omega, by omega, by omega, by omega, by omega⟩, by omega⟩
  ·rw [if_neg (by simpa using hn)]
   exact Ok.mk ⟨s, a', rfl, by omega, k5, by omega⟩
 rintro _ ⟨s, b2, rfl, u1, u2, u3⟩
 dsimp only
 refine Ok.chance (by omega) (by omega) (by omega) (by omega) fun c => ?_
 dsimp only
 refine Ok.iteb (fun _ => ?_) fun _ => ?_
 ·refine Ok.assoc (Ok.oneS (by omega) (by omega) (by decide) fun x hx => ?_)
  dsimp only
  refine Ok.assoc (Ok.cat (by omega) fun t f1 => Ok.someb (Ok.mk ?_))
  dsimp only
  refine ⟨_, _, rfl, ?_, ?_, ?_⟩ <;> omega
 ·refine Ok.someb (Ok.mk ?_)
  dsimp only
  refine ⟨_, _, rfl, ?_, ?_, ?_⟩ <;> omega
end
end Go.Proofs.YtgggihpbhmbjaaaGreatDoor
