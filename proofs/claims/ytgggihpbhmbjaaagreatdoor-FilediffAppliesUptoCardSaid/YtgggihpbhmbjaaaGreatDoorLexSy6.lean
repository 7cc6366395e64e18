/- The lexer's spans, tokens. No condition. -/
import Derived.Test.YtgggihpbhmbjaaaGreatDoorLexKy6
namespace Go.Proofs.YtgggihpbhmbjaaaGreatDoor
open Go Go.Dc
theorem qGu (s : ByteArray) : s.data.toList.length = s.size := by simp
theorem idxB_list {s : ByteArray} {i : Nat} (h : i < s.data.toList.length) : idxB s (i : Int) = some (s.data.toList[i]) := by
 have h' : i < s.size := by simpa using h
 rw [idxB_nat h']
 simp [ByteArray.getElem_eq_getElem_data]
def tw (p : UInt8 → Bool) (l : List UInt8) (a : Nat) : Nat := a + ((l.drop a).takeWhile p).length
section
variable {p : UInt8 → Bool} {l : List UInt8} {a : Nat}
theorem tw_step (h : a < l.length) (hb : p l[a] = true) : tw p l (a + 1) = tw p l a := by
 unfold tw
 rw [List.drop_eq_getElem_cons h, List.takeWhile_cons_of_pos hb]
 simp only [List.length_cons]; omega
theorem tw_stop (h : a < l.length) (hb : p l[a] = false) : tw p l a = a := by
 unfold tw
 rw [List.drop_eq_getElem_cons h, List.takeWhile_cons_of_neg (by simp [hb])]
 simp
theorem tw_out (h : l.length ≤ a) : tw p l a = a := by
 unfold tw
 rw [List.drop_eq_nil_of_le h]; rfl
theorem tw_loop {β : Type} {f : Int → Option (Int ⊕ β)} (out : Nat → β) (go : ∀ i : Nat, ∀ h : i < l.length, p l[i] = true → f (i : Int) = some (.inl ((i : Int) + 1)))
  (no : ∀ i : Nat, ∀ h : i < l.length, p l[i] = false → f (i : Int) = some (.inr (out i))) (en : f (l.length : Int) = some (.inr (out l.length))) :
  ∀ (d a N : Nat), a + d = l.length → d < N → qBf f N (a : Int) = some (out (tw p l a))
 | d, a, 0, _, h => by omega
 | 0, a, N + 1, hd, h => by
  have : a = l.length := by omega
  subst this
  rw [tw_out (Nat.le_refl _)]; simp [qBf, en]
 | d + 1, a, N + 1, hd, h => by
  have ha : a < l.length := by omega
  cases hb : p l[a] with
  | true =>
   have := tw_loop out go no en d (a + 1) N (by omega) (by omega)
   rw [tw_step ha hb] at this
   simpa [qBf, go a ha hb] using this
  | false =>
   rw [tw_stop ha hb]; simp [qBf, no a ha hb]
end
def kd (c : UInt8) : Int := kdI (c.toNat : Int)
def inK (ks : List Int) (c : UInt8) : Bool := ks.any fun k => kd c == k
theorem span_L2_eq {N : Nat} {s : ByteArray} {ks : List Int} {i : Nat} (h : i < s.data.toList.length) (hk : ks.length ≤ 10) (hN : 10 < N) : qBf (qHv N s (some kdL) ks (i : Int)) N (false, 0) = some (inK ks (s.data.toList[i])) := by
 have key := loopM_st (f := qHv N s (some kdL) ks (i : Int)) (fun j => ((ks.take j).any (fun k => kd (s.data.toList[i]) == k), (j : Int))) ks.length (inK ks (s.data.toList[i])) (fun j hj => ?_) ?_ (N := N) (by omega)
 ·simpa using key
 ·simp only [qHv]
  rw [if_pos (by simpa using hj), qCe hj, idxB_list h]
  simp only [Option.bind_some]
  rw [wi64 (by omega) (by omega), List.take_succ_eq_append_getElem hj, List.any_append]
  cases (ks.take j).any (fun k => kd (s.data.toList[i]) == k)
  ·simp [kd, kdI, qDj]
  ·simp
 ·simp only [qHv]
  rw [if_neg (by simp), List.take_length]
  rfl
theorem span_eq {N : Nat} {s : ByteArray} {ks : List Int} {i : Nat} (hi : i ≤ s.data.toList.length) (hl : s.data.toList.length < 1000000) (hk : ks.length ≤ 10) (hN : s.data.toList.length + 10 < N) :
  qLf N s (i : Int) (some kdL) ks = some ((tw (inK ks) s.data.toList i : Nat) : Int) := by
 have hs := qGu s
 have key := tw_loop (f := qHw N s (some kdL) ks) (l := s.data.toList) (p := inK ks) (fun n => (n : Int)) (fun j hj hb => by
   simp only [qHw]
   rw [if_pos (by simp only [decide_eq_true_eq]; omega), span_L2_eq hj hk (by omega), hb]
   simp only [Option.bind_some]
   rw [wi64 (by omega) (by omega)]
   rfl) (fun j hj hb => by
   simp only [qHw]
   rw [if_pos (by simp only [decide_eq_true_eq]; omega), span_L2_eq hj hk (by omega), hb]
   rfl) (by
   simp only [qHw]
   rw [if_neg (by simp only [decide_eq_true_eq]; omega)]) (s.data.toList.length - i) i N (by omega) (by omega)
 unfold qLf
 rw [key]
 rfl
end Go.Proofs.YtgggihpbhmbjaaaGreatDoor
