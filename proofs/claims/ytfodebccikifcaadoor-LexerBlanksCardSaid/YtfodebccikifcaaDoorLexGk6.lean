/- All tokens of a text, as a function. No condition. -/
import Derived.Test.YtfodebccikifcaaDoorLexTk6
namespace Go.Proofs.YtfodebccikifcaaDoor
open Go Go.Dc

abbrev Tok := Int × ByteArray × Int × Int
theorem inK_mono {ks : List Int} {k : Int} {c : UInt8} (hk : k ∈ ks) (h : kd c = k) : inK ks c = true := by
  unfold inK; exact List.any_eq_true.2 ⟨k, hk, by simp [h]⟩
theorem tw_pos {p : UInt8 → Bool} {l : List UInt8} {a : Nat} (h : a < l.length) (hp : p l[a] = true) : a < tw p l a := by
  rw [← tw_step h hp]; have := (tw_le (p := p) (l := l) (a := a + 1) (by omega)).1; omega
theorem getD_pos {l : List UInt8} {i : Nat} (h : l.getD i 0 ≠ 0) : i < l.length := by
  rcases Nat.lt_or_ge i l.length with h' | h'
  · exact h'
  · exfalso; apply h; rw [List.getD_eq_getElem?_getD, List.getElem?_eq_none h']; rfl

/-- What a token is. -/
theorem tokP_ok {s : ByteArray} {i : Nat} (hi : i < s.data.toList.length) (h : (tokP s i).2.2 = 0) : ∃ e : Nat, (tokP s i).2.1 = (e : Int) ∧ i < e ∧ e ≤ s.data.toList.length ∧
    (((tokP s i).1.1 = 1 ∨ (tokP s i).1.1 = 4) ∧ (tokP s i).1.2.1 = s.extract i e ∨ (tokP s i).1.1 = 2 ∧ (tokP s i).1.2.1 = ⟨#[]⟩ ∨ (tokP s i).1.1 = 3 ∧ (tokP s i).1.2.1.size + i < e) := by
  have hs := size_list' s
  unfold tokP at h ⊢
  rw [getD_in hi] at h ⊢
  by_cases h1 : kd (s.data.toList[i]) = 1
  · rw [if_pos h1] at h ⊢
    split at h
    · cases h
    · rename_i h24
      rw [if_neg h24]
      have hb := tw_le (p := inK [1, 2, 3]) (l := s.data.toList) (a := i) (by omega)
      exact ⟨_, rfl, tw_pos hi (inK_mono (by simp) h1), hb.2, .inl ⟨.inl rfl, rfl⟩⟩
  rw [if_neg h1] at h ⊢
  by_cases h2 : kd (s.data.toList[i]) = 2
  · rw [if_pos h2] at h ⊢
    split at h
    · cases h
    · rename_i h24
      rw [if_neg h24]
      have hb := tw_le (p := inK [2]) (l := s.data.toList) (a := i) (by omega)
      exact ⟨_, rfl, tw_pos hi (inK_mono (by simp) h2), hb.2, .inr (.inl ⟨rfl, rfl⟩)⟩
  rw [if_neg h2] at h ⊢
  by_cases h7 : kd (s.data.toList[i]) = 7
  · rw [if_pos h7] at h ⊢
    split at h
    · rename_i h24
      rw [if_pos h24]
      have hb := tw_le (p := isTxt) (l := s.data.toList) (a := i + 1) (by omega)
      have hlt : tw isTxt s.data.toList (i + 1) < s.data.toList.length := getD_pos (by rw [h24]; decide)
      refine ⟨_, rfl, by omega, by omega, .inr (.inr ⟨rfl, ?_⟩)⟩
      simp only [ByteArray.size_extract]
      omega
    · cases h
  rw [if_neg h7] at h ⊢
  by_cases h8 : kd (s.data.toList[i]) = 8
  · rw [if_pos h8] at h ⊢
    refine ⟨_, rfl, ?_, ?_, .inl ⟨.inr rfl, rfl⟩⟩
    · unfold signE; split <;> omega
    · unfold signE
      split
      · rename_i hh
        have : i + 1 < s.data.toList.length := getD_pos (by rw [hh.2]; decide)
        omega
      · omega
  rw [if_neg h8] at h
  cases h

def notNl (c : UInt8) : Bool := c != 10
def tokG : Nat → ByteArray → Nat → (Int × Int) ⊕ List Tok
  | 0, _, _ => .inr []
  | k + 1, s, i =>
    if tw (inK [5]) s.data.toList i = s.data.toList.length then .inr [(5, ⟨#[]⟩, 0, (s.data.toList.length : Int))]
    else if kd (s.data.toList.getD (tw (inK [5]) s.data.toList i) 0) = 6 then tokG k s (tw notNl s.data.toList (tw (inK [5]) s.data.toList i))
    else if (tokP s (tw (inK [5]) s.data.toList i)).2.2 ≠ 0 then .inl ((tw (inK [5]) s.data.toList i : Nat), (tokP s (tw (inK [5]) s.data.toList i)).2.2)
    else match tokG k s (tokP s (tw (inK [5]) s.data.toList i)).2.1.toNat with
      | .inl x => .inl x
      | .inr r => .inr (((tokP s (tw (inK [5]) s.data.toList i)).1.1, (tokP s (tw (inK [5]) s.data.toList i)).1.2.1, (tokP s (tw (inK [5]) s.data.toList i)).1.2.2.1, ((tw (inK [5]) s.data.toList i : Nat) : Int)) :: r)
def joinG (acc : List Tok) : (Int × Int) ⊕ List Tok → List Tok × Int × Int
  | .inl x => ([], x.1, x.2)
  | .inr r => (acc ++ r, 0, 0)
def tokensP (s : ByteArray) : List Tok × Int × Int := if s.data.toList.length > 16384 then ([], 0, 2) else joinG [] (tokG (s.data.toList.length + 1) s 0)

/-- Where a line ends. -/
theorem line_eq {s : ByteArray} {i : Nat} (hi : i ≤ s.data.toList.length) :
    (if ixB (s.extract i s.data.toList.length) 10 < 0 then ((s.data.toList.length - i : Nat) : Int) else ixB (s.extract i s.data.toList.length) 10) = ((tw notNl s.data.toList i - i : Nat) : Int) := by
  have hs := size_list' s
  have hsz : (s.extract i s.data.toList.length).size = s.data.toList.length - i := by rw [ByteArray.size_extract]; omega
  have hb := tw_le (p := notNl) (l := s.data.toList) (a := i) hi
  have hget : ∀ j, j < s.data.toList.length - i → (s.extract i s.data.toList.length)[j]! = s.data.toList.getD (i + j) 0 := by
    intro j hj
    have hj' : i + j < s.data.toList.length := by omega
    rw [getD_in hj', getElem!_pos _ _ (by rw [hsz]; exact hj), ByteArray.getElem_extract]
    simp [ByteArray.getElem_eq_getElem_data]
  have hin : ∀ d a, a + d = s.data.toList.length → ∀ j, a ≤ j → j < tw notNl s.data.toList a → s.data.toList.getD j 0 ≠ 10 := by
    intro d
    induction d with
    | zero => intro a ha j h1 h2; rw [tw_out (by omega)] at h2; omega
    | succ d ih =>
      intro a ha j h1 h2
      have hlt : a < s.data.toList.length := by omega
      cases hc : notNl (s.data.toList[a]) with
      | true =>
        rw [← tw_step hlt hc] at h2
        rcases Nat.eq_or_lt_of_le h1 with rfl | h1
        · rw [getD_in hlt]; simpa [notNl] using hc
        · exact ih (a + 1) (by omega) j h1 h2
      | false => rw [tw_stop hlt hc] at h2; omega
  have hin := hin (s.data.toList.length - i) i (by omega)
  unfold ixB
  rw [hsz]
  cases hf : (List.range (s.data.toList.length - i)).find? (fun j => (s.extract i s.data.toList.length)[j]! == (10 : Int).toNat.toUInt8) with
  | none =>
    rw [List.find?_eq_none] at hf
    simp only
    rw [if_pos (by omega)]
    have : ¬ tw notNl s.data.toList i < s.data.toList.length := by
      intro hlt
      have h1 := tw_end (p := notNl) (l := s.data.toList) (s.data.toList.length - i) i (by omega) hlt
      have h2 := hf (tw notNl s.data.toList i - i) (List.mem_range.2 (by omega))
      rw [hget _ (by omega), show i + (tw notNl s.data.toList i - i) = tw notNl s.data.toList i by omega, getD_in hlt] at h2
      simp only [notNl, bne_eq_false_iff_eq] at h1
      rw [h1] at h2
      exact h2 (by decide)
    omega
  | some k =>
    have h1 := List.find?_some hf
    have hk : k < s.data.toList.length - i := List.mem_range.1 (List.mem_of_find?_eq_some hf)
    simp only
    rw [if_neg (by omega)]
    rw [hget k hk] at h1
    have h1 : s.data.toList.getD (i + k) 0 = 10 := by simpa using h1
    have h2 : ¬ i + k < tw notNl s.data.toList i := fun h => hin (i + k) (by omega) h h1
    have h3 : ¬ tw notNl s.data.toList i < i + k := by
      intro hlt
      have hlt' : tw notNl s.data.toList i < s.data.toList.length := by omega
      have h4 := tw_end (p := notNl) (l := s.data.toList) (s.data.toList.length - i) i (by omega) hlt'
      have h5 := List.not_of_lt_findIdx (xs := List.range (s.data.toList.length - i)) (p := fun j => (s.extract i s.data.toList.length)[j]! == (10 : Int).toNat.toUInt8) (i := tw notNl s.data.toList i - i)
      have h6 := (List.find?_range_eq_some.1 hf).2.2 (tw notNl s.data.toList i - i) (by omega)
      rw [hget _ (by omega), show i + (tw notNl s.data.toList i - i) = tw notNl s.data.toList i by omega, getD_in hlt'] at h6
      simp only [notNl, bne_eq_false_iff_eq] at h4
      rw [h4] at h6
      simp at h6
    omega
end Go.Proofs.YtfodebccikifcaaDoor
