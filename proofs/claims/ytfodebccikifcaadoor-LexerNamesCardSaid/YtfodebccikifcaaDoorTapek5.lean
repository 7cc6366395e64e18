/- The plain laws of the tape: what is drawn from it, and that the drawing ends. No condition but those of each theorem. -/
import Derived.Test.YtfodebccikifcaaDoorTConk5
import Derived.Test.YtfodebccikifcaaDoorPlain
namespace Go.Proofs.YtfodebccikifcaaDoor
open Go Go.Dc

/-! ### the tape -/
theorem fold_ok {N : Nat} {v n : Int} (hn : n ≤ 9223372036854775807) : ∃ r, testgatemake_Fold N v n = some r ∧ 0 ≤ r ∧ (1 ≤ n → r < n) := by
  simp only [testgatemake_Fold]
  by_cases h : n ≤ 1
  · exact ⟨0, by simp [h], by omega, by omega⟩
  · have hne : n ≠ 0 := by omega
    have h1 := Int.tmod_lt_of_pos v (show 0 < n by omega)
    have h2 := Int.lt_tmod_of_pos v (show 0 < n by omega)
    simp only [h, decide_false, Bool.false_eq_true, if_false, remS, hne, Option.bind_some]
    by_cases h3 : Int.tmod v n < 0
    · refine ⟨Int.tmod v n + n, ?_, by omega, by omega⟩
      simp only [h3, decide_true, if_true, Option.bind_some]
      rw [wi64 (by omega) (by omega)]
    · exact ⟨Int.tmod v n, by simp only [h3, decide_false, Bool.false_eq_true, if_false, Option.bind_some], by omega, by omega⟩

theorem next_ok {N : Nat} {l : List Int} {a n : Int} (h0 : 0 ≤ a) (h1 : a < 4611686018427387904) (hn : n ≤ 9223372036854775807) : ∃ r, testgatemake_Tape_Next N (l, a) n = some ((l, a + 1), r) ∧ 0 ≤ r ∧ (1 ≤ n → r < n) := by
  simp only [testgatemake_Tape_Next]
  have hv : ∃ v, (if (decide (a < (List.length l : Int))) = true then ((idx l a).bind fun x1 => some x1) else (some (Int.tmod (IntKind.wrap .i64 (a * 7)) 11)) : Option Int) = some v := by
    by_cases h : a < (l.length : Int)
    · exact ⟨_, by simp only [h, decide_true, if_true]; rw [idx_some h0 (by omega)]; rfl⟩
    · exact ⟨_, by simp only [h, decide_false, Bool.false_eq_true, if_false]; rfl⟩
  obtain ⟨v, hv⟩ := hv
  obtain ⟨r, hr, h2, h3⟩ := fold_ok (N := N) (v := v) hn
  exact ⟨r, by simp only [hv, Option.bind_some, hr]; rw [wi64 (by omega) (by omega)], h2, h3⟩

theorem text_ok {N : Nat} {l : List Int} {a n : Int} {abc : ByteArray} (h0 : 0 ≤ a) (h1 : a + n < 4611686018427387904) (hn0 : 0 ≤ n) (hn : n ≤ 1000000) (hs : 0 < abc.size) (hs2 : abc.size < 1000000) (hN : n < N) :
    ∃ s, testgatemake_Tape_Text N (l, a) n abc = some ((l, a + n), s) ∧ s.size = n.toNat := by
  have := loopM_ex (f := testgatemake_Tape_Text_L1 N n abc) (fun s => s.2.2.1 = l ∧ s.2.2.2 = a + s.2.1 ∧ 0 ≤ s.2.1 ∧ s.2.1 ≤ n ∧ s.1.length = s.2.1.toNat) (fun s => (n - s.2.1).toNat)
    (fun b => b.2.1 = l ∧ b.2.2 = a + n ∧ b.1.length = n.toNat) (by
      rintro ⟨out, i, l', a'⟩ ⟨h2, h3, h4, h5, h6⟩
      simp only at h2 h3 h4 h5 h6
      subst h2 h3
      by_cases hi : i < n
      · right
        obtain ⟨r, hr, hr0, hr1⟩ := next_ok (N := N) (l := l') (a := a + i) (n := (abc.size : Int)) (by omega) (by omega) (by omega)
        obtain ⟨q, rfl⟩ : ∃ q : Nat, r = q := ⟨r.toNat, by omega⟩
        have hq : q < abc.size := by have := hr1 (by omega); omega
        refine ⟨(out ++ [abc[q]], i + 1, l', a + i + 1), ?_, ⟨rfl, by simp only; omega, by simp only; omega, by simp only; omega, by simp; omega⟩, by simp only; omega⟩
        simp only [testgatemake_Tape_Text_L1, hi, decide_true, if_true, hr, Option.bind_some, idxB_nat hq]
        rw [appendS_some (by simp; omega) (by omega), wi64 (by omega) (by omega)]
        rfl
      · left
        refine ⟨(out, l', a + i), ?_, rfl, by simp only; omega, by simp only; omega⟩
        simp only [testgatemake_Tape_Text_L1, hi, decide_false, Bool.false_eq_true, if_false]) N ([], 0, l, a) ⟨rfl, by simp, by simp, by simpa using hn0, by simp⟩ (by simp; omega)
  obtain ⟨⟨o, l', a'⟩, h2, h3, h4, h5⟩ := this
  simp only at h3 h4 h5
  subst h3 h4
  exact ⟨strOf o, by simp only [testgatemake_Tape_Text, h2, Option.bind_some], by simpa [strOf, ByteArray.size] using h5⟩

end Go.Proofs.YtfodebccikifcaaDoor
