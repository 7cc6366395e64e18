/- The plain law of LexerWords. No condition. -/
import Derived.Test.YtfodebccikifcaaDoorLexWk6
namespace Go.Proofs.YtfodebccikifcaaDoor
open Go Go.Dc

theorem fold_okL {N : Nat} {v n : Int} (hn : n ≤ 9223372036854775807) : ∃ r, testgatemake_Fold N v n = some r ∧ 0 ≤ r ∧ (1 ≤ n → r < n) := by
  simp only [testgatemake_Fold]
  by_cases h : n ≤ 1
  · exact ⟨0, by simp [h], by omega, by omega⟩
  · have hne : n ≠ 0 := by omega
    have h1 := Int.tmod_lt_of_pos v (show 0 < n by omega)
    have h2 := Int.lt_tmod_of_pos v (show 0 < n by omega)
    simp only [h, decide_false, Bool.false_eq_true, if_false, remS, hne, Option.bind_some]
    by_cases h3 : Int.tmod v n < 0
    · refine ⟨Int.tmod v n + n, ?_, by omega, by omega⟩
      simp only [h3, decide_true, if_true, Option.bind_some]
      rw [wi64 (by omega) (by omega)]
    · exact ⟨Int.tmod v n, by simp only [h3, decide_false, Bool.false_eq_true, if_false, Option.bind_some], by omega, by omega⟩

theorem next_okL {N : Nat} {l : List Int} {a n : Int} (h0 : 0 ≤ a) (h1 : a < 4611686018427387904) (hn : n ≤ 9223372036854775807) : ∃ r, testgatemake_Tape_Next N (l, a) n = some ((l, a + 1), r) ∧ 0 ≤ r ∧ (1 ≤ n → r < n) := by
  simp only [testgatemake_Tape_Next]
  have hv : ∃ v, (if (decide (a < (List.length l : Int))) = true then ((idx l a).bind fun x1 => some x1) else (some (Int.tmod (IntKind.wrap .i64 (a * 7)) 11)) : Option Int) = some v := by
    by_cases h : a < (l.length : Int)
    · exact ⟨_, by simp only [h, decide_true, if_true]; rw [idx_some h0 (by omega)]; rfl⟩
    · exact ⟨_, by simp only [h, decide_false, Bool.false_eq_true, if_false]; rfl⟩
  obtain ⟨v, hv⟩ := hv
  obtain ⟨r, hr, h2, h3⟩ := fold_okL (N := N) (v := v) hn
  exact ⟨r, by simp only [hv, Option.bind_some, hr]; rw [wi64 (by omega) (by omega)], h2, h3⟩


theorem one_ok {N : Nat} {l : List Int} {a : Int} {L : List ByteArray} (hL : 0 < L.length) (hL2 : L.length < 1000) (h0 : 0 ≤ a) (h1 : a < 4611686018427387904) : ∃ x, x ∈ L ∧ testgatemake_Tape_One N (l, a) L = some ((l, a + 1), x) := by
  obtain ⟨r, hr, g1, g2⟩ := next_okL (N := N) (l := l) (a := a) (n := (L.length : Int)) h0 h1 (by omega)
  have g2 := g2 (by omega)
  have hlt : r.toNat < L.length := by omega
  refine ⟨L[r.toNat], List.getElem_mem hlt, ?_⟩
  simp only [testgatemake_Tape_One]
  rw [if_neg (by rw [beq_iff_eq]; omega), hr]
  simp only [Option.bind_some]
  rw [idx_some g1 hlt]
  rfl

def wordsL : List ByteArray := ([(⟨#[97]⟩ : ByteArray), (⟨#[98, 57, 95]⟩ : ByteArray), (⟨#[105, 102]⟩ : ByteArray), (⟨#[48]⟩ : ByteArray), (⟨#[48, 48, 55]⟩ : ByteArray), (⟨#[57, 48, 48, 55, 49, 57, 57, 50, 53, 52, 55, 52, 48, 57, 57, 50]⟩ : ByteArray), (⟨#[57, 48, 48, 55, 49, 57, 57, 50, 53, 52, 55, 52, 48, 57, 57, 51]⟩ : ByteArray), (⟨#[57, 57, 57, 57, 57, 57, 57, 57, 57, 57, 57, 57, 57, 57, 57, 57, 57, 57, 57, 57]⟩ : ByteArray), (⟨#[34, 97, 47, 98, 34]⟩ : ByteArray), (⟨#[34, 34]⟩ : ByteArray), (⟨#[34, 32, 120, 34]⟩ : ByteArray), (⟨#[59]⟩ : ByteArray), (⟨#[44]⟩ : ByteArray), (⟨#[40]⟩ : ByteArray), (⟨#[41]⟩ : ByteArray), (⟨#[43]⟩ : ByteArray), (⟨#[45]⟩ : ByteArray), (⟨#[42]⟩ : ByteArray), (⟨#[47]⟩ : ByteArray), (⟨#[37]⟩ : ByteArray), (⟨#[60]⟩ : ByteArray), (⟨#[61]⟩ : ByteArray), (⟨#[61, 61]⟩ : ByteArray), (⟨#[97, 98, 99, 100, 101, 102, 103, 104, 105, 106, 107, 108, 109, 110, 111, 112, 113, 114, 115, 116, 117, 118, 119, 120]⟩ : ByteArray), (⟨#[97, 98, 99, 100, 101, 102, 103, 104, 105, 106, 107, 108, 109, 110, 111, 112, 113, 114, 115, 116, 117, 118, 119, 120, 121]⟩ : ByteArray)])
def gapsL : List ByteArray := ([(⟨#[]⟩ : ByteArray), (⟨#[32]⟩ : ByteArray), (⟨#[32, 32]⟩ : ByteArray), (⟨#[10]⟩ : ByteArray), (⟨#[9, 13]⟩ : ByteArray), (⟨#[35, 32, 99, 10]⟩ : ByteArray), (⟨#[35]⟩ : ByteArray), (⟨#[11]⟩ : ByteArray)])
theorem words_def {N : Nat} {s1 : List (ByteArray) × Int × List (Int) × Int} : testgatelaw04_words_L1 N s1 =   if (decide (s1.2.1 > 0)) = true then ((testgatemake_Tape_One N (s1.2.2.1, s1.2.2.2) wordsL).bind fun y2 => (appendS 16 s1.1 ([y2.2])).bind fun l1 => some (.inl (l1, IntKind.wrap .i64 (s1.2.1 - 1), y2.1.1, y2.1.2))) else (some (.inr (s1.1, s1.2.2.1, s1.2.2.2))) := rfl
theorem gaps_def {N : Nat} {y1 : (List Int × Int) × List ByteArray} {s1 : ByteArray × Int × List (Int) × Int} : testgatelaw04_LexerWords_L1 N y1 s1 =   if (decide (s1.2.1 < (List.length y1.2 : Int))) = true then ((idx y1.2 s1.2.1).bind fun x1 => (testgatemake_Tape_One N (s1.2.2.1, s1.2.2.2) gapsL).bind fun y2 => (catB y2.2 x1).bind fun s2 => (catB s1.1 s2).bind fun s3 => some (.inl (s3, IntKind.wrap .i64 (s1.2.1 + 1), y2.1.1, y2.1.2))) else (some (.inr (s1.1, s1.2.2.1, s1.2.2.2))) := rfl
theorem wordsL_ok : ∀ x ∈ wordsL, x.size ≤ 25 := by
  have h : (wordsL.all fun x => decide (x.size ≤ 25)) = true := by kernel_rfl
  intro x hx
  simpa using List.all_eq_true.1 h x hx
theorem gapsL_ok : ∀ x ∈ gapsL, x.size ≤ 4 := by
  have h : (gapsL.all fun x => decide (x.size ≤ 4)) = true := by kernel_rfl
  intro x hx
  simpa using List.all_eq_true.1 h x hx

theorem words_ok {N : Nat} {l : List Int} (hN : 100 < N) : ∃ l' a W, testgatelaw04_words N (l, 0) = some ((l', a), W) ∧ 0 ≤ a ∧ a ≤ 100 ∧ W.length ≤ 14 ∧ ∀ x ∈ W, x.size ≤ 25 := by
  obtain ⟨r, hr, g1, g2⟩ := next_okL (N := N) (l := l) (a := 0) (n := 14) (by omega) (by omega) (by omega)
  have g2 := g2 (by omega)
  simp only [testgatelaw04_words, hr, Option.bind_some]
  obtain ⟨b, hb1, hb2⟩ := loopM_ex (f := testgatelaw04_words_L1 N) (fun st => 0 ≤ st.2.1 ∧ (st.1.length : Int) + st.2.1 ≤ 14 ∧ 0 ≤ st.2.2.2 ∧ st.2.2.2 + st.2.1 ≤ 50 ∧ ∀ x ∈ st.1, x.size ≤ 25) (fun st => st.2.1.toNat)
    (fun b => b.1.length ≤ 14 ∧ (∀ x ∈ b.1, x.size ≤ 25) ∧ 0 ≤ b.2.2 ∧ b.2.2 ≤ 100)
    (fun st ⟨h1, h2, h3, h4, h5⟩ => by
      obtain ⟨acc, i, l', a⟩ := st
      simp only at h1 h2 h3 h4 h5
      rw [words_def]
      by_cases hi : i > 0
      · right
        obtain ⟨x, hx, hx2⟩ := one_ok (N := N) (l := l') (a := a) (L := wordsL) (by decide) (by decide) h3 (by omega)
        rw [if_pos (by simpa using hi), hx2]
        simp only [Option.bind_some]
        rw [appendS_some (by simp only [List.length_cons, List.length_nil]; omega) (by omega)]
        refine ⟨_, rfl, ⟨?_, ?_, ?_, ?_, ?_⟩, ?_⟩
        · show 0 ≤ IntKind.wrap .i64 (i - 1); rw [wi64 (by omega) (by omega)]; omega
        · show ((acc ++ [x]).length : Int) + IntKind.wrap .i64 (i - 1) ≤ 14; rw [wi64 (by omega) (by omega)]; simp only [List.length_append, List.length_cons, List.length_nil]; omega
        · show 0 ≤ a + 1; omega
        · show a + 1 + IntKind.wrap .i64 (i - 1) ≤ 50; rw [wi64 (by omega) (by omega)]; omega
        · intro y hy
          rcases List.mem_append.1 hy with hy | hy
          · exact h5 y hy
          · obtain rfl := List.mem_singleton.1 hy; exact wordsL_ok y hx
        · show (IntKind.wrap .i64 (i - 1)).toNat < i.toNat; rw [wi64 (by omega) (by omega)]; omega
      · left
        rw [if_neg (by simpa using hi)]
        exact ⟨_, rfl, by simp only; omega, h5, h3, by simp only; omega⟩) N ([], r, l, 0 + 1) ⟨g1, by simp only [List.length_nil]; omega, by show (0 : Int) ≤ 0 + 1; omega, by show (0 : Int) + 1 + r ≤ 50; omega, by simp⟩ (by simp only; omega)
  obtain ⟨W, l', a⟩ := b
  rw [hb1]
  exact ⟨l', a, W, rfl, hb2.2.2.1, hb2.2.2.2, hb2.1, hb2.2.1⟩

theorem testgatelaw04_LexerWords_true (l : List Int) (_gl : l.length * 8 ≤ reachBytes ∧ ∀ x ∈ l, (Lit.int .i64 x).wf = true) : ∃ N, testgatelaw04_LexerWords N l = some true := by
  refine ⟨30000, ?_⟩
  obtain ⟨l', a, W, hW, h1, h2, h3, h4⟩ := words_ok (N := 30000) (l := l) (by omega)
  simp only [testgatelaw04_LexerWords, hW, Option.bind_some]
  obtain ⟨b, hb1, _⟩ := loopM_ex (f := testgatelaw04_LexerWords_L1 30000 ((l', a), W)) (fun st => ∃ j : Nat, st.2.1 = (j : Int) ∧ j ≤ W.length ∧ st.1.size ≤ 40 * j ∧ 0 ≤ st.2.2.2 ∧ st.2.2.2 ≤ 100 + j) (fun st => W.length - st.2.1.toNat) (fun _ => True)
    (fun st ⟨j, k1, k2, k3, k4, k5⟩ => by
      obtain ⟨s, j', q, c⟩ := st
      simp only at k1 k3 k4 k5
      subst k1
      rw [gaps_def]
      rcases Nat.lt_or_ge j W.length with hj | hj
      · right
        obtain ⟨x, hx, hx2⟩ := one_ok (N := 30000) (l := q) (a := c) (L := gapsL) (by decide) (by decide) k4 (by omega)
        have e1 := gapsL_ok x hx
        have e2 := h4 _ (List.getElem_mem hj)
        rw [if_pos (by simpa using hj), idx_nat hj]
        simp only [Option.bind_some, hx2, catB]
        rw [if_pos (by simp only [maxLen]; omega)]
        simp only [Option.bind_some, ByteArray.size_append]
        rw [if_pos (by simp only [maxLen]; omega), wi64 (by omega) (by omega)]
        refine ⟨_, rfl, ⟨j + 1, by simp, by omega, ?_, by simp only; omega, by simp only; omega⟩, ?_⟩
        · simp only [ByteArray.size_append]; omega
        · simp only; omega
      · left
        rw [if_neg (by simp only [decide_eq_true_eq]; omega)]
        exact ⟨_, rfl, trivial⟩) 30000 ((⟨#[]⟩ : ByteArray), 0, l', a) ⟨0, rfl, by omega, by simp [ByteArray.size], h1, by simp only; omega⟩ (by simp only; omega)
  rw [hb1]
  simp only [Option.bind_some, same_true _ (show 20000 < 30000 by omega), awake_eq (show 1000 < 30000 by omega)]
  rfl
end Go.Proofs.YtfodebccikifcaaDoor
