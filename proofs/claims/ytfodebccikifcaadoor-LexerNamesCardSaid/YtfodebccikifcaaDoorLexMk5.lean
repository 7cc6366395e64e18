/- The plain law of LexerNames. No condition. -/
import Derived.Test.YtfodebccikifcaaDoorLexVk5
import Derived.Test.YtfodebccikifcaaDoorLexZk5
import Derived.Test.YtfodebccikifcaaDoorTapek5
namespace Go.Proofs.YtfodebccikifcaaDoor
open Go Go.Dc

def tailsL : List ByteArray := ([(⟨#[47]⟩ : ByteArray), (⟨#[47]⟩ : ByteArray), (⟨#[]⟩ : ByteArray), (⟨#[47, 47]⟩ : ByteArray), (⟨#[65]⟩ : ByteArray)])
theorem names_def {N : Nat} {s1 : ByteArray × Int × List (Int) × Int} : testgatelaw04_LexerNames_L1 N s1 =   if (decide (s1.2.1 > 0)) = true then ((testgatemake_Tape_Next N (s1.2.2.1, s1.2.2.2) 26).bind fun y2 => (testgatemake_Tape_Text N (y2.1.1, y2.1.2) (IntKind.wrap .i64 (1 + y2.2)) (⟨#[97, 122, 48, 57, 95, 46]⟩ : ByteArray)).bind fun y3 => (testgatemake_Tape_One N (y3.1.1, y3.1.2) tailsL).bind fun y4 => (catB y3.2 y4.2).bind fun s2 => (catB s1.1 s2).bind fun s3 => some (.inl (s3, IntKind.wrap .i64 (s1.2.1 - 1), y4.1.1, y4.1.2))) else (some (.inr (s1.1, s1.2.2.1, s1.2.2.2))) := rfl
theorem tailsL_ok : ∀ x ∈ tailsL, x.size ≤ 2 := by
  have h : (tailsL.all fun x => decide (x.size ≤ 2)) = true := by kernel_rfl
  intro x hx
  simpa using List.all_eq_true.1 h x hx

theorem catB_ok {x y : ByteArray} (h1 : x.size < 1000000) (h2 : y.size < 1000000) : catB x y = some (x ++ y) := by
  unfold catB; rw [if_pos (by simp only [maxLen]; omega)]

theorem testgatelaw04_LexerNames_true (l : List Int) (_gl : l.length * 8 ≤ reachBytes ∧ ∀ x ∈ l, (Lit.int .i64 x).wf = true) (n : Int) (gn : (Lit.int .u8 n).wf = true) : ∃ N, testgatelaw04_LexerNames N l n = some true := by
  refine ⟨30000, ?_⟩
  have hb := bounds_u8 gn
  have ht : Int.tmod n 30 = n % 30 := Int.tmod_eq_emod_of_nonneg (by omega)
  obtain ⟨r, hr, g1, g2⟩ := next_okL (N := 30000) (l := l) (a := 0) (n := 12) (by omega) (by omega) (by omega)
  have g2 := g2 (by omega)
  simp only [testgatelaw04_LexerNames, hr, Option.bind_some]
  obtain ⟨b, hb1, hb2, hb3, hb4⟩ := loopM_ex (f := testgatelaw04_LexerNames_L1 30000) (fun st => 0 ≤ st.2.1 ∧ st.2.1 ≤ 12 ∧ (st.1.size : Int) + 60 * st.2.1 ≤ 720 ∧ 0 ≤ st.2.2.2 ∧ st.2.2.2 + 40 * st.2.1 ≤ 2000) (fun st => st.2.1.toNat)
    (fun b => b.1.size ≤ 720 ∧ 0 ≤ b.2.2 ∧ b.2.2 ≤ 2000)
    (fun st ⟨h1, h2, h3, h4, h5⟩ => by
      obtain ⟨s, i, l', a⟩ := st
      simp only at h1 h2 h3 h4 h5
      rw [names_def]
      by_cases hi : i > 0
      · right
        obtain ⟨q, hq, q1, q2⟩ := next_okL (N := 30000) (l := l') (a := a) (n := 26) h4 (by omega) (by omega)
        have q2 := q2 (by omega)
        have hz : (⟨#[97, 122, 48, 57, 95, 46]⟩ : ByteArray).size = 6 := rfl
        obtain ⟨y, hy1, hy2⟩ := text_ok (N := 30000) (l := l') (a := a + 1) (n := 1 + q) (abc := (⟨#[97, 122, 48, 57, 95, 46]⟩ : ByteArray)) (by omega) (by omega) (by omega) (by omega) (by omega) (by omega) (by omega)
        obtain ⟨x, hx, hx2⟩ := one_ok (N := 30000) (l := l') (a := a + 1 + (1 + q)) (L := tailsL) (by decide) (by decide) (by omega) (by omega)
        have e1 := tailsL_ok x hx
        rw [if_pos (by simpa using hi), hq]
        simp only [Option.bind_some]
        rw [wi64 (x := 1 + q) (by omega) (by omega), hy1]
        simp only [Option.bind_some]
        rw [hx2]
        simp only [Option.bind_some]
        rw [catB_ok (by omega) (by omega)]
        simp only [Option.bind_some]
        rw [catB_ok (by omega) (by rw [ByteArray.size_append]; omega), wi64 (by omega) (by omega)]
        refine ⟨_, rfl, ⟨by simp only; omega, by simp only; omega, ?_, by simp only; omega, by simp only; omega⟩, by simp only; omega⟩
        simp only [ByteArray.size_append]
        omega
      · left
        rw [if_neg (by simpa using hi)]
        exact ⟨_, rfl, by simp only; omega, h4, by simp only; omega⟩) 30000 ((⟨#[]⟩ : ByteArray), r, l, 0 + 1) ⟨g1, by simp only; omega, by show ((0 : Nat) : Int) + 60 * r ≤ 720; omega, by show (0 : Int) ≤ 0 + 1; omega, by show (0 : Int) + 1 + 40 * r ≤ 2000; omega⟩ (by simp only; omega)
  obtain ⟨s, l', a⟩ := b
  simp only at hb2 hb3 hb4
  obtain ⟨q, hq, q1, q2⟩ := next_okL (N := 30000) (l := l') (a := a) (n := 3) hb3 (by omega) (by omega)
  have q2 := q2 (by omega)
  have hz : (⟨#[97, 98]⟩ : ByteArray).size = 2 := rfl
  have hz2 : (⟨#[97, 122, 48, 57, 95]⟩ : ByteArray).size = 5 := rfl
  obtain ⟨y, hy1, hy2⟩ := text_ok (N := 30000) (l := l') (a := a + 1) (n := q) (abc := (⟨#[97, 98]⟩ : ByteArray)) (by omega) (by omega) (by omega) (by omega) (by omega) (by omega) (by omega)
  obtain ⟨u, hu1, hu2⟩ := text_ok (N := 30000) (l := l') (a := a + 1 + q) (n := n % 30) (abc := (⟨#[97, 122, 48, 57, 95]⟩ : ByteArray)) (by omega) (by omega) (by omega) (by omega) (by omega) (by omega) (by omega)
  rw [hb1]
  simp only [Option.bind_some, hq, hy1]
  rw [catB_ok (by omega) (by omega), ht, wi64 (by omega) (by omega)]
  simp only [Option.bind_some, hu1, Name_eq (show 100 < 30000 by omega), refName_eq (show 100 < 30000 by omega), beq_self_eq_true, if_true,
    Path_eq (s := s ++ y) (by rw [ByteArray.size_append]; omega) (show 20000 < 30000 by omega), Path_eq (s := u) (by omega) (show 20000 < 30000 by omega), refPath_eq (show 100 < 30000 by omega), awake_eq (show 1000 < 30000 by omega)]
end Go.Proofs.YtfodebccikifcaaDoor
