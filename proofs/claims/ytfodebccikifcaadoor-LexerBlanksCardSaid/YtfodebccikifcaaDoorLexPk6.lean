/- Tokens as a function; the plain law of LexerPlaces. No condition. -/
import Derived.Test.YtfodebccikifcaaDoorLexGk6
import Derived.Test.YtfodebccikifcaaDoorLexLk6
namespace Go.Proofs.YtfodebccikifcaaDoor
open Go Go.Dc

theorem tokens_loop {N : Nat} {s : ByteArray} (hl : s.data.toList.length ≤ 16384) (hN : s.data.toList.length + 40 < N) : ∀ (k M i : Nat) (acc : List Tok), i ≤ s.data.toList.length → s.data.toList.length < i + k → k ≤ M → acc.length ≤ i →
    loopM (lexer_Tokens_L1 N s (some kdL)) M (acc, (i : Int)) = some (joinG acc (tokG k s i))
  | 0, _, i, _, h1, h2, _, _ => by omega
  | k + 1, 0, _, _, _, _, h3, _ => by omega
  | k + 1, M + 1, i, acc, h1, h2, h3, h4 => by
    have hs := size_list' s
    have hb := tw_le (p := inK [5]) (l := s.data.toList) (a := i) h1
    simp only [loopM, tokG]
    have hstep : lexer_Tokens_L1 N s (some kdL) (acc, (i : Int)) = if tw (inK [5]) s.data.toList i = s.data.toList.length then some (.inr (acc ++ [(5, ⟨#[]⟩, 0, (s.data.toList.length : Int))], 0, 0))
        else if kd (s.data.toList.getD (tw (inK [5]) s.data.toList i) 0) = 6 then some (.inl (acc, ((tw notNl s.data.toList (tw (inK [5]) s.data.toList i) : Nat) : Int)))
        else if (tokP s (tw (inK [5]) s.data.toList i)).2.2 ≠ 0 then some (.inr ([], (tw (inK [5]) s.data.toList i : Nat), (tokP s (tw (inK [5]) s.data.toList i)).2.2))
        else some (.inl (acc ++ [((tokP s (tw (inK [5]) s.data.toList i)).1.1, (tokP s (tw (inK [5]) s.data.toList i)).1.2.1, (tokP s (tw (inK [5]) s.data.toList i)).1.2.2.1, ((tw (inK [5]) s.data.toList i : Nat) : Int))], (tokP s (tw (inK [5]) s.data.toList i)).2.1)) := by
      simp only [lexer_Tokens_L1]
      rw [span_eq h1 (by omega) (by simp) (by omega)]
      simp only [Option.bind_some]
      generalize hE : tw (inK [5]) s.data.toList i = e at hb ⊢
      by_cases he : e = s.data.toList.length
      · rw [if_pos he, if_pos (by rw [beq_iff_eq]; omega), appendS_some (by simp only [List.length_cons, List.length_nil]; omega) (by omega), he]
        rfl
      · have hlt : e < s.data.toList.length := by omega
        rw [if_neg he, if_neg (by rw [beq_iff_eq]; omega), idxB_list hlt]
        simp only [Option.bind_some, kd_def, beq_iff_eq, getD_in hlt]
        by_cases h6 : kd (s.data.toList[e]) = 6
        · rw [if_pos h6, if_pos h6, sub_list' (by omega)]
          have hle := line_eq (s := s) (i := e) (by omega)
          have hb2 := tw_le (p := notNl) (l := s.data.toList) (a := e) (by omega)
          have hx : (if (decide (ixB (s.extract e s.data.toList.length) 10 < 0)) = true then (some (IntKind.wrap .i64 ((ByteArray.size s : Int) - (e : Int)))) else (some (ixB (s.extract e s.data.toList.length) 10)) : Option Int) = some ((tw notNl s.data.toList e - e : Nat) : Int) := by
            rw [← hle, wi64 (by omega) (by omega)]
            by_cases hi : ixB (s.extract e s.data.toList.length) 10 < 0
            · rw [if_pos (by simpa using hi), if_pos hi]; congr 1; omega
            · rw [if_neg (by simpa using hi), if_neg hi]
          simp only [Option.bind_some, strings_IndexByte, internal_stringslite_IndexByte]
          rw [hx]
          simp only [Option.bind_some]
          rw [wi64 (by omega) (by omega)]
          congr 3; omega
        · rw [if_neg h6, if_neg h6, token_eq hlt (by omega) (by omega)]
          simp only [Option.bind_some, bne_iff_ne]
          by_cases h0 : (tokP s e).2.2 ≠ 0
          · rw [if_pos h0, if_pos h0]
          · rw [if_neg h0, if_neg h0, appendS_some (by simp only [List.length_cons, List.length_nil]; omega) (by omega)]
            rfl
    rw [hstep]
    by_cases he : tw (inK [5]) s.data.toList i = s.data.toList.length
    · rw [if_pos he, if_pos he]; rfl
    rw [if_neg he, if_neg he]
    have hlt : tw (inK [5]) s.data.toList i < s.data.toList.length := by omega
    by_cases h6 : kd (s.data.toList.getD (tw (inK [5]) s.data.toList i) 0) = 6
    · rw [if_pos h6, if_pos h6]
      have hb2 := tw_le (p := notNl) (l := s.data.toList) (a := tw (inK [5]) s.data.toList i) (by omega)
      have hpos := tw_pos (p := notNl) hlt (by
        rw [getD_in hlt] at h6
        simp only [notNl, bne_iff_ne, ne_eq]
        intro e; rw [e] at h6; exact absurd h6 (by decide))
      exact tokens_loop hl hN k M _ acc hb2.2 (by omega) (by omega) (by omega)
    rw [if_neg h6, if_neg h6]
    by_cases h0 : (tokP s (tw (inK [5]) s.data.toList i)).2.2 ≠ 0
    · rw [if_pos h0, if_pos h0]; rfl
    rw [if_neg h0, if_neg h0]
    obtain ⟨e, he1, he2, he3, _⟩ := tokP_ok hlt (by simpa using h0)
    rw [he1]
    simp only [Option.bind_some, Int.toNat_natCast]
    rw [tokens_loop hl hN k M e _ he3 (by omega) (by omega) (by simp; omega)]
    cases tokG k s e with
    | inl x => rfl
    | inr r => simp [joinG]

theorem Tokens_eq {N : Nat} {s : ByteArray} (hN : 20000 < N) : lexer_Tokens N s = some (tokensP s) := by
  have hs := size_list' s
  unfold lexer_Tokens tokensP
  by_cases h : s.data.toList.length > 16384
  · rw [if_pos (by simp only [decide_eq_true_eq]; omega), if_pos h]
  · rw [if_neg (by simp only [decide_eq_true_eq]; omega), if_neg h, kinds_eq (by omega)]
    have := tokens_loop (N := N) (s := s) (by omega) (by omega) (s.data.toList.length + 1) N 0 [] (by omega) (by omega) (by omega) (by simp)
    simp only [Option.bind_some]
    rw [show ((0 : Nat) : Int) = 0 from rfl] at this
    rw [this]
    rfl

/-! ### the places -/
def endT (t : Tok) : Int := t.2.2.2 + (t.2.1.size : Int) + (if t.1 = 2 then 1 else 0)
def chain (s : ByteArray) : Int → List Tok → Prop
  | _, [] => True
  | e, t :: r => e ≤ t.2.2.2 ∧ t.2.2.2 + (t.2.1.size : Int) ≤ s.size ∧ (t.1 = 5 ↔ r = []) ∧ (t.1 = 1 ∨ t.1 = 4 → s.extract t.2.2.2.toNat (t.2.2.2 + (t.2.1.size : Int)).toNat = t.2.1 ∧ 0 < t.2.1.size) ∧ chain s (endT t) r

theorem tokG_chain {s : ByteArray} : ∀ (k i : Nat) (e : Int) (r : List Tok), i ≤ s.data.toList.length → s.data.toList.length < i + k → e ≤ i → tokG k s i = .inr r → chain s e r ∧ r ≠ [] ∧ r.length ≤ s.data.toList.length + 1 - i
  | 0, i, e, r, h1, h2, h3, h4 => by omega
  | k + 1, i, e, r, h1, h2, h3, h4 => by
    have hs := size_list' s
    have hb := tw_le (p := inK [5]) (l := s.data.toList) (a := i) h1
    simp only [tokG] at h4
    generalize hE : tw (inK [5]) s.data.toList i = a at hb h4
    split at h4
    · obtain rfl := (Sum.inr.inj h4).symm
      refine ⟨⟨by show e ≤ (s.data.toList.length : Int); omega, by show (s.data.toList.length : Int) + ((0 : Nat) : Int) ≤ _; omega, by simp, fun h => by simp at h, trivial⟩, by simp, by simp; omega⟩
    · rename_i he
      have hlt : a < s.data.toList.length := by omega
      split at h4
      · rename_i h6
        have hb2 := tw_le (p := notNl) (l := s.data.toList) (a := a) (by omega)
        have hpos := tw_pos (p := notNl) hlt (by
          rw [getD_in hlt] at h6
          simp only [notNl, bne_iff_ne, ne_eq]
          intro e; rw [e] at h6; exact absurd h6 (by decide))
        obtain ⟨g1, g2, g3⟩ := tokG_chain k _ e r hb2.2 (by omega) (by omega) h4
        exact ⟨g1, g2, by omega⟩
      · split at h4
        · cases h4
        · rename_i h0
          obtain ⟨b, hb1, hb2, hb3, hk⟩ := tokP_ok hlt (by simpa using h0)
          rw [hb1, Int.toNat_natCast] at h4
          generalize (tokP s a).1 = t at h4 hk
          cases hG : tokG k s b with
          | inl x => rw [hG] at h4; cases h4
          | inr q =>
            rw [hG] at h4
            obtain rfl := (Sum.inr.inj h4).symm
            have hext : (s.extract a b).size = b - a := by rw [ByteArray.size_extract]; omega
            have hend : endT (t.1, t.2.1, t.2.2.1, (a : Int)) ≤ b ∧ (a : Int) + (t.2.1.size : Int) ≤ b ∧ t.1 ≠ 5 ∧ (t.1 = 1 ∨ t.1 = 4 → t.2.1 = s.extract a b) := by
              rcases hk with ⟨hk1, hk2⟩ | ⟨hk1, hk2⟩ | ⟨hk1, hk2⟩
              · refine ⟨?_, ?_, by omega, fun _ => hk2⟩
                · simp only [endT, hk2, hext]; rw [if_neg (by omega)]; omega
                · rw [hk2, hext]; omega
              · have : (⟨#[]⟩ : ByteArray).size = 0 := rfl
                refine ⟨?_, ?_, by omega, fun h => by omega⟩
                · simp only [endT, hk2, this]; rw [if_pos hk1]; omega
                · rw [hk2, this]; omega
              · refine ⟨?_, by omega, by omega, fun h => by omega⟩
                simp only [endT]; rw [if_neg (by omega)]; omega
            obtain ⟨g1, g2, g3⟩ := tokG_chain k b (endT (t.1, t.2.1, t.2.2.1, (a : Int))) q hb3 (by omega) hend.1 hG
            refine ⟨⟨by show e ≤ (a : Int); omega, ?_, ?_, ?_, g1⟩, by simp, by simp only [List.length_cons]; omega⟩
            · show (a : Int) + (t.2.1.size : Int) ≤ _; omega
            · exact ⟨fun h => absurd h hend.2.2.1, fun h => absurd h g2⟩
            · intro h
              have := hend.2.2.2 h
              show s.extract (Int.toNat (a : Int)) ((a : Int) + (t.2.1.size : Int)).toNat = t.2.1 ∧ 0 < t.2.1.size
              rw [this, hext, Int.toNat_natCast, show ((a : Int) + ((b - a : Nat) : Int)).toNat = b by omega]
              exact ⟨rfl, by omega⟩

theorem tokG_err {s : ByteArray} : ∀ (k i : Nat) (x : Int × Int), i ≤ s.data.toList.length → s.data.toList.length < i + k → tokG k s i = .inl x → 0 ≤ x.1 ∧ x.1 ≤ s.size ∧ x.2 ≠ 0
  | 0, i, x, h1, h2, h4 => by omega
  | k + 1, i, x, h1, h2, h4 => by
    have hs := size_list' s
    have hb := tw_le (p := inK [5]) (l := s.data.toList) (a := i) h1
    simp only [tokG] at h4
    generalize hE : tw (inK [5]) s.data.toList i = a at hb h4
    split at h4
    · cases h4
    · rename_i he
      have hlt : a < s.data.toList.length := by omega
      split at h4
      · rename_i h6
        have hb2 := tw_le (p := notNl) (l := s.data.toList) (a := a) (by omega)
        have hpos := tw_pos (p := notNl) hlt (by
          rw [getD_in hlt] at h6
          simp only [notNl, bne_iff_ne, ne_eq]
          intro e; rw [e] at h6; exact absurd h6 (by decide))
        exact tokG_err k _ x hb2.2 (by omega) h4
      · split at h4
        · rename_i h0
          obtain rfl := Sum.inl.inj h4
          exact ⟨by simp only; omega, by simp only; omega, h0⟩
        · rename_i h0
          obtain ⟨b, hb1, hb2, hb3, hk⟩ := tokP_ok hlt (by simpa using h0)
          rw [hb1, Int.toNat_natCast] at h4
          cases hG : tokG k s b with
          | inl y => rw [hG] at h4; obtain rfl := Sum.inl.inj h4; exact tokG_err k b y hb3 (by omega) hG
          | inr q => rw [hG] at h4; cases h4

theorem limited_ok {N : Nat} (s : ByteArray) : ∃ y, testgatelaw04_limited N s = some y ∧ y.size ≤ 2000 := by
  unfold testgatelaw04_limited
  by_cases h : (s.size : Int) > 2000
  · rw [if_pos (by simpa using h), subB_some (by omega) (by omega) (by omega)]
    exact ⟨_, rfl, by rw [ByteArray.size_extract]; omega⟩
  · rw [if_neg (by simpa using h)]
    exact ⟨s, rfl, by omega⟩

theorem places_step {N : Nat} {y : ByteArray} {L : List Tok} {z : Int × Int} (hy : y.size ≤ 2000) (hL : L.length ≤ 10000) {e : Int} {j : Nat} (hj : j < L.length) (hc : chain y e (L.drop j)) (he : 0 ≤ e) :
    testgatelaw04_LexerPlaces_L1 N y (L, z) (e, (j : Int)) = some (.inl (endT L[j], ((j + 1 : Nat) : Int))) ∧ chain y (endT L[j]) (L.drop (j + 1)) ∧ 0 ≤ endT L[j] := by
  rw [List.drop_eq_getElem_cons hj] at hc
  obtain ⟨h1, h2, h3, h4, h5⟩ := hc
  have h3' : ((L[j]).1 = 5) ↔ j + 1 = L.length := by rw [h3, List.drop_eq_nil_iff]; omega
  have hend : 0 ≤ endT L[j] := by unfold endT; split <;> omega
  refine ⟨?_, h5, hend⟩
  simp only [testgatelaw04_LexerPlaces_L1]
  rw [if_pos (by simpa using hj), idx_nat hj]
  simp only [Option.bind_some]
  have hw1 : IntKind.wrap .i64 ((L.length : Int) - 1) = (L.length : Int) - 1 := wi64 (by omega) (by omega)
  have hw2 : IntKind.wrap .i64 ((L[j]).2.2.2 + ((L[j]).2.1.size : Int)) = (L[j]).2.2.2 + ((L[j]).2.1.size : Int) := wi64 (by omega) (by omega)
  have hw3 : IntKind.wrap .i64 ((L[j]).2.2.2 + ((L[j]).2.1.size : Int) + 1) = (L[j]).2.2.2 + ((L[j]).2.1.size : Int) + 1 := wi64 (by omega) (by omega)
  have hw4 : IntKind.wrap .i64 ((j : Int) + 1) = ((j + 1 : Nat) : Int) := by rw [wi64 (by omega) (by omega)]; omega
  simp only [hw1, hw2, hw3, hw4]
  have hk : ((L[j]).1 == 5) = ((j : Int) == (L.length : Int) - 1) := by
    rw [Bool.eq_iff_iff, beq_iff_eq, beq_iff_eq, h3']; omega
  rw [if_neg (by simp only [decide_eq_true_eq]; omega), if_neg (by simp only [decide_eq_true_eq]; omega), hk]
  simp only [beq_self_eq_true, Bool.not_true, Option.bind_some, Bool.false_eq_true, if_false]
  have hsub : subB y (L[j]).2.2.2 ((L[j]).2.2.2 + ((L[j]).2.1.size : Int)) = some (y.extract (L[j]).2.2.2.toNat ((L[j]).2.2.2 + ((L[j]).2.1.size : Int)).toNat) := subB_some (by omega) (by omega) h2
  have hg : ¬ ((L[j]).2.2.2 + ((L[j]).2.1.size : Int) > y.size) := by omega
  by_cases e1 : (L[j]).1 = 1
  · obtain ⟨g1, g2⟩ := h4 (.inl e1)
    have hne : (L[j]).2.1 ≠ ByteArray.empty := fun h => by rw [h] at g2; exact absurd g2 (by decide)
    simp [e1, hg, hsub, g1, bytes_eq', endT, hne]
  by_cases e4 : (L[j]).1 = 4
  · obtain ⟨g1, g2⟩ := h4 (.inr e4)
    have hne : (L[j]).2.1 ≠ ByteArray.empty := fun h => by rw [h] at g2; exact absurd g2 (by decide)
    simp [e4, hg, hsub, g1, bytes_eq', endT, hne]
  by_cases e2 : (L[j]).1 = 2
  · simp [e2, endT]
  · simp [e1, e2, e4, endT]

theorem testgatelaw04_LexerPlaces_true (s : ByteArray) (_gs : s.size ≤ reachBytes) : ∃ N, testgatelaw04_LexerPlaces N s = some true := by
  refine ⟨30000, ?_⟩
  obtain ⟨y, hy1, hy2⟩ := limited_ok (N := 30000) s
  have hys := size_list' y
  have hT : lexer_Tokens 30000 y = some (joinG [] (tokG (y.data.toList.length + 1) y 0)) := by
    rw [Tokens_eq (by omega), tokensP, if_neg (by omega)]
  simp only [testgatelaw04_LexerPlaces, hy1, Option.bind_some, hT, awake_eq (show 1000 < 30000 by omega)]
  cases hG : tokG (y.data.toList.length + 1) y 0 with
  | inl x =>
    obtain ⟨g1, g2, g3⟩ := tokG_err _ 0 x (by omega) (by omega) hG
    simp [joinG, g1, g2, g3]
  | inr r =>
    obtain ⟨g1, g2, g3⟩ := tokG_chain _ 0 0 r (by omega) (by omega) (by omega) hG
    simp only [joinG, List.nil_append, bne_self_eq_false, Bool.false_eq_true, if_false]
    obtain ⟨b, hb1, hb2⟩ := loopM_ex (f := testgatelaw04_LexerPlaces_L1 30000 y (r, 0, 0)) (fun st => ∃ j : Nat, st.2 = (j : Int) ∧ j ≤ r.length ∧ chain y st.1 (r.drop j) ∧ 0 ≤ st.1) (fun st => r.length - st.2.toNat) (fun b => b = .inl ())
      (fun st ⟨j, h1, h2, h3, h4⟩ => by
        obtain ⟨e, j'⟩ := st
        simp only at h1 h3 h4
        subst h1
        rcases Nat.lt_or_ge j r.length with hj | hj
        · right
          obtain ⟨k1, k2, k3⟩ := places_step (N := 30000) (z := (0, 0)) hy2 (by omega) hj h3 h4
          exact ⟨_, k1, ⟨j + 1, rfl, by omega, k2, k3⟩, by simp only [Int.toNat_natCast]; omega⟩
        · left
          refine ⟨_, ?_, rfl⟩
          simp only [testgatelaw04_LexerPlaces_L1]
          rw [if_neg (by simp only [decide_eq_true_eq]; omega)]) 30000 (0, 0) ⟨0, rfl, by omega, g1, by simp⟩ (by simp; omega)
    rw [hb1, hb2]
    have : 0 < r.length := List.length_pos_iff.2 g2
    simp [this]
end Go.Proofs.YtfodebccikifcaaDoor
