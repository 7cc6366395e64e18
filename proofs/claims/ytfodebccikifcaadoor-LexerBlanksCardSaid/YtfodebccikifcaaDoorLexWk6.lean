/- The reference's list of tokens is the lexer's; 'same' is true; the plain law of LexerWords. No condition. -/
import Derived.Test.YtfodebccikifcaaDoorLexRk6
namespace Go.Proofs.YtfodebccikifcaaDoor
open Go Go.Dc

/-- Where the next token begins, as a function of fuel. -/
def skipF : Nat → List UInt8 → Nat → Nat
  | 0, _, i => i
  | k + 1, l, i =>
    if tw (inK [5]) l i = l.length then l.length
    else if kd (l.getD (tw (inK [5]) l i) 0) = 6 then skipF k l (tw notNl l (tw (inK [5]) l i))
    else tw (inK [5]) l i

theorem skip_L2_eq {N : Nat} {s : ByteArray} {i : Nat} (hi : i ≤ s.data.toList.length) (hl : s.data.toList.length < 1000000) (hN : s.data.toList.length + 10 < N) : loopM (testgateref04_skip_L2 N s) N (i : Int) = some ((tw notNl s.data.toList i : Nat) : Int) := by
  have hs := size_list' s
  have hn : ∀ c : UInt8, ((c.toNat : Int) != 10) = notNl c := fun c => by
    rw [Bool.eq_iff_iff, bne_iff_ne, notNl, bne_iff_ne]
    exact ⟨fun h e => h (by rw [e]; rfl), fun h e => h (UInt8.toNat_inj.1 (by show _ = 10; omega))⟩
  refine tw_loop (f := testgateref04_skip_L2 N s) (l := s.data.toList) (p := notNl) (fun e => (e : Int)) (fun j hj hb => ?_) (fun j hj hb => ?_) ?_ (s.data.toList.length - i) i N (by omega) (by omega)
  · simp only [testgateref04_skip_L2]
    rw [if_pos (by simp only [decide_eq_true_eq]; omega), idxB_list hj]
    simp only [Option.bind_some, hn, hb]
    rw [if_pos trivial, wi64 (by omega) (by omega)]
  · simp only [testgateref04_skip_L2]
    rw [if_pos (by simp only [decide_eq_true_eq]; omega), idxB_list hj]
    simp only [Option.bind_some, hn, hb]
    rfl
  · simp only [testgateref04_skip_L2]
    rw [if_neg (by simp only [decide_eq_true_eq]; omega)]
    rfl

theorem blank_cond {s : ByteArray} {i : Nat} (hi : i < s.data.toList.length) : ((idxB s (i : Int)).bind fun x1 => if ((x1.toNat : Int) == 32) = true then (some true) else ((idxB s (i : Int)).bind fun x2 => if ((x2.toNat : Int) == 9) = true then (some true) else ((idxB s (i : Int)).bind fun x3 => if ((x3.toNat : Int) == 10) = true then (some true) else ((idxB s (i : Int)).bind fun x4 => some ((x4.toNat : Int) == 13))))) = some (inK [5] (s.data.toList[i])) := by
  simp only [idxB_list hi, Option.bind_some, beq_iff_eq]
  generalize s.data.toList[i] = c
  have hb := blank_iff c
  by_cases h1 : (c.toNat : Int) = 32
  · rw [if_pos h1, hb.2 (by omega)]
  rw [if_neg h1]
  by_cases h2 : (c.toNat : Int) = 9
  · rw [if_pos h2, hb.2 (by omega)]
  rw [if_neg h2]
  by_cases h3 : (c.toNat : Int) = 10
  · rw [if_pos h3, hb.2 (by omega)]
  rw [if_neg h3]
  congr 1
  rw [Bool.eq_iff_iff, beq_iff_eq, hb]
  omega

/-- One round of the reference's loop over blanks and comments. -/
theorem skip_L1_eq {N : Nat} {s : ByteArray} {i : Nat} (hi : i < s.data.toList.length) (hl : s.data.toList.length < 1000000) (hN : s.data.toList.length + 10 < N) :
    testgateref04_skip_L1 N s (i : Int) = some (if inK [5] (s.data.toList[i]) = true then .inl (((i + 1 : Nat)) : Int) else if kd (s.data.toList[i]) = 6 then .inl ((tw notNl s.data.toList i : Nat) : Int) else .inr (.inr (i : Int))) := by
  have hs := size_list' s
  simp only [testgateref04_skip_L1]
  rw [if_pos (by simp only [decide_eq_true_eq]; omega), blank_cond hi]
  simp only [Option.bind_some]
  by_cases h5 : inK [5] (s.data.toList[i]) = true
  · rw [if_pos h5, if_pos h5, wi64 (by omega) (by omega), ← Int.natCast_succ]
  · rw [if_neg h5, if_neg h5, idxB_list hi]
    simp only [Option.bind_some, beq_iff_eq]
    have hc := comment_iff (s.data.toList[i])
    by_cases h6 : kd (s.data.toList[i]) = 6
    · rw [if_pos (by have := hc.1 h6; omega), if_pos h6, skip_L2_eq (by omega) hl hN]
      rfl
    · rw [if_neg (fun h => h6 (hc.2 (by omega))), if_neg h6]

theorem skip_loop {N : Nat} {s : ByteArray} (hl : s.data.toList.length < 1000000) (hN : s.data.toList.length + 10 < N) : ∀ (d i k M : Nat), i + d = s.data.toList.length → d < k → d < M → ∃ z, loopM (testgateref04_skip_L1 N s) M (i : Int) = some z ∧ (z = .inl ((skipF k s.data.toList i : Nat) : Int) ∨ z = .inr ((skipF k s.data.toList i : Nat) : Int))
  | d, i, k, 0, _, _, h => by omega
  | d, i, 0, M, _, h, _ => by omega
  | 0, i, k + 1, M + 1, h1, h2, h3 => by
    have hs := size_list' s
    refine ⟨.inl ((s.data.toList.length : Nat) : Int), ?_, .inl ?_⟩
    · simp only [loopM, testgateref04_skip_L1]
      rw [if_neg (by simp only [decide_eq_true_eq]; omega)]
      simp only [Option.bind_some]
      congr 2; omega
    · simp only [skipF]
      rw [tw_out (by omega), if_pos (by omega)]
  | d + 1, i, k + 1, M + 1, h1, h2, h3 => by
    have hs := size_list' s
    have hi : i < s.data.toList.length := by omega
    simp only [loopM]
    rw [skip_L1_eq hi hl hN]
    simp only [Option.bind_some]
    cases h5 : inK [5] (s.data.toList[i]) with
    | true =>
      rw [if_pos rfl]
      have := skip_loop hl hN d (i + 1) (k + 1) M (by omega) (by omega) (by omega)
      simp only [skipF, tw_step hi h5] at this ⊢
      exact this
    | false =>
      rw [if_neg Bool.false_ne_true]
      by_cases h6 : kd (s.data.toList[i]) = 6
      · have hsk : skipF (k + 1) s.data.toList i = skipF k s.data.toList (tw notNl s.data.toList i) := by
          simp only [skipF, tw_stop hi h5, getD_in hi, h6, if_true]
          rw [if_neg (by omega)]
        rw [hsk, if_pos h6]
        have hb2 := tw_le (p := notNl) (l := s.data.toList) (a := i) (by omega)
        have hpos := tw_pos (p := notNl) hi (by
          simp only [notNl, bne_iff_ne, ne_eq]
          intro e; rw [e] at h6; exact absurd h6 (by decide))
        exact skip_loop hl hN (s.data.toList.length - tw notNl s.data.toList i) _ k M (by omega) (by omega) (by omega)
      · have hsk : skipF (k + 1) s.data.toList i = i := by
          simp only [skipF, tw_stop hi h5, getD_in hi, h6, if_false]
          rw [if_neg (by omega)]
        rw [hsk, if_neg h6]
        exact ⟨_, rfl, .inr rfl⟩

theorem skip_eq {N : Nat} {s : ByteArray} {i k : Nat} (hi : i ≤ s.data.toList.length) (hl : s.data.toList.length < 1000000) (hN : s.data.toList.length + 10 < N) (hk : s.data.toList.length < i + k) : testgateref04_skip N s (i : Int) = some ((skipF k s.data.toList i : Nat) : Int) := by
  obtain ⟨z, h1, h2⟩ := skip_loop hl hN (s.data.toList.length - i) i k N (by omega) (by omega) (by omega)
  unfold testgateref04_skip
  rw [h1]
  rcases h2 with rfl | rfl <;> rfl

theorem skipF_fuel {s : ByteArray} {i k k' : Nat} (hi : i ≤ s.data.toList.length) (hl : s.data.toList.length < 1000000) (hk : s.data.toList.length < i + k) (hk' : s.data.toList.length < i + k') : skipF k s.data.toList i = skipF k' s.data.toList i := by
  have h1 := skip_eq (N := s.data.toList.length + 11) hi hl (by omega) hk
  have h2 := skip_eq (N := s.data.toList.length + 11) hi hl (by omega) hk'
  rw [h1] at h2
  have := Option.some.inj h2
  omega
theorem tokG_fuel {s : ByteArray} {i k k' : Nat} {acc : List Tok} (hl : s.data.toList.length ≤ 16384) (hi : i ≤ s.data.toList.length) (ha : acc.length ≤ i) (hk : s.data.toList.length < i + k) (hk' : s.data.toList.length < i + k') : joinG acc (tokG k s i) = joinG acc (tokG k' s i) := by
  have h1 := tokens_loop (N := s.data.toList.length + 41) hl (by omega) k (k + k') i acc hi hk (by omega) ha
  have h2 := tokens_loop (N := s.data.toList.length + 41) hl (by omega) k' (k + k') i acc hi hk' (by omega) ha
  rw [h1] at h2
  exact Option.some.inj h2

/-- The tokens from an index on, by the next token's place. -/
theorem tokG_skip {s : ByteArray} : ∀ (k i : Nat), i ≤ s.data.toList.length → s.data.toList.length < i + k → i ≤ skipF k s.data.toList i ∧ skipF k s.data.toList i ≤ s.data.toList.length ∧
    (skipF k s.data.toList i = s.data.toList.length → tokG k s i = .inr [(5, ⟨#[]⟩, 0, (s.data.toList.length : Int))]) ∧
    (skipF k s.data.toList i < s.data.toList.length → ∃ k', (∀ b, skipF k s.data.toList i < b → s.data.toList.length < b + k') ∧ tokG k s i =
      if (tokP s (skipF k s.data.toList i)).2.2 ≠ 0 then .inl ((skipF k s.data.toList i : Nat), (tokP s (skipF k s.data.toList i)).2.2)
      else match tokG k' s (tokP s (skipF k s.data.toList i)).2.1.toNat with
        | .inl x => .inl x
        | .inr r => .inr (((tokP s (skipF k s.data.toList i)).1.1, (tokP s (skipF k s.data.toList i)).1.2.1, (tokP s (skipF k s.data.toList i)).1.2.2.1, ((skipF k s.data.toList i : Nat) : Int)) :: r))
  | 0, i, h1, h2 => by omega
  | k + 1, i, h1, h2 => by
    have hb := tw_le (p := inK [5]) (l := s.data.toList) (a := i) h1
    simp only [skipF, tokG]
    by_cases he : tw (inK [5]) s.data.toList i = s.data.toList.length
    · simp only [he, if_true]
      exact ⟨h1, Nat.le_refl _, fun _ => trivial, fun h => absurd h (Nat.lt_irrefl _)⟩
    simp only [he, if_false]
    have hlt : tw (inK [5]) s.data.toList i < s.data.toList.length := by omega
    by_cases h6 : kd (s.data.toList.getD (tw (inK [5]) s.data.toList i) 0) = 6
    · simp only [h6, if_true]
      have hb2 := tw_le (p := notNl) (l := s.data.toList) (a := tw (inK [5]) s.data.toList i) (by omega)
      have hpos := tw_pos (p := notNl) hlt (by
        rw [getD_in hlt] at h6
        simp only [notNl, bne_iff_ne, ne_eq]
        intro e; rw [e] at h6; exact absurd h6 (by decide))
      obtain ⟨g1, g2, g3, g4⟩ := tokG_skip k (tw notNl s.data.toList (tw (inK [5]) s.data.toList i)) hb2.2 (by omega)
      exact ⟨by omega, g2, g3, g4⟩
    · simp only [h6, if_false]
      exact ⟨hb.1, hb.2, fun h => absurd h he, fun _ => ⟨k, fun b hb' => by omega, rfl⟩⟩

theorem reftokens_loop {N : Nat} {s : ByteArray} (hl : s.data.toList.length ≤ 16384) (hN : s.data.toList.length + 40 < N) : ∀ (d i k M : Nat) (acc : List Tok), i + d = s.data.toList.length → d < M → s.data.toList.length < i + k → acc.length ≤ i →
    ∃ z, loopM (testgateref04_Tokens_L1 N s) M (acc, ((skipF k s.data.toList i : Nat) : Int)) = some z ∧ ((∃ o, z = .inl o ∧ o.length ≤ s.data.toList.length ∧ joinG acc (tokG k s i) = (o ++ [(5, ⟨#[]⟩, 0, (s.size : Int))], 0, 0)) ∨ z = .inr (joinG acc (tokG k s i)))
  | d, i, k, 0, acc, _, h, _, _ => by omega
  | d, i, k, M + 1, acc, h1, h2, h3, h4 => by
    have hs := size_list' s
    obtain ⟨g1, g2, g3, g4⟩ := tokG_skip (s := s) k i (by omega) h3
    generalize hA : skipF k s.data.toList i = a at g1 g2 g3 g4
    simp only [loopM, testgateref04_Tokens_L1]
    by_cases he : a = s.data.toList.length
    · refine ⟨.inl acc, ?_, .inl ⟨acc, rfl, by omega, ?_⟩⟩
      · rw [if_neg (by simp only [decide_eq_true_eq]; omega)]
        rfl
      · rw [g3 he, ← hs]; rfl
    · have hlt : a < s.data.toList.length := by omega
      obtain ⟨k', g5, g6⟩ := g4 hlt
      rw [if_pos (by simp only [decide_eq_true_eq]; omega), reftoken_eq hlt (by omega) (by omega)]
      simp only [Option.bind_some, refP]
      by_cases h0 : (tokP s a).2.2 = 0
      · obtain ⟨e, he1, he2, he3, _⟩ := tokP_ok hlt h0
        rw [if_pos h0]
        simp only [bne_self_eq_false, Bool.false_eq_true, if_false]
        rw [appendS_some (by simp only [List.length_cons, List.length_nil]; omega) (by omega), he1]
        simp only [Option.bind_some]
        rw [skip_eq (k := k') he3 (by omega) (by omega) (g5 e he2)]
        simp only [Option.bind_some]
        obtain ⟨z, hz1, hz2⟩ := reftokens_loop hl hN (s.data.toList.length - e) e k' M (acc ++ [((tokP s a).1.1, (tokP s a).1.2.1, (tokP s a).1.2.2.1, (a : Int))]) (by omega) (by omega) (g5 e he2) (by simp; omega)
        have hj : joinG acc (tokG k s i) = joinG (acc ++ [((tokP s a).1.1, (tokP s a).1.2.1, (tokP s a).1.2.2.1, (a : Int))]) (tokG k' s e) := by
          rw [g6, if_neg (by simp [h0]), he1, Int.toNat_natCast]
          cases tokG k' s e with
          | inl x => rfl
          | inr r => simp [joinG]
        rw [hj]
        exact ⟨z, hz1, hz2⟩
      · rw [if_neg h0]
        have hb : ((tokP s a).2.2 != 0) = true := by simpa using h0
        simp only [hb, if_true, Option.bind_some]
        refine ⟨_, rfl, .inr ?_⟩
        rw [g6, if_pos h0]
        rfl

theorem refTokens_eq {N : Nat} {s : ByteArray} (hN : 20000 < N) : testgateref04_Tokens N s = some (tokensP s) := by
  have hs := size_list' s
  unfold testgateref04_Tokens tokensP
  by_cases h : s.data.toList.length > 16384
  · rw [if_pos (by simp only [decide_eq_true_eq]; omega), if_pos h]
  · rw [if_neg (by simp only [decide_eq_true_eq]; omega), if_neg h]
    have h1 := skip_eq (N := N) (s := s) (i := 0) (k := s.data.toList.length + 1) (by omega) (by omega) (by omega) (by omega)
    rw [show ((0 : Nat) : Int) = 0 from rfl] at h1
    rw [h1]
    simp only [Option.bind_some]
    obtain ⟨z, hz1, hz2⟩ := reftokens_loop (N := N) (s := s) (by omega) (by omega) s.data.toList.length 0 (s.data.toList.length + 1) N [] (by omega) (by omega) (by omega) (by simp)
    rw [hz1]
    rcases hz2 with ⟨o, rfl, ho, hj⟩ | rfl
    · simp only [Option.bind_some]
      rw [appendS_some (by simp only [List.length_cons, List.length_nil]; omega) (by omega), hj]
      rfl
    · rfl

theorem same_true {N : Nat} (s : ByteArray) (hN : 20000 < N) : testgatelaw04_same N s = some true := by
  have hlen : (tokensP s).1.length ≤ 16385 := by
    unfold tokensP
    split
    · simp
    · rename_i h
      cases hG : tokG (s.data.toList.length + 1) s 0 with
      | inl x => simp [joinG]
      | inr r =>
        obtain ⟨_, _, g3⟩ := tokG_chain _ 0 0 r (by omega) (by omega) (by omega) hG
        simp only [joinG, List.nil_append]
        omega
  simp only [testgatelaw04_same, Tokens_eq hN, refTokens_eq hN, Option.bind_some, bne_self_eq_false, Bool.false_eq_true, if_false]
  have key := loopM_st (f := testgatelaw04_same_L1 N (tokensP s) (tokensP s)) (fun j => (j : Int)) (tokensP s).1.length (.inl ()) (fun j hj => ?_) ?_ (N := N) (by omega)
  · rw [show ((0 : Nat) : Int) = 0 from rfl] at key
    rw [key]; rfl
  · simp only [testgatelaw04_same_L1]
    rw [if_pos (by simpa using hj), idx_nat hj]
    simp only [Option.bind_some, beq_self_eq_true, Bool.and_self, Bool.not_true, Bool.false_eq_true, if_false]
    rw [wi64 (by omega) (by omega)]
    rfl
  · simp only [testgatelaw04_same_L1]
    rw [if_neg (by simp)]
end Go.Proofs.YtfodebccikifcaaDoor
