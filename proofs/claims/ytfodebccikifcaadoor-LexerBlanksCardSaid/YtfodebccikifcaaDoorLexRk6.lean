/- The reference's tokens are the lexer's. No condition. -/
import Derived.Test.YtfodebccikifcaaDoorLexPk6
namespace Go.Proofs.YtfodebccikifcaaDoor
open Go Go.Dc

theorem all256 {p : UInt8 → Bool} (h : ((List.range 256).all fun n => p (UInt8.ofNat n)) = true) (c : UInt8) : p c = true := by
  have := List.all_eq_true.1 h c.toNat (List.mem_range.2 c.toNat_lt)
  simpa using this

theorem letter_eq {N : Nat} (c : UInt8) : testgateref04_letter N (c.toNat : Int) = some (kd c == 1) := by
  have h := all256 (p := fun c => (decide (97 ≤ c.toNat) && decide (c.toNat ≤ 122)) == (kd c == 1)) (by kernel_rfl) c
  rw [beq_iff_eq] at h
  rw [← h]
  unfold testgateref04_letter
  by_cases h1 : 97 ≤ c.toNat
  · rw [if_pos (by simp only [decide_eq_true_eq]; omega)]
    simp only [h1, decide_true, Bool.true_and, Option.bind_some]
    congr 1
    exact decide_eq_decide.2 (by omega)
  · rw [if_neg (by simp only [decide_eq_true_eq]; omega)]
    simp [h1]
theorem inner_eq {N : Nat} (c : UInt8) : testgateref04_inner N (c.toNat : Int) = some (inK [1, 2, 3] c) := by
  have h := all256 (p := fun c => (kd c == 1 || (decide (48 ≤ c.toNat) && decide (c.toNat ≤ 57) || decide (c.toNat = 95))) == inK [1, 2, 3] c) (by kernel_rfl) c
  rw [beq_iff_eq] at h
  rw [← h]
  unfold testgateref04_inner
  rw [letter_eq]
  simp only [Option.bind_some]
  cases kd c == 1
  · have e95 : ((c.toNat : Int) == 95) = decide (c.toNat = 95) := by rw [Bool.eq_iff_iff, beq_iff_eq, decide_eq_true_eq]; omega
    simp only [Bool.false_eq_true, if_false, Bool.false_or, e95]
    by_cases h1 : 48 ≤ c.toNat
    · by_cases h2 : c.toNat ≤ 57
      · rw [if_pos (by simp only [decide_eq_true_eq]; omega), if_pos (by simp only [decide_eq_true_eq]; omega)]; simp [h1, h2]
      · rw [if_pos (by simp only [decide_eq_true_eq]; omega), if_neg (by simp only [decide_eq_true_eq]; omega)]; simp [h2]
    · rw [if_neg (by simp only [decide_eq_true_eq]; omega)]; simp [h1]
  · rfl

theorem digit_iff (c : UInt8) : kd c = 2 ↔ 48 ≤ c.toNat ∧ c.toNat ≤ 57 := by
  have h := all256 (p := fun c => (kd c == 2) == (decide (48 ≤ c.toNat) && decide (c.toNat ≤ 57))) (by kernel_rfl) c
  rw [beq_iff_eq, Bool.eq_iff_iff] at h
  simpa using h
theorem quote_iff (c : UInt8) : kd c = 7 ↔ c = 34 := by
  have h := all256 (p := fun c => (kd c == 7) == (c == 34)) (by kernel_rfl) c
  rw [beq_iff_eq, Bool.eq_iff_iff] at h
  simpa using h
def signs : List UInt8 := [59, 44, 40, 41, 43, 45, 42, 47, 37, 60, 61]
theorem sign_iff (c : UInt8) : kd c = 8 ↔ signs.contains c = true := by
  have h := all256 (p := fun c => (kd c == 8) == signs.contains c) (by kernel_rfl) c
  rw [beq_iff_eq, Bool.eq_iff_iff] at h
  simpa using h
theorem blank_iff (c : UInt8) : inK [5] c = true ↔ c.toNat = 32 ∨ c.toNat = 9 ∨ c.toNat = 10 ∨ c.toNat = 13 := by
  have h := all256 (p := fun c => inK [5] c == (decide (c.toNat = 32) || (decide (c.toNat = 9) || (decide (c.toNat = 10) || decide (c.toNat = 13))))) (by kernel_rfl) c
  rw [beq_iff_eq, Bool.eq_iff_iff] at h
  simpa using h
theorem comment_iff (c : UInt8) : kd c = 6 ↔ c.toNat = 35 := by
  have h := all256 (p := fun c => (kd c == 6) == decide (c.toNat = 35)) (by kernel_rfl) c
  rw [beq_iff_eq, Bool.eq_iff_iff] at h
  simpa using h

/-- A number, as the reference has it. -/
def numR (n : Int) (c : UInt8) : Int := if n ≤ 9007199254740992 then n * 10 + ((c.toNat : Int) - 48) else n
theorem numR_snoc (l : List UInt8) (c : UInt8) : (l ++ [c]).foldl numR 0 = numR (l.foldl numR 0) c := by simp
theorem numR_eq : ∀ (n : Nat) (ds : List UInt8), ds.length = n → (∀ c ∈ ds, kd c = 2) → 0 ≤ ds.foldl numR 0 ∧ ds.foldl numR 0 ≤ 90071992547409930 ∧ numL ds = if ds.foldl numR 0 > 9007199254740992 then 9007199254740993 else ds.foldl numR 0
  | 0, ds, h, _ => by obtain rfl := List.length_eq_zero_iff.1 h; simp [numL]
  | n + 1, ds, h, hd => by
    obtain ⟨l, c, rfl⟩ : ∃ l c, ds = l ++ [c] := by
      rcases List.eq_nil_or_concat ds with e | ⟨l, c, e⟩
      · rw [e] at h; cases h
      · exact ⟨l, c, by simpa using e⟩
    obtain ⟨h1, h2, h3⟩ := numR_eq n l (by simpa using h) (fun c hc => hd c (List.mem_append_left _ hc))
    have hc := kd_digit c (hd c (by simp))
    rw [numR_snoc, numL_snoc]
    by_cases hu : l.foldl numR 0 ≤ 9007199254740992
    · rw [if_neg (by omega)] at h3
      rw [h3]
      generalize l.foldl numR 0 = u at h1 h2 hu
      have e1 : numR u c = u * 10 + ((c.toNat : Int) - 48) := if_pos hu
      rw [e1]
      unfold numS
      refine ⟨by omega, by omega, ?_⟩
      by_cases h4 : 9007199254740993 < 10 * u + ((c.toNat : Int) - 48)
      · rw [if_pos h4, if_pos (by omega)]
      · rw [if_neg h4]
        by_cases h5 : u * 10 + ((c.toNat : Int) - 48) > 9007199254740992
        · rw [if_pos h5]; omega
        · rw [if_neg h5]; omega
    · rw [if_pos (by omega)] at h3
      rw [h3]
      generalize l.foldl numR 0 = u at h1 h2 hu
      have e1 : numR u c = u := if_neg hu
      have e2 : numS 9007199254740993 c = 9007199254740993 := if_pos (by omega)
      rw [e1, e2, if_pos (by omega)]
      exact ⟨h1, h2, rfl⟩

theorem inK2 (c : UInt8) : inK [2] c = decide (48 ≤ c.toNat ∧ c.toNat ≤ 57) := by
  rw [Bool.eq_iff_iff, decide_eq_true_eq, ← digit_iff]; simp [inK]
theorem refnum_loop {N : Nat} {s : ByteArray} : ∀ (d i M : Nat) (n : Int), i + d = s.data.toList.length → s.data.toList.length < 1000000 → d < M → 0 ≤ n → n ≤ 90071992547409930 →
    loopM (testgateref04_token_L2 N s) M ((i : Int), n) = some (((tw (inK [2]) s.data.toList i : Nat) : Int), ((s.data.toList.drop i).takeWhile (inK [2])).foldl numR n)
  | d, i, 0, n, _, _, h, _, _ => by omega
  | 0, i, M + 1, n, h1, hl, h2, h3, h4 => by
    have hs := size_list' s
    rw [tw_out (by omega), List.drop_eq_nil_of_le (by omega)]
    simp only [loopM, testgateref04_token_L2]
    rw [if_neg (by simp only [decide_eq_true_eq]; omega)]
    rfl
  | d + 1, i, M + 1, n, h1, hl, h2, h3, h4 => by
    have hs := size_list' s
    have hi : i < s.data.toList.length := by omega
    simp only [loopM, testgateref04_token_L2]
    rw [if_pos (by simp only [decide_eq_true_eq]; omega), idxB_list hi]
    simp only [Option.bind_some]
    have hc : (if decide (((s.data.toList[i]).toNat : Int) ≥ 48) = true then some (decide (((s.data.toList[i]).toNat : Int) ≤ 57)) else some false) = some (inK [2] (s.data.toList[i])) := by
      rw [inK2]
      by_cases h48 : 48 ≤ (s.data.toList[i]).toNat
      · rw [if_pos (by simp only [decide_eq_true_eq]; omega)]; congr 1; exact decide_eq_decide.2 (by omega)
      · rw [if_neg (by simp only [decide_eq_true_eq]; omega)]; congr 1; exact (decide_eq_false (by omega)).symm
    rw [hc]
    simp only [Option.bind_some]
    rw [List.drop_eq_getElem_cons hi]
    cases hb : inK [2] (s.data.toList[i]) with
    | false =>
      rw [tw_stop hi hb, List.takeWhile_cons_of_neg (by rw [hb]; exact Bool.false_ne_true)]
      rfl
    | true =>
      have hd : 48 ≤ (s.data.toList[i]).toNat ∧ (s.data.toList[i]).toNat ≤ 57 := by rw [inK2] at hb; simpa using hb
      rw [← tw_step hi hb, List.takeWhile_cons_of_pos hb, List.foldl_cons, if_pos rfl]
      have hn : (if decide (n ≤ 9007199254740992) = true then some (IntKind.wrap .i64 (IntKind.wrap .i64 (n * 10) + IntKind.wrap .i64 (IntKind.wrap .u8 (((s.data.toList[i]).toNat : Int) - 48)))) else some n) = some (numR n (s.data.toList[i])) := by
        unfold numR
        by_cases hn : n ≤ 9007199254740992
        · rw [if_pos (by simpa using hn), if_pos hn, wu8 (by omega) (by omega), wi64 (x := n * 10) (by omega) (by omega), wi64 (x := ((s.data.toList[i]).toNat : Int) - 48) (by omega) (by omega), wi64 (by omega) (by omega)]
        · rw [if_neg (by simpa using hn), if_neg hn]
      rw [hn]
      simp only [Option.bind_some]
      rw [wi64 (by omega) (by omega), ← Int.natCast_succ]
      exact refnum_loop d (i + 1) M _ (by omega) hl (by omega) (by unfold numR; split <;> omega) (by unfold numR; split <;> omega)

theorem txt_cond (c : UInt8) : (if decide ((c.toNat : Int) ≥ 32) = true then (if decide ((c.toNat : Int) ≤ 126) = true then some ((c.toNat : Int) != 34) else some false) else some false) = some (isTxt c) := by
  unfold isTxt
  by_cases h1 : 32 ≤ c.toNat
  · rw [if_pos (by simp only [decide_eq_true_eq]; omega)]
    by_cases h2 : c.toNat ≤ 126
    · rw [if_pos (by simp only [decide_eq_true_eq]; omega)]
      simp only [h1, h2, decide_true, Bool.true_and]
      congr 1
      rw [Bool.eq_iff_iff, bne_iff_ne, bne_iff_ne]
      exact ⟨fun h e => h (by rw [e]; rfl), fun h e => h (UInt8.toNat_inj.1 (by show _ = 34; omega))⟩
    · rw [if_neg (by simp only [decide_eq_true_eq]; omega)]; simp [h2]
  · rw [if_neg (by simp only [decide_eq_true_eq]; omega)]; simp [h1]
theorem reftext_loop {N : Nat} {s : ByteArray} (d i M : Nat) (h1 : i + d = s.data.toList.length) (hl : s.data.toList.length < 1000000) (h2 : d < M) : loopM (testgateref04_token_L3 N s) M (i : Int) = some ((tw isTxt s.data.toList i : Nat) : Int) := by
  have hs := size_list' s
  refine tw_loop (f := testgateref04_token_L3 N s) (l := s.data.toList) (p := isTxt) (fun e => (e : Int)) (fun j hj hb => ?_) (fun j hj hb => ?_) ?_ d i M h1 h2
  · simp only [testgateref04_token_L3]
    rw [if_pos (by simp only [decide_eq_true_eq]; omega), idxB_list hj]
    simp only [Option.bind_some, txt_cond, hb]
    rw [if_pos trivial, wi64 (by omega) (by omega)]
  · simp only [testgateref04_token_L3]
    rw [if_pos (by simp only [decide_eq_true_eq]; omega), idxB_list hj]
    simp only [Option.bind_some, txt_cond, hb]
    rfl
  · simp only [testgateref04_token_L3]
    rw [if_neg (by simp only [decide_eq_true_eq]; omega)]
    rfl
theorem L4_def {N : Nat} {s : ByteArray} {p1 s6 : Int} : testgateref04_token_L4 N s p1 s6 = if (decide (s6 < (signs.length : Int))) = true then ((idx signs s6).bind fun x12 => (idxB s p1).bind fun x13 => if ((x13.toNat : Int) == (x12.toNat : Int)) = true then ((subB s p1 (IntKind.wrap .i64 (p1 + 1))).bind fun s7 => some (.inr (.inr (((4, s7, 0, p1), IntKind.wrap .i64 (p1 + 1), 0))))) else (some (.inl (IntKind.wrap .i64 (s6 + 1))))) else (some (.inr (.inl ()))) := rfl
theorem refsign_loop {N : Nat} {s : ByteArray} {i : Nat} (hi : i < s.data.toList.length) (hl : s.data.toList.length < 1000000) : ∀ (d j M : Nat), j + d = signs.length → d < M →
    loopM (testgateref04_token_L4 N s (i : Int)) M (j : Int) = some (if (signs.drop j).contains (s.data.toList[i]) = true then .inr ((4, s.extract i (i + 1), 0, (i : Int)), ((i + 1 : Nat) : Int), 0) else .inl ())
  | d, j, 0, _, h => by omega
  | 0, j, M + 1, h1, h2 => by
    simp only [loopM, L4_def]
    rw [if_neg (by simp only [decide_eq_true_eq]; omega), List.drop_eq_nil_of_le (by omega)]
    rfl
  | d + 1, j, M + 1, h1, h2 => by
    have hj : j < signs.length := by omega
    have hls : signs.length = 11 := rfl
    simp only [loopM, L4_def]
    rw [if_pos (by simp only [decide_eq_true_eq]; omega), idx_nat hj, idxB_list hi, List.drop_eq_getElem_cons hj]
    simp only [Option.bind_some, List.contains_cons]
    by_cases he : s.data.toList[i] = signs[j]
    · rw [if_pos (by rw [he]; exact beq_self_eq_true _), wi64 (x := (i : Int) + 1) (by omega) (by omega), ← Int.natCast_succ, sub_list (by omega) (by omega)]
      simp only [Option.bind_some]
      rw [if_pos (by rw [he]; simp)]
    · have hne : ¬ ((s.data.toList[i]).toNat : Int) = ((signs[j]).toNat : Int) := fun h => he (UInt8.toNat_inj.1 (by omega))
      have hne2 : (s.data.toList[i] == signs[j]) = false := beq_eq_false_iff_ne.2 he
      rw [if_neg (by simpa using hne), wi64 (by omega) (by omega), ← Int.natCast_succ]
      simp only [Option.bind_some, hne2, Bool.false_or]
      exact refsign_loop hi hl d (j + 1) M (by omega) (by omega)

def refP (s : ByteArray) (i : Nat) : (Int × ByteArray × Int × Int) × Int × Int :=
  if (tokP s i).2.2 = 0 then (((tokP s i).1.1, (tokP s i).1.2.1, (tokP s i).1.2.2.1, (i : Int)), (tokP s i).2.1, 0) else tokP s i

theorem reftoken_eq {N : Nat} {s : ByteArray} {i : Nat} (hi : i < s.data.toList.length) (hl : s.data.toList.length < 1000000) (hN : s.data.toList.length + 20 < N) : testgateref04_token N s (i : Int) = some (refP s i) := by
  have hs := size_list' s
  simp only [testgateref04_token, idxB_list hi, Option.bind_some, letter_eq, refP, tokP, getD_in hi, beq_iff_eq]
  by_cases h1 : kd (s.data.toList[i]) = 1
  · simp only [h1, if_true]
    have hb := tw_le (p := inK [1, 2, 3]) (l := s.data.toList) (a := i) (by omega)
    have key := tw_loop (f := testgateref04_token_L1 N s) (l := s.data.toList) (p := inK [1, 2, 3]) (fun e => (e : Int)) (fun j hj hb => by
      simp only [testgateref04_token_L1]
      rw [if_pos (by simp only [decide_eq_true_eq]; omega), idxB_list hj]
      simp only [Option.bind_some, inner_eq, hb]
      rw [if_pos trivial, wi64 (by omega) (by omega)]) (fun j hj hb => by
      simp only [testgateref04_token_L1]
      rw [if_pos (by simp only [decide_eq_true_eq]; omega), idxB_list hj]
      simp only [Option.bind_some, inner_eq, hb]
      rfl) (by
      simp only [testgateref04_token_L1]
      rw [if_neg (by simp only [decide_eq_true_eq]; omega)]
      rfl) (s.data.toList.length - i) i N (by omega) (by omega)
    rw [key]
    simp only [Option.bind_some]
    rw [wi64 (by omega) (by omega), sub_list hb.1 hb.2]
    by_cases h : tw (inK [1, 2, 3]) s.data.toList i - i > 24
    · rw [if_pos (by simp only [decide_eq_true_eq]; omega), if_pos h]; rfl
    · rw [if_neg (by simp only [decide_eq_true_eq]; omega), if_neg h]; rfl
  simp only [h1, if_false]
  by_cases h2 : kd (s.data.toList[i]) = 2
  · simp only [h2, if_true]
    have hd := (digit_iff _).1 h2
    rw [if_pos (by simp only [decide_eq_true_eq]; omega)]
    simp only [Option.bind_some]
    obtain ⟨n1, n2, n3⟩ := numR_eq _ _ rfl (fun c (hc : c ∈ (s.data.toList.drop i).takeWhile (inK [2])) => by simpa [inK] using mem_tw hc)
    rw [if_pos (by simp only [decide_eq_true_eq]; omega), refnum_loop (s.data.toList.length - i) i N 0 (by omega) hl (by omega) (by omega) (by omega), n3]
    simp only [Option.bind_some, decide_eq_true_eq]
    generalize ((s.data.toList.drop i).takeWhile (inK [2])).foldl numR 0 = u at n1 n2
    by_cases h4 : u > 9007199254740992
    · simp [h4, noTok]
    · simp [h4]
  simp only [h2, if_false]
  have hnd : ¬ (48 ≤ (s.data.toList[i]).toNat ∧ (s.data.toList[i]).toNat ≤ 57) := fun h => h2 ((digit_iff _).2 h)
  have hdig : (if decide (((s.data.toList[i]).toNat : Int) ≥ 48) = true then some (decide (((s.data.toList[i]).toNat : Int) ≤ 57)) else some false) = some false := by
    by_cases h48 : 48 ≤ (s.data.toList[i]).toNat
    · rw [if_pos (by simp only [decide_eq_true_eq]; omega)]; congr 1; rw [decide_eq_false_iff_not]; omega
    · rw [if_neg (by simp only [decide_eq_true_eq]; omega)]
  rw [hdig]
  simp only [Option.bind_some, Bool.false_eq_true, if_false]
  by_cases h7 : kd (s.data.toList[i]) = 7
  · have hc : s.data.toList[i] = 34 := (quote_iff _).1 h7
    simp only [h7, if_true]
    rw [if_pos (by rw [hc]; rfl), wi64 (x := (i : Int) + 1) (by omega) (by omega), ← Int.natCast_succ]
    have hb := tw_le (p := isTxt) (l := s.data.toList) (a := i + 1) (by omega)
    rw [reftext_loop (s.data.toList.length - (i + 1)) (i + 1) N (by omega) hl (by omega)]
    simp only [Option.bind_some]
    generalize tw isTxt s.data.toList (i + 1) = e at hb
    by_cases he : e = s.data.toList.length
    · rw [if_pos (by omega)]
      have : ¬ s.data.toList.getD e 0 = 34 := fun h => by have := getD_pos (l := s.data.toList) (i := e) (by rw [h]; decide); omega
      rw [if_neg this]
      rfl
    · have hlt : e < s.data.toList.length := by omega
      rw [if_neg (by omega), idxB_list hlt, getD_in hlt]
      simp only [Option.bind_some]
      by_cases h34 : s.data.toList[e] = 34
      · rw [if_pos h34, if_neg (by rw [h34]; decide), sub_list hb.1 hb.2]
        simp only [Option.bind_some, if_true]
        rw [wi64 (by omega) (by omega), ← Int.natCast_succ]
      · have h34' : ¬ ((s.data.toList[e]).toNat : Int) = 34 := fun h => h34 (UInt8.toNat_inj.1 (by show _ = 34; omega))
        rw [if_neg h34, if_pos (by simpa using h34')]
        simp [noTok]
  have h34' : ¬ ((s.data.toList[i]).toNat : Int) = 34 := fun h => h7 ((quote_iff _).2 (UInt8.toNat_inj.1 (by show _ = 34; omega)))
  simp only [h7, if_false, h34']
  have ho : (if ((s.data.toList[i]).toNat : Int) = 61 then (if decide (IntKind.wrap .i64 ((i : Int) + 1) < (s.size : Int)) = true then ((idxB s (IntKind.wrap .i64 ((i : Int) + 1))).bind fun x11 => some ((x11.toNat : Int) == 61)) else some false) else some false) = some (decide (s.data.toList.getD i 0 = 61 ∧ s.data.toList.getD (i + 1) 0 = 61)) := by
    rw [getD_in hi]
    by_cases h61 : s.data.toList[i] = 61
    · rw [if_pos (by rw [h61]; rfl), wi64 (by omega) (by omega), ← Int.natCast_succ]
      by_cases hlt : i + 1 < s.data.toList.length
      · rw [if_pos (by simp only [decide_eq_true_eq]; omega), idxB_list hlt, getD_in hlt]
        simp only [Option.bind_some]
        congr 1
        rw [Bool.eq_iff_iff, beq_iff_eq, decide_eq_true_eq]
        exact ⟨fun h => ⟨h61, UInt8.toNat_inj.1 (by show _ = 61; omega)⟩, fun h => by rw [h.2]; rfl⟩
      · rw [if_neg (by simp only [decide_eq_true_eq]; omega)]
        congr 1
        refine (decide_eq_false fun h => ?_).symm
        have := getD_pos (l := s.data.toList) (i := i + 1) (by rw [h.2]; decide)
        omega
    · rw [if_neg (fun h => h61 (UInt8.toNat_inj.1 (by show _ = 61; omega)))]
      congr 1
      exact (decide_eq_false fun h => h61 h.1).symm
  rw [ho]
  simp only [Option.bind_some, decide_eq_true_eq]
  by_cases h61 : s.data.toList.getD i 0 = 61 ∧ s.data.toList.getD (i + 1) 0 = 61
  · have hlt : i + 1 < s.data.toList.length := getD_pos (by rw [h61.2]; decide)
    have h8 : kd (s.data.toList[i]) = 8 := by rw [← getD_in hi, h61.1]; kernel_rfl
    have hE : signE s.data.toList i = i + 2 := by rw [signE, if_pos h61]
    have hx : s.extract i (i + 2) = (⟨#[61, 61]⟩ : ByteArray) := by
      apply Go.WideShapes.bytes_inj
      simp only [ByteArray.data_extract, Array.toList_extract, List.extract_eq_take_drop]
      rw [List.drop_eq_getElem_cons hi, List.drop_eq_getElem_cons hlt, ← getD_in hi, ← getD_in hlt, h61.1, h61.2, show i + 2 - i = 2 by omega]
      rfl
    simp only [h61, and_self, if_true, h8, hE, hx]
    rw [wi64 (by omega) (by omega)]
    simp
  · have hE : signE s.data.toList i = i + 1 := by rw [signE, if_neg h61]
    have key := refsign_loop (N := N) hi hl 11 0 N rfl (by omega)
    rw [show ((0 : Nat) : Int) = 0 from rfl] at key
    rw [if_neg h61, key]
    by_cases h8 : kd (s.data.toList[i]) = 8
    · have := (sign_iff _).1 h8
      simp only [h8, if_true, List.drop_zero, this, Option.bind_some, hE]
    · have : ¬ signs.contains (s.data.toList[i]) = true := fun h => h8 ((sign_iff _).2 h)
      simp only [h8, if_false, List.drop_zero, this, Option.bind_some]
      simp [noTok]
end Go.Proofs.YtfodebccikifcaaDoor
