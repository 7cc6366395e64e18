/- The plain law of LexerBlanks. No condition. -/
import Derived.Test.YtfodebccikifcaaDoorLexVk6
namespace Go.Proofs.YtfodebccikifcaaDoor
open Go Go.Dc

abbrev Tok3 := Int × ByteArray × Int
/-- The token at the head of some bytes: what it is, its length, the error. -/
def tokD (d : List UInt8) : Tok3 × Nat × Int :=
  if kd (d.getD 0 0) = 1 then
    if (d.takeWhile (inK [1, 2, 3])).length > 24 then ((0, ⟨#[]⟩, 0), 0, 2) else ((1, ⟨(d.takeWhile (inK [1, 2, 3])).toArray⟩, 0), (d.takeWhile (inK [1, 2, 3])).length, 0)
  else if kd (d.getD 0 0) = 2 then
    if numL (d.takeWhile (inK [2])) > 9007199254740992 then ((0, ⟨#[]⟩, 0), 0, 3) else ((2, ⟨#[]⟩, numL (d.takeWhile (inK [2]))), (d.takeWhile (inK [2])).length, 0)
  else if kd (d.getD 0 0) = 7 then
    if d.getD (((d.drop 1).takeWhile isTxt).length + 1) 0 = 34 then ((3, ⟨((d.drop 1).takeWhile isTxt).toArray⟩, 0), ((d.drop 1).takeWhile isTxt).length + 2, 0) else ((0, ⟨#[]⟩, 0), 0, 9)
  else if kd (d.getD 0 0) = 8 then
    ((4, ⟨(d.take (if d.getD 0 0 = 61 ∧ d.getD 1 0 = 61 then 2 else 1)).toArray⟩, 0), (if d.getD 0 0 = 61 ∧ d.getD 1 0 = 61 then 2 else 1), 0)
  else ((0, ⟨#[]⟩, 0), 0, 9)

theorem tw_drop {p : UInt8 → Bool} {l d : List UInt8} {i : Nat} (h : l.drop i = d) : tw p l i = i + (d.takeWhile p).length := by simp only [tw, h]
theorem getD_drop {l d : List UInt8} {i : Nat} (h : l.drop i = d) (j : Nat) : l.getD (i + j) 0 = d.getD j 0 := by
  rw [← h, List.getD_eq_getElem?_getD, List.getD_eq_getElem?_getD, List.getElem?_drop]
theorem drop_drop' {l d : List UInt8} {i : Nat} (h : l.drop i = d) (j : Nat) : l.drop (i + j) = d.drop j := by rw [← h, List.drop_drop]
theorem ext_drop {s : ByteArray} {d : List UInt8} {i : Nat} (h : s.data.toList.drop i = d) (j : Nat) : s.extract i (i + j) = ⟨(d.take j).toArray⟩ := by
  apply ByteArray.ext
  apply Array.ext'
  simp only [ByteArray.data_extract, Array.toList_extract, List.extract_eq_take_drop, h]
  rw [show i + j - i = j by omega]
theorem tw_take {p : UInt8 → Bool} (d : List UInt8) : d.take (d.takeWhile p).length = d.takeWhile p := (List.prefix_iff_eq_take.1 (List.takeWhile_prefix p)).symm

theorem tokP_D {s : ByteArray} {d : List UInt8} {i : Nat} (h : s.data.toList.drop i = d) : (tokP s i).2.2 = (tokD d).2.2 ∧ ((tokP s i).2.2 = 0 → ((tokP s i).1.1, (tokP s i).1.2.1, (tokP s i).1.2.2.1) = (tokD d).1 ∧ (tokP s i).2.1 = ((i + (tokD d).2.1 : Nat) : Int)) := by
  have g0 : s.data.toList.getD i 0 = d.getD 0 0 := getD_drop h 0
  have g1 : s.data.toList.getD (i + 1) 0 = d.getD 1 0 := getD_drop h 1
  have hd1 := drop_drop' h 1
  unfold tokP tokD
  rw [g0, tw_drop h, tw_drop h, tw_drop hd1, h]
  by_cases k1 : kd (d.getD 0 0) = 1
  · rw [if_pos k1, if_pos k1]
    by_cases k2 : (d.takeWhile (inK [1, 2, 3])).length > 24
    · rw [if_pos (by omega), if_pos k2]; exact ⟨rfl, fun h => by simp at h⟩
    · rw [if_neg (by omega), if_neg k2]
      refine ⟨rfl, fun _ => ⟨?_, rfl⟩⟩
      simp only [ext_drop h, tw_take]
  rw [if_neg k1, if_neg k1]
  by_cases k2 : kd (d.getD 0 0) = 2
  · rw [if_pos k2, if_pos k2]
    by_cases k3 : numL (d.takeWhile (inK [2])) > 9007199254740992
    · rw [if_pos k3, if_pos k3]; exact ⟨rfl, fun h => by simp at h⟩
    · rw [if_neg k3, if_neg k3]; exact ⟨rfl, fun _ => ⟨rfl, rfl⟩⟩
  rw [if_neg k2, if_neg k2]
  by_cases k3 : kd (d.getD 0 0) = 7
  · rw [if_pos k3, if_pos k3]
    have e : s.data.toList.getD (i + 1 + ((d.drop 1).takeWhile isTxt).length) 0 = d.getD (((d.drop 1).takeWhile isTxt).length + 1) 0 := by
      rw [Nat.add_assoc, getD_drop h, Nat.add_comm 1]
    rw [e]
    by_cases k4 : d.getD (((d.drop 1).takeWhile isTxt).length + 1) 0 = 34
    · rw [if_pos k4, if_pos k4]
      refine ⟨rfl, fun _ => ⟨?_, by simp only; omega⟩⟩
      simp only [ext_drop hd1, tw_take]
    · rw [if_neg k4, if_neg k4]; exact ⟨rfl, fun h => by simp at h⟩
  rw [if_neg k3, if_neg k3]
  by_cases k4 : kd (d.getD 0 0) = 8
  · rw [if_pos k4, if_pos k4]
    unfold signE
    rw [g0, g1]
    by_cases k5 : d.getD 0 0 = 61 ∧ d.getD 1 0 = 61
    · rw [if_pos k5, if_pos k5]
      refine ⟨rfl, fun _ => ⟨?_, rfl⟩⟩
      simp only [ext_drop h]
    · rw [if_neg k5, if_neg k5]
      refine ⟨rfl, fun _ => ⟨?_, rfl⟩⟩
      simp only [ext_drop h]
  · rw [if_neg k4, if_neg k4]; exact ⟨rfl, fun h => by simp at h⟩

/-- What may follow a word. -/
def okR (r : List UInt8) : Prop := r = [] ∨ ∃ c r', r = c :: r' ∧ (c = 32 ∨ c = 10 ∨ c = 9 ∨ c = 13)

theorem word_fact : (wordsL.all fun w => (decide ((tokD w.data.toList).2.2 ≠ 0) || decide ((tokD w.data.toList).2.1 = w.data.toList.length)) && decide (0 < w.data.toList.length) && !(inK [5] (w.data.toList.getD 0 0)) && decide (kd (w.data.toList.getD 0 0) ≠ 6)) = true := by kernel_rfl
theorem word_next (r' : List UInt8) (c : UInt8) (hc : c = 32 ∨ c = 10 ∨ c = 9 ∨ c = 13) : ∀ w ∈ wordsL, tokD (w.data.toList ++ c :: r') = tokD w.data.toList := by
  intro w hw
  simp only [wordsL, List.mem_cons, List.not_mem_nil, or_false] at hw
  rcases hw with rfl | rfl | rfl | rfl | rfl | rfl | rfl | rfl | rfl | rfl | rfl | rfl | rfl | rfl | rfl | rfl | rfl | rfl | rfl | rfl | rfl | rfl | rfl | rfl | rfl <;> rcases hc with rfl | rfl | rfl | rfl <;> kernel_rfl
theorem word_ok : ∀ w ∈ wordsL, ∀ r, okR r → tokD (w.data.toList ++ r) = tokD w.data.toList ∧ ((tokD w.data.toList).2.2 = 0 → (tokD w.data.toList).2.1 = w.data.toList.length) ∧ 0 < w.data.toList.length ∧ inK [5] (w.data.toList.getD 0 0) = false ∧ kd (w.data.toList.getD 0 0) ≠ 6 := by
  intro w hw r hr
  have hf := List.all_eq_true.1 word_fact w hw
  simp only [Bool.and_eq_true, Bool.or_eq_true, decide_eq_true_eq, Bool.not_eq_true'] at hf
  obtain ⟨⟨⟨f1, f2⟩, f3⟩, f4⟩ := hf
  refine ⟨?_, fun h => f1.resolve_left (fun g => g h), f2, f3, f4⟩
  rcases hr with rfl | ⟨c, r', rfl, hc⟩
  · rw [List.append_nil]
  · exact word_next r' c hc w hw

def blanksL : List ByteArray := [(⟨#[32]⟩ : ByteArray), (⟨#[10, 10]⟩ : ByteArray), (⟨#[9]⟩ : ByteArray), (⟨#[32, 35, 32, 99, 32, 59, 32, 10]⟩ : ByteArray), (⟨#[13]⟩ : ByteArray)]
/-- A text of words, each with what stands ahead of it. -/
def layT (l : List (ByteArray × ByteArray)) : List UInt8 := l.flatMap fun p => p.1.data.toList ++ p.2.data.toList
def outW : List ByteArray → Int ⊕ List Tok3
  | [] => .inr [(5, ⟨#[]⟩, 0)]
  | w :: ws => if (tokD w.data.toList).2.2 ≠ 0 then .inl (tokD w.data.toList).2.2 else match outW ws with
    | .inl e => .inl e
    | .inr r => .inr ((tokD w.data.toList).1 :: r)
def bare (t : Tok) : Tok3 := (t.1, t.2.1, t.2.2.1)
def bareG : (Int × Int) ⊕ List Tok → Int ⊕ List Tok3
  | .inl x => .inl x.2
  | .inr r => .inr (r.map bare)

theorem layT_okR {l : List (ByteArray × ByteArray)} (h : ∀ p ∈ l, p.1 ∈ blanksL) : okR (layT l) := by
  cases l with
  | nil => exact .inl rfl
  | cons p l =>
    have hp := h p (List.mem_cons_self ..)
    right
    simp only [blanksL, List.mem_cons, List.not_mem_nil, or_false] at hp
    obtain ⟨g, w⟩ := p
    simp only at hp
    rcases hp with rfl | rfl | rfl | rfl | rfl
    · exact ⟨32, _, rfl, .inl rfl⟩
    · exact ⟨10, _, rfl, .inr (.inl rfl)⟩
    · exact ⟨9, _, rfl, .inr (.inr (.inl rfl))⟩
    · exact ⟨32, _, rfl, .inl rfl⟩
    · exact ⟨13, _, rfl, .inr (.inr (.inr rfl))⟩

/-- Blanks, then a word: one step. -/
theorem tokG_word {s : ByteArray} {i k n : Nat} {b : List UInt8} {w : ByteArray} {r : List UInt8} (hb : b.takeWhile (inK [5]) = b) (hn : b.length = n) (h : s.data.toList.drop i = b ++ (w.data.toList ++ r)) (hw : w ∈ wordsL) (hr : okR r) :
    bareG (tokG (k + 1) s i) = if (tokD w.data.toList).2.2 ≠ 0 then .inl (tokD w.data.toList).2.2 else match bareG (tokG k s (i + (n + w.data.toList.length))) with
      | .inl e => .inl e
      | .inr r => .inr ((tokD w.data.toList).1 :: r) := by
  obtain ⟨h1, h2, h3, h4, h5⟩ := word_ok w hw r hr
  obtain ⟨c, t, hct⟩ : ∃ c t, w.data.toList = c :: t := by
    cases hc : w.data.toList with
    | nil => rw [hc] at h3; simp at h3
    | cons c t => exact ⟨c, t, rfl⟩
  have htw : (b ++ (w.data.toList ++ r)).takeWhile (inK [5]) = b := by
    rw [List.takeWhile_append, if_pos (by rw [hb]), hct, List.cons_append, List.takeWhile_cons_of_neg (by rw [hct] at h4; simpa using h4), List.append_nil]
  have hE : tw (inK [5]) s.data.toList i = i + n := by rw [tw_drop h, htw, hn]
  have hd : s.data.toList.drop (i + n) = w.data.toList ++ r := by rw [drop_drop' h n, ← hn, List.drop_left]
  have hlt : i + n < s.data.toList.length := by
    have := congrArg List.length hd
    simp only [List.length_drop, List.length_append] at this
    omega
  have hg : s.data.toList.getD (i + n) 0 = w.data.toList.getD 0 0 := by
    rw [getD_drop h n, ← hn, List.getD_eq_getElem?_getD, List.getElem?_append_right (Nat.le_refl _), Nat.sub_self, hct]; rfl
  obtain ⟨q1, q2⟩ := tokP_D hd
  rw [h1] at q1 q2
  simp only [tokG, hE]
  rw [if_neg (by omega), hg, if_neg h5, q1]
  by_cases hz : (tokD w.data.toList).2.2 ≠ 0
  · rw [if_pos hz, if_pos hz]; rfl
  · rw [if_neg hz, if_neg hz]
    obtain ⟨q3, q4⟩ := q2 (by rw [q1]; simpa using hz)
    rw [q4, h2 (by simpa using hz)]
    simp only [Int.toNat_natCast, Nat.add_assoc]
    cases tokG k s (i + (n + w.data.toList.length)) with
    | inl x => rfl
    | inr r' => simp only [bareG, List.map_cons, bare]; rw [← q3]

theorem tokG_lay {s : ByteArray} : ∀ (l : List (ByteArray × ByteArray)) (i k : Nat), (∀ p ∈ l, p.1 ∈ blanksL ∧ p.2 ∈ wordsL) → s.data.toList.drop i = layT l → i ≤ s.data.toList.length → 2 * l.length < k → bareG (tokG k s i) = outW (l.map (·.2))
  | [], i, 0, _, _, _, h => by simp at h
  | [], i, k + 1, _, hd, hi, _ => by
    have he : i = s.data.toList.length := by
      have := congrArg List.length hd
      simp [layT] at this
      have e : s.data.toList.length = s.size := size_list' s
      omega
    have : tw (inK [5]) s.data.toList i = s.data.toList.length := by rw [he, tw_out (Nat.le_refl _)]
    simp only [tokG, this, if_true]
    rfl
  | (g, w) :: l, i, k, hp, hd, hi, hk => by
    have hp0 := hp (g, w) (List.mem_cons_self ..)
    have hr : okR (layT l) := layT_okR fun p h => (hp p (List.mem_cons_of_mem _ h)).1
    have hlay : layT ((g, w) :: l) = g.data.toList ++ (w.data.toList ++ layT l) := by simp [layT]
    rw [hlay] at hd
    have step : ∀ (b : List UInt8) (n j k : Nat), b.takeWhile (inK [5]) = b → b.length = n → s.data.toList.drop j = b ++ (w.data.toList ++ layT l) → 2 * l.length < k → bareG (tokG (k + 1) s j) = outW (((g, w) :: l).map (·.2)) := by
      intro b n j k hb hn hd hk
      rw [tokG_word hb hn hd hp0.2 hr]
      have hd' : s.data.toList.drop (j + (n + w.data.toList.length)) = layT l := by
        rw [drop_drop' hd, ← List.append_assoc, show n + w.data.toList.length = (b ++ w.data.toList).length by rw [List.length_append, hn], List.drop_left]
      rw [List.map_cons, outW]
      by_cases hle : j + (n + w.data.toList.length) ≤ s.data.toList.length
      · rw [tokG_lay l _ k (fun p h => hp p (List.mem_cons_of_mem _ h)) hd' hle hk]
      · exfalso
        have := congrArg List.length hd
        simp only [List.length_drop, List.length_append] at this
        have h3 := (word_ok w hp0.2 _ hr).2.2.1
        omega
    obtain ⟨k, rfl⟩ : ∃ k', k = k' + 2 := ⟨k - 2, by simp only [List.length_cons] at hk; omega⟩
    simp only [List.length_cons] at hk
    have hgap := hp0.1
    simp only [blanksL, List.mem_cons, List.not_mem_nil, or_false] at hgap
    rcases hgap with rfl | rfl | rfl | rfl | rfl
    · exact step [32] 1 i (k + 1) (by decide) rfl hd (by omega)
    · exact step [10, 10] 2 i (k + 1) (by decide) rfl hd (by omega)
    · exact step [9] 1 i (k + 1) (by decide) rfl hd (by omega)
    · -- a comment
      have hd : s.data.toList.drop i = 32 :: 35 :: 32 :: 99 :: 32 :: 59 :: 32 :: 10 :: (w.data.toList ++ layT l) := hd
      have hE : tw (inK [5]) s.data.toList i = i + 1 := by
        rw [tw_drop hd, List.takeWhile_cons_of_pos (by decide), List.takeWhile_cons_of_neg (by decide)]; rfl
      have hd1 := drop_drop' hd 1
      simp only [List.drop_succ_cons, List.drop_zero] at hd1
      have hlt : i + 8 ≤ s.data.toList.length := by
        have := congrArg List.length hd
        simp only [List.length_drop, List.length_cons] at this
        omega
      have hN : tw notNl s.data.toList (i + 1) = i + 7 := by
        rw [tw_drop hd1, List.takeWhile_cons_of_pos (by decide), List.takeWhile_cons_of_pos (by decide), List.takeWhile_cons_of_pos (by decide), List.takeWhile_cons_of_pos (by decide), List.takeWhile_cons_of_pos (by decide), List.takeWhile_cons_of_pos (by decide), List.takeWhile_cons_of_neg (by decide)]
        simp
      have hg : s.data.toList.getD (i + 1) 0 = 35 := getD_drop hd 1
      have h6 : kd 35 = 6 := by decide
      have e : tokG (k + 1 + 1) s i = tokG (k + 1) s (i + 7) := by
        rw [tokG]
        simp only [hE]
        rw [if_neg (by omega), hg, if_pos h6, hN]
      rw [e]
      have hd7 := drop_drop' hd 7
      simp only [List.drop_succ_cons, List.drop_zero] at hd7
      exact step [10] 1 (i + 7) k (by decide) rfl hd7 (by omega)
    · exact step [13] 1 i (k + 1) (by decide) rfl hd (by omega)

theorem lay_small {l : List (ByteArray × ByteArray)} (h : ∀ p ∈ l, p.1 ∈ blanksL ∧ p.2 ∈ wordsL) : 2 * l.length ≤ (layT l).length ∧ (layT l).length ≤ 33 * l.length := by
  induction l with
  | nil => simp [layT]
  | cons p l ih =>
    have ih := ih fun q hq => h q (List.mem_cons_of_mem _ hq)
    have hp := h p (List.mem_cons_self ..)
    have e : layT (p :: l) = (p.1.data.toList ++ p.2.data.toList) ++ layT l := rfl
    have h1 : 0 < p.1.data.toList.length ∧ p.1.data.toList.length ≤ 8 := by
      have hf : (blanksL.all fun g => decide (0 < g.data.toList.length) && decide (g.data.toList.length ≤ 8)) = true := by kernel_rfl
      have := List.all_eq_true.1 hf _ hp.1
      simpa using this
    have h2 := wordsL_ok _ hp.2
    have h3 := (word_ok _ hp.2 [] (.inl rfl)).2.2.1
    have h4 := size_list' p.2
    rw [e, List.length_append, List.length_append, List.length_cons]
    omega

theorem tokens_lay {s : ByteArray} {l : List (ByteArray × ByteArray)} (h : ∀ p ∈ l, p.1 ∈ blanksL ∧ p.2 ∈ wordsL) (hl : l.length ≤ 100) (hs : s.data.toList = layT l) :
    match outW (l.map (·.2)) with
    | .inl e => (tokensP s).1 = [] ∧ (tokensP s).2.2 = e
    | .inr r => (tokensP s).1.map bare = r ∧ (tokensP s).2.2 = 0 := by
  have hsm := lay_small h
  have hg := tokG_lay l 0 (s.data.toList.length + 1) h (by simpa using hs) (Nat.zero_le _) (by rw [hs]; omega)
  unfold tokensP
  rw [if_neg (by rw [hs]; omega), ← hg]
  cases tokG (s.data.toList.length + 1) s 0 with
  | inl x => exact ⟨rfl, rfl⟩
  | inr r => exact ⟨by simp [joinG], rfl⟩

theorem blanks_def {N : Nat} {y1 : (List Int × Int) × List ByteArray} {s1 : ByteArray × ByteArray × Int × List (Int) × Int} : testgatelaw04_LexerBlanks_L1 N y1 s1 =
  if (decide (s1.2.2.1 < (List.length y1.2 : Int))) = true then ((idx y1.2 s1.2.2.1).bind fun x1 => (catB (⟨#[32]⟩ : ByteArray) x1).bind fun s2 => (catB s1.1 s2).bind fun s3 => (testgatemake_Tape_One N (s1.2.2.2.1, s1.2.2.2.2) blanksL).bind fun y2 => (catB y2.2 x1).bind fun s4 => (catB s1.2.1 s4).bind fun s5 => some (.inl (s3, s5, IntKind.wrap .i64 (s1.2.2.1 + 1), y2.1.1, y2.1.2))) else (some (.inr (s1.1, s1.2.1, s1.2.2.2.1, s1.2.2.2.2))) := rfl

theorem words_mem {N : Nat} {l : List Int} (hN : 100 < N) : ∃ l' a W, testgatelaw04_words N (l, 0) = some ((l', a), W) ∧ 0 ≤ a ∧ a ≤ 100 ∧ W.length ≤ 14 ∧ ∀ x ∈ W, x ∈ wordsL := by
  obtain ⟨r, hr, g1, g2⟩ := next_okL (N := N) (l := l) (a := 0) (n := 14) (by omega) (by omega) (by omega)
  have g2 := g2 (by omega)
  simp only [testgatelaw04_words, hr, Option.bind_some]
  obtain ⟨b, hb1, hb2⟩ := loopM_ex (f := testgatelaw04_words_L1 N) (fun st => 0 ≤ st.2.1 ∧ (st.1.length : Int) + st.2.1 ≤ 14 ∧ 0 ≤ st.2.2.2 ∧ st.2.2.2 + st.2.1 ≤ 50 ∧ ∀ x ∈ st.1, x ∈ wordsL) (fun st => st.2.1.toNat)
    (fun b => b.1.length ≤ 14 ∧ (∀ x ∈ b.1, x ∈ wordsL) ∧ 0 ≤ b.2.2 ∧ b.2.2 ≤ 100)
    (fun st ⟨h1, h2, h3, h4, h5⟩ => by
      obtain ⟨acc, i, l', a⟩ := st
      simp only at h1 h2 h3 h4 h5
      rw [words_def]
      by_cases hi : i > 0
      · right
        obtain ⟨x, hx, hx2⟩ := one_ok (N := N) (l := l') (a := a) (L := wordsL) (by decide) (by decide) h3 (by omega)
        rw [if_pos (by simpa using hi), hx2]
        simp only [Option.bind_some]
        rw [appendS_some (by simp only [List.length_cons, List.length_nil]; omega) (by omega)]
        refine ⟨_, rfl, ⟨?_, ?_, ?_, ?_, ?_⟩, ?_⟩
        · show 0 ≤ IntKind.wrap .i64 (i - 1); rw [wi64 (by omega) (by omega)]; omega
        · show ((acc ++ [x]).length : Int) + IntKind.wrap .i64 (i - 1) ≤ 14; rw [wi64 (by omega) (by omega)]; simp only [List.length_append, List.length_cons, List.length_nil]; omega
        · show 0 ≤ a + 1; omega
        · show a + 1 + IntKind.wrap .i64 (i - 1) ≤ 50; rw [wi64 (by omega) (by omega)]; omega
        · intro y hy
          rcases List.mem_append.1 hy with hy | hy
          · exact h5 y hy
          · obtain rfl := List.mem_singleton.1 hy; exact hx
        · show (IntKind.wrap .i64 (i - 1)).toNat < i.toNat; rw [wi64 (by omega) (by omega)]; omega
      · left
        rw [if_neg (by simpa using hi)]
        exact ⟨_, rfl, by simp only; omega, h5, h3, by simp only; omega⟩) N ([], r, l, 0 + 1) ⟨g1, by simp only [List.length_nil]; omega, by show (0 : Int) ≤ 0 + 1; omega, by show (0 : Int) + 1 + r ≤ 50; omega, by simp⟩ (by simp only; omega)
  obtain ⟨W, l', a⟩ := b
  rw [hb1]
  exact ⟨l', a, W, rfl, hb2.2.2.1, hb2.2.2.2, hb2.1, hb2.2.1⟩

theorem blank1 : (⟨#[32]⟩ : ByteArray) ∈ blanksL := List.mem_cons_self ..
theorem layT_snoc (l : List (ByteArray × ByteArray)) (p : ByteArray × ByteArray) : layT (l ++ [p]) = layT l ++ (p.1.data.toList ++ p.2.data.toList) := by simp [layT]

/-- The loop that compares. -/
theorem blanks_loop {N : Nat} {y3 : (List (Int × ByteArray × Int × Int)) × Int × Int} : ∀ (d j : Nat) (A B : List (Int × ByteArray × Int × Int)) (k : Nat), A.length = y3.1.length → B.length = y3.1.length → y3.1.length < 1000000 → A.map bare = B.map bare → j + d = y3.1.length → d < k →
    ∃ o, loopM (testgatelaw04_LexerBlanks_L2 N y3) k ((j : Int), A, B) = some (.inl o)
  | _, _, _, _, 0, _, _, _, _, _, h => by omega
  | 0, j, A, B, k + 1, ha, hb, hs, he, hj, _ => by
    refine ⟨(A, B), ?_⟩
    simp only [loopM, testgatelaw04_LexerBlanks_L2]
    rw [if_neg (by simp only [decide_eq_true_eq]; omega)]
    rfl
  | d + 1, j, A, B, k + 1, ha, hb, hs, he, hj, hk => by
    have hA : j < A.length := by omega
    have hB : j < B.length := by omega
    have hbare : bare A[j] = bare B[j] := by
      have : (A.map bare)[j]? = (B.map bare)[j]? := by rw [he]
      simpa [hA, hB] using this
    obtain ⟨o, ho⟩ := blanks_loop d (j + 1) (A.set j (A[j].1, A[j].2.1, A[j].2.2.1, 0)) (B.set j (B[j].1, B[j].2.1, B[j].2.2.1, 0)) k (by simpa using ha) (by simpa using hb) hs (by
      rw [List.map_set, List.map_set, he]
      simp only [bare, Prod.mk.injEq] at hbare ⊢
      obtain ⟨e1, e2, e3⟩ := hbare
      rw [e1, e2, e3]) (by omega) (by omega)
    refine ⟨o, ?_⟩
    simp only [bare, Prod.mk.injEq] at hbare
    obtain ⟨e1, e2, e3⟩ := hbare
    simp only [loopM, testgatelaw04_LexerBlanks_L2]
    rw [if_pos (by simp only [decide_eq_true_eq]; omega), idx_nat hB]
    simp only [Option.bind_some]
    rw [idx_nat hA]
    simp only [Option.bind_some, Int.toNat_natCast]
    rw [idx_nat (l := B.set j _) (by simpa using hB)]
    simp only [Option.bind_some]
    rw [idx_nat (l := A.set j _) (by simpa using hA)]
    simp only [Option.bind_some, List.getElem_set_self, e1, e2, e3, beq_self_eq_true, Bool.and_self, Bool.not_true, Bool.false_eq_true, if_false]
    rw [wi64 (by omega) (by omega), ← e1, ← e2, ← e3]
    have ej : (j : Int) + 1 = ((j + 1 : Nat) : Int) := by omega
    rw [ej]
    simp only [e1, e2, e3] at ho ⊢
    exact ho

theorem testgatelaw04_LexerBlanks_true (l : List Int) (_gl : l.length * 8 ≤ reachBytes ∧ ∀ x ∈ l, (Lit.int .i64 x).wf = true) : ∃ N, testgatelaw04_LexerBlanks N l = some true := by
  refine ⟨30000, ?_⟩
  obtain ⟨l', a, W, hW, h1, h2, h3, h4⟩ := words_mem (N := 30000) (l := l) (by omega)
  simp only [testgatelaw04_LexerBlanks, hW, Option.bind_some]
  obtain ⟨b, hb1, hb2⟩ := loopM_ex (f := testgatelaw04_LexerBlanks_L1 30000 ((l', a), W)) (fun st => ∃ (j : Nat) (G : List ByteArray), st.2.2.1 = (j : Int) ∧ j ≤ W.length ∧ G.length = j ∧ (∀ g ∈ G, g ∈ blanksL) ∧ st.1.data.toList = layT ((W.take j).map fun w => ((⟨#[32]⟩ : ByteArray), w)) ∧ st.2.1.data.toList = layT (G.zip (W.take j)) ∧ 0 ≤ st.2.2.2.2 ∧ st.2.2.2.2 ≤ 100 + j) (fun st => W.length - st.2.2.1.toNat)
    (fun b => ∃ G : List ByteArray, G.length = W.length ∧ (∀ g ∈ G, g ∈ blanksL) ∧ b.1.data.toList = layT (W.map fun w => ((⟨#[32]⟩ : ByteArray), w)) ∧ b.2.1.data.toList = layT (G.zip W))
    (fun st ⟨j, G, k1, k2, k3, k4, k5, k6, k7, k8⟩ => by
      obtain ⟨s, t, j', q, c⟩ := st
      simp only at k1 k5 k6 k7 k8
      subst k1
      rw [blanks_def]
      rcases Nat.lt_or_ge j W.length with hj | hj
      · right
        obtain ⟨g, hg, hg2⟩ := one_ok (N := 30000) (l := q) (a := c) (L := blanksL) (by decide) (by decide) k7 (by omega)
        have hw := h4 _ (List.getElem_mem hj)
        have e0 := wordsL_ok _ hw
        have hp1 : ∀ p ∈ (W.take j).map fun w => ((⟨#[32]⟩ : ByteArray), w), p.1 ∈ blanksL ∧ p.2 ∈ wordsL := by
          intro p hp
          obtain ⟨w, hw, rfl⟩ := List.mem_map.1 hp
          exact ⟨blank1, h4 w (List.mem_of_mem_take hw)⟩
        have hp2 : ∀ p ∈ G.zip (W.take j), p.1 ∈ blanksL ∧ p.2 ∈ wordsL := by
          intro p hp
          obtain ⟨g, w⟩ := p
          have := List.of_mem_zip hp
          exact ⟨k4 g this.1, h4 w (List.mem_of_mem_take this.2)⟩
        have z1 := (lay_small hp1).2
        have z2 := (lay_small hp2).2
        rw [← k5] at z1; rw [← k6] at z2
        simp only [List.length_map, List.length_take, List.length_zip] at z1 z2
        have u1 := size_list' s; have u2 := size_list' t; have u3 := size_list' g
        have hgs : g.size ≤ 8 := by
          have : (blanksL.all fun x => decide (x.size ≤ 8)) = true := by decide
          simpa using List.all_eq_true.1 this g hg
        have h32 : (⟨#[32]⟩ : ByteArray).size = 1 := rfl
        rw [if_pos (by simpa using hj), idx_nat hj]
        simp only [Option.bind_some, catB]
        rw [if_pos (by simp only [maxLen, h32]; omega)]
        simp only [Option.bind_some]
        rw [if_pos (by simp only [maxLen, ByteArray.size_append, h32]; omega)]
        simp only [Option.bind_some, hg2]
        rw [if_pos (by simp only [maxLen]; omega)]
        simp only [Option.bind_some]
        rw [if_pos (by simp only [maxLen, ByteArray.size_append]; omega), wi64 (by omega) (by omega)]
        have etk : W.take (j + 1) = W.take j ++ [W[j]] := (List.take_append_getElem hj).symm
        refine ⟨_, rfl, ⟨j + 1, G ++ [g], by simp, by omega, by simp [k3], ?_, ?_, ?_, by simp only; omega, by simp only; omega⟩, ?_⟩
        · intro y hy
          rcases List.mem_append.1 hy with hy | hy
          · exact k4 y hy
          · obtain rfl := List.mem_singleton.1 hy; exact hg
        · rw [etk, List.map_append, List.map_cons, List.map_nil, layT_snoc, ← k5]
          simp [ByteArray.data_append]
        · have ezip : (G ++ [g]).zip (W.take (j + 1)) = G.zip (W.take j) ++ [(g, W[j])] := by
            rw [etk, List.zip_append (by simp; omega)]; rfl
          rw [ezip, layT_snoc, ← k6]
          simp [ByteArray.data_append]
        · simp only; omega
      · left
        have ej : j = W.length := by omega
        rw [if_neg (by simp only [decide_eq_true_eq]; omega)]
        rw [ej, List.take_length] at k5 k6
        exact ⟨_, rfl, G, by omega, k4, k5, k6⟩) 30000 ((⟨#[]⟩ : ByteArray), (⟨#[]⟩ : ByteArray), 0, l', a) ⟨0, [], rfl, by omega, rfl, by simp, rfl, rfl, h1, by simp only; omega⟩ (by simp only; omega)
  obtain ⟨G, g1, g2, g3, g4⟩ := hb2
  rw [hb1]
  simp only [Option.bind_some]
  rw [Tokens_eq (by omega), Tokens_eq (by omega)]
  simp only [Option.bind_some]
  have hp1 : ∀ p ∈ W.map fun w => ((⟨#[32]⟩ : ByteArray), w), p.1 ∈ blanksL ∧ p.2 ∈ wordsL := by
    intro p hp
    obtain ⟨w, hw, rfl⟩ := List.mem_map.1 hp
    exact ⟨blank1, h4 w hw⟩
  have hp2 : ∀ p ∈ G.zip W, p.1 ∈ blanksL ∧ p.2 ∈ wordsL := by
    intro p hp
    obtain ⟨g, w⟩ := p
    have := List.of_mem_zip hp
    exact ⟨g2 g this.1, h4 w this.2⟩
  have t1 := tokens_lay hp1 (by simp; omega) g3
  have t2 := tokens_lay hp2 (by simp [List.length_zip]; omega) g4
  have m1 : (W.map fun w => ((⟨#[32]⟩ : ByteArray), w)).map (·.2) = W := by rw [List.map_map]; exact List.map_id'' (fun _ => rfl) W
  have m2 : (G.zip W).map (·.2) = W := List.map_snd_zip (by omega)
  rw [m1] at t1; rw [m2] at t2
  have hlen : ∀ s : ByteArray, s.data.toList.length ≤ 10000 → (tokensP s).1.length < 1000000 := by
    intro s hs
    unfold tokensP
    rw [if_neg (by omega)]
    cases ht : tokG (s.data.toList.length + 1) s 0 with
    | inl x => simp [joinG]
    | inr r =>
      have := (tokG_chain (s := s) (s.data.toList.length + 1) 0 0 r (by omega) (by omega) (by omega) ht).2.2
      simp only [joinG, List.nil_append]; omega
  have hsz := (lay_small hp1).2
  rw [← g3, List.length_map] at hsz
  have hl1 := hlen b.1 (by omega)
  cases ho : outW W with
  | inl e =>
    rw [ho] at t1 t2
    obtain ⟨a1, a2⟩ := t1
    obtain ⟨b1, b2⟩ := t2
    obtain ⟨o, hloop⟩ := blanks_loop (N := 30000) (y3 := tokensP b.1) 0 0 (tokensP b.2.1).1 (tokensP b.1).1 30000 (by rw [a1, b1]) rfl hl1 (by rw [a1, b1]) (by rw [a1]; rfl) (by omega)
    rw [a2, b2, a1, b1] at *
    simp only [bne_self_eq_false, Bool.false_eq_true, if_false, Option.bind_some]
    have hloop : loopM (testgatelaw04_LexerBlanks_L2 30000 (tokensP b.1)) 30000 (0, [], []) = some (.inl o) := hloop
    rw [hloop]
    simp only [Option.bind_some, awake_eq (show 1000 < 30000 by omega)]
  | inr r =>
    rw [ho] at t1 t2
    obtain ⟨a1, a2⟩ := t1
    obtain ⟨b1, b2⟩ := t2
    have hle : (tokensP b.2.1).1.length = (tokensP b.1).1.length := by
      have := congrArg List.length (b1.trans a1.symm)
      simpa using this
    obtain ⟨o, hloop⟩ := blanks_loop (N := 30000) (y3 := tokensP b.1) (tokensP b.1).1.length 0 (tokensP b.2.1).1 (tokensP b.1).1 30000 hle rfl hl1 (b1.trans a1.symm) (by omega) (by
      have := (lay_small hp1).2
      have hh : (tokensP b.1).1.length ≤ b.1.data.toList.length + 1 := by
        unfold tokensP
        rw [if_neg (by omega)]
        cases ht : tokG (b.1.data.toList.length + 1) b.1 0 with
        | inl x => simp [joinG]
        | inr r =>
          have := (tokG_chain (s := b.1) (b.1.data.toList.length + 1) 0 0 r (by omega) (by omega) (by omega) ht).2.2
          simp only [joinG, List.nil_append]; omega
      omega)
    rw [a2, b2, hle]
    simp only [bne_self_eq_false, Bool.false_eq_true, if_false, Option.bind_some]
    have hloop : loopM (testgatelaw04_LexerBlanks_L2 30000 (tokensP b.1)) 30000 (0, (tokensP b.2.1).1, (tokensP b.1).1) = some (.inl o) := hloop
    rw [hloop]
    simp only [Option.bind_some, awake_eq (show 1000 < 30000 by omega)]
end Go.Proofs.YtfodebccikifcaaDoor
