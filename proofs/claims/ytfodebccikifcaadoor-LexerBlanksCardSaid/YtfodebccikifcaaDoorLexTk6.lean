/- The lexer's tokens, as a function. No condition. -/
import Derived.Test.YtfodebccikifcaaDoorLexSk6
import Derived.Test.YtfodebccikifcaaDoorFrame
namespace Go.Proofs.YtfodebccikifcaaDoor
open Go Go.Dc

theorem kd_def (c : UInt8) : (mgetQ (some kdL) (c.toNat : Int)).getD 0 = kd c := rfl
theorem getD_in {l : List UInt8} {i : Nat} (h : i < l.length) : l.getD i 0 = l[i] := by simp [List.getD_eq_getElem?_getD, h]

/-- As tw_loop, from an index on. -/
theorem tw_loop2 {β : Type} {p : UInt8 → Bool} {l : List UInt8} {a0 : Nat} {f : Int → Option (Int ⊕ β)} (out : Nat → β) (go : ∀ i : Nat, ∀ h : i < l.length, p l[i] = true → f (i : Int) = some (.inl ((i : Int) + 1)))
    (no : ∀ i : Nat, ∀ h : i < l.length, a0 ≤ i → p l[i] = false → f (i : Int) = some (.inr (out i))) (en : f (l.length : Int) = some (.inr (out l.length))) :
    ∀ (d a N : Nat), a0 ≤ a → a + d = l.length → d < N → loopM f N (a : Int) = some (out (tw p l a))
  | d, a, 0, _, _, h => by omega
  | 0, a, N + 1, _, hd, h => by
    have : a = l.length := by omega
    subst this
    rw [tw_out (Nat.le_refl _)]; simp [loopM, en]
  | d + 1, a, N + 1, h0, hd, h => by
    have ha : a < l.length := by omega
    cases hb : p l[a] with
    | true =>
      have := tw_loop2 out go no en d (a + 1) N (by omega) (by omega) (by omega)
      rw [tw_step ha hb] at this
      simpa [loopM, go a ha hb] using this
    | false =>
      rw [tw_stop ha hb]; simp [loopM, no a ha h0 hb]

def numS (n : Int) (c : UInt8) : Int := if 9007199254740993 < 10 * n + ((c.toNat : Int) - 48) then 9007199254740993 else 10 * n + ((c.toNat : Int) - 48)
def numL (ds : List UInt8) : Int := ds.foldl numS 0
def isTxt (c : UInt8) : Bool := decide (32 ≤ c.toNat) && decide (c.toNat ≤ 126) && c != 34
def noTok : Int × ByteArray × Int × Int := (0, ⟨#[]⟩, 0, 0)
def signE (l : List UInt8) (i : Nat) : Nat := if l.getD i 0 = 61 ∧ l.getD (i + 1) 0 = 61 then i + 2 else i + 1
def tokP (s : ByteArray) (i : Nat) : (Int × ByteArray × Int × Int) × Int × Int :=
  if kd (s.data.toList.getD i 0) = 1 then
    if tw (inK [1, 2, 3]) s.data.toList i - i > 24 then (noTok, 0, 2) else ((1, s.extract i (tw (inK [1, 2, 3]) s.data.toList i), 0, 0), ((tw (inK [1, 2, 3]) s.data.toList i : Nat) : Int), 0)
  else if kd (s.data.toList.getD i 0) = 2 then
    if numL ((s.data.toList.drop i).takeWhile (inK [2])) > 9007199254740992 then (noTok, 0, 3) else ((2, ⟨#[]⟩, numL ((s.data.toList.drop i).takeWhile (inK [2])), 0), ((tw (inK [2]) s.data.toList i : Nat) : Int), 0)
  else if kd (s.data.toList.getD i 0) = 7 then
    if s.data.toList.getD (tw isTxt s.data.toList (i + 1)) 0 = 34 then ((3, s.extract (i + 1) (tw isTxt s.data.toList (i + 1)), 0, 0), ((tw isTxt s.data.toList (i + 1) + 1 : Nat) : Int), 0) else (noTok, 0, 9)
  else if kd (s.data.toList.getD i 0) = 8 then
    ((4, s.extract i (signE s.data.toList i), 0, 0), ((signE s.data.toList i : Nat) : Int), 0)
  else (noTok, 0, 9)

theorem kd_digit : ∀ c : UInt8, kd c = 2 → 48 ≤ c.toNat ∧ c.toNat ≤ 57 := by
  have h : ((List.range 256).all fun n => !(decide (kd (UInt8.ofNat n) = 2)) || (decide (48 ≤ n) && decide (n ≤ 57))) = true := by kernel_rfl
  intro c hc
  have := List.all_eq_true.1 h c.toNat (List.mem_range.2 c.toNat_lt)
  simpa [hc] using this

theorem ext_takeWhile {s : ByteArray} {p : UInt8 → Bool} {i : Nat} : (s.extract i (tw p s.data.toList i)).data.toList = (s.data.toList.drop i).takeWhile p := by
  simp only [ByteArray.data_extract, Array.toList_extract]
  have h := List.prefix_iff_eq_take.1 (List.takeWhile_prefix p (l := s.data.toList.drop i))
  rw [List.extract_eq_take_drop, show tw p s.data.toList i - i = ((s.data.toList.drop i).takeWhile p).length by unfold tw; omega]
  exact h.symm

theorem numL_snoc (l : List UInt8) (c : UInt8) : numL (l ++ [c]) = numS (numL l) c := by simp [numL]
theorem mem_tw {p : UInt8 → Bool} : ∀ {l : List UInt8} {c : UInt8}, c ∈ l.takeWhile p → p c = true
  | [], _, h => by simp at h
  | x :: l, c, h => by
    cases hx : p x with
    | true =>
      rw [List.takeWhile_cons_of_pos hx] at h
      rcases List.mem_cons.1 h with rfl | h
      · exact hx
      · exact mem_tw h
    | false => rw [List.takeWhile_cons_of_neg (by simp [hx])] at h; cases h
theorem num_loop {N : Nat} {ds : List UInt8} (hd : ∀ c ∈ ds, kd c = 2) (hl : ds.length < 1000000) (hN : ds.length < N) : loopM (lexer_token_L1 N ds) N (0, 0) = some (numL ds) := by
  have hb : ∀ j, j ≤ ds.length → 0 ≤ numL (ds.take j) ∧ numL (ds.take j) ≤ 9007199254740993 := by
    intro j
    induction j with
    | zero => intro _; simp [numL]
    | succ j ih =>
      intro hj
      have := ih (by omega)
      rw [List.take_succ_eq_append_getElem (by omega)]
      have hc := kd_digit _ (hd _ (List.getElem_mem (show j < ds.length by omega)))
      rw [numL_snoc]
      unfold numS
      split <;> omega
  have key := loopM_st (f := lexer_token_L1 N ds) (fun j => (numL (ds.take j), (j : Int))) ds.length (numL ds) (fun j hj => ?_) ?_ (N := N) (by omega)
  · exact key
  · have hc := kd_digit _ (hd _ (List.getElem_mem hj))
    have h0 := hb j (by omega)
    simp only [lexer_token_L1]
    rw [if_pos (by simpa using hj), idx_nat hj]
    simp only [Option.bind_some]
    rw [wu8 (by omega) (by omega), wi64 (x := 10 * numL (ds.take j)) (by omega) (by omega), wi64 (x := ((ds[j]).toNat : Int) - 48) (by omega) (by omega), wi64 (x := (j : Int) + 1) (by omega) (by omega), wi64 (by omega) (by omega), List.take_succ_eq_append_getElem hj, numL_snoc]
    rfl
  · simp only [lexer_token_L1]
    rw [if_neg (by simp), List.take_length]

theorem sub_list {s : ByteArray} {i e : Nat} (h1 : i ≤ e) (h2 : e ≤ s.data.toList.length) : subB s (i : Int) (e : Int) = some (s.extract i e) := by
  have := size_list' s
  rw [subB_some (by omega) (by omega) (by omega)]
  simp

theorem text_go {N : Nat} {s : ByteArray} {i j : Nat} (hj : j < s.data.toList.length) (hl : s.data.toList.length < 1000000) (hb : isTxt (s.data.toList[j]) = true) : lexer_token_L2 N s (i : Int) (j : Int) = some (.inl ((j : Int) + 1)) := by
  have hs := size_list' s
  simp only [isTxt, Bool.and_eq_true, decide_eq_true_eq, bne_iff_ne, ne_eq] at hb
  obtain ⟨⟨h1, h2⟩, h3⟩ := hb
  have h3' : ¬ ((s.data.toList[j]).toNat : Int) = 34 := fun e => h3 (UInt8.toNat_inj.1 (by show _ = 34; omega))
  simp only [lexer_token_L2, idxB_list hj, Option.bind_some]
  rw [if_pos (by simp only [decide_eq_true_eq]; omega), if_pos (by simp only [decide_eq_true_eq]; omega)]
  simp only [Option.bind_some]
  rw [if_pos (by simp only [decide_eq_true_eq]; omega), if_neg (by simpa using h3'), wi64 (by omega) (by omega)]
theorem text_no {N : Nat} {s : ByteArray} {i j : Nat} (hi : i < s.data.toList.length) (hj : j < s.data.toList.length) (hl : s.data.toList.length < 1000000) (hij : i + 1 ≤ j) (hb : isTxt (s.data.toList[j]) = false) :
    lexer_token_L2 N s (i : Int) (j : Int) = some (.inr (if s.data.toList.getD j 0 = 34 then (.inr ((3, s.extract (i + 1) j, 0, 0), ((j + 1 : Nat) : Int), 0)) else (.inl ()))) := by
  have hs := size_list' s
  simp only [lexer_token_L2, idxB_list hj, Option.bind_some, getD_in hj]
  rw [if_pos (by simp only [decide_eq_true_eq]; omega)]
  by_cases h34 : s.data.toList[j] = 34
  · rw [h34]
    simp only [show ((34 : UInt8).toNat : Int) = 34 from rfl]
    rw [wi64 (x := (i : Int) + 1) (by omega) (by omega), wi64 (by omega) (by omega), ← Int.natCast_succ, sub_list hij (by omega)]
    rfl
  · have h3' : ¬ ((s.data.toList[j]).toNat : Int) = 34 := fun e => h34 (UInt8.toNat_inj.1 (by show _ = 34; omega))
    rw [if_neg h34]
    simp only [isTxt, Bool.and_eq_false_iff, decide_eq_false_iff_not, bne_eq_false_iff_eq, h34, or_false] at hb
    by_cases h1 : 32 ≤ (s.data.toList[j]).toNat
    · rw [if_pos (by simp only [decide_eq_true_eq]; omega)]
      simp only [Option.bind_some]
      rw [if_neg (by simp only [decide_eq_true_eq]; omega)]
    · rw [if_neg (by simp only [decide_eq_true_eq]; omega)]
      simp

theorem sub_list' {s : ByteArray} {i : Nat} (h1 : i ≤ s.data.toList.length) : subB s (i : Int) (s.size : Int) = some (s.extract i s.data.toList.length) := by
  have hs := size_list' s
  rw [← sub_list h1 (Nat.le_refl _), hs]
theorem bytes_eq' (x y : ByteArray) : (x.toList == y.toList) = decide (x = y) := by
  rw [Bool.eq_iff_iff]
  simp only [beq_iff_eq, decide_eq_true_eq]
  constructor
  · intro h
    rw [ByteArray.toList_eq, ByteArray.toList_eq] at h
    exact Go.WideShapes.bytes_inj h
  · rintro rfl; rfl
theorem prefix_eq {N : Nat} {s : ByteArray} {i : Nat} (hi : i < s.data.toList.length) : strings_HasPrefix N (s.extract i s.data.toList.length) (⟨#[61, 61]⟩ : ByteArray) = some (decide (s.data.toList.getD i 0 = 61 ∧ s.data.toList.getD (i + 1) 0 = 61)) := by
  have hs := size_list' s
  have hsz : (s.extract i s.data.toList.length).size = s.data.toList.length - i := by rw [ByteArray.size_extract]; omega
  simp only [strings_HasPrefix, internal_stringslite_HasPrefix, hsz, show (⟨#[61, 61]⟩ : ByteArray).size = 2 from rfl]
  by_cases h : i + 1 < s.data.toList.length
  · have hd : ((s.extract i s.data.toList.length).extract 0 2).data.toList = [s.data.toList[i], s.data.toList[i + 1]] := by
      simp only [ByteArray.data_extract, Array.toList_extract, List.extract_eq_take_drop, List.drop_zero]
      rw [List.take_take, List.drop_eq_getElem_cons hi, List.drop_eq_getElem_cons h]
      have : min (2 - 0) (s.data.toList.length - i) = 2 := by omega
      rw [this]; rfl
    have hsub : subB (s.extract i s.data.toList.length) 0 ((2 : Nat) : Int) = some ((s.extract i s.data.toList.length).extract 0 2) := by
      have := sub_list (s := s.extract i s.data.toList.length) (i := 0) (e := 2) (by omega) (by rw [size_list', hsz]; omega)
      simpa only [Int.natCast_zero] using this
    rw [if_pos (by simp only [decide_eq_true_eq]; omega), hsub]
    simp only [Option.bind_some, bytes_eq']
    rw [getD_in hi, getD_in h]
    generalize (s.extract i s.data.toList.length).extract 0 2 = X at hd
    refine congrArg some (decide_eq_decide.2 ?_)
    constructor
    · intro e
      rw [e] at hd
      have hd' : [(61 : UInt8), 61] = [s.data.toList[i], s.data.toList[i + 1]] := hd
      simp only [List.cons.injEq, and_true] at hd'
      exact ⟨hd'.1.symm, hd'.2.symm⟩
    · rintro ⟨e1, e2⟩
      apply Go.WideShapes.bytes_inj
      rw [hd, e1, e2]
  · rw [if_neg (by simp only [decide_eq_true_eq]; omega)]
    have h0 : s.data.toList.getD (i + 1) 0 = 0 := by rw [List.getD_eq_getElem?_getD, List.getElem?_eq_none (by omega)]; rfl
    rw [h0]
    simp

theorem token_eq {N : Nat} {s : ByteArray} {i : Nat} (hi : i < s.data.toList.length) (hl : s.data.toList.length < 1000000) (hN : s.data.toList.length + 20 < N) : lexer_token N s (i : Int) (some kdL) = some (tokP s i) := by
  have hs := size_list' s
  simp only [lexer_token, idxB_list hi, Option.bind_some, kd_def, tokP, getD_in hi, beq_iff_eq]
  by_cases h1 : kd (s.data.toList[i]) = 1
  · simp only [h1, if_true]
    have hb := tw_le (p := inK [1, 2, 3]) (l := s.data.toList) (a := i) (by omega)
    rw [span_eq (by omega) hl (by simp) (by omega)]
    simp only [Option.bind_some]
    rw [wi64 (by omega) (by omega), sub_list hb.1 hb.2]
    by_cases h : tw (inK [1, 2, 3]) s.data.toList i - i > 24
    · rw [if_pos (by simp only [decide_eq_true_eq]; omega), if_pos h]; rfl
    · rw [if_neg (by simp only [decide_eq_true_eq]; omega), if_neg h]; rfl
  simp only [h1, if_false]
  by_cases h2 : kd (s.data.toList[i]) = 2
  · simp only [h2, if_true]
    have hb := tw_le (p := inK [2]) (l := s.data.toList) (a := i) (by omega)
    have hx := size_list' (s.extract i (tw (inK [2]) s.data.toList i))
    have he := ext_takeWhile (s := s) (p := inK [2]) (i := i)
    have hlen : ((s.data.toList.drop i).takeWhile (inK [2])).length ≤ s.data.toList.length := by
      have := (List.takeWhile_sublist (inK [2]) (l := s.data.toList.drop i)).length_le
      simp only [List.length_drop] at this; omega
    rw [span_eq (by omega) hl (by simp) (by omega)]
    simp only [Option.bind_some]
    rw [sub_list hb.1 hb.2]
    simp only [Option.bind_some]
    have hbo : bytesOf (s.extract i (tw (inK [2]) s.data.toList i)) = some ((s.data.toList.drop i).takeWhile (inK [2])) := by
      unfold bytesOf; rw [← he, if_pos]; rw [← hx, he]; simp only [maxLen]; omega
    rw [hbo]
    simp only [Option.bind_some]
    rw [num_loop (fun c hc => ?_) (by omega) (by omega)]
    · simp only [Option.bind_some, decide_eq_true_eq]
      split <;> rfl
    · have := mem_tw hc
      simpa [inK] using this
  simp only [h2, if_false]
  by_cases h7 : kd (s.data.toList[i]) = 7
  · simp only [h7, if_true]
    have key := tw_loop2 (a0 := i + 1) (f := lexer_token_L2 N s (i : Int)) (l := s.data.toList) (p := isTxt) (fun e => if s.data.toList.getD e 0 = 34 then (.inr ((3, s.extract (i + 1) e, 0, 0), ((e + 1 : Nat) : Int), 0)) else (.inl ()))
      (fun j hj hb => text_go hj hl hb) (fun j hj h0 hb => text_no hi hj hl h0 hb) (by
        simp only [lexer_token_L2]
        rw [if_neg (by simp only [decide_eq_true_eq]; omega), if_neg (by simp)]
        rfl) (s.data.toList.length - (i + 1)) (i + 1) N (Nat.le_refl _) (by omega) (by omega)
    rw [wi64 (x := (i : Int) + 1) (by omega) (by omega), ← Int.natCast_succ, key]
    simp only [Option.bind_some]
    split
    · rename_i h; split at h <;> simp_all [noTok]
    · rename_i h; split at h <;> simp_all
  simp only [h7, if_false]
  by_cases h8 : kd (s.data.toList[i]) = 8
  · simp only [h8, if_true]
    rw [sub_list' (by omega), wi64 (x := (i : Int) + 1) (by omega) (by omega)]
    simp only [Option.bind_some]
    rw [prefix_eq hi]
    simp only [Option.bind_some, decide_eq_true_eq]
    by_cases h : s.data.toList.getD i 0 = 61 ∧ s.data.toList.getD (i + 1) 0 = 61
    · have hlt : i + 1 < s.data.toList.length := by
        rcases Nat.lt_or_ge (i + 1) s.data.toList.length with h' | h'
        · exact h'
        · have h0 : s.data.toList.getD (i + 1) 0 = 0 := by rw [List.getD_eq_getElem?_getD, List.getElem?_eq_none h']; rfl
          rw [h0] at h; exact absurd h.2 (by decide)
      have hE : signE s.data.toList i = i + 2 := by rw [signE, if_pos h]
      rw [if_pos h, wi64 (by omega) (by omega), hE]
      simp only [Option.bind_some]
      rw [show ((i : Int) + 1 + 1) = ((i + 2 : Nat) : Int) by omega, sub_list (by omega) (by omega)]
      rfl
    · have hE : signE s.data.toList i = i + 1 := by rw [signE, if_neg h]
      rw [if_neg h, hE]
      simp only [Option.bind_some]
      rw [← Int.natCast_succ, sub_list (by omega) (by omega)]
      rfl
  simp only [h8, if_false]
  rfl
end Go.Proofs.YtfodebccikifcaaDoor
