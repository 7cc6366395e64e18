/- The plain law of ContentsBytes. No condition. -/
import Derived.Test.YtgkjigejejofkaaContentsCq9
import Derived.Test.YtgkjigejejofkaaWireManyq9
namespace Go.Proofs.Ytgkjigejejofkaa
open Go Go.Dc

theorem bytesOf_small {s : ByteArray} (h : s.size < 1000000000) : bytesOf s = some s.data.toList := by
  unfold bytesOf; rw [if_pos (by simp only [maxLen]; omega)]

theorem size_list (s : ByteArray) : s.data.toList.length = s.size := by simp

/-- The frames of a store. -/
def encL (l : List ByteArray) : List (Int × List UInt8) := l.map fun t => ((3 : Int), t.data.toList)

theorem frame3_eq {N : Nat} {t : ByteArray} (h : t.size ≤ 2097152) (hN : 2097300 < N) : wire_Frame N (3, t.data.toList) = some (frameL 3 t.data.toList, 0) ∧ testgateref03_Frame N (3, t.data.toList) = some (frameL 3 t.data.toList, 0) := by
  have hl := size_list t
  have hr : frameR 3 t.data.toList = (frameL 3 t.data.toList, 0) := by unfold frameR; rw [if_neg (by omega), if_neg (by omega)]
  exact ⟨by rw [wire_Frame_eq (by omega) (by omega), hr], by rw [ref_Frame_eq (by omega) (by omega), hr]⟩

theorem fmL_len (l : List ByteArray) (h : ∀ t ∈ l, t.size ≤ 100) : (fmL (encL l)).length ≤ l.length * 200 := by
  induction l with
  | nil => simp [fmL, encL]
  | cons t l ih =>
    have h1 := ih (fun x hx => h x (List.mem_cons_of_mem _ hx))
    have h2 := h t (List.mem_cons_self ..)
    have h3 := frameL_len 3 t.data.toList
    have h4 := (headL_len (kind := 3) (p := t.data.toList)).1
    have h5 := size_list t
    simp only [fmL, encL, List.map_cons, List.flatMap_cons, List.length_append, List.length_cons] at *
    omega

theorem fm_snoc (l : List ByteArray) (t : ByteArray) : fmL (encL (l ++ [t])) = fmL (encL l) ++ frameL 3 t.data.toList := by simp [fmL, encL]

theorem encode_eq {N : Nat} {l : List ByteArray} (hl : chk l = 0) (hs : ∀ t ∈ l, t.size ≤ 100) (hN : 2097300 < N) : contents_Encode N l = some (fmL (encL l), 0) := by
  obtain ⟨la, _⟩ := chk_zero hl
  unfold contents_Encode
  rw [check_eq (by omega), hl]
  simp only [Option.bind_some, bne_self_eq_false, Bool.false_eq_true, if_false]
  have := loopM_steps (f := contents_Encode_L1 N l) (fun i => (fmL (encL (l.take i)), (i : Int))) l.length (.inl (fmL (encL l))) (fun i hi => by
    have hc : ((i : Int) < (l.length : Int)) := by omega
    have hsz := hs l[i] (by simp)
    have hlen := fmL_len (l.take i) (fun t ht => hs t (List.mem_of_mem_take ht))
    simp only [List.length_take] at hlen
    have h3 := frameL_len 3 l[i].data.toList
    have h4 := (headL_len (kind := 3) (p := l[i].data.toList)).1
    have h5 := size_list l[i]
    simp only [contents_Encode_L1, hc, decide_true, if_true, idx_nat hi, Option.bind_some]
    rw [bytesOf_small (by omega)]
    simp only [Option.bind_some]
    rw [(frame3_eq (by omega) hN).1]
    simp only [Option.bind_some, bne_self_eq_false, Bool.false_eq_true, if_false]
    rw [appendS_some (by omega) (by omega), wi64 (by omega) (by omega)]
    simp only [Option.bind_some]
    rw [List.take_succ_eq_append_getElem hi, fm_snoc]
    rfl) (by simp [contents_Encode_L1]) (N := N) (by omega)
  have h0 : (fmL (encL (l.take 0)), ((0 : Nat) : Int)) = (([] : List UInt8), (0 : Int)) := by simp [fmL, encL]
  rw [h0] at this
  rw [this]; rfl

theorem refencode_eq {N : Nat} {l : List ByteArray} (hl : chk l = 0) (hs : ∀ t ∈ l, t.size ≤ 100) (hN : 2097300 < N) : testgateref13_Encode N l = some (fmL (encL l), 0) := by
  obtain ⟨la, _⟩ := chk_zero hl
  unfold testgateref13_Encode
  rw [refcheck_eq (by omega), hl]
  simp only [Option.bind_some, bne_self_eq_false, Bool.false_eq_true, if_false]
  have := loopM_steps (f := testgateref13_Encode_L1 N l) (fun i => (fmL (encL (l.take i)), (i : Int))) l.length (.inl (fmL (encL l))) (fun i hi => by
    have hc : ((i : Int) < (l.length : Int)) := by omega
    have hsz := hs l[i] (by simp)
    have hlen := fmL_len (l.take i) (fun t ht => hs t (List.mem_of_mem_take ht))
    simp only [List.length_take] at hlen
    have h3 := frameL_len 3 l[i].data.toList
    have h4 := (headL_len (kind := 3) (p := l[i].data.toList)).1
    have h5 := size_list l[i]
    simp only [testgateref13_Encode_L1, hc, decide_true, if_true, idx_nat hi, Option.bind_some]
    rw [bytesOf_small (by omega)]
    simp only [Option.bind_some]
    rw [(frame3_eq (by omega) hN).2]
    simp only [Option.bind_some, bne_self_eq_false, Bool.false_eq_true, if_false]
    rw [appendS_some (by omega) (by omega), wi64 (by omega) (by omega)]
    simp only [Option.bind_some]
    rw [List.take_succ_eq_append_getElem hi, fm_snoc]
    rfl) (by simp [testgateref13_Encode_L1]) (N := N) (by omega)
  have h0 : (fmL (encL (l.take 0)), ((0 : Nat) : Int)) = (([] : List UInt8), (0 : Int)) := by simp [fmL, encL]
  rw [h0] at this
  rw [this]; rfl

/-- What is decoded of frames. -/
def decF : List (Int × List UInt8) → List ByteArray → Option (List ByteArray)
  | [], acc => some acc
  | x :: l, acc => if x.1 = 3 then decF l (acc ++ [strOf x.2]) else none
def decodeR (l : List UInt8) : List ByteArray × Int :=
  if (framesR l).2.2 ≠ 0 then ([], (framesR l).2.2) else match decF (framesR l).1 [] with | none => ([], 6) | some ts => if chk ts ≠ 0 then ([], chk ts) else (ts, 0)

theorem dec_loop {y : List (Int × List UInt8) × Int × Int} (hy : y.1.length < 1000000000000) (f : Int × List ByteArray → Option ((Int × List ByteArray) ⊕ (List ByteArray ⊕ (List ByteArray × Int))))
    (hf : ∀ s, f s = if (decide (s.1 < (List.length y.1 : Int))) = true then ((idx y.1 s.1).bind fun x1 => if (x1.1 != 3) = true then (some (.inr (.inr ((([] : List (ByteArray)), 6))))) else ((appendS 16 s.2 ([strOf x1.2])).bind fun l1 => some (.inl (IntKind.wrap .i64 (s.1 + 1), l1)))) else (some (.inr (.inl s.2)))) :
    ∀ (k i M : Nat) (acc : List ByteArray), i + k = y.1.length → k < M → acc.length ≤ i → loopM f M ((i : Int), acc) = some (match decF (y.1.drop i) acc with | none => .inr ([], 6) | some ts => .inl ts)
  | 0, i, M, acc, hi, hM, ha => by
    obtain ⟨M', rfl⟩ : ∃ M', M = M' + 1 := ⟨M - 1, by omega⟩
    have : y.1.drop i = [] := List.drop_eq_nil_of_le (by omega)
    simp only [loopM, hf, this, decF]
    rw [if_neg (by simp; omega)]
    rfl
  | k + 1, i, M, acc, hi, hM, ha => by
    obtain ⟨M', rfl⟩ : ∃ M', M = M' + 1 := ⟨M - 1, by omega⟩
    have hlt : i < y.1.length := by omega
    have hc : ((i : Int) < (y.1.length : Int)) := by omega
    rw [List.drop_eq_getElem_cons hlt]
    simp only [loopM, hf, hc, decide_true, if_true, idx_nat hlt, Option.bind_some, decF]
    by_cases h3 : y.1[i].1 = 3
    · simp only [h3, bne_self_eq_false, Bool.false_eq_true, if_false, if_true]
      rw [appendS_some (by simp; omega) (by omega), wi64 (by omega) (by omega)]
      simp only [Option.bind_some]
      exact dec_loop hy f hf k (i + 1) M' _ (by omega) (by omega) (by simp; omega)
    · have hb : (y.1[i].1 != 3) = true := by simp [h3]
      simp only [hb, if_true, h3, if_false, Option.bind_some]

theorem decF_len : ∀ (l : List (Int × List UInt8)) (acc ts : List ByteArray), decF l acc = some ts → ts.length = acc.length + l.length
  | [], acc, ts, h => by simp only [decF, Option.some.injEq] at h; subst h; simp
  | x :: l, acc, ts, h => by
    simp only [decF] at h
    split at h
    · have := decF_len l _ ts h; simp at this ⊢; omega
    · cases h

theorem decode_eq {N : Nat} {l : List UInt8} (hl : l.length < 1000000000) (hN : l.length + 10000 < N) : contents_Decode N l = some (decodeR l) := by
  unfold contents_Decode decodeR
  have hfl := framesR_len l
  rw [wire_Frames_eq (by omega) (by omega)]
  simp only [Option.bind_some]
  by_cases h : (framesR l).2.2 = 0
  · simp only [h, bne_self_eq_false, Bool.false_eq_true, if_false, ne_eq, not_true_eq_false]
    have := dec_loop (y := framesR l) (by omega) (contents_Decode_L1 N (framesR l)) (fun s => rfl) (framesR l).1.length 0 N [] (by omega) (by omega) (by simp)
    simp only [List.drop_zero] at this
    rw [show (0 : Int) = ((0 : Nat) : Int) from rfl, this]
    cases hd : decF (framesR l).1 [] with
    | none => rfl
    | some ts =>
      simp only [Option.bind_some]
      rw [check_eq (by omega)]
      by_cases hc : chk ts = 0 <;> simp [hc]
  · have hb : ((framesR l).2.2 != 0) = true := by simp [h]
    simp [hb, h]

theorem refdecode_eq {N : Nat} {l : List UInt8} (hl : l.length < 1000000000) (hN : l.length + 10000 < N) : testgateref13_Decode N l = some (decodeR l) := by
  unfold testgateref13_Decode decodeR
  have hfl := framesR_len l
  rw [ref_Frames_eq (by omega) (by omega)]
  simp only [Option.bind_some]
  by_cases h : (framesR l).2.2 = 0
  · simp only [h, bne_self_eq_false, Bool.false_eq_true, if_false, ne_eq, not_true_eq_false]
    have := dec_loop (y := framesR l) (by omega) (testgateref13_Decode_L1 N (framesR l)) (fun s => rfl) (framesR l).1.length 0 N [] (by omega) (by omega) (by simp)
    simp only [List.drop_zero] at this
    rw [show (0 : Int) = ((0 : Nat) : Int) from rfl, this]
    cases hd : decF (framesR l).1 [] with
    | none => rfl
    | some ts =>
      simp only [Option.bind_some]
      rw [refcheck_eq (by omega)]
      by_cases hc : chk ts = 0 <;> simp [hc]
  · have hb : ((framesR l).2.2 != 0) = true := by simp [h]
    simp [hb, h]

theorem decodeR_len (l : List UInt8) : (decodeR l).1.length ≤ 4096 := by
  unfold decodeR
  split
  · simp
  · split
    · simp
    · split
      · simp
      · rename_i h; exact (chk_zero (Decidable.of_not_not h)).1

theorem decodes_true {N : Nat} {l : List UInt8} (hl : l.length < 1000000000) (hN : l.length + 10000 < N) : testgatelaw13_decodes N l = some true := by
  have := decodeR_len l
  unfold testgatelaw13_decodes
  rw [decode_eq hl hN, refdecode_eq hl hN]
  simp only [Option.bind_some, BEq.rfl, if_true]
  rw [same13_self (by omega) (by omega)]
  rfl

theorem encode_err {N : Nat} {l : List ByteArray} (hl : chk l ≠ 0) (hN : 2097300 < N) : contents_Encode N l = some ([], chk l) ∧ testgateref13_Encode N l = some ([], chk l) := by
  have hb : (chk l != 0) = true := by simp [hl]
  unfold contents_Encode testgateref13_Encode
  rw [check_eq (by omega), refcheck_eq (by omega)]
  simp only [Option.bind_some, hb, if_true, and_self]

theorem store_encode {N : Nat} {l : List ByteArray} (hs : ∀ t ∈ l, t.size ≤ 2) (h8 : l.length ≤ 8) (hN : 2097300 < N) : ∃ b e, contents_Encode N l = some (b, e) ∧ testgateref13_Encode N l = some (b, e) ∧ b.length ≤ 1600 := by
  by_cases h : chk l = 0
  · refine ⟨_, _, encode_eq h (fun t ht => by have := hs t ht; omega) hN, refencode_eq h (fun t ht => by have := hs t ht; omega) hN, ?_⟩
    have := fmL_len l (fun t ht => by have := hs t ht; omega)
    omega
  · obtain ⟨h1, h2⟩ := encode_err h hN
    exact ⟨_, _, h1, h2, by simp⟩

theorem fold_okB {N : Nat} {v n : Int} (hn : n ≤ 9223372036854775807) : ∃ r, testgatemake_Fold N v n = some r ∧ 0 ≤ r ∧ (1 ≤ n → r < n) := fold_ok hn

end Go.Proofs.Ytgkjigejejofkaa
