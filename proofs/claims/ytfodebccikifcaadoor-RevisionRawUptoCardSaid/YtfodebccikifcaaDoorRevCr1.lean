/- Revisions: their bytes, and what is read of bytes. No condition. -/
import Derived.Test.YtfodebccikifcaaDoorRevBr1
import Derived.Test.YtfodebccikifcaaDoorWrDmr1
namespace Go.Proofs.YtfodebccikifcaaDoor
open Go Go.Dc
def payL (f : File) : List UInt8 := encU f.1.size ++ f.1.data.toList ++ encU f.2.size ++ f.2.data.toList
def frs (L : List File) : List (Int × List UInt8) := L.map fun f => (1, payL f)
def encP (L : List File) : List UInt8 := fmL (frs L ++ [(2, encU L.length)])
theorem frs_cons (f : File) (L : List File) : fmL (frs (f :: L)) = frameL 1 (payL f) ++ fmL (frs L) := by simp [frs, fmL]
theorem fmL_app (a b : List (Int × List UInt8)) : fmL (a ++ b) = fmL a ++ fmL b := by simp [fmL]
theorem fmL_len {a : List (Int × List UInt8)} {k : Nat} (h : ∀ x ∈ a, x.2.length ≤ k) : (fmL a).length ≤ a.length * (k + 16) := by
 induction a with
 | nil => simp [fmL]
 | cons x a ih =>
  have h1 := h x (List.mem_cons_self ..)
  have h2 := ih fun y hy => h y (List.mem_cons_of_mem _ hy)
  have e : fmL (x :: a) = frameL x.1 x.2 ++ fmL a := by simp [fmL]
  have h3 := frameL_len x.1 x.2
  have h4 := (headL_len (kind := x.1) (p := x.2)).1
  rw [e, List.length_append, List.length_cons, Nat.add_mul]
  omega
theorem payL_len {f : File} (h : fileOk f) : (payL f).length ≤ 16500 := by
 have h1 := encU_len f.1.size
 have h2 := encU_len f.2.size
 have h3 := (of_decide_eq_true h.1).1
 have h4 := h.2
 have e := size_list' f.2
 simp only [payL, List.length_append]
 omega
theorem frame0 {N : Nat} (hN : 20000 < N) (kind : Int) (hk : kind = 1 ∨ kind = 2) {p : List UInt8} (hp : p.length ≤ 16500) : wire_Frame N (kind, p) = some (frameL kind p, 0) := by
 have e : frameR kind p = (frameL kind p, 0) := by
  unfold frameR
  rw [if_neg (by omega), if_neg (by omega)]
 rw [wire_Frame_eq (.inr (by omega)) (by omega), e]
theorem rframe0 {N : Nat} (hN : 20000 < N) (kind : Int) (hk : kind = 1 ∨ kind = 2) {p : List UInt8} (hp : p.length ≤ 16500) : testgateref03_Frame N (kind, p) = some (frameL kind p, 0) := by
 have e : frameR kind p = (frameL kind p, 0) := by
  unfold frameR
  rw [if_neg (by omega), if_neg (by omega)]
 rw [ref_Frame_eq (.inr (by omega)) (by omega), e]
theorem enc_loop {N : Nat} {L : List File} (hw : WF L) (hN : 20000 < N) : ∀ (d i M : Nat) (acc : List UInt8), i + d = L.length → d < M → acc.length ≤ 20000 * i →
  loopM (revision_Encode_L1 N L) M ((i : Int), acc) = some (acc ++ fmL (frs (L.drop i)))
 | _, _, 0, _, _, h, _ => by omega
 | 0, i, M + 1, acc, hd, _, _ => by
  simp only [loopM, revision_Encode_L1]
  rw [if_neg (by simp only [decide_eq_true_eq]; omega), List.drop_eq_nil_of_le (by omega)]
  simp [frs, fmL]
 | d + 1, i, M + 1, acc, hd, hM, hacc => by
  have hi : i < L.length := by omega
  have hl := hw.1
  have hf := hw.2.2 _ (List.getElem_mem hi)
  have hp := payL_len hf
  have h3 := (of_decide_eq_true hf.1).1
  have e3 := size_list' (L[i]).1
  have h4 := hf.2
  have h1 := encU_len (L[i]).1.size
  simp only [loopM, revision_Encode_L1]
  rw [if_pos (by simp only [decide_eq_true_eq]; omega), idx_nat hi]
  simp only [Option.bind_some]
  rw [wire_PutText_eq (by omega) (by simp only [List.length_nil]; omega)]
  simp only [Option.bind_some, List.nil_append]
  rw [wire_PutText_eq (by omega) (by simp only [List.length_append]; omega)]
  simp only [Option.bind_some]
  have ep : encU (L[i]).1.size ++ (L[i]).1.data.toList ++ encU (L[i]).2.size ++ (L[i]).2.data.toList = payL L[i] := rfl
  rw [ep, frame0 hN 1 (.inl rfl) hp]
  simp only [Option.bind_some]
  have h5 := frameL_len 1 (payL L[i])
  have h6 := (headL_len (kind := 1) (p := payL L[i])).1
  rw [appendS_some (by omega) (by omega), wi64 (by omega) (by omega)]
  have e1 : (i : Int) + 1 = ((i + 1 : Nat) : Int) := by omega
  simp only [Option.bind_some]
  rw [e1, enc_loop hw hN d (i + 1) M _ (by omega) (by omega) (by simp only [List.length_append]; omega), List.drop_eq_getElem_cons hi, frs_cons, List.append_assoc]
theorem refenc_loop {N : Nat} {L : List File} (hw : WF L) (hN : 20000 < N) : ∀ (d i M : Nat) (acc : List UInt8), i + d = L.length → d < M → acc.length ≤ 20000 * i →
  loopM (testgateref07_Encode_L1 N L) M (acc, (i : Int)) = some (acc ++ fmL (frs (L.drop i)))
 | _, _, 0, _, _, h, _ => by omega
 | 0, i, M + 1, acc, hd, _, _ => by
  simp only [loopM, testgateref07_Encode_L1]
  rw [if_neg (by simp only [decide_eq_true_eq]; omega), List.drop_eq_nil_of_le (by omega)]
  simp [frs, fmL]
 | d + 1, i, M + 1, acc, hd, hM, hacc => by
  have hi : i < L.length := by omega
  have hl := hw.1
  have hf := hw.2.2 _ (List.getElem_mem hi)
  have hp := payL_len hf
  have h3 := (of_decide_eq_true hf.1).1
  have e3 := size_list' (L[i]).1
  have h4 := hf.2
  have h1 := encU_len (L[i]).1.size
  simp only [loopM, testgateref07_Encode_L1]
  rw [if_pos (by simp only [decide_eq_true_eq]; omega), idx_nat hi]
  simp only [Option.bind_some]
  rw [ref_PutText_eq (by omega) (by simp only [List.length_nil]; omega)]
  simp only [Option.bind_some, List.nil_append]
  rw [ref_PutText_eq (by omega) (by simp only [List.length_append]; omega)]
  simp only [Option.bind_some]
  have ep : encU (L[i]).1.size ++ (L[i]).1.data.toList ++ encU (L[i]).2.size ++ (L[i]).2.data.toList = payL L[i] := rfl
  rw [ep, rframe0 hN 1 (.inl rfl) hp]
  simp only [Option.bind_some]
  have h5 := frameL_len 1 (payL L[i])
  have h6 := (headL_len (kind := 1) (p := payL L[i])).1
  rw [appendS_some (by omega) (by omega), wi64 (by omega) (by omega)]
  have e1 : (i : Int) + 1 = ((i + 1 : Nat) : Int) := by omega
  simp only [Option.bind_some]
  rw [e1, refenc_loop hw hN d (i + 1) M _ (by omega) (by omega) (by simp only [List.length_append]; omega), List.drop_eq_getElem_cons hi, frs_cons, List.append_assoc]
def encodeP (L : List File) : List UInt8 × Int := if checkP L = 0 then (encP L, 0) else ([], checkP L)
theorem frs_len {L : List File} (hw : WF L) : (fmL (frs L)).length ≤ 64 * 16516 := by
 have := fmL_len (a := frs L) (k := 16500) (by
  intro x hx
  obtain ⟨f, hf, rfl⟩ := List.mem_map.1 hx
  exact payL_len (hw.2.2 f hf))
 have h2 : (frs L).length = L.length := by simp [frs]
 have h3 := hw.1
 rw [h2] at this
 exact Nat.le_trans this (Nat.mul_le_mul_right _ h3)
theorem encP_split (L : List File) : encP L = fmL (frs L) ++ frameL 2 (encU L.length) := by
 unfold encP; rw [fmL_app]; simp [fmL]
theorem Encode_eq {N : Nat} {L : List File} (hP : PathsOk N L) (hN : 20000 < N) : revision_Encode N L = some (encodeP L) := by
 simp only [revision_Encode, Check_eq hP (by omega), Option.bind_some]
 unfold encodeP
 by_cases hc : checkP L = 0
 ·have hw := checkP_wf.1 hc
  have hl := hw.1
  rw [if_neg (by simp [hc]), if_pos hc]
  have hlo := enc_loop hw hN L.length 0 N [] (by omega) (by omega) (by simp)
  rw [show ((0 : Nat) : Int) = 0 from rfl, List.drop_zero, List.nil_append] at hlo
  rw [hlo]
  simp only [Option.bind_some]
  rw [wu64 (by omega) (by omega), wire_PutUint_eq (by omega) (by omega) (by simp)]
  simp only [Option.bind_some, List.nil_append]
  have h1 := encU_len L.length
  rw [frame0 hN 2 (.inr rfl) (by omega)]
  simp only [Option.bind_some]
  have h2 := frs_len hw
  have h5 := frameL_len 2 (encU L.length)
  have h6 := (headL_len (kind := 2) (p := encU L.length)).1
  rw [appendS_some (by omega) (by omega), encP_split]
  rfl
 ·rw [if_pos (by simpa using hc), if_neg hc]
theorem refEncode_eq {N : Nat} {L : List File} (hN : 20000 < N) : testgateref07_Encode N L = some (encodeP L) := by
 simp only [testgateref07_Encode, refCheck_eq (show 100 < N by omega), Option.bind_some]
 unfold encodeP
 by_cases hc : checkP L = 0
 ·have hw := checkP_wf.1 hc
  have hl := hw.1
  rw [if_neg (by simp [hc]), if_pos hc]
  have hlo := refenc_loop hw hN L.length 0 N [] (by omega) (by omega) (by simp)
  rw [show ((0 : Nat) : Int) = 0 from rfl, List.drop_zero, List.nil_append] at hlo
  rw [hlo]
  simp only [Option.bind_some]
  rw [wu64 (by omega) (by omega), ref_PutUint_eq (by omega) (by omega) (by simp)]
  simp only [Option.bind_some, List.nil_append]
  have h1 := encU_len L.length
  rw [rframe0 hN 2 (.inr rfl) (by omega)]
  simp only [Option.bind_some]
  have h2 := frs_len hw
  have h5 := frameL_len 2 (encU L.length)
  have h6 := (headL_len (kind := 2) (p := encU L.length)).1
  rw [appendS_some (by omega) (by omega), encP_split]
  rfl
 ·rw [if_pos (by simpa using hc), if_neg hc]
def fileP (pl : List UInt8) : Option File :=
 if (textP pl 0 pl.length).2.2 ≠ 0 then none
 else if (textP pl (textP pl 0 pl.length).2.1 pl.length).2.2 = 0 ∧ (textP pl (textP pl 0 pl.length).2.1 pl.length).2.1 = pl.length then some ((textP pl 0 pl.length).1, (textP pl (textP pl 0 pl.length).2.1 pl.length).1)
 else none
def stepP (x : Int × List UInt8) : Option File := if x.1 = 1 then fileP x.2 else none
def filesP : List (Int × List UInt8) → Option (List File)
 | [] => some []
 | x :: r => match stepP x with
  | none => none
  | some f => match filesP r with
   | none => none
   | some K => some (f :: K)
def decP (l : List UInt8) : List File × Int :=
 if (framesR l).2.2 ≠ 0 then ([], (framesR l).2.2)
 else match (framesR l).1.getLast? with
  | none => ([], 7)
  | some x => if x.1 ≠ 2 then ([], 7) else match filesP (framesR l).1.dropLast with
   | none => ([], 6)
   | some K => if (uintP x.2 0).2.2 ≠ 0 ∨ (uintP x.2 0).2.1 ≠ x.2.length ∨ (uintP x.2 0).1 ≠ ((framesR l).1.length - 1 : Nat) then ([], 6) else if checkP K ≠ 0 then ([], checkP K) else (K, 0)
theorem filesP_len : ∀ {r : List (Int × List UInt8)} {K : List File}, filesP r = some K → K.length = r.length
 | [], K, h => by simp [filesP] at h; subst h; rfl
 | x :: r, K, h => by
  simp only [filesP] at h
  cases hs : stepP x with
  | none => rw [hs] at h; cases h
  | some f =>
   rw [hs] at h
   cases hr : filesP r with
   | none => rw [hr] at h; cases h
   | some K' =>
    rw [hr] at h
    simp only [Option.some.injEq] at h
    subst h
    simp [filesP_len hr]
theorem nextR_pay (l : List UInt8) (i : Int) : (nextR l i).1.2.length ≤ l.length := by
 have hd : ∀ a b : Nat, ((l.take a).drop b).length ≤ l.length := fun a b => by simp only [List.length_drop, List.length_take]; omega
 unfold nextR
 repeat' split
 all_goals first | exact Nat.zero_le _ | exact hd _ _
theorem framesF_pay {l : List UInt8} : ∀ (k : Nat) (i : Int) (acc : List (Int × List UInt8)), (∀ x ∈ acc, x.2.length ≤ l.length) → ∀ x ∈ (framesF k l i acc).1, x.2.length ≤ l.length
 | 0, i, acc, h => h
 | k + 1, i, acc, h => by
  simp only [framesF]
  split
  ·split
   ·exact h
   ·refine framesF_pay k _ _ fun x hx => ?_
    rcases List.mem_append.1 hx with hx | hx
    ·exact h x hx
    ·obtain rfl := List.mem_singleton.1 hx; exact nextR_pay l i
  ·exact h
theorem framesR_pay {l : List UInt8} {x : Int × List UInt8} (hx : x ∈ (framesR l).1) : x.2.length ≤ l.length := framesF_pay _ _ _ (by simp) x hx
def ptP (pl : List UInt8) (i : Int) (b : Bool) : (List UInt8 × Int × Bool) × ByteArray :=
 if (textP pl i pl.length).2.2 = 0 then ((pl, (textP pl i pl.length).2.1, b), (textP pl i pl.length).1) else ((pl, i, true), ⟨#[]⟩)
theorem ptP_1 (pl : List UInt8) (i : Int) (b : Bool) : (ptP pl i b).1.1 = pl := by
 unfold ptP; split <;> rfl
theorem ptext_eq {N : Nat} {p : List UInt8 × Int × Bool} (hx : p.1.length < 1000000000000) (hN : p.1.length + 1 < N) : revision_payload_text N p = some (ptP p.1 p.2.1 p.2.2) := by
 simp only [revision_payload_text]
 rw [wire_Text_eq (by omega) (by omega) hN]
 simp only [Option.bind_some, bne_iff_ne, ne_eq, ite_not]
 unfold ptP
 split <;> rfl
theorem dec_step {N : Nat} {l1 : List (Int × List UInt8)} {acc : List File} {i : Nat} (hi : i < l1.length) (hl : l1.length < 1000000000000) (hacc : acc.length ≤ i) (hx : (l1[i]).2.length < 1000000000000) (hN : (l1[i]).2.length + 1 < N) :
  revision_Decode_L1 N l1 ((i : Int), acc) = match stepP l1[i] with
   | none => some (.inr (.inr ([], 6)))
   | some f => some (.inl (((i + 1 : Nat) : Int), acc ++ [f])) := by
 simp only [revision_Decode_L1]
 rw [if_pos (by simp only [decide_eq_true_eq]; omega), idx_nat hi]
 simp only [Option.bind_some]
 unfold stepP
 generalize l1[i] = x at hx hN ⊢
 obtain ⟨k, pl⟩ := x
 simp only at hx hN ⊢
 rw [ptext_eq hx hN]
 simp only [Option.bind_some]
 rw [ptext_eq (by rw [ptP_1]; exact hx) (by rw [ptP_1]; exact hN)]
 simp only [Option.bind_some, ptP_1]
 rw [appendS_some (by simp only [List.length_cons, List.length_nil]; omega) (by omega), wi64 (by omega) (by omega)]
 simp only [Option.bind_some, revision_payload_end]
 unfold fileP ptP
 by_cases hk : k = 1
 ·by_cases h1 : (textP pl 0 pl.length).2.2 = 0
  ·by_cases h2 : (textP pl (textP pl 0 pl.length).2.1 pl.length).2.2 = 0
   ·by_cases h3 : (textP pl (textP pl 0 pl.length).2.1 pl.length).2.1 = pl.length
    ·simp [hk, h1, h2, h3]
    ·simp [hk, h1, h2, h3]
   ·simp [hk, h1, h2]
  ·simp [hk, h1]
 ·simp [hk]
theorem dec_loop {N : Nat} {l1 : List (Int × List UInt8)} (hl : l1.length < 1000000000000) (hx : ∀ x ∈ l1, x.2.length < 1000000000000 ∧ x.2.length + 1 < N) : ∀ (d i M : Nat) (acc : List File), i + d = l1.length → d < M → acc.length ≤ i →
  loopM (revision_Decode_L1 N l1) M ((i : Int), acc) = some (match filesP (l1.drop i) with | none => .inr ([], 6) | some K => .inl (acc ++ K))
 | _, _, 0, _, _, h, _ => by omega
 | 0, i, M + 1, acc, hd, _, _ => by
  simp only [loopM, revision_Decode_L1]
  rw [if_neg (by simp only [decide_eq_true_eq]; omega), List.drop_eq_nil_of_le (by omega)]
  simp [filesP]
 | d + 1, i, M + 1, acc, hd, hM, hacc => by
  have hi : i < l1.length := by omega
  have hh := hx _ (List.getElem_mem hi)
  simp only [loopM]
  rw [dec_step hi hl hacc hh.1 hh.2, List.drop_eq_getElem_cons hi]
  simp only [filesP]
  cases hs : stepP l1[i] with
  | none => rfl
  | some f =>
   simp only [Option.bind_some]
   rw [dec_loop hl hx d (i + 1) M _ (by omega) (by omega) (by simp only [List.length_append, List.length_cons, List.length_nil]; omega)]
   cases filesP (l1.drop (i + 1)) with
   | none => rfl
   | some K => simp
theorem refdec_step {N : Nat} {l1 : List (Int × List UInt8)} {acc : List File} {i : Nat} (hi : i < l1.length) (hl : l1.length < 1000000000000) (hacc : acc.length ≤ i) (hx : (l1[i]).2.length < 1000000000000) (hN : (l1[i]).2.length + 1 < N) :
  testgateref07_Decode_L1 N l1 ((i : Int), acc) = match stepP l1[i] with
   | none => some (.inr (.inr ([], 6)))
   | some f => some (.inl (((i + 1 : Nat) : Int), acc ++ [f])) := by
 simp only [testgateref07_Decode_L1]
 rw [if_pos (by simp only [decide_eq_true_eq]; omega), idx_nat hi]
 simp only [Option.bind_some]
 unfold stepP
 generalize l1[i] = x at hx hN ⊢
 obtain ⟨k, pl⟩ := x
 simp only at hx hN ⊢
 simp only [testgateref07_file]
 rw [ref_Text_eq (by omega) (by omega) hN]
 simp only [Option.bind_some]
 rw [ref_Text_eq (by omega) (by omega) hN]
 simp only [Option.bind_some]
 have ha : ∀ f : File, appendS 32 acc [f] = some (acc ++ [f]) := fun f => appendS_some (by simp only [List.length_cons, List.length_nil]; omega) (by omega)
 have hw : IntKind.wrap .i64 ((i : Int) + 1) = ((i + 1 : Nat) : Int) := by rw [wi64 (by omega) (by omega)]; omega
 simp only [ha, hw, Option.bind_some]
 unfold fileP
 by_cases hk : k = 1
 ·by_cases h1 : (textP pl 0 pl.length).2.2 = 0
  ·by_cases h2 : (textP pl (textP pl 0 pl.length).2.1 pl.length).2.2 = 0
   ·by_cases h3 : (textP pl (textP pl 0 pl.length).2.1 pl.length).2.1 = pl.length
    ·simp [hk, h1, h2, h3]
    ·simp [hk, h1, h2, h3]
   ·simp [hk, h1, h2]
  ·simp [hk, h1]
 ·by_cases h1 : (textP pl 0 pl.length).2.2 = 0
  ·by_cases h2 : (textP pl (textP pl 0 pl.length).2.1 pl.length).2.2 = 0
   ·simp [hk, h1, h2]
   ·simp [hk, h1, h2]
  ·simp [hk, h1]
theorem refdec_loop {N : Nat} {l1 : List (Int × List UInt8)} (hl : l1.length < 1000000000000) (hx : ∀ x ∈ l1, x.2.length < 1000000000000 ∧ x.2.length + 1 < N) : ∀ (d i M : Nat) (acc : List File), i + d = l1.length → d < M → acc.length ≤ i →
  loopM (testgateref07_Decode_L1 N l1) M ((i : Int), acc) = some (match filesP (l1.drop i) with | none => .inr ([], 6) | some K => .inl (acc ++ K))
 | _, _, 0, _, _, h, _ => by omega
 | 0, i, M + 1, acc, hd, _, _ => by
  simp only [loopM, testgateref07_Decode_L1]
  rw [if_neg (by simp only [decide_eq_true_eq]; omega), List.drop_eq_nil_of_le (by omega)]
  simp [filesP]
 | d + 1, i, M + 1, acc, hd, hM, hacc => by
  have hi : i < l1.length := by omega
  have hh := hx _ (List.getElem_mem hi)
  simp only [loopM]
  rw [refdec_step hi hl hacc hh.1 hh.2, List.drop_eq_getElem_cons hi]
  simp only [filesP]
  cases hs : stepP l1[i] with
  | none => rfl
  | some f =>
   simp only [Option.bind_some]
   rw [refdec_loop hl hx d (i + 1) M _ (by omega) (by omega) (by simp only [List.length_append, List.length_cons, List.length_nil]; omega)]
   cases filesP (l1.drop (i + 1)) with
   | none => rfl
   | some K => simp
theorem Decode_eq {N : Nat} {l : List UInt8} (hl : l.length < 1000000000000) (hN : l.length + 100 < N) (hP : ∀ K, filesP (framesR l).1.dropLast = some K → PathsOk N K) : revision_Decode N l = some (decP l) := by
 simp only [revision_Decode]
 rw [wire_Frames_eq hl (by omega)]
 have hlen := framesR_len l
 have hpay : ∀ x ∈ (framesR l).1, x.2.length ≤ l.length := fun x hx => framesR_pay hx
 simp only [Option.bind_some, decP]
 generalize framesR l = R at *
 obtain ⟨r, at', e⟩ := R
 simp only at hlen hpay hP ⊢
 by_cases he : e = 0
 ·rw [if_neg (show ¬ (e != 0) = true by simp [he]), if_neg (show ¬ e ≠ 0 by simp [he])]
  rw [wi64 (by omega) (by omega)]
  rcases List.eq_nil_or_concat r with rfl | ⟨q, x, rfl⟩
  ·rfl
  ·have hq : (q.concat x).length = q.length + 1 := by simp
   have e1 : ((q.concat x).length : Int) - 1 = (q.length : Int) := by omega
   have hxx : (q.concat x)[q.length]'(by omega) = x := by simp
   rw [e1, if_neg (show ¬ decide ((q.length : Int) < 0) = true by simp), idx_nat (by omega), hxx]
   simp only [Option.bind_some]
   rw [show (q.concat x).getLast? = some x by simp]
   simp only []
   by_cases hk : x.1 = 2
   ·rw [if_neg (show ¬ (x.1 != 2) = true by simp [hk]), if_neg (show ¬ x.1 ≠ 2 by simp [hk]), subS_some (by omega) (by omega) (by omega)]
    have ed : (q.concat x).dropLast = q := by simp
    have et : (List.take (q.length : Int).toNat (q.concat x)).drop (0 : Int).toNat = q := by simp
    rw [et, ed]
    rw [ed] at hP
    simp only [Option.bind_some]
    have hlo := dec_loop (N := N) (l1 := q) (by omega) (fun y hy => by
     have := hpay y (by simp [hy]); omega) q.length 0 N [] (by omega) (by omega) (by simp)
    rw [show ((0 : Nat) : Int) = 0 from rfl, List.drop_zero] at hlo
    rw [hlo]
    cases hf : filesP q with
    | none => rfl
    | some K =>
     simp only [Option.bind_some, List.nil_append, revision_payload_number]
     have hx1 := hpay x (by simp)
     rw [wire_Uint_eq (by omega) (by omega)]
     simp only [Option.bind_some]
     have hw : IntKind.wrap .u64 (q.length : Int) = q.length := wu64 (by omega) (by omega)
     rw [hw]
     have en : ((q.concat x).length - 1 : Nat) = q.length := by omega
     rw [en]
     rw [Check_eq (hP K hf) (by omega)]
     by_cases h1 : (uintP x.2 0).2.2 = 0
     ·by_cases h2 : (uintP x.2 0).2.1 = x.2.length
      ·by_cases h3 : (uintP x.2 0).1 = q.length
       ·by_cases h4 : checkP K = 0
        ·simp [h1, h2, h3, h4, revision_payload_end]
        ·simp [h1, h2, h3, h4, revision_payload_end]
       ·simp [h1, h2, h3, revision_payload_end]
      ·simp [h1, h2, revision_payload_end]
     ·simp [h1, revision_payload_end]
   ·rw [if_pos (show (x.1 != 2) = true by simpa using hk), if_pos (show x.1 ≠ 2 from hk)]
 ·rw [if_pos (show (e != 0) = true by simpa using he), if_pos (show e ≠ 0 from he)]
theorem refDecode_eq {N : Nat} {l : List UInt8} (hl : l.length < 1000000000000) (hN : l.length + 100 < N) : testgateref07_Decode N l = some (decP l) := by
 simp only [testgateref07_Decode]
 rw [ref_Frames_eq hl (by omega)]
 have hlen := framesR_len l
 have hpay : ∀ x ∈ (framesR l).1, x.2.length ≤ l.length := fun x hx => framesR_pay hx
 simp only [Option.bind_some, decP]
 generalize framesR l = R at *
 obtain ⟨r, at', e⟩ := R
 simp only at hlen hpay ⊢
 by_cases he : e = 0
 ·rw [if_neg (show ¬ (e != 0) = true by simp [he]), if_neg (show ¬ e ≠ 0 by simp [he])]
  rw [wi64 (by omega) (by omega)]
  rcases List.eq_nil_or_concat r with rfl | ⟨q, x, rfl⟩
  ·rfl
  ·have hq : (q.concat x).length = q.length + 1 := by simp
   have e1 : ((q.concat x).length : Int) - 1 = (q.length : Int) := by omega
   have hxx : (q.concat x)[q.length]'(by omega) = x := by simp
   rw [if_neg (show ¬ (((q.concat x).length : Int) == 0) = true by rw [hq]; simp; omega), e1, idx_nat (by omega), hxx]
   simp only [Option.bind_some]
   rw [show (q.concat x).getLast? = some x by simp]
   simp only []
   by_cases hk : x.1 = 2
   ·rw [if_neg (show ¬ (x.1 != 2) = true by simp [hk]), if_neg (show ¬ x.1 ≠ 2 by simp [hk]), subS_some (by omega) (by omega) (by omega)]
    have ed : (q.concat x).dropLast = q := by simp
    have et : (List.take (q.length : Int).toNat (q.concat x)).drop (0 : Int).toNat = q := by simp
    rw [et, ed]
    simp only [Option.bind_some]
    have hlo := refdec_loop (N := N) (l1 := q) (by omega) (fun y hy => by
     have := hpay y (by simp [hy]); omega) q.length 0 N [] (by omega) (by omega) (by simp)
    rw [show ((0 : Nat) : Int) = 0 from rfl, List.drop_zero] at hlo
    rw [hlo]
    cases hf : filesP q with
    | none => rfl
    | some K =>
     simp only [Option.bind_some, List.nil_append]
     have hx1 := hpay x (by simp)
     rw [ref_Uint_eq (by omega) (by omega)]
     simp only [Option.bind_some]
     have hK := filesP_len hf
     have hw : IntKind.wrap .u64 (K.length : Int) = q.length := by rw [wu64 (by omega) (by omega), hK]
     rw [hw]
     have en : ((q.concat x).length - 1 : Nat) = q.length := by omega
     rw [en]
     rw [refCheck_eq (by omega)]
     by_cases h1 : (uintP x.2 0).2.2 = 0
     ·by_cases h2 : (uintP x.2 0).2.1 = x.2.length
      ·by_cases h3 : (uintP x.2 0).1 = q.length
       ·by_cases h4 : checkP K = 0
        ·simp [h1, h2, h3, h4]
        ·simp [h1, h2, h3, h4]
       ·simp [h1, h2, h3]
      ·simp [h1, h2]
     ·simp [h1]
   ·rw [if_pos (show (x.1 != 2) = true by simpa using hk), if_pos (show x.1 ≠ 2 from hk)]
 ·rw [if_pos (show (e != 0) = true by simpa using he), if_pos (show e ≠ 0 from he)]
theorem fileP_pay {f : File} (h : fileOk f) : fileP (payL f) = some f := by
 have h3 := (of_decide_eq_true h.1).1
 have h4 := h.2
 have e1 := size_list' f.1
 have e2 := size_list' f.2
 have hl : (payL f).length = (encU f.1.size).length + f.1.size + (encU f.2.size).length + f.2.size := by simp [payL]; omega
 have t1 : textP (payL f) 0 (payL f).length = (f.1, (((encU f.1.size).length + f.1.size : Nat) : Int), 0) := by
  have := textP_enc (pre := []) (post := encU f.2.size ++ f.2.data.toList) (s := f.1) (most := (payL f).length) (by omega) (by omega)
  simpa [payL] using this
 have t2 : textP (payL f) (((encU f.1.size).length + f.1.size : Nat) : Int) (payL f).length = (f.2, ((payL f).length : Int), 0) := by
  have := textP_enc (pre := encU f.1.size ++ f.1.data.toList) (post := []) (s := f.2) (most := (payL f).length) (by omega) (by omega)
  have ea : encU f.1.size ++ f.1.data.toList ++ (encU f.2.size ++ (f.2.data.toList ++ [])) = payL f := by simp [payL]
  have eb : ((encU f.1.size ++ f.1.data.toList).length : Int) = (((encU f.1.size).length + f.1.size : Nat) : Int) := by simp
  have ec : ((encU f.1.size ++ f.1.data.toList).length + (encU f.2.size).length + f.2.size : Nat) = (payL f).length := by rw [hl]; simp only [List.length_append]; omega
  rw [ea, eb, ec] at this
  exact this
 unfold fileP
 rw [t1]
 simp only [ne_eq, not_true_eq_false, if_false]
 rw [t2]
 simp
theorem filesP_frs : ∀ {L : List File}, (∀ f ∈ L, fileOk f) → filesP (frs L) = some L
 | [], _ => rfl
 | f :: L, h => by
  have h1 := fileP_pay (h f (List.mem_cons_self ..))
  have h2 := filesP_frs fun g hg => h g (List.mem_cons_of_mem _ hg)
  show filesP ((1, payL f) :: frs L) = _
  simp only [filesP, stepP, if_true, h1, h2]
theorem encP_its {L : List File} (hw : WF L) : ∀ x ∈ frs L ++ [(2, encU L.length)], 1 ≤ x.1 ∧ x.1 ≤ 255 ∧ x.2.length ≤ 2097152 := by
 intro x hx
 rcases List.mem_append.1 hx with hx | hx
 ·obtain ⟨f, hf, rfl⟩ := List.mem_map.1 hx
  have := payL_len (hw.2.2 f hf)
  exact ⟨by simp, by simp, by simp only []; omega⟩
 ·obtain rfl := List.mem_singleton.1 hx
  have h1 := encU_len L.length
  exact ⟨by simp, by simp, by simp only []; omega⟩
theorem encP_len {L : List File} (hw : WF L) : (encP L).length ≤ 2000000 := by
 have h2 := frs_len hw
 have h1 := encU_len L.length
 have h5 := frameL_len 2 (encU L.length)
 have h6 := (headL_len (kind := 2) (p := encU L.length)).1
 rw [encP_split, List.length_append]; omega
theorem decP_encP {L : List File} (hw : WF L) : decP (encP L) = (L, 0) := by
 have h0 := encP_len hw
 have e := framesR_all (its := frs L ++ [(2, encU L.length)]) (encP_its hw) (show (encP L).length < _ by omega)
 have h3 := hw.1
 have hu : uintP (encU L.length) 0 = ((L.length : Int), ((encU L.length).length : Int), 0) := by
  have := uintP_enc (pre := []) (post := []) (n := L.length) (by omega)
  simpa using this
 have hc := checkP_wf.2 hw
 have hf := filesP_frs hw.2.2
 have hl : (frs L).length = L.length := by simp [frs]
 unfold decP
 rw [show framesR (encP L) = _ from e]
 simp [hf, hu, hc, hl]
end Go.Proofs.YtfodebccikifcaaDoor
