/- The plain laws of the store: what the program's functions and the reference's give, as plain lists. No condition but those of each theorem. -/
import Derived.Test.YtgkjigejejofkaaTConq9
import Derived.Test.YtgkjigejejofkaaFrame
import Derived.Test.YtgkjigejejofkaaPlain
namespace Go.Proofs.Ytgkjigejejofkaa
open Go Go.Dc

/-- A loop that is done after k rounds. -/
theorem loopM_steps {σ β : Type} {f : σ → Option (σ ⊕ β)} (st : Nat → σ) (k : Nat) (res : β) (step : ∀ i, i < k → f (st i) = some (.inl (st (i + 1)))) (stop : f (st k) = some (.inr res)) {N : Nat} (hN : k < N) : loopM f N (st 0) = some res := by
  have key : ∀ d i M, i + d = k → d < M → loopM f M (st i) = some res := by
    intro d
    induction d with
    | zero => intro i M h hM; obtain ⟨M', rfl⟩ : ∃ M', M = M' + 1 := ⟨M - 1, by omega⟩; simp only [Nat.add_zero] at h; subst h; simp [loopM, stop]
    | succ d ih =>
      intro i M h hM
      obtain ⟨M', rfl⟩ : ∃ M', M = M' + 1 := ⟨M - 1, by omega⟩
      have := ih (i + 1) M' (by omega) (by omega)
      simp [loopM, step i (by omega), this]
  exact key k 0 N (by omega) hN

instance : LawfulBEq ByteArray where
  eq_of_beq {a b} h := by rw [bytes_beq'] at h; simpa using h
  rfl {a} := by rw [bytes_beq']; simp

theorem bytes_eq (x y : ByteArray) : (x.toList == y.toList) = decide (x = y) := by
  rw [Bool.eq_iff_iff]
  simp only [beq_iff_eq, decide_eq_true_eq]
  constructor
  · intro h
    rw [ByteArray.toList_eq, ByteArray.toList_eq] at h
    exact Go.WideShapes.bytes_inj h
  · rintro rfl; rfl

/-! ### where a text is -/
def fi (l : List ByteArray) (x : ByteArray) : Nat := l.findIdx (fun y => decide (y = x))
theorem fi_le (l : List ByteArray) (x : ByteArray) : fi l x ≤ l.length := List.findIdx_le_length
theorem fi_lt {l : List ByteArray} {x : ByteArray} : fi l x < l.length ↔ x ∈ l := by
  unfold fi
  rw [List.findIdx_lt_length]
  constructor
  · rintro ⟨y, hy, h⟩; simp at h; subst h; exact hy
  · intro h; exact ⟨x, h, by simp⟩
theorem fi_get {l : List ByteArray} {x : ByteArray} (h : fi l x < l.length) : l[fi l x] = x := by
  have := List.findIdx_getElem (p := fun y => decide (y = x)) (xs := l) (w := h)
  exact of_decide_eq_true this
theorem fi_not {l : List ByteArray} {x : ByteArray} {i : Nat} (h : i < fi l x) : l[i]'(Nat.lt_of_lt_of_le h (fi_le l x)) ≠ x := by
  have := List.not_of_lt_findIdx (p := fun y => decide (y = x)) (xs := l) (i := i) h
  simpa using this
theorem fi_append_left {l k : List ByteArray} {x : ByteArray} (h : x ∈ l) : fi (l ++ k) x = fi l x := by
  unfold fi
  rw [List.findIdx_append, if_pos (by have := fi_lt.2 h; exact this)]
theorem fi_append_new {l : List ByteArray} {x : ByteArray} (h : x ∉ l) : fi (l ++ [x]) x = l.length := by
  have h1 : fi l x = l.length := by have := fi_le l x; have := mt fi_lt.1 h; omega
  have h2 : ¬ fi l x < l.length := by omega
  unfold fi at *
  rw [List.findIdx_append, if_neg h2]
  simp

/-! ### the map of the numbers -/
def numL : List ByteArray → Nat → List (ByteArray × Int)
  | [], _ => []
  | x :: l, i => (x, (i : Int)) :: numL l (i + 1)

theorem mget_numL (l : List ByteArray) (i : Nat) (x : ByteArray) : mget (numL l i) x = if x ∈ l then some ((i + fi l x : Nat) : Int) else none := by
  induction l generalizing i with
  | nil => simp [numL, mget]
  | cons y l ih =>
    simp only [numL, mget]
    by_cases h : x = y
    · subst h; simp [fi, List.findIdx_cons]
    · have h' : ¬ y = x := fun e => h e.symm
      rw [if_neg h, ih]
      simp only [List.mem_cons, h, false_or]
      have : fi (y :: l) x = fi l x + 1 := by simp [fi, List.findIdx_cons, h']
      rw [this]
      split <;> simp; omega

theorem mset_numL (l : List ByteArray) (i : Nat) (x : ByteArray) (h : x ∉ l) : mset (numL l i) x ((i + l.length : Nat) : Int) = numL (l ++ [x]) i := by
  induction l generalizing i with
  | nil => simp [numL, mset]
  | cons y l ih =>
    simp only [List.mem_cons, not_or] at h
    simp only [numL, mset, List.cons_append, if_neg h.1]
    rw [← ih (i + 1) h.2]
    congr 2
    simp; omega

theorem not_nodup_of_dup {l : List ByteArray} {i : Nat} (hi : i < l.length) (h : l[i] ∈ l.take i) : ¬ l.Nodup := by
  intro hn
  obtain ⟨j, hj, e⟩ := List.mem_iff_getElem.1 h
  simp only [List.length_take] at hj
  rw [List.getElem_take] at e
  have := (List.getElem_inj (h₀ := by omega) (h₁ := hi) hn).1 e
  omega

theorem take_nodup_succ {l : List ByteArray} {i : Nat} (hi : i < l.length) (hn : (l.take i).Nodup) (h : l[i] ∉ l.take i) : (l.take (i + 1)).Nodup := by
  rw [List.take_succ_eq_append_getElem hi, List.nodup_append]
  refine ⟨hn, by simp, ?_⟩
  intro a ha b hb e
  simp at hb; subst hb e; exact h ha

theorem numbers_eq {N : Nat} {l : List ByteArray} (hl : l.length < 9223372036854775807) (hN : l.length < N) : contents_numbers N l = some (if l.Nodup then (some (numL l 0), true) else (none, false)) := by
  have key := loopM_ex (f := contents_numbers_L1 N l) (fun s => ∃ i : Nat, i ≤ l.length ∧ s = ((i : Int), some (numL (l.take i) 0)) ∧ (l.take i).Nodup) (fun s => l.length - s.1.toNat)
    (fun b => b = if l.Nodup then .inl (some (numL l 0)) else .inr (none, false)) ?_ N (0, some []) ⟨0, by omega, by simp [numL], by simp⟩ (by simp; omega)
  · obtain ⟨b, h1, h2⟩ := key
    subst h2
    simp only [contents_numbers, h1, Option.bind_some]
    by_cases hn : l.Nodup <;> simp [hn]
  · rintro s ⟨i, hi, rfl, hnd⟩
    rcases Nat.lt_or_ge i l.length with hlt | hge
    · have hc : ((i : Int) < (l.length : Int)) := by omega
      simp only [contents_numbers_L1, hc, decide_true, if_true, idx_nat hlt, Option.bind_some, mgetQ, mget_numL]
      by_cases hm : l[i] ∈ l.take i
      · left
        refine ⟨_, by simp only [hm, if_true, Option.isSome_some]; rfl, ?_⟩
        rw [if_neg (not_nodup_of_dup hlt hm)]
      · right
        refine ⟨(((i + 1 : Nat) : Int), some (numL (l.take (i + 1)) 0)), ?_, ⟨i + 1, by omega, rfl, take_nodup_succ hlt hnd hm⟩, by simp; omega⟩
        simp only [hm, if_false, Option.isSome_none, Bool.false_eq_true, msetQ, Option.map_some, Option.bind_some]
        have := mset_numL (l.take i) 0 l[i] hm
        simp only [List.length_take, Nat.zero_add, Nat.min_eq_left hi] at this
        rw [this, wi64 (by omega) (by omega), List.take_succ_eq_append_getElem hlt]
        simp
    · have he : i = l.length := by omega
      subst he
      left
      simp only [List.take_length] at hnd
      exact ⟨_, by simp [contents_numbers_L1]; rfl, by simp [hnd]⟩

def chk (l : List ByteArray) : Int := if 4096 < l.length then 2 else if l.Nodup then 0 else 10

theorem check_eq {N : Nat} {l : List ByteArray} (hN : 4096 < N) : contents_Check N l = some (chk l) := by
  unfold contents_Check chk
  by_cases h : 4096 < l.length
  · have : (l.length : Int) > 4096 := by omega
    simp [h, this]
  · have : ¬ (l.length : Int) > 4096 := by omega
    simp only [this, decide_false, Bool.false_eq_true, if_false, numbers_eq (l := l) (N := N) (by omega) (by omega), Option.bind_some, h]
    by_cases hn : l.Nodup <;> simp [hn]

theorem index_eq {N : Nat} {l : List ByteArray} {x : ByteArray} (hl : l.length < 9223372036854775807) (hN : l.length < N) : slices_Index_string_string N l x = some (if x ∈ l then (fi l x : Int) else -1) := by
  have hle := fi_le l x
  by_cases hm : x ∈ l
  · have hlt := fi_lt.2 hm
    have := loopM_steps (f := slices_Index_string_string_L1 N l x) (fun i => (i : Int)) (fi l x) (.inr (fi l x : Int)) (fun i hi => by
      have hi' : i < l.length := by omega
      have hc : ((i : Int) < (l.length : Int)) := by omega
      have hne : ¬ x = l[i] := fun e => fi_not hi e.symm
      simp only [slices_Index_string_string_L1, hc, decide_true, if_true, idx_nat hi', Option.bind_some, bytes_eq, hne, decide_false, Bool.false_eq_true, if_false]
      rw [wi64 (by omega) (by omega)]; rfl) (by
      have hc : ((fi l x : Int) < (l.length : Int)) := by omega
      simp only [slices_Index_string_string_L1, hc, decide_true, if_true, idx_nat hlt, Option.bind_some, bytes_eq, fi_get hlt]) (N := N) (by omega)
    simp only [slices_Index_string_string]
    rw [show (0 : Int) = ((0 : Nat) : Int) from rfl, this]
    simp [hm]
  · have := loopM_steps (f := slices_Index_string_string_L1 N l x) (fun i => (i : Int)) l.length (.inl ()) (fun i hi => by
      have hc : ((i : Int) < (l.length : Int)) := by omega
      have hne : ¬ x = l[i] := fun e => hm (by rw [e]; simp)
      simp only [slices_Index_string_string_L1, hc, decide_true, if_true, idx_nat hi, Option.bind_some, bytes_eq, hne, decide_false, Bool.false_eq_true, if_false]
      rw [wi64 (by omega) (by omega)]; rfl) (by
      simp [slices_Index_string_string_L1]) (N := N) (by omega)
    simp only [slices_Index_string_string]
    rw [show (0 : Int) = ((0 : Nat) : Int) from rfl, this]
    simp [hm]

theorem reffind_eq {N : Nat} {l : List ByteArray} {x : ByteArray} (hl : l.length < 9223372036854775807) (hN : l.length < N) : testgateref13_find N l x = some (if x ∈ l then (fi l x : Int) else -1) := by
  have hle := fi_le l x
  by_cases hm : x ∈ l
  · have hlt := fi_lt.2 hm
    have := loopM_steps (f := testgateref13_find_L1 N l x) (fun i => (i : Int)) (fi l x) (.inr (fi l x : Int)) (fun i hi => by
      have hi' : i < l.length := by omega
      have hc : ((i : Int) < (l.length : Int)) := by omega
      have hne : ¬ l[i] = x := fi_not hi
      simp only [testgateref13_find_L1, hc, decide_true, if_true, idx_nat hi', Option.bind_some, bytes_eq, hne, decide_false, Bool.false_eq_true, if_false]
      rw [wi64 (by omega) (by omega)]; rfl) (by
      have hc : ((fi l x : Int) < (l.length : Int)) := by omega
      simp only [testgateref13_find_L1, hc, decide_true, if_true, idx_nat hlt, Option.bind_some, bytes_eq, fi_get hlt]) (N := N) (by omega)
    simp only [testgateref13_find]
    rw [show (0 : Int) = ((0 : Nat) : Int) from rfl, this]
    simp [hm]
  · have := loopM_steps (f := testgateref13_find_L1 N l x) (fun i => (i : Int)) l.length (.inl ()) (fun i hi => by
      have hc : ((i : Int) < (l.length : Int)) := by omega
      have hne : ¬ l[i] = x := fun e => hm (by rw [← e]; simp)
      simp only [testgateref13_find_L1, hc, decide_true, if_true, idx_nat hi, Option.bind_some, bytes_eq, hne, decide_false, Bool.false_eq_true, if_false]
      rw [wi64 (by omega) (by omega)]; rfl) (by
      simp [testgateref13_find_L1]) (N := N) (by omega)
    simp only [testgateref13_find]
    rw [show (0 : Int) = ((0 : Nat) : Int) from rfl, this]
    simp [hm]

theorem refcheck2 {N : Nat} {l : List ByteArray} {x : ByteArray} (hl : l.length < 9223372036854775807) (hN : l.length < N) : loopM (testgateref13_Check_L2 N x l) N 0 = some (if x ∈ l then .inr 10 else .inl ()) := by
  have hle := fi_le l x
  by_cases hm : x ∈ l
  · have hlt := fi_lt.2 hm
    have := loopM_steps (f := testgateref13_Check_L2 N x l) (fun i => (i : Int)) (fi l x) (.inr 10) (fun i hi => by
      have hi' : i < l.length := by omega
      have hc : ((i : Int) < (l.length : Int)) := by omega
      have hne : ¬ x = l[i] := fun e => fi_not hi e.symm
      simp only [testgateref13_Check_L2, hc, decide_true, if_true, idx_nat hi', Option.bind_some, bytes_eq, hne, decide_false, Bool.false_eq_true, if_false]
      rw [wi64 (by omega) (by omega)]; rfl) (by
      have hc : ((fi l x : Int) < (l.length : Int)) := by omega
      simp only [testgateref13_Check_L2, hc, decide_true, if_true, idx_nat hlt, Option.bind_some, bytes_eq, fi_get hlt]) (N := N) (by omega)
    rw [show (0 : Int) = ((0 : Nat) : Int) from rfl, this]
    simp [hm]
  · have := loopM_steps (f := testgateref13_Check_L2 N x l) (fun i => (i : Int)) l.length (.inl ()) (fun i hi => by
      have hc : ((i : Int) < (l.length : Int)) := by omega
      have hne : ¬ x = l[i] := fun e => hm (by rw [e]; simp)
      simp only [testgateref13_Check_L2, hc, decide_true, if_true, idx_nat hi, Option.bind_some, bytes_eq, hne, decide_false, Bool.false_eq_true, if_false]
      rw [wi64 (by omega) (by omega)]; rfl) (by
      simp [testgateref13_Check_L2]) (N := N) (by omega)
    rw [show (0 : Int) = ((0 : Nat) : Int) from rfl, this]
    simp [hm]

theorem refcheck_eq {N : Nat} {l : List ByteArray} (hN : 4097 < N) : testgateref13_Check N l = some (chk l) := by
  unfold testgateref13_Check chk
  by_cases h : 4096 < l.length
  · have : (l.length : Int) > 4096 := by omega
    simp [h, this]
  · have h' : ¬ (l.length : Int) > 4096 := by omega
    simp only [h', decide_false, Bool.false_eq_true, if_false, h]
    obtain ⟨b, h1, h2⟩ := loopM_ex (f := testgateref13_Check_L1 N l) (fun s => ∃ i : Nat, i ≤ l.length ∧ s = (i : Int) ∧ (l.take i).Nodup) (fun s => l.length - s.toNat)
      (fun b => b = if l.Nodup then .inl () else .inr 10) (by
      rintro s ⟨i, hi, rfl, hnd⟩
      rcases Nat.lt_or_ge i l.length with hlt | hge
      · have hc : ((i : Int) < (l.length : Int)) := by omega
        have hs : subS l 0 (i : Int) = some (l.take i) := by rw [subS_some (by omega) (by omega) (by omega)]; simp
        simp only [testgateref13_Check_L1, hc, decide_true, if_true, idx_nat hlt, hs, Option.bind_some]
        rw [refcheck2 (by simp; omega) (by simp; omega)]
        by_cases hm : l[i] ∈ l.take i
        · left
          refine ⟨_, by simp only [hm, if_true, Option.bind_some]; rfl, by rw [if_neg (not_nodup_of_dup hlt hm)]⟩
        · right
          refine ⟨((i + 1 : Nat) : Int), ?_, ⟨i + 1, by omega, rfl, take_nodup_succ hlt hnd hm⟩, by simp; omega⟩
          simp only [hm, if_false, Option.bind_some]
          rw [wi64 (by omega) (by omega)]; rfl
      · have he : i = l.length := by omega
        subst he
        left
        simp only [List.take_length] at hnd
        exact ⟨_, by simp [testgateref13_Check_L1]; rfl, by simp [hnd]⟩) N 0 ⟨0, by omega, rfl, by simp⟩ (by simp; omega)
    subst h2
    rw [h1]
    by_cases hn : l.Nodup <;> simp [hn]

/-! ### merging -/
def addT (o : List ByteArray) (x : ByteArray) : List ByteArray := if x ∈ o then o else o ++ [x]
def mergeT (a b : List ByteArray) : List ByteArray := b.foldl addT a

theorem addT_nodup {o : List ByteArray} {x : ByteArray} (h : o.Nodup) : (addT o x).Nodup := by
  unfold addT; split
  · exact h
  · rename_i hx
    rw [List.nodup_append]
    refine ⟨h, by simp, ?_⟩
    intro a ha b hb e; simp at hb; subst hb e; exact hx ha
theorem addT_prefix (o : List ByteArray) (x : ByteArray) : o <+: addT o x := by unfold addT; split <;> simp
theorem addT_mem (o : List ByteArray) (x : ByteArray) : x ∈ addT o x := by unfold addT; split <;> simp_all
theorem addT_len (o : List ByteArray) (x : ByteArray) : (addT o x).length ≤ o.length + 1 := by unfold addT; split <;> simp

theorem mergeT_prefix (a b : List ByteArray) : a <+: mergeT a b := by
  induction b generalizing a with
  | nil => simp [mergeT]
  | cons x b ih => exact (addT_prefix a x).trans (ih (addT a x))
theorem mergeT_nodup {a b : List ByteArray} (h : a.Nodup) : (mergeT a b).Nodup := by
  induction b generalizing a with
  | nil => exact h
  | cons x b ih => exact ih (addT_nodup h)
theorem mergeT_len (a b : List ByteArray) : (mergeT a b).length ≤ a.length + b.length := by
  induction b generalizing a with
  | nil => simp [mergeT]
  | cons x b ih => have := ih (addT a x); have := addT_len a x; simp only [mergeT, List.foldl_cons, List.length_cons] at *; omega
theorem mergeT_snoc (a b : List ByteArray) (x : ByteArray) : mergeT a (b ++ [x]) = addT (mergeT a b) x := by simp [mergeT]
theorem mergeT_mem {a b : List ByteArray} {x : ByteArray} (h : x ∈ b) : x ∈ mergeT a b := by
  induction b generalizing a with
  | nil => simp at h
  | cons y b ih =>
    rcases List.mem_cons.1 h with rfl | h
    · exact (mergeT_prefix (addT a x) b).subset (addT_mem a x)
    · exact ih h
theorem fi_prefix {o o' : List ByteArray} {x : ByteArray} (hp : o <+: o') (h : x ∈ o) : fi o' x = fi o x := by
  obtain ⟨k, rfl⟩ := hp; exact fi_append_left h

/-- The numbers of a prefix of b. -/
def numsT (a b : List ByteArray) : List Int := b.map fun x => (fi (mergeT a b) x : Int)
theorem numsT_snoc (a b : List ByteArray) (x : ByteArray) : numsT a (b ++ [x]) = numsT a b ++ [(fi (addT (mergeT a b) x) x : Int)] := by
  simp only [numsT, List.map_append, List.map_cons, List.map_nil, mergeT_snoc]
  congr 1
  refine List.map_congr_left fun y hy => ?_
  rw [fi_prefix (addT_prefix _ _) (mergeT_mem hy)]

theorem clone_eq {N : Nat} {l : List ByteArray} (h : l.length * 16 ≤ 140737488355328) : slices_Clone_string_string N l = some l := by
  unfold slices_Clone_string_string
  rw [appendS_some (by simpa using h) (by omega)]
  cases l with
  | nil => simp [nilS, bothS]
  | cons x l => simp [nilS]

def mergeR (a b : List ByteArray) : List ByteArray × List Int × Int :=
  if chk a ≠ 0 then ([], [], chk a) else if chk b ≠ 0 then ([], [], chk b) else if 4096 < (mergeT a b).length then ([], [], 2) else (mergeT a b, numsT a b, 0)

theorem chk_zero {l : List ByteArray} (h : chk l = 0) : l.length ≤ 4096 ∧ l.Nodup := by
  unfold chk at h
  split at h
  · cases h
  · split at h
    · rename_i h1 h2; exact ⟨by omega, h2⟩
    · cases h

theorem mergeT_take_len {a b : List ByteArray} {i : Nat} : (mergeT a (b.take i)).length ≤ (mergeT a b).length := by
  have : mergeT a b = mergeT (mergeT a (b.take i)) (b.drop i) := by
    simp only [mergeT]; rw [← List.foldl_append, List.take_append_drop]
  rw [this]; exact (mergeT_prefix _ _).length_le

theorem merge_eq {N : Nat} {a b : List ByteArray} (hN : 4097 < N) : contents_Merge N a b = some (mergeR a b) := by
  unfold contents_Merge mergeR
  rw [check_eq (by omega), check_eq (by omega)]
  simp only [Option.bind_some]
  by_cases ha : chk a = 0
  · by_cases hb : chk b = 0
    · obtain ⟨la, na⟩ := chk_zero ha
      obtain ⟨lb, nb⟩ := chk_zero hb
      have h1 : loopM (contents_Merge_L1 N b) N (0, a, [], some (numL a 0)) = some (if 4096 < (mergeT a b).length then
          .inr ([], false, numsT a (b.take ((b.length.fold (fun i _ k => if (mergeT a (b.take (i + 1))).length ≤ 4096 then i + 1 else k) 0)))) else .inl (mergeT a b, numsT a b, some (numL (mergeT a b) 0))) ∨
          ∃ z, 4096 < (mergeT a b).length ∧ loopM (contents_Merge_L1 N b) N (0, a, [], some (numL a 0)) = some (.inr ([], false, z)) := by
        obtain ⟨r, h1, h2⟩ := loopM_ex (f := contents_Merge_L1 N b) (fun s => ∃ i : Nat, i ≤ b.length ∧ (mergeT a (b.take i)).length ≤ 4096 ∧ s = ((i : Int), mergeT a (b.take i), numsT a (b.take i), some (numL (mergeT a (b.take i)) 0))) (fun s => b.length - s.1.toNat)
          (fun r => ((mergeT a b).length ≤ 4096 ∧ r = .inl (mergeT a b, numsT a b, some (numL (mergeT a b) 0))) ∨ (4096 < (mergeT a b).length ∧ ∃ z, r = .inr ([], false, z))) (by
          rintro s ⟨i, hi, hle, rfl⟩
          rcases Nat.lt_or_ge i b.length with hlt | hge
          · have hc : ((i : Int) < (b.length : Int)) := by omega
            have hsn : b.take (i + 1) = b.take i ++ [b[i]] := List.take_succ_eq_append_getElem hlt
            simp only [contents_Merge_L1, hc, decide_true, if_true, idx_nat hlt, Option.bind_some, mgetQ, mget_numL]
            by_cases hm : b[i] ∈ mergeT a (b.take i)
            · right
              have hnl : (numsT a (b.take i)).length = i := by simp [numsT]; omega
              refine ⟨(((i + 1 : Nat) : Int), mergeT a (b.take (i + 1)), numsT a (b.take (i + 1)), some (numL (mergeT a (b.take (i + 1))) 0)), ?_, ⟨i + 1, by omega, ?_, rfl⟩, by simp; omega⟩
              · simp only [hm, if_true, Option.isSome_some, Bool.not_true, Bool.false_eq_true, if_false, Option.getD_some, Option.bind_some]
                rw [appendS_some (by simp only [hnl, List.length_cons, List.length_nil]; omega) (by omega), wi64 (by omega) (by omega), hsn, numsT_snoc, mergeT_snoc]
                simp [addT, hm]
              · rw [hsn, mergeT_snoc]; simp [addT, hm]; exact hle
            · simp only [hm, if_false, Option.isSome_none, Bool.not_false, if_true]
              by_cases hf : (mergeT a (b.take i)).length = 4096
              · left
                refine ⟨_, by simp only [hf]; rfl, .inr ⟨?_, _, rfl⟩⟩
                have h1 := mergeT_take_len (a := a) (b := b) (i := i + 1)
                rw [hsn, mergeT_snoc] at h1
                simp [addT, hm] at h1; omega
              · right
                have hf' : ¬ (((mergeT a (b.take i)).length : Int) = 4096) := by omega
                have hnl : (numsT a (b.take i)).length = i := by simp [numsT]; omega
                have hadd : addT (mergeT a (b.take i)) b[i] = mergeT a (b.take i) ++ [b[i]] := by simp [addT, hm]
                refine ⟨(((i + 1 : Nat) : Int), mergeT a (b.take (i + 1)), numsT a (b.take (i + 1)), some (numL (mergeT a (b.take (i + 1))) 0)), ?_, ⟨i + 1, by omega, ?_, rfl⟩, by simp; omega⟩
                · simp only [beq_iff_eq, hf', if_false, msetQ, Option.map_some, Option.bind_some]
                  have hms := mset_numL (mergeT a (b.take i)) 0 b[i] hm
                  rw [Nat.zero_add] at hms
                  rw [hms, appendS_some (by simp only [List.length_cons, List.length_nil]; omega) (by omega)]
                  simp only [Option.bind_some]
                  rw [appendS_some (by simp only [hnl, List.length_cons, List.length_nil]; omega) (by omega), wi64 (by omega) (by omega), hsn, numsT_snoc, mergeT_snoc, hadd, fi_append_new hm]
                  simp
                · rw [hsn, mergeT_snoc, hadd]; simp; omega
          · have he : i = b.length := by omega
            subst he
            left
            simp only [List.take_length] at *
            exact ⟨_, by simp only [contents_Merge_L1, Int.lt_irrefl, decide_false, Bool.false_eq_true, if_false], .inl ⟨hle, rfl⟩⟩) N (0, a, [], some (numL a 0)) ⟨0, by omega, by simpa [mergeT] using la, by simp [mergeT, numsT]⟩ (by simp; omega)
        rcases h2 with ⟨h2, rfl⟩ | ⟨h2, z, rfl⟩
        · left; rw [h1, if_neg (by omega)]
        · exact .inr ⟨z, h2, h1⟩
      simp only [ha, hb, ne_eq, not_true_eq_false, if_false, bne_self_eq_false, Bool.false_eq_true]
      rw [numbers_eq (by omega) (by omega), if_pos na]
      simp only [Option.bind_some]
      rw [clone_eq (by omega)]
      simp only [Option.bind_some]
      rcases h1 with h1 | ⟨z, hz, h1⟩
      · rw [h1]
        by_cases hf : 4096 < (mergeT a b).length
        · simp [hf]
        · simp [hf]
      · rw [h1]; simp [hz]
    · simp [ha, hb]
  · simp [ha]

theorem refmerge_eq {N : Nat} {a b : List ByteArray} (hN : 8200 < N) : testgateref13_Merge N a b = some (mergeR a b) := by
  unfold testgateref13_Merge mergeR
  rw [refcheck_eq (by omega), refcheck_eq (by omega)]
  simp only [Option.bind_some]
  by_cases ha : chk a = 0
  · by_cases hb : chk b = 0
    · obtain ⟨la, na⟩ := chk_zero ha
      obtain ⟨lb, nb⟩ := chk_zero hb
      have h1 : loopM (testgateref13_Merge_L1 N b) N ([], 0, a) = some (numsT a b, mergeT a b) := by
        have := loopM_steps (f := testgateref13_Merge_L1 N b) (fun i => (numsT a (b.take i), (i : Int), mergeT a (b.take i))) b.length (numsT a b, mergeT a b) (fun i hlt => by
          have hc : ((i : Int) < (b.length : Int)) := by omega
          have hsn : b.take (i + 1) = b.take i ++ [b[i]] := List.take_succ_eq_append_getElem hlt
          have hnl : (numsT a (b.take i)).length = i := by simp [numsT]; omega
          have hml := mergeT_len a (b.take i)
          simp only [List.length_take] at hml
          simp only [testgateref13_Merge_L1, hc, decide_true, if_true, idx_nat hlt, Option.bind_some]
          rw [reffind_eq (by omega) (by omega)]
          simp only [Option.bind_some]
          by_cases hm : b[i] ∈ mergeT a (b.take i)
          · have h0 : ¬ ((fi (mergeT a (b.take i)) b[i] : Int) < 0) := by omega
            simp only [hm, if_true, h0, decide_false, Bool.false_eq_true, if_false, Option.bind_some]
            rw [appendS_some (by simp only [hnl, List.length_cons, List.length_nil]; omega) (by omega), wi64 (by omega) (by omega), hsn, numsT_snoc, mergeT_snoc]
            simp [addT, hm]
          · have hadd : addT (mergeT a (b.take i)) b[i] = mergeT a (b.take i) ++ [b[i]] := by simp [addT, hm]
            simp only [hm, if_false, show decide ((-1 : Int) < 0) = true from rfl, if_true]
            rw [appendS_some (by simp only [List.length_cons, List.length_nil]; omega) (by omega)]
            simp only [Option.bind_some]
            rw [appendS_some (by simp only [hnl, List.length_cons, List.length_nil]; omega) (by omega), wi64 (by omega) (by omega), hsn, numsT_snoc, mergeT_snoc, hadd, fi_append_new hm]
            simp) (by simp [testgateref13_Merge_L1]) (N := N) (by omega)
        simpa [numsT, mergeT] using this
      simp only [ha, hb, ne_eq, not_true_eq_false, if_false, bne_self_eq_false, Bool.false_eq_true]
      rw [appendS_some (by simp; omega) (by omega)]
      simp only [List.nil_append, Option.bind_some]
      rw [h1]
      simp only [Option.bind_some]
      by_cases hf : 4096 < (mergeT a b).length
      · have : ((mergeT a b).length : Int) > 4096 := by omega
        simp [hf, this]
      · have : ¬ ((mergeT a b).length : Int) > 4096 := by omega
        simp [hf, this]
    · simp [ha, hb]
  · simp [ha]
end Go.Proofs.Ytgkjigejejofkaa
