/- The plain laws of ContentsFull and ContentsCalls. No condition but those of each theorem. -/
import Derived.Test.YtgkjigejejofkaaContentsq9
import Derived.Test.YtgkjigejejofkaaTapeq9
namespace Go.Proofs.Ytgkjigejejofkaa
open Go Go.Dc

def putR (a : List ByteArray) (x : ByteArray) : List ByteArray × Int × Int :=
  if chk a ≠ 0 then ([], 0, chk a) else if 4096 < (addT a x).length then ([], 0, 2) else (addT a x, (fi (addT a x) x : Int), 0)

theorem chk_one (x : ByteArray) : chk [x] = 0 := by simp [chk]

theorem put_eq {N : Nat} {a : List ByteArray} {x : ByteArray} (hN : 4097 < N) : contents_Put N a x = some (putR a x) := by
  unfold contents_Put putR
  rw [merge_eq hN]
  simp only [Option.bind_some, mergeR, chk_one]
  by_cases ha : chk a = 0
  · simp only [ha, ne_eq, not_true_eq_false, if_false, mergeT, List.foldl_cons, List.foldl_nil]
    by_cases h : 4096 < (addT a x).length
    · simp [h]
    · simp [h, numsT, mergeT, idx]
  · simp [ha]

theorem refput_eq {N : Nat} {a : List ByteArray} {x : ByteArray} (hN : 4097 < N) : testgateref13_Put N a x = some (putR a x) := by
  unfold testgateref13_Put putR
  rw [refcheck_eq hN]
  simp only [Option.bind_some]
  by_cases ha : chk a = 0
  · obtain ⟨la, na⟩ := chk_zero ha
    simp only [ha, ne_eq, not_true_eq_false, if_false, bne_self_eq_false, Bool.false_eq_true]
    rw [appendS_some (by simp; omega) (by omega)]
    simp only [List.nil_append, Option.bind_some]
    rw [reffind_eq (by omega) (by omega)]
    simp only [Option.bind_some]
    by_cases hm : x ∈ a
    · have h1 : ¬ 4096 < a.length := by omega
      simp [hm, addT, h1]
    · by_cases h : a.length = 4096
      · simp [hm, addT, h]
      · have h1 : ¬ 4096 < a.length + 1 := by omega
        have h2 : ¬ ((a.length : Int) = 4096) := by omega
        simp only [hm, if_false, show decide ((-1 : Int) ≥ 0) = false from rfl, Bool.false_eq_true, beq_iff_eq, h2, addT, List.length_append, List.length_cons, List.length_nil, Nat.zero_add, h1]
        rw [appendS_some (by simp; omega) (by omega), fi_append_new hm]
        rfl
  · simp [ha]

theorem get_ref {N : Nat} {a : List ByteArray} {n : Int} (hN : 4097 < N) : testgateref13_Get N a n = contents_Get N a n := by
  unfold testgateref13_Get contents_Get; rw [refcheck_eq hN, check_eq (by omega)]
def getR (a : List ByteArray) (n : Int) : ByteArray × Int :=
  if chk a ≠ 0 then (⟨#[]⟩, chk a) else match (if 0 ≤ n then a[n.toNat]? else none) with | some x => (x, 0) | none => (⟨#[]⟩, 20)
theorem get_eq {N : Nat} {a : List ByteArray} {n : Int} (hN : 4097 < N) : contents_Get N a n = some (getR a n) := by
  unfold contents_Get getR
  rw [check_eq (by omega)]
  simp only [Option.bind_some]
  by_cases ha : chk a = 0
  · simp only [ha, ne_eq, not_true_eq_false, if_false, bne_self_eq_false, Bool.false_eq_true]
    by_cases h0 : n < 0
    · have : ¬ 0 ≤ n := by omega
      simp [h0, this]
    · have h0' : 0 ≤ n := by omega
      by_cases h1 : n ≥ (a.length : Int)
      · have : a[n.toNat]? = none := List.getElem?_eq_none (by omega)
        simp [h0, h1, h0', this]
      · have hlt : n.toNat < a.length := by omega
        simp only [h0, decide_false, Bool.false_eq_true, if_false, h1, Option.bind_some, idx_some h0' hlt, h0', if_true, List.getElem?_eq_getElem hlt]
  · simp [ha]

theorem find_ref {N : Nat} {a : List ByteArray} {x : ByteArray} (hN : 4097 < N) (hl : a.length < 9223372036854775807) (hN2 : a.length < N) : ∃ r, contents_Find N a x = some r ∧ testgateref13_Find N a x = some r := by
  unfold testgateref13_Find contents_Find
  rw [refcheck_eq hN, check_eq (by omega), reffind_eq hl hN2, index_eq hl hN2]
  simp only [Option.bind_some]
  by_cases ha : chk a = 0
  · by_cases hm : x ∈ a
    · have h1 : ¬ (0 : Int) > (fi a x : Int) := by omega
      have h2 : (fi a x : Int) ≥ 0 := by omega
      exact ⟨((fi a x : Int), true), by simp [ha, hm, h1, h2], by simp [ha, hm, h2]⟩
    · exact ⟨(0, false), by simp [ha, hm], by simp [ha, hm]⟩
  · exact ⟨(0, false), by simp [ha], by simp [ha]⟩

theorem keepL1_eq {N : Nat} {a : List ByteArray} {u : List Int} : contents_Keep_L1 N a u = testgateref13_Keep_L1 N a u := by
  funext s; simp only [contents_Keep_L1, testgateref13_Keep_L1, Int.toNat_natCast]
theorem keepL2_eq {N : Nat} {a : List ByteArray} {u : List Bool} : contents_Keep_L2 N a u = testgateref13_Keep_L2 N a u := by
  funext s; simp only [contents_Keep_L2, testgateref13_Keep_L2]
theorem keep_ref {N : Nat} {a : List ByteArray} {u : List Int} (hN : 4097 < N) : testgateref13_Keep N a u = contents_Keep N a u := by
  unfold testgateref13_Keep contents_Keep
  rw [refcheck_eq hN, check_eq (by omega)]
  simp only [keepL1_eq, keepL2_eq]
  try rfl

/-- Keep returns. -/
theorem keep_some {N : Nat} {a : List ByteArray} {u : List Int} (hN : 4097 < N) (hu : u.length < 1000000) (hN2 : u.length < N) :
    ∃ r, contents_Keep N a u = some r ∧ r.1.length ≤ 4096 ∧ r.2.1.length ≤ 4096 := by
  unfold contents_Keep
  rw [check_eq (by omega)]
  simp only [Option.bind_some]
  by_cases ha : chk a = 0
  · obtain ⟨la, na⟩ := chk_zero ha
    have hm : makeA 1 false (a.length : Int) = some (List.replicate a.length false) := by
      have hmx : (maxLen : Int) = 9223372036854775807 := rfl
      simp only [makeA]; rw [if_pos (by omega)]; simp
    simp only [ha, bne_self_eq_false, Bool.false_eq_true, if_false, hm, Option.bind_some]
    obtain ⟨b1, h1, h2⟩ := loopM_ex (f := contents_Keep_L1 N a u) (fun s => 0 ≤ s.1 ∧ s.1 ≤ u.length ∧ s.2.length = a.length) (fun s => (u.length - s.1).toNat)
      (fun b => (∃ m, b = .inl m ∧ m.length = a.length) ∨ b = .inr ([], [], 20)) (by
      rintro ⟨i, m⟩ ⟨h0, h1, h2⟩
      simp only at h0 h1 h2
      by_cases hi : i < (u.length : Int)
      · simp only [contents_Keep_L1, hi, decide_true, if_true, idx_some h0 (show i.toNat < u.length by omega), Option.bind_some]
        by_cases hx : u[i.toNat] < 0
        · left; exact ⟨_, by simp only [hx, decide_true, if_true, Option.bind_some], .inr rfl⟩
        · by_cases hy : u[i.toNat] ≥ (a.length : Int)
          · left; exact ⟨_, by simp only [hx, decide_false, Bool.false_eq_true, if_false, Int.toNat_natCast, hy, decide_true, Option.bind_some, if_true], .inr rfl⟩
          · right
            refine ⟨(i + 1, m.set (u[i.toNat]).toNat true), ?_, ⟨by simp only; omega, by simp only; omega, by simpa using h2⟩, by simp only; omega⟩
            simp only [hx, decide_false, Bool.false_eq_true, if_false, Int.toNat_natCast, hy, Option.bind_some, idx_some (show 0 ≤ u[i.toNat] by omega) (show (u[i.toNat]).toNat < m.length by omega)]
            rw [wi64 (by omega) (by omega)]
      · left
        exact ⟨_, by simp only [contents_Keep_L1, hi, decide_false, Bool.false_eq_true, if_false], .inl ⟨m, rfl, h2⟩⟩) N (0, List.replicate a.length false) ⟨by simp, by simp, by simp⟩ (by simp; omega)
    rw [h1]
    rcases h2 with ⟨m, rfl, hml⟩ | rfl
    · simp only [Option.bind_some]
      obtain ⟨b2, h3, h4, h5⟩ := loopM_ex (f := contents_Keep_L2 N a m) (fun s => 0 ≤ s.2.1 ∧ s.2.1 ≤ a.length ∧ s.1.length ≤ s.2.1.toNat ∧ s.2.2.length ≤ s.2.1.toNat) (fun s => (a.length - s.2.1).toNat)
        (fun b => b.1.length ≤ a.length ∧ b.2.length ≤ a.length) (by
        rintro ⟨ns, i, ts⟩ ⟨h0, h1, h2, h3⟩
        simp only at h0 h1 h2 h3
        by_cases hi : i < (a.length : Int)
        · right
          simp only [contents_Keep_L2, hi, decide_true, if_true, idx_some h0 (show i.toNat < a.length by omega), idx_some h0 (show i.toNat < m.length by omega), Option.bind_some]
          cases hb : m[i.toNat]'(by omega) with
          | false =>
            refine ⟨(ns ++ [-1], i + 1, ts), ?_, ⟨by simp only; omega, by simp only; omega, by simp; omega, by simp only; omega⟩, by simp only; omega⟩
            simp only [Bool.not_false, if_true]
            rw [appendS_some (by simp; omega) (by omega), wi64 (by omega) (by omega)]
            rfl
          | true =>
            refine ⟨(ns ++ [(ts.length : Int)], i + 1, ts ++ [a[i.toNat]'(by omega)]), ?_, ⟨by simp only; omega, by simp only; omega, by simp; omega, by simp; omega⟩, by simp only; omega⟩
            simp only [Bool.not_true, Bool.false_eq_true, if_false]
            rw [appendS_some (by simp; omega) (by omega), wi64 (by omega) (by omega)]
            simp only [Option.bind_some]
            rw [appendS_some (by simp; omega) (by omega)]
            rfl
        · left
          exact ⟨(ns, ts), by simp only [contents_Keep_L2, hi, decide_false, Bool.false_eq_true, if_false], by simp only; omega, by simp only; omega⟩) N ([], 0, []) ⟨by simp, by simp, by simp, by simp⟩ (by simp; omega)
      exact ⟨_, by rw [h3]; rfl, by simp only; omega, by simp only; omega⟩
    · exact ⟨_, rfl, by simp, by simp⟩
  · exact ⟨_, by simp [ha]; rfl, by simp, by simp⟩

theorem same13_self {N : Nat} {a : List ByteArray} (hl : a.length < 9223372036854775807) (hN : a.length < N) : testgateref13_Same N a a = some true := by
  have := loopM_steps (f := testgateref13_Same_L1 N a a) (fun i => (i : Int)) a.length (.inl ()) (fun i hi => by
    have hc : ((i : Int) < (a.length : Int)) := by omega
    simp only [testgateref13_Same_L1, hc, decide_true, if_true, idx_nat hi, Option.bind_some, bytes_eq, Bool.not_true, Bool.false_eq_true, if_false]
    rw [wi64 (by omega) (by omega)]; rfl) (by simp [testgateref13_Same_L1]) (N := N) hN
  simp only [testgateref13_Same, bne_self_eq_false, Bool.false_eq_true, if_false]
  rw [show (0 : Int) = ((0 : Nat) : Int) from rfl, this]; rfl
theorem sameInts_self {N : Nat} {a : List Int} (hl : a.length < 9223372036854775807) (hN : a.length < N) : testgatemake_SameInts N a a = some true := by
  have := loopM_steps (f := testgatemake_SameInts_L1 N a a) (fun i => (i : Int)) a.length (.inl ()) (fun i hi => by
    have hc : ((i : Int) < (a.length : Int)) := by omega
    simp only [testgatemake_SameInts_L1, hc, decide_true, if_true, idx_nat hi, Option.bind_some, bne_self_eq_false, Bool.false_eq_true, if_false]
    rw [wi64 (by omega) (by omega)]; rfl) (by simp [testgatemake_SameInts_L1]) (N := N) hN
  simp only [testgatemake_SameInts, bne_self_eq_false, Bool.false_eq_true, if_false]
  rw [show (0 : Int) = ((0 : Nat) : Int) from rfl, this]; rfl

theorem contents_awake {N : Nat} (hN : 4097 < N) : testgatelaw13_awake N = some true := by
  have h1 : putR [] (⟨#[120]⟩ : ByteArray) = ([⟨#[120]⟩], 0, 0) := by decide +kernel
  have h2 : putR [⟨#[120]⟩] (⟨#[121]⟩ : ByteArray) = ([⟨#[120]⟩, ⟨#[121]⟩], 1, 0) := by decide +kernel
  have h3 : putR [⟨#[120]⟩, ⟨#[121]⟩] (⟨#[120]⟩ : ByteArray) = ([⟨#[120]⟩, ⟨#[121]⟩], 0, 0) := by decide +kernel
  have h4 : getR [⟨#[120]⟩, ⟨#[121]⟩] 1 = (⟨#[121]⟩, 0) := by decide +kernel
  simp only [testgatelaw13_awake, put_eq hN, get_eq hN, Option.bind_some, h1, h2, h3, h4, bytes_eq]
  rfl

/-! ### the made stores -/
theorem chance_ok {N : Nat} {l : List Int} {a p q : Int} (h0 : 0 ≤ a) (h1 : a < 4611686018427387904) (hn : q ≤ 9223372036854775807) : ∃ b, testgatemake_Tape_Chance N (l, a) p q = some ((l, a + 1), b) := by
  obtain ⟨r, hr, _⟩ := next_ok (N := N) (l := l) h0 h1 hn
  exact ⟨_, by simp only [testgatemake_Tape_Chance, hr, Option.bind_some]; rfl⟩

theorem has_eq {N : Nat} {l : List ByteArray} {x : ByteArray} (hl : l.length < 9223372036854775807) (hN : l.length < N) : testgatemake_Has N l x = some (decide (x ∈ l)) := by
  have hle := fi_le l x
  by_cases hm : x ∈ l
  · have hlt := fi_lt.2 hm
    have := loopM_steps (f := testgatemake_Has_L1 N l x) (fun i => (i : Int)) (fi l x) (.inr true) (fun i hi => by
      have hi' : i < l.length := by omega
      have hc : ((i : Int) < (l.length : Int)) := by omega
      have hne : ¬ l[i] = x := fi_not hi
      simp only [testgatemake_Has_L1, hc, decide_true, if_true, idx_nat hi', Option.bind_some, bytes_eq, hne, decide_false, Bool.false_eq_true, if_false]
      rw [wi64 (by omega) (by omega)]; rfl) (by
      have hc : ((fi l x : Int) < (l.length : Int)) := by omega
      simp only [testgatemake_Has_L1, hc, decide_true, if_true, idx_nat hlt, Option.bind_some, bytes_eq, fi_get hlt]) (N := N) (by omega)
    simp only [testgatemake_Has]
    rw [show (0 : Int) = ((0 : Nat) : Int) from rfl, this]
    simp [hm]
  · have := loopM_steps (f := testgatemake_Has_L1 N l x) (fun i => (i : Int)) l.length (.inl ()) (fun i hi => by
      have hc : ((i : Int) < (l.length : Int)) := by omega
      have hne : ¬ l[i] = x := fun e => hm (by rw [← e]; simp)
      simp only [testgatemake_Has_L1, hc, decide_true, if_true, idx_nat hi, Option.bind_some, bytes_eq, hne, decide_false, Bool.false_eq_true, if_false]
      rw [wi64 (by omega) (by omega)]; rfl) (by
      simp [testgatemake_Has_L1]) (N := N) (by omega)
    simp only [testgatemake_Has]
    rw [show (0 : Int) = ((0 : Nat) : Int) from rfl, this]
    simp [hm]

theorem store_ok {N : Nat} {l : List Int} {a : Int} (h0 : 0 ≤ a) (h1 : a < 4000000000000000000) (hN : 100 < N) :
    ∃ a' ts, testgatelaw13_store N (l, a) = some ((l, a'), ts) ∧ a ≤ a' ∧ a' ≤ a + 100 ∧ ts.length ≤ 8 ∧ ∀ t ∈ ts, t.size ≤ 2 := by
  obtain ⟨n, hn, hn0, hn1⟩ := next_ok (N := N) (l := l) (a := a) (n := 9) h0 (by omega) (by omega)
  have hn1 := hn1 (by omega)
  obtain ⟨b, h2, h3, h4, h5, h6, h7⟩ := loopM_ex (f := testgatelaw13_store_L1 N) (fun s => 0 ≤ s.1 ∧ s.1 ≤ 8 ∧ s.2.1 = l ∧ a ≤ s.2.2.1 ∧ s.2.2.1 ≤ a + 1 + (8 - s.1) * 4 ∧ (s.2.2.2.length : Int) ≤ 8 - s.1 ∧ ∀ t ∈ s.2.2.2, t.size ≤ 2) (fun s => s.1.toNat)
    (fun b => b.1 = l ∧ a ≤ b.2.1 ∧ b.2.1 ≤ a + 100 ∧ b.2.2.length ≤ 8 ∧ ∀ t ∈ b.2.2, t.size ≤ 2) (by
    rintro ⟨i, l', c, ts⟩ ⟨g0, g1, g2, g3, g4, g5, g6⟩
    simp only at g0 g1 g2 g3 g4 g5 g6
    subst g2
    by_cases hi : i > 0
    · right
      obtain ⟨k, hk, hk0, hk1⟩ := next_ok (N := N) (l := l') (a := c) (n := 3) (by omega) (by omega) (by omega)
      have hk1 := hk1 (by omega)
      obtain ⟨x, hx, hxs⟩ := text_ok (N := N) (l := l') (a := c + 1) (n := k) (abc := ⟨#[97, 98, 61]⟩) (by omega) (by omega) hk0 (by omega) (by decide) (by decide) (by omega)
      simp only [testgatelaw13_store_L1, hi, decide_true, if_true, hk, hx, Option.bind_some]
      rw [has_eq (by omega) (by omega)]
      simp only [Option.bind_some]
      by_cases hm : x ∈ ts
      · obtain ⟨bb, hbb⟩ := chance_ok (N := N) (l := l') (a := c + 1 + k) (p := 1) (q := 30) (by omega) (by omega) (by omega)
        simp only [hm, decide_true, Bool.not_true, Bool.false_eq_true, if_false, hbb, Option.bind_some]
        cases bb with
        | false =>
          refine ⟨(i - 1, l', c + 1 + k + 1, ts), ?_, ⟨by simp only; omega, by simp only; omega, rfl, by simp only; omega, by simp only; omega, by simp only; omega, g6⟩, by simp only; omega⟩
          simp only [Bool.false_eq_true, if_false, Option.bind_some]
          rw [wi64 (by omega) (by omega)]
        | true =>
          refine ⟨(i - 1, l', c + 1 + k + 1, ts ++ [x]), ?_, ⟨by simp only; omega, by simp only; omega, rfl, by simp only; omega, by simp only; omega, by simp; omega, ?_⟩, by simp only; omega⟩
          · simp only [if_true]
            rw [appendS_some (by simp; omega) (by omega), wi64 (by omega) (by omega)]
            rfl
          · intro t ht
            rcases List.mem_append.1 ht with ht | ht
            · exact g6 t ht
            · simp at ht; subst ht; omega
      · simp only [hm, decide_false, Bool.not_false, if_true, Option.bind_some]
        refine ⟨(i - 1, l', c + 1 + k, ts ++ [x]), ?_, ⟨by simp only; omega, by simp only; omega, rfl, by simp only; omega, by simp only; omega, by simp; omega, ?_⟩, by simp only; omega⟩
        · rw [appendS_some (by simp; omega) (by omega), wi64 (by omega) (by omega)]
          rfl
        · intro t ht
          rcases List.mem_append.1 ht with ht | ht
          · exact g6 t ht
          · simp at ht; subst ht; omega
    · left
      exact ⟨(l', c, ts), by simp only [testgatelaw13_store_L1, hi, decide_false, Bool.false_eq_true, if_false], rfl, g3, by simp only; omega, by simp only; omega, g6⟩) N (n, l, a + 1, []) ⟨hn0, by simp only; omega, rfl, by simp only; omega, by simp only; omega, by simp; omega, by simp⟩ (by simp; omega)
  obtain ⟨bl, ba, bt⟩ := b
  simp only at h3 h4 h5 h6 h7
  subst h3
  exact ⟨ba, bt, by simp only [testgatelaw13_store, hn, h2, Option.bind_some], h4, h5, h6, h7⟩

/-! ### ContentsCalls -/
theorem calls_L2 {N : Nat} {x : List ByteArray} {u : ByteArray} (hx : x.length < 9223372036854775807) (hN : 5000 < N) (hN2 : x.length < N) : loopM (testgatelaw13_ContentsCalls_L2 N u x) N 0 = some (.inl ()) := by
  have := loopM_steps (f := testgatelaw13_ContentsCalls_L2 N u x) (fun i => (i : Int)) 4 (.inl ()) (fun i hi => by
    have hc : ((i : Int) < ((List.length ([(⟨#[97]⟩ : ByteArray), (⟨#[]⟩ : ByteArray), (⟨#[97, 98]⟩ : ByteArray), u]) : Nat) : Int)) := by simp; omega
    simp only [testgatelaw13_ContentsCalls_L2, hc, decide_true, if_true]
    rw [idx_nat (by simp; omega)]
    simp only [Option.bind_some]
    generalize ([(⟨#[97]⟩ : ByteArray), (⟨#[]⟩ : ByteArray), (⟨#[97, 98]⟩ : ByteArray), u][i]'(by simp; omega)) = v
    obtain ⟨r, h1, h2⟩ := find_ref (N := N) (a := x) (x := v) (by omega) hx hN2
    rw [h1, h2, put_eq (by omega), refput_eq (by omega)]
    have hlen : (putR x v).1.length ≤ 4096 := by
      unfold putR
      split
      · simp
      · split
        · simp
        · simp only; omega
    simp only [Option.bind_some, bne_self_eq_false, Bool.false_eq_true, if_false, BEq.rfl, Bool.not_true]
    rw [same13_self (by omega) (by omega)]
    simp only [Option.bind_some, Bool.not_true, Bool.false_eq_true, if_false]
    rw [wi64 (by omega) (by omega)]; rfl) (by simp [testgatelaw13_ContentsCalls_L2]) (N := N) (by omega)
  rw [show (0 : Int) = ((0 : Nat) : Int) from rfl, this]

theorem calls_L3 {N : Nat} {x : List ByteArray} {n : Int} (hN : 5000 < N) : loopM (testgatelaw13_ContentsCalls_L3 N n x) N 0 = some (.inl ()) := by
  have := loopM_steps (f := testgatelaw13_ContentsCalls_L3 N n x) (fun i => (i : Int)) 5 (.inl ()) (fun i hi => by
    have hc : ((i : Int) < ((List.length ([0, 1, (List.length x : Int), (-1), n]) : Nat) : Int)) := by simp; omega
    simp only [testgatelaw13_ContentsCalls_L3, hc, decide_true, if_true]
    rw [idx_nat (by simp; omega)]
    simp only [Option.bind_some]
    generalize ([0, 1, (List.length x : Int), (-1), n][i]'(by simp; omega)) = v
    rw [get_ref (by omega), get_eq (by omega)]
    simp only [Option.bind_some, bne_self_eq_false, Bool.false_eq_true, if_false, BEq.rfl, Bool.not_true]
    rw [wi64 (by omega) (by omega)]; rfl) (by simp [testgatelaw13_ContentsCalls_L3]) (N := N) (by omega)
  rw [show (0 : Int) = ((0 : Nat) : Int) from rfl, this]

theorem calls_L4 {N : Nat} {x : List ByteArray} {l : List Int} {a k : Int} (hx : x.length < 1000000000000000000) (h0 : 0 ≤ a) (h1 : a < 4000000000000000000) (hk0 : 0 ≤ k) (hk : k ≤ 5) (hN : 5000 < N) :
    ∃ u a', loopM (testgatelaw13_ContentsCalls_L4 N x) N ([], k, l, a) = some (u, l, a') ∧ u.length ≤ 5 ∧ a ≤ a' ∧ a' ≤ a + 5 := by
  obtain ⟨b, h2, h3, h4, h5, h6⟩ := loopM_ex (f := testgatelaw13_ContentsCalls_L4 N x) (fun s => 0 ≤ s.2.1 ∧ s.2.1 ≤ k ∧ s.2.2.1 = l ∧ a ≤ s.2.2.2 ∧ s.2.2.2 ≤ a + k - s.2.1 ∧ (s.1.length : Int) ≤ k - s.2.1) (fun s => s.2.1.toNat)
    (fun b => b.1.length ≤ 5 ∧ b.2.1 = l ∧ a ≤ b.2.2 ∧ b.2.2 ≤ a + 5) (by
    rintro ⟨u, i, l', c⟩ ⟨g0, g1, g2, g3, g4, g5⟩
    simp only at g0 g1 g2 g3 g4 g5
    subst g2
    by_cases hi : i > 0
    · right
      obtain ⟨r, hr, _⟩ := next_ok (N := N) (l := l') (a := c) (n := (x.length : Int) + 1) (by omega) (by omega) (by omega)
      refine ⟨(u ++ [r], i - 1, l', c + 1), ?_, ⟨by simp only; omega, by simp only; omega, rfl, by simp only; omega, by simp only; omega, by simp; omega⟩, by simp only; omega⟩
      simp only [testgatelaw13_ContentsCalls_L4, hi, decide_true, if_true]
      rw [wi64 (by omega) (by omega), hr]
      simp only [Option.bind_some]
      rw [appendS_some (by simp; omega) (by omega), wi64 (by omega) (by omega)]
      rfl
    · left
      exact ⟨(u, l', c), by simp only [testgatelaw13_ContentsCalls_L4, hi, decide_false, Bool.false_eq_true, if_false], by simp only; omega, rfl, g3, by simp only; omega⟩) N ([], k, l, a) ⟨hk0, by simp, rfl, by simp, by simp only; omega, by simp⟩ (by simp; omega)
  obtain ⟨u, l', a'⟩ := b
  simp only at h3 h4 h5 h6
  subst h4
  exact ⟨u, a', h2, h3, h5, h6⟩

theorem calls_L1 {N : Nat} {u : ByteArray} {n : Int} {y : (List Int × Int) × List ByteArray} {o : List ByteArray} {l : List Int} {a : Int} (hy : y.2.length < 1000000000000000000) (ho : o.length < 1000000000000000000) (h0 : 0 ≤ a) (h1 : a < 3000000000000000000) (hN : 5000 < N) (hN2 : y.2.length < N) (hN3 : o.length < N) :
    ∃ z, loopM (testgatelaw13_ContentsCalls_L1 N u n y o) N (0, l, a) = some (.inl z) := by
  obtain ⟨b, h2, z, rfl⟩ := loopM_ex (f := testgatelaw13_ContentsCalls_L1 N u n y o) (fun s => ∃ i : Nat, i ≤ 2 ∧ s.1 = i ∧ 0 ≤ s.2.2 ∧ s.2.2 ≤ a + 6 * i) (fun s => 2 - s.1.toNat)
    (fun b => ∃ z, b = .inl z) (by
    rintro ⟨i', l', c⟩ ⟨i, hi, rfl, g0, g1⟩
    simp only at g0 g1
    by_cases hc : i < 2
    · right
      have hc' : ((i : Int) < ((List.length ([y.2, o]) : Nat) : Int)) := by simp; omega
      have hx : ([y.2, o][i]'(by simp; omega)).length < 1000000000000000000 ∧ ([y.2, o][i]'(by simp; omega)).length < N := by
        match i, hc with
        | 0, _ => exact ⟨hy, hN2⟩
        | 1, _ => exact ⟨ho, hN3⟩
      simp only [testgatelaw13_ContentsCalls_L1, hc', decide_true, if_true]
      rw [idx_nat (by simp; omega)]
      simp only [Option.bind_some]
      revert hx
      generalize ([y.2, o][i]'(by simp; omega)) = x
      intro hx
      rw [check_eq (by omega), refcheck_eq (by omega)]
      simp only [Option.bind_some, bne_self_eq_false, Bool.false_eq_true, if_false]
      rw [calls_L2 (by omega) hN hx.2, calls_L3 hN]
      simp only [Option.bind_some]
      obtain ⟨k, hk, hk0, hk1⟩ := next_ok (N := N) (l := l') (a := c) (n := 6) (by omega) (by omega) (by omega)
      obtain ⟨us, a', h3, h4, h5, h6⟩ := calls_L4 (N := N) (x := x) (l := l') (a := c + 1) (k := k) hx.1 (by omega) (by omega) hk0 (by have := hk1 (by omega); omega) hN
      simp only [hk, Option.bind_some, h3]
      obtain ⟨r, hr, hr1, hr2⟩ := keep_some (N := N) (a := x) (u := us) (by omega) (by omega) (by omega)
      rw [keep_ref (by omega), hr]
      simp only [Option.bind_some, bne_self_eq_false, Bool.false_eq_true, if_false]
      rw [same13_self (by omega) (by omega), sameInts_self (by omega) (by omega)]
      simp only [Option.bind_some, Bool.not_true, Bool.false_eq_true, if_false]
      refine ⟨(((i + 1 : Nat) : Int), l', a'), ?_, ⟨i + 1, by omega, rfl, by simp only; omega, by simp only; omega⟩, by simp only; omega⟩
      rw [wi64 (by omega) (by omega)]; rfl
    · left
      have he : i = 2 := by omega
      subst he
      exact ⟨.inl (l', c), by simp [testgatelaw13_ContentsCalls_L1], _, rfl⟩) N (0, l, a) ⟨0, by omega, rfl, h0, by simp⟩ (by simp; omega)
  exact ⟨z, h2⟩

theorem testgatelaw13_ContentsCalls_true (l : List Int) (_gl : l.length * 8 ≤ reachBytes ∧ ∀ x ∈ l, (Lit.int .i64 x).wf = true) (raw : List ByteArray) (gr : raw.length * 16 ≤ reachBytes ∧ ∀ x ∈ raw, x.size ≤ reachBytes) (s : ByteArray) (_gs : s.size ≤ reachBytes) (n : Int) (_gn : (Lit.int .i64 n).wf = true) :
    ∃ N, testgatelaw13_ContentsCalls N l raw s n = some true := by
  have hr : raw.length < 140737488355328 := by have := gr.1; simp only [reachBytes] at this; omega
  refine ⟨raw.length + 10000, ?_⟩
  generalize hNe : raw.length + 10000 = N
  obtain ⟨a1, t1, h1, g1, g2, g3, _⟩ := store_ok (N := N) (l := l) (a := 0) (by omega) (by omega) (by omega)
  obtain ⟨a2, t2, h2, g4, g5, g6, _⟩ := store_ok (N := N) (l := l) (a := a1) (by omega) (by omega) (by omega)
  obtain ⟨b, hb⟩ := chance_ok (N := N) (l := l) (a := a2) (p := 1) (q := 5) (by omega) (by omega) (by omega)
  simp only [testgatelaw13_ContentsCalls, h1, h2, hb, Option.bind_some]
  obtain ⟨o, ho, hol⟩ : ∃ o, (if b = true then some raw else some t2 : Option (List ByteArray)) = some o ∧ (o.length < 140737488355328 ∧ o.length < N) := by
    cases b with
    | true => exact ⟨raw, rfl, hr, by omega⟩
    | false => exact ⟨t2, rfl, by omega, by omega⟩
  rw [ho]
  simp only [Option.bind_some]
  obtain ⟨z, hz⟩ := calls_L1 (N := N) (u := s) (n := n) (y := ((l, a1), t1)) (o := o) (l := l) (a := a2 + 1) (by simp only; omega) (by omega) (by omega) (by omega) (by omega) (by simp only; omega) hol.2
  rw [hz]
  simp only [Option.bind_some]
  rw [merge_eq (by omega), refmerge_eq (by omega)]
  have hlen : (mergeR t1 o).1.length ≤ 4096 ∧ (mergeR t1 o).2.1.length ≤ o.length := by
    unfold mergeR
    split
    · simp
    · split
      · simp
      · split
        · simp
        · exact ⟨by simp only; omega, by simp [numsT]⟩
  simp only [Option.bind_some, BEq.rfl, if_true]
  rw [same13_self (by omega) (by omega), sameInts_self (by omega) (by omega)]
  simp only [Option.bind_some, if_true]
  rw [contents_awake (by omega)]
  rfl
end Go.Proofs.Ytgkjigejejofkaa
