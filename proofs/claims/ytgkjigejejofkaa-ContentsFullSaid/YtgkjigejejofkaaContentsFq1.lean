/- The plain law of ContentsFull. No condition. -/
import Derived.Test.YtgkjigejejofkaaContentsCq1
namespace Go.Proofs.Ytgkjigejejofkaa
open Go Go.Dc

/-! ### digits -/
def dig : Nat → Nat → ByteArray
  | 0, _ => ⟨#[]⟩
  | d + 1, n => if n < 10 then ⟨#[UInt8.ofNat (48 + n)]⟩ else dig d (n / 10) ++ ⟨#[UInt8.ofNat (48 + n % 10)]⟩

theorem digit_sub {n : Nat} (h : n < 10) : subB (⟨#[48, 49, 50, 51, 52, 53, 54, 55, 56, 57]⟩ : ByteArray) (n : Int) ((n : Int) + 1) = some ⟨#[UInt8.ofNat (48 + n)]⟩ := by
  have : ∀ m : Fin 10, subB (⟨#[48, 49, 50, 51, 52, 53, 54, 55, 56, 57]⟩ : ByteArray) (m.val : Int) ((m.val : Int) + 1) = some ⟨#[UInt8.ofNat (48 + m.val)]⟩ := by decide +kernel
  exact this ⟨n, h⟩

theorem dig_size : ∀ d n, (dig d n).size ≤ d
  | 0, _ => by simp [dig, ByteArray.size]
  | d + 1, n => by
    simp only [dig]
    split
    · simp [ByteArray.size]
    · have := dig_size d (n / 10)
      rw [ByteArray.size_append]
      simp only [show (⟨#[UInt8.ofNat (48 + n % 10)]⟩ : ByteArray).size = 1 from rfl]
      omega

theorem digits_G {N : Nat} : ∀ (D d n : Nat), n < 10 ^ (d + 1) → d < D → d < 100 → n < 1000000000000000000 → testgatemake_Digits_G N D (n : Int) = some (dig (d + 1) n)
  | 0, _, _, _, h, _, _ => absurd h (Nat.not_lt_zero _)
  | D + 1, d, n, hn, hd, hd1, hb => by
    simp only [testgatemake_Digits_G, testgatemake_Digits_B, dig]
    by_cases h : n < 10
    · have h' : ((n : Int) < 10) := by omega
      simp only [h', decide_true, if_true, h]
      rw [wi64 (by omega) (by omega), digit_sub h]; rfl
    · have h' : ¬ ((n : Int) < 10) := by omega
      simp only [h', decide_false, Bool.false_eq_true, if_false, h]
      obtain ⟨d', rfl⟩ : ∃ d', d = d' + 1 := ⟨d - 1, by
        rcases d with _ | d
        · simp at hn; omega
        · omega⟩
      have e1 : IntKind.wrap .i64 (Int.tdiv (n : Int) 10) = ((n / 10 : Nat) : Int) := by
        rw [Int.tdiv_eq_ediv_of_nonneg (by omega), wi64 (by omega) (by omega)]; rfl
      have e2 : Int.tmod (n : Int) 10 = ((n % 10 : Nat) : Int) := by rw [Int.tmod_eq_emod_of_nonneg (by omega)]; rfl
      rw [e1, e2, digits_G D d' (n / 10) (by rw [Nat.pow_succ] at hn; omega) (by omega) (by omega) (by omega), digits_G D 0 (n % 10) (by omega) (by omega) (by omega) (by omega)]
      simp only [Option.bind_some]
      have hs := dig_size (d' + 1) (n / 10)
      have e3 : dig (0 + 1) (n % 10) = ⟨#[UInt8.ofNat (48 + n % 10)]⟩ := by simp only [dig]; rw [if_pos (by omega)]
      rw [e3]
      have hc : catB (dig (d' + 1) (n / 10)) ⟨#[UInt8.ofNat (48 + n % 10)]⟩ = some (dig (d' + 1) (n / 10) ++ ⟨#[UInt8.ofNat (48 + n % 10)]⟩) := by
        simp only [catB, show (⟨#[UInt8.ofNat (48 + n % 10)]⟩ : ByteArray).size = 1 from rfl, maxLen]
        rw [if_pos (by omega)]
      rw [hc]; rfl

def dval (s : ByteArray) : Nat := s.data.toList.foldl (fun v c => v * 10 + (c.toNat - 48)) 0
theorem dig_val : ∀ d n, n < 10 ^ (d + 1) → dval (dig (d + 1) n) = n
  | d, n, hn => by
    simp only [dig]
    by_cases h : n < 10
    · rw [if_pos h]
      have : (UInt8.ofNat (48 + n)).toNat = 48 + n := by rw [UInt8.toNat_ofNat']; omega
      simp only [dval, List.foldl_cons, List.foldl_nil, this]; omega
    · rw [if_neg h]
      rcases d with _ | d
      · simp at hn; omega
      · have ih := dig_val d (n / 10) (by rw [Nat.pow_succ] at hn; omega)
        have h1 : (UInt8.ofNat (48 + n % 10)).toNat = 48 + n % 10 := by rw [UInt8.toNat_ofNat']; omega
        have h2 : dval (dig (d + 1) (n / 10) ++ ⟨#[UInt8.ofNat (48 + n % 10)]⟩) = dval (dig (d + 1) (n / 10)) * 10 + n % 10 := by
          simp only [dval, ByteArray.data_append, Array.toList_append, List.foldl_append, List.foldl_cons, List.foldl_nil, h1]; omega
        rw [h2, ih]; omega

def texts (k : Nat) : List ByteArray := (List.range k).map (dig 4)
theorem texts_nodup {k : Nat} (hk : k ≤ 10000) : (texts k).Nodup := by
  have : (texts k).Pairwise (· ≠ ·) := by
    unfold texts
    rw [List.pairwise_map]
    refine List.Pairwise.imp_of_mem ?_ List.nodup_range
    intro a b ha hb hab e
    simp only [List.mem_range] at ha hb
    have h1 : dval (dig 4 a) = a := dig_val 3 a (by omega)
    have h2 : dval (dig 4 b) = b := dig_val 3 b (by omega)
    rw [e] at h1; omega
  exact this
theorem texts_mem {k : Nat} (hk : k ≤ 10000) {x : ByteArray} (h : k ≤ dval x) : x ∉ texts k := by
  intro hm
  simp only [texts, List.mem_map, List.mem_range] at hm
  obtain ⟨a, ha, rfl⟩ := hm
  have h1 : dval (dig 4 a) = a := dig_val 3 a (by omega)
  omega
theorem texts_len (k : Nat) : (texts k).length = k := by simp [texts]

theorem full_loop {N : Nat} {p : Int} {k : Nat} (hk : k ≤ 5000) (hp : IntKind.wrap .i64 (4094 + (IntKind.wrap .i64 (Int.tmod p 4))) = (k : Int)) (hN : 5000 < N) : loopM (testgatelaw13_ContentsFull_L1 N p) N (0, []) = some (texts k) := by
  have := loopM_steps (f := testgatelaw13_ContentsFull_L1 N p) (fun i => ((i : Int), texts i)) k (texts k) (fun i hi => by
    have hc : ((i : Int) < (k : Int)) := by omega
    simp only [testgatelaw13_ContentsFull_L1, hp, hc, decide_true, if_true, testgatemake_Digits]
    rw [digits_G N 3 i (by omega) (by omega) (by omega) (by omega)]
    simp only [Option.bind_some]
    have hl := texts_len i
    rw [appendS_some (by simp [hl]; omega) (by omega), wi64 (by omega) (by omega)]
    have : texts (i + 1) = texts i ++ [dig 4 i] := by simp [texts, List.range_succ]
    rw [this]; rfl) (by simp [testgatelaw13_ContentsFull_L1, hp]) (N := N) (by omega)
  exact this

theorem testgatelaw13_ContentsFull_true (p : Int) (gp : (Lit.int .u8 p).wf = true) : ∃ N, testgatelaw13_ContentsFull N p = some true := by
  have hp : 0 ≤ p ∧ p ≤ 255 := by
    simp [Lit.wf, IntKind.min, IntKind.max, IntKind.signed, IntKind.bits] at gp
    omega
  refine ⟨6000, ?_⟩
  generalize hNe : 6000 = N
  have hm : Int.tmod p 4 = ((p % 4).toNat : Int) := by rw [Int.tmod_eq_emod_of_nonneg hp.1]; omega
  obtain ⟨k, hk0, hk⟩ : ∃ k : Nat, (4094 ≤ k ∧ k ≤ 4097) ∧ IntKind.wrap .i64 (4094 + (IntKind.wrap .i64 (Int.tmod p 4))) = (k : Int) :=
    ⟨4094 + (p % 4).toNat, by omega, by rw [hm, wi64 (x := ((p % 4).toNat : Int)) (by omega) (by omega), wi64 (by omega) (by omega)]; omega⟩
  simp only [testgatelaw13_ContentsFull]
  rw [full_loop (k := k) (by omega) hk (by omega), hk]
  have hnd := texts_nodup (k := k) (by omega)
  have hlen := texts_len k
  simp only [Option.bind_some, put_eq (show 4097 < N by omega), check_eq (show 4096 < N by omega)]
  have hdv : dval (⟨#[110, 101, 119]⟩ : ByteArray) = 6801 := by decide +kernel
  have hnew : (⟨#[110, 101, 119]⟩ : ByteArray) ∉ texts k := texts_mem (by omega) (by omega)
  by_cases h1 : k = 4097
  · subst h1
    have hc : chk (texts 4097) = 2 := by simp [chk, hlen]
    simp only [show decide (((4097 : Nat) : Int) > 4096) = true from rfl, if_true, putR, hc, ne_eq, show ¬ ((2 : Int) = 0) by decide, not_false_eq_true, beq_self_eq_true]
    rw [contents_awake (by omega)]; rfl
  · have hc : chk (texts k) = 0 := by simp [chk, hlen, hnd]; omega
    have hd : ¬ ((k : Int) > 4096) := by omega
    by_cases h2 : k = 4096
    · subst h2
      have h7 : (⟨#[55]⟩ : ByteArray) ∈ texts 4096 := by
        simp only [texts, List.mem_map, List.mem_range]
        exact ⟨7, by omega, by decide +kernel⟩
      have hfi : fi (texts 4096) ⟨#[55]⟩ = 7 := by
        have hlt := fi_lt.2 h7
        have hg := fi_get hlt
        have h7' : (texts 4096)[7]'(by rw [hlen]; omega) = ⟨#[55]⟩ := by simp only [texts, List.getElem_map, List.getElem_range]; decide +kernel
        exact (List.getElem_inj (h₀ := hlt) (h₁ := by rw [hlen]; omega) hnd).1 (hg.trans h7'.symm)
      have e1 : putR (texts 4096) (⟨#[110, 101, 119]⟩ : ByteArray) = ([], 0, 2) := by simp [putR, hc, addT, hnew, hlen]
      have e2 : putR (texts 4096) (⟨#[55]⟩ : ByteArray) = (texts 4096, 7, 0) := by simp [putR, hc, addT, h7, hlen, hfi]
      simp only [hd, decide_false, Bool.false_eq_true, if_false, e1, e2, hc, show (((4096 : Nat) : Int) == 4096) = true from rfl, if_true, beq_self_eq_true]
      rw [contents_awake (by omega)]; rfl
    · have hk2 : ¬ ((k : Int) = 4096) := by omega
      have e1 : putR (texts k) (⟨#[110, 101, 119]⟩ : ByteArray) = (texts k ++ [⟨#[110, 101, 119]⟩], (k : Int), 0) := by
        have hle : ¬ 4096 < k + 1 := by omega
        simp [putR, hc, addT, hnew, hlen, hle, fi_append_new hnew]
      simp only [hd, decide_false, Bool.false_eq_true, if_false, e1, beq_iff_eq, hk2, if_true, List.length_append, hlen, List.length_cons, List.length_nil]
      rw [wi64 (by omega) (by omega)]
      simp only [Nat.zero_add, Int.natCast_add, Int.cast_ofNat_Int, if_true]
      rw [contents_awake (by omega)]; rfl
end Go.Proofs.Ytgkjigejejofkaa
