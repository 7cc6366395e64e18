/- The plain law of LexerLong. No condition. -/
import Derived.Test.YtfodebccikifcaaDoorLexSk6
import Derived.Test.YtfodebccikifcaaDoorFrame
namespace Go.Proofs.YtfodebccikifcaaDoor
open Go Go.Dc

theorem index_eq {N : Nat} {s p : ByteArray} : strings_Index N s p = internal_stringslite_Index N s p := by
  simp [strings_Index]
theorem awake_eq {N : Nat} (hN : 1000 < N) : testgatelaw04_awake N = some true := by
  obtain ⟨M, rfl⟩ : ∃ M, N = M + 1000 := ⟨N - 1000, by omega⟩
  have hk : lexer_kinds (M + 1000) = some (some kdL) := kinds_eq (by omega)
  have h1 : lexer_Tokens (M + 1000) (⟨#[97, 32, 61, 32, 53, 59, 32, 35, 32, 120]⟩ : ByteArray) = some ([(1, ⟨#[97]⟩, 0, 0), (4, ⟨#[61]⟩, 0, 2), (2, ⟨#[]⟩, 5, 4), (4, ⟨#[59]⟩, 0, 5), (5, ⟨#[]⟩, 0, 10)], 0, 0) := by
    unfold lexer_Tokens
    rw [hk]
    kernel_rfl
  have h2 : lexer_Path (M + 1000) (⟨#[97, 47, 98, 46, 99]⟩ : ByteArray) = some true := by
    unfold lexer_Path
    rw [hk]
    kernel_rfl
  have h3 : lexer_Name (M + 1000) (⟨#[57]⟩ : ByteArray) = some false := by
    unfold lexer_Name
    rw [hk]
    kernel_rfl
  simp [testgatelaw04_awake, h1, h2, h3, idx]

theorem tw_all {p : UInt8 → Bool} {l : List UInt8} (h : ∀ c ∈ l, p c = true) : tw p l 0 = l.length := by
  unfold tw
  have : l.takeWhile p = l := by
    induction l with
    | nil => rfl
    | cons c l ih => rw [List.takeWhile_cons_of_pos (h c (List.mem_cons_self ..)), ih fun d hd => h d (List.mem_cons_of_mem _ hd)]
  simp [this]

theorem testgatelaw04_LexerLong_true (n : Int) (gn : (Lit.int .u8 n).wf = true) : ∃ N, testgatelaw04_LexerLong N n = some true := by
  have hb := bounds_u8 gn
  have ht : Int.tmod n 5 = n % 5 := Int.tmod_eq_emod_of_nonneg (by omega)
  obtain ⟨k, hk⟩ : ∃ k : Nat, (k : Int) = 16382 + n % 5 := ⟨(16382 + n % 5).toNat, by omega⟩
  have hk2 : 16382 ≤ k ∧ k ≤ 16386 := by omega
  have hw : IntKind.wrap .i64 (16382 + IntKind.wrap .i64 (Int.tmod n 5)) = (k : Int) := by
    rw [ht, wi64 (x := n % 5) (by omega) (by omega), wi64 (by omega) (by omega), hk]
  refine ⟨20000, ?_⟩
  have hloop : loopM (testgatelaw04_LexerLong_L1 20000 n) 20000 (0, List.replicate k (0 : UInt8)) = some (List.replicate k (32 : UInt8)) := by
    have key := loopM_st (f := testgatelaw04_LexerLong_L1 20000 n) (fun i => ((i : Int), List.replicate i (32 : UInt8) ++ List.replicate (k - i) 0)) k (List.replicate k (32 : UInt8)) (fun i hi => ?_) ?_ (N := 20000) (by omega)
    · simpa using key
    · simp only [testgatelaw04_LexerLong_L1, hw]
      rw [if_pos (by simp only [decide_eq_true_eq]; omega), idx_nat (by simp; omega)]
      simp only [Option.bind_some]
      rw [wi64 (by omega) (by omega), Int.toNat_natCast]
      have e : k - i = (k - (i + 1)) + 1 := by omega
      rw [e, List.replicate_succ, List.set_append_right _ _ (by simp)]
      simp [List.replicate_succ']
    · simp only [testgatelaw04_LexerLong_L1, hw]
      rw [if_neg (by simp)]
      simp
  have hm : makeA 1 (0 : UInt8) (k : Int) = some (List.replicate k 0) := by
    unfold makeA
    rw [if_pos (by simp only [maxLen]; omega), Int.toNat_natCast]
  simp only [testgatelaw04_LexerLong, hw, hm, Option.bind_some, hloop]
  have hsz : (strOf (List.replicate k (32 : UInt8))).size = k := by simp [strOf, ByteArray.size]
  by_cases hbig : 16384 < k
  · have hT : lexer_Tokens 20000 (strOf (List.replicate k (32 : UInt8))) = some ([], 0, 2) := by
      unfold lexer_Tokens
      rw [if_pos (by simp only [decide_eq_true_eq, hsz]; omega)]
    rw [hT]
    simp only [Option.bind_some]
    rw [if_pos (by simp only [decide_eq_true_eq]; omega), awake_eq (by omega)]
    rfl
  · have hd : (strOf (List.replicate k (32 : UInt8))).data.toList = List.replicate k 32 := by simp [strOf]
    have hT : lexer_Tokens 20000 (strOf (List.replicate k (32 : UInt8))) = some ([(5, (⟨#[]⟩ : ByteArray), 0, (k : Int))], 0, 0) := by
      unfold lexer_Tokens
      rw [if_neg (by simp only [decide_eq_true_eq, hsz]; omega), kinds_eq (by omega)]
      simp only [Option.bind_some]
      have hone : ∀ (f : (List (Int × ByteArray × Int × Int)) × Int → Option (((List (Int × ByteArray × Int × Int)) × Int) ⊕ (((List (Int × ByteArray × Int × Int)) × Int × Int)))) s b, f s = some (.inr b) → loopM f 20000 s = some b := fun f s b h => by
        have h2 : loopM f (19999 + 1) s = some b := by rw [loopM.eq_2, h]; rfl
        exact h2
      rw [hone _ _ ([(5, (⟨#[]⟩ : ByteArray), 0, (k : Int))], 0, 0)]
      · rfl
      simp only [lexer_Tokens_L1]
      have := span_eq (N := 20000) (s := strOf (List.replicate k (32 : UInt8))) (ks := [5]) (i := 0) (by omega) (by rw [hd]; simp; omega) (by simp) (by rw [hd]; simp; omega)
      rw [hd, tw_all (fun c hc => by rw [List.eq_of_mem_replicate hc]; kernel_rfl), List.length_replicate] at this
      simp only [Int.natCast_zero] at this
      rw [this]
      simp only [Option.bind_some, hsz, beq_self_eq_true, if_true]
      rw [appendS_some (by simp) (by omega)]
      rfl
    rw [hT]
    simp only [Option.bind_some]
    rw [if_neg (by simp only [decide_eq_true_eq]; omega), awake_eq (by omega)]
    simp [idx]
end Go.Proofs.YtfodebccikifcaaDoor
