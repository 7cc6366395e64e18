/- The plain law of WireStops. No condition. -/
import Derived.Test.YtgkjigejejofkaaWireManyq4
namespace Go.Proofs.Ytgkjigejejofkaa
open Go Go.Dc

theorem wire_awakeS {N : Nat} : testgatelaw03_awake (N + 100) = some true := by kernel_rfl

theorem cut_okS (l : List UInt8) (k : Nat) (hk : k < 100000) : ∃ o, (if (decide ((List.length l : Int) > (k : Int))) = true then ((subS l 0 (k : Int)).bind fun l1 => some l1) else (some l) : Option (List UInt8)) = some o ∧ o = l.take k := by
  by_cases h : (l.length : Int) > k
  · refine ⟨_, by simp only [h, decide_true, if_true]; rw [subS_some (by omega) (by omega) (by omega)]; rfl, by simp⟩
  · exact ⟨l, by simp only [h, decide_false, Bool.false_eq_true, if_false], by rw [List.take_of_length_le (by omega)]⟩

theorem stops_loop {N : Nat} {p1 : Int} {y : List UInt8 × Int} {k : Nat} (hk : IntKind.wrap .i64 (Int.tmod p1 6) = (k : Int)) (hk2 : k < 6) (hy : y.1.length < 1000) (hN : 100 < N) : loopM (testgatelaw03_WireStops_L1 N p1 y) N ([], 0) = some (List.replicate k y.1).flatten := by
  have := loopM_steps' (f := testgatelaw03_WireStops_L1 N p1 y) (fun i => ((List.replicate i y.1).flatten, (i : Int))) k (List.replicate k y.1).flatten (fun i hi => by
    have hc : ((i : Int) < (k : Int)) := by omega
    have hl : (List.replicate i y.1).flatten.length = i * y.1.length := by simp
    have hb : i * y.1.length ≤ 6 * 1000 := Nat.mul_le_mul (by omega) (by omega)
    simp only [testgatelaw03_WireStops_L1, hk, hc, decide_true, if_true]
    rw [appendS_some (by rw [hl]; omega) (by omega), wi64 (by omega) (by omega)]
    simp only [Option.bind_some]
    rw [List.replicate_succ']
    simp) (by simp [testgatelaw03_WireStops_L1, hk]) (N := N) (by omega)
  simpa using this

theorem testgatelaw03_WireStops_true (l : List UInt8) (_gl : l.length * 1 ≤ reachBytes ∧ ∀ x ∈ l, True) (n : Int) (gn : (Lit.int .u8 n).wf = true) (by_ : Int) (gb : (Lit.int .u8 by_).wf = true) :
    ∃ N, testgatelaw03_WireStops N l n by_ = some true := by
  have hn : 0 ≤ n ∧ n ≤ 255 := by simp [Lit.wf, IntKind.min, IntKind.max, IntKind.signed, IntKind.bits] at gn; omega
  have hby : 0 ≤ by_ ∧ by_ ≤ 255 := by simp [Lit.wf, IntKind.min, IntKind.max, IntKind.signed, IntKind.bits] at gb; omega
  refine ⟨29900 + 100, ?_⟩
  simp only [testgatelaw03_WireStops, wire_awakeS]
  generalize hNe : 29900 + 100 = N
  obtain ⟨o1, h1, e1⟩ := cut_okS l 100 (by omega)
  have l1 : o1.length ≤ 100 := by rw [e1]; simp; omega
  simp only [Int.cast_ofNat_Int] at h1
  rw [h1]
  simp only [Option.bind_some]
  rw [wire_Frame_eq (by omega) (by omega)]
  have hr : frameR 7 o1 = (frameL 7 o1, 0) := by unfold frameR; rw [if_neg (by omega), if_neg (by omega)]
  have hhl := headL_len (kind := 7) (p := o1)
  have hfl := frameL_len 7 o1
  obtain ⟨k, hk, hk2⟩ : ∃ k : Nat, Int.tmod n 6 = (k : Int) ∧ k < 6 := ⟨(n % 6).toNat, by rw [Int.tmod_eq_emod_of_nonneg hn.1]; omega, by omega⟩
  have hkw : IntKind.wrap .i64 (Int.tmod n 6) = (k : Int) := by rw [hk, wi64 (by omega) (by omega)]
  simp only [hr, Option.bind_some, bne_self_eq_false, Bool.false_eq_true, if_false]
  rw [stops_loop hkw hk2 (by simp only; omega) (by omega)]
  simp only [Option.bind_some]
  have hlen : (List.replicate k (frameL 7 o1)).flatten.length = k * (frameL 7 o1).length := by simp
  have hb : k * (frameL 7 o1).length ≤ 6 * 1000 := Nat.mul_le_mul (by omega) (by omega)
  rw [appendS_some (by rw [hlen]; simp; omega) (by omega)]
  simp only [Option.bind_some]
  rw [wire_Frames_eq (by simp only [List.length_append, hlen, List.length_cons, List.length_nil]; omega) (by simp only [List.length_append, hlen, List.length_cons, List.length_nil]; omega)]
  have hfm : (List.replicate k (frameL 7 o1)).flatten = fmL (List.replicate k ((7 : Int), o1)) := by
    simp only [fmL, List.flatMap_def, List.map_replicate]
  have hc : (toU8 (IntKind.wrap .u8 (1 + (Int.tmod by_ 200)))).toNat ≠ 247 := by
    have h200 : Int.tmod by_ 200 = by_ % 200 := Int.tmod_eq_emod_of_nonneg hby.1
    have := toU8_kind (kind := 1 + Int.tmod by_ 200) (by omega) (by omega)
    rw [this]; omega
  have hlen2 : (fmL (List.replicate k ((7 : Int), o1))).length = k * (frameL 7 o1).length := by rw [← hfm, hlen]
  rw [hfm, framesR_stop hc (by
    intro x hx
    rw [List.mem_replicate] at hx
    rw [hx.2]
    exact ⟨by omega, by omega, by simp only; omega⟩) (by rw [hlen2]; omega)]
  simp only [Option.bind_some, hkw, hlen2, List.length_replicate]
  rw [wi64 (by omega) (by omega)]
  simp
end Go.Proofs.Ytgkjigejejofkaa
