/- The plain law of WireFrames. No condition. -/
import Derived.Test.YtgkjigejejofkaaWireFrq3
namespace Go.Proofs.Ytgkjigejejofkaa
open Go Go.Dc

theorem wire_awake' {N : Nat} : testgatelaw03_awake (N + 100) = some true := by kernel_rfl

theorem frames_L2 {N : Nat} {p3 : Int} {y1 : List UInt8 × Int} {x1 : List UInt8} (hx : x1.length < 100000) (hN : x1.length + 100 < N) : loopM (testgatelaw03_WireFrames_L2 N p3 y1 x1) N 0 = some (.inl ()) := by
  have := loopM_steps' (f := testgatelaw03_WireFrames_L2 N p3 y1 x1) (fun i => (i : Int)) 6 (.inl ()) (fun i hi => by
    have hc : ((i : Int) < ((List.length ([0, p3, (List.length y1.1 : Int), (-1), (List.length x1 : Int), IntKind.wrap .i64 ((List.length x1 : Int) + 1)]) : Nat) : Int)) := by simp; omega
    simp only [testgatelaw03_WireFrames_L2, hc, decide_true, if_true]
    rw [idx_nat (by simp; omega)]
    simp only [Option.bind_some]
    generalize ([0, p3, (List.length y1.1 : Int), (-1), (List.length x1 : Int), IntKind.wrap .i64 ((List.length x1 : Int) + 1)][i]'(by simp; omega)) = v
    rw [wire_Next_eq (by omega) (by omega), ref_Next_eq (by omega) (by omega)]
    simp only [Option.bind_some, bne_self_eq_false, Bool.false_eq_true, if_false]
    rw [sameFrames_self (by simp) (by simp; omega)]
    simp only [Option.bind_some, Bool.not_true, Bool.false_eq_true, if_false]
    rw [wi64 (by omega) (by omega)]; rfl) (by simp [testgatelaw03_WireFrames_L2]) (N := N) (by omega)
  rw [show (0 : Int) = ((0 : Nat) : Int) from rfl, this]

theorem frames_L1 {N : Nat} {p3 : Int} {o1 : List UInt8} {y1 : List UInt8 × Int} {l5 l6 : List UInt8} (h1 : o1.length < 10000) (h2 : l5.length < 10000) (h3 : l6.length < 10000) (hN : 20000 < N) :
    loopM (testgatelaw03_WireFrames_L1 N p3 o1 y1 l5 l6) N 0 = some (.inl ()) := by
  have := loopM_steps' (f := testgatelaw03_WireFrames_L1 N p3 o1 y1 l5 l6) (fun i => (i : Int)) 3 (.inl ()) (fun i hi => by
    have hc : ((i : Int) < ((List.length ([o1, l5, l6]) : Nat) : Int)) := by simp; omega
    have hx : ([o1, l5, l6][i]'(by simp; omega)).length < 10000 := by
      match i, hi with
      | 0, _ => exact h1
      | 1, _ => exact h2
      | 2, _ => exact h3
    simp only [testgatelaw03_WireFrames_L1, hc, decide_true, if_true]
    rw [idx_nat (by simp; omega)]
    simp only [Option.bind_some]
    revert hx
    generalize ([o1, l5, l6][i]'(by simp; omega)) = x
    intro hx
    have hfl := framesR_len x
    rw [frames_L2 (by omega) (by omega), wire_Frames_eq (by omega) (by omega), ref_Frames_eq (by omega) (by omega)]
    simp only [Option.bind_some, bne_self_eq_false, Bool.false_eq_true, if_false]
    rw [sameFrames_self (by omega) (by omega)]
    simp only [Option.bind_some, Bool.not_true, Bool.false_eq_true, if_false]
    rw [wi64 (by omega) (by omega)]; rfl) (by simp [testgatelaw03_WireFrames_L1]) (N := N) (by omega)
  rw [show (0 : Int) = ((0 : Nat) : Int) from rfl, this]

theorem cut_ok (l : List UInt8) (k : Nat) (hk : k < 100000) : ∃ o, (if (decide ((List.length l : Int) > (k : Int))) = true then ((subS l 0 (k : Int)).bind fun l1 => some l1) else (some l) : Option (List UInt8)) = some o ∧ o = l.take k := by
  by_cases h : (l.length : Int) > k
  · refine ⟨_, by simp only [h, decide_true, if_true]; rw [subS_some (by omega) (by omega) (by omega)]; rfl, by simp⟩
  · exact ⟨l, by simp only [h, decide_false, Bool.false_eq_true, if_false], by rw [List.take_of_length_le (by omega)]⟩

theorem frameR_len (kind : Int) (p : List UInt8) : (frameR kind p).1.length ≤ p.length + 16 := by
  unfold frameR
  split
  · simp
  · split
    · simp
    · have := headL_len (kind := kind) (p := p)
      simp only; rw [frameL_len]; omega

theorem testgatelaw03_WireFrames_true (l : List UInt8) (_gl : l.length * 1 ≤ reachBytes ∧ ∀ x ∈ l, True) (kind : Int) (_gk : (Lit.int .i64 kind).wf = true) (m : List UInt8) (_gm : m.length * 1 ≤ reachBytes ∧ ∀ x ∈ m, True) (at_ : Int) (_ga : (Lit.int .i64 at_).wf = true) :
    ∃ N, testgatelaw03_WireFrames N l kind m at_ = some true := by
  refine ⟨29900 + 100, ?_⟩
  simp only [testgatelaw03_WireFrames, wire_awake']
  generalize hNe : 29900 + 100 = N
  obtain ⟨o1, h1, e1⟩ := cut_ok l 600 (by omega)
  obtain ⟨o3, h3, e3⟩ := cut_ok m 200 (by omega)
  have l1 : o1.length ≤ 600 := by rw [e1]; simp; omega
  have l3 : o3.length ≤ 200 := by rw [e3]; simp; omega
  simp only [Int.cast_ofNat_Int] at h1 h3
  have hfl := frameR_len kind o1
  rw [h1]
  simp only [Option.bind_some]
  rw [wire_Frame_eq (by omega) (by omega), ref_Frame_eq (by omega) (by omega)]
  simp only [Option.bind_some, bne_self_eq_false, Bool.false_eq_true, if_false, same_eq, Bool.not_true]
  rw [checksum_eq (by omega) (by omega), refchecksum_eq (by omega) (by omega)]
  simp only [Option.bind_some, bne_self_eq_false, Bool.false_eq_true, if_false]
  rw [h3]
  simp only [Option.bind_some]
  rw [appendS_some (by simp; omega) (by omega)]
  simp only [List.nil_append, Option.bind_some]
  rw [appendS_some (by simp; omega) (by omega)]
  simp only [Option.bind_some]
  rw [appendS_some (by simp; omega) (by omega)]
  simp only [Option.bind_some]
  rw [appendS_some (by simp; omega) (by omega)]
  simp only [Option.bind_some]
  rw [frames_L1 (by omega) (by simp; omega) (by simp; omega) (by omega)]
  rfl
end Go.Proofs.Ytgkjigejejofkaa
