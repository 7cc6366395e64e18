/- The plain law of RevisionCalls, where what it reads is small. No condition. -/
import Derived.Test.YtfodebccikifcaaDoorRevSc1
namespace Go.Proofs.YtfodebccikifcaaDoor
open Go Go.Dc
theorem putP_len (L : List File) (p b : ByteArray) : (putP L p b).1.length ≤ L.length + 1 := by
 have := fput_length L p b
 unfold putP
 repeat' split
 all_goals simp only [List.length_nil] <;> omega
theorem removeP_len (L : List File) (p : ByteArray) : (removeP L p).1.length ≤ L.length := by
 unfold removeP
 repeat' split
 all_goals first | exact Nat.zero_le _ | exact List.length_filter_le _ _
theorem moveP_len (L : List File) (p q : ByteArray) : (moveP L p q).1.length ≤ L.length + 1 := by
 unfold moveP
 repeat' split
 all_goals first | exact Nat.zero_le _ | exact Nat.le_trans (fput_length _ _ _) (Nat.add_le_add_right (List.length_filter_le _ _) 1)
theorem testgatelaw07_RevisionCalls_true (l : List Int) (gl : l.length ≤ 1048576 ∧ ∀ x ∈ l, (Lit.int .i64 x).wf = true) (p1 : ByteArray) (g1 : p1.size ≤ 1048576) (p2 : ByteArray) (g2 : p2.size ≤ 1048576) : ∃ N, testgatelaw07_RevisionCalls N l p1 p2 = some true := by
 refine ⟨10000000, ?_⟩
 suffices h : Ok (testgatelaw07_RevisionCalls 10000000 l p1 p2) fun b => b = true by
  obtain ⟨b, h1, rfl⟩ := h; exact h1
 simp only [testgatelaw07_RevisionCalls]
 refine Ok.bind (spoiled_ok (l := l) (a := 0) (by omega) (by omega) (by omega)) ?_
 rintro _ ⟨a1, L1, rfl, k1, k2, hl1, hs1⟩
 dsimp only
 refine Ok.bind (spoiled_ok (l := l) (a := a1) (by omega) (by omega) (by omega)) ?_
 rintro _ ⟨a2, L2, rfl, k3, k4, hl2, hs2⟩
 have hP1 : PathsOk 10000000 L1 := pathsOf hs1 (by omega)
 dsimp only
 rw [Check_eq hP1 (by omega), refCheck_eq (by omega), Same_eq (by omega) (by omega), refSame_eq (by omega) (by omega)]
 simp only [Option.bind_some, bne_self_eq_false, beq_self_eq_true, Bool.not_true, Bool.false_eq_true, if_false]
 refine Ok.loop (fun st => ∃ i a, st = (i, l, a) ∧ 0 ≤ i ∧ i ≤ 6 ∧ 0 ≤ a ∧ a ≤ 10000000 + 2 * i) (fun st => (6 - st.1).toNat) (fun b => ∃ a, b = .inl (l, a)) ?_ ⟨0, a2, rfl, by omega, by omega, by omega, by omega⟩ (by dsimp only; omega) ?_
 ·rintro _ ⟨i, a, rfl, v1, v2, v3, v4⟩
  simp only [testgatelaw07_RevisionCalls_L1]
  by_cases hi : i < 6
  ·rw [if_pos (by simpa using hi)]
   refine Ok.one (by omega) (by omega) (by simp) (by simp) fun x hx => ?_
   have hxs : x.size ≤ 1048576 := by
    simp only [List.mem_cons, List.not_mem_nil, or_false] at hx
    rcases hx with rfl | rfl | rfl | rfl | rfl | rfl | rfl
    all_goals first | exact g1 | decide
   dsimp only
   refine Ok.one (by omega) (by omega) (by simp) (by simp) fun y hy => ?_
   have hys : y.size ≤ 1048576 := by
    simp only [List.mem_cons, List.not_mem_nil, or_false] at hy
    rcases hy with rfl | rfl | rfl | rfl | rfl
    all_goals first | exact g1 | decide
   dsimp only
   have hx' : lexer_Path 10000000 x = some (pathB x.data.toList) := Path_eq (by omega) (by omega)
   have hy' : lexer_Path 10000000 y = some (pathB y.data.toList) := Path_eq (by omega) (by omega)
   have e1 := putP_len L1 x p2
   have e2 := removeP_len L1 x
   have e3 := moveP_len L1 x y
   simp only [Find_eq x hP1 (show 100 < 10000000 by omega), refFind_eq x (show 100 < 10000000 by omega), IsSource_eq hx', refIsSource_eq (s := x) (show 100 < 10000000 by omega), Put_eq x p2 hP1 hx' (show 100 < 10000000 by omega), refPut_eq x p2 (show 100 < 10000000 by omega),
    Remove_eq x hP1 (show 100 < 10000000 by omega), refRemove_eq x (show 100 < 10000000 by omega), Move_eq x y hP1 hy' (show 100 < 10000000 by omega), refMove_eq x y (show 100 < 10000000 by omega), Option.bind_some, beq_self_eq_true, bne_self_eq_false, Bool.not_true, Bool.false_eq_true, if_false]
   rw [refSame_eq (by omega) (by omega), refSame_eq (by omega) (by omega), refSame_eq (by omega) (by omega)]
   simp only [Option.bind_some, decide_true, Bool.not_true, Bool.false_eq_true, if_false]
   rw [wi64 (by omega) (by omega)]
   exact Ok.mk ⟨⟨i + 1, a + 1 + 1, rfl, by omega, by omega, by omega, by omega⟩, by dsimp only; omega⟩
  ·rw [if_neg (by simpa using hi)]
   exact Ok.mk ⟨a, rfl⟩
 ·rintro _ ⟨a, rfl⟩
  have hp1 : lexer_Path 10000000 p1 = some (pathB p1.data.toList) := Path_eq (by omega) (by omega)
  have hc : catB p1 (⟨#[46, 115, 114, 99]⟩ : ByteArray) = some (p1 ++ (⟨#[46, 115, 114, 99]⟩ : ByteArray)) := by
   unfold catB
   rw [if_pos (by have : (⟨#[46, 115, 114, 99]⟩ : ByteArray).size = 4 := rfl; simp only [maxLen]; omega)]
  have hcs : (p1 ++ (⟨#[46, 115, 114, 99]⟩ : ByteArray)).size ≤ 1048580 := by
   have : (⟨#[46, 115, 114, 99]⟩ : ByteArray).size = 4 := rfl
   rw [ByteArray.size_append]; omega
  have hp2 : lexer_Path 10000000 (p1 ++ (⟨#[46, 115, 114, 99]⟩ : ByteArray)) = some (pathB (p1 ++ (⟨#[46, 115, 114, 99]⟩ : ByteArray)).data.toList) := Path_eq (by omega) (by omega)
  simp only [IsSource_eq hp1, refIsSource_eq (s := p1) (show 100 < 10000000 by omega), hc, IsSource_eq hp2, refIsSource_eq (s := p1 ++ (⟨#[46, 115, 114, 99]⟩ : ByteArray)) (show 100 < 10000000 by omega), Option.bind_some, beq_self_eq_true, if_true, awake_eq (show 3000000 < 10000000 by omega)]
  exact Ok.mk rfl
end Go.Proofs.YtfodebccikifcaaDoor
