/- The plain law of RevisionBytes. No condition. -/
import Derived.Test.YtfodebccikifcaaGreatDoorRevSy1
import Derived.Test.YtfodebccikifcaaGreatDoorRevFy1
namespace Go.Proofs.YtfodebccikifcaaGreatDoor
open Go Go.Dc
theorem encodeP_len (L : List File) : (encodeP L).1.length ≤ 2000000 := by
 unfold encodeP
 split
 ·rename_i h; exact encP_len (checkP_wf.1 h)
 ·exact Nat.zero_le _
theorem appA_some {α : Type} {k : Nat} {l : List α} (h0 : l ≠ []) (h : l.length * k ≤ 140737488355328) (h2 : l.length ≤ 100000000) : appA k l = some l := by
 unfold appA; rw [if_pos ⟨h0, h, by simp only [maxLen]; omega⟩]
theorem frameR_len (k : Int) (p : List UInt8) : (frameR k p).1.length ≤ p.length + 16 := by
 have h1 := frameL_len k p
 have h2 := (headL_len (kind := k) (p := p)).1
 unfold frameR
 repeat' split
 all_goals first | exact Nat.zero_le _ | (show (frameL k p).length ≤ _; omega)
theorem testgatelaw07_RevisionBytes_true (l : List Int) (_gl : l.length * 8 ≤ reachBytes ∧ ∀ x ∈ l, (Lit.int .i64 x).wf = true) (at' : Int) (_ga : (Lit.int .i64 at').wf = true) (by_ : Int) (_gb : (Lit.int .u8 by_).wf = true) (kind : Int) (gk : (Lit.int .u8 kind).wf = true)
  (m : List UInt8) (_gm : m.length * 1 ≤ reachBytes ∧ ∀ x ∈ m, True) : ∃ N, testgatelaw07_RevisionBytes N l at' by_ kind m = some true := by
 refine ⟨30000000, ?_⟩
 suffices h : Ok (testgatelaw07_RevisionBytes 30000000 l at' by_ kind m) fun b => b = true by
  obtain ⟨b, h1, rfl⟩ := h; exact h1
 have hcut : ∃ o, (if (decide ((List.length m : Int) > 60)) = true then ((subS m 0 60).bind fun l1 => some l1) else (some m) : Option (List UInt8)) = some o ∧ o.length ≤ 60 := by
  by_cases h : 60 < m.length
  ·have hm : (60 : Int) ≤ m.length := by omega
   rw [if_pos (by simp only [decide_eq_true_eq]; omega), subS_some (by omega) (by omega) hm]
   exact ⟨_, rfl, by simp only [List.length_drop, List.length_take]; omega⟩
  ·rw [if_neg (by simp only [decide_eq_true_eq]; omega)]
   exact ⟨_, rfl, by omega⟩
 obtain ⟨o, ho1, ho2⟩ := hcut
 simp only [testgatelaw07_RevisionBytes]
 refine Ok.bind (spoiled_ok (l := l) (a := 0) (by omega) (by omega) (by omega)) ?_
 rintro _ ⟨a1, L, rfl, k1, k2, hl1, hs1⟩
 have hP : PathsOk 30000000 L := pathsOf hs1 (by omega)
 have hel := encodeP_len L
 dsimp only
 rw [Encode_eq hP (by omega), refEncode_eq (by omega), ho1]
 have hF := frameR_len (IntKind.wrap .i64 (1 + (IntKind.wrap .i64 (Int.tmod kind 4)))) o
 simp only [Option.bind_some, bne_self_eq_false, Bool.false_eq_true, if_false, same_eq, Bool.not_true]
 rw [ref_Frame_eq (.inl (by omega)) (by omega)]
 simp only [Option.bind_some]
 generalize (frameR (IntKind.wrap .i64 (1 + (IntKind.wrap .i64 (Int.tmod kind 4)))) o).1 = F at hF ⊢
 generalize (encodeP L).1 = A at hel ⊢
 rw [decodes_eq (l := A) (by omega) (by omega)]
 simp only [Option.bind_some, Bool.not_true, Bool.false_eq_true, if_false]
 rw [appendS_some (by simp only [List.length_nil]; omega) (by omega)]
 simp only [Option.bind_some, List.nil_append]
 rw [appendS_some (by omega) (by omega)]
 simp only [Option.bind_some]
 rw [decodes_eq (l := A ++ F) (by simp only [List.length_append]; omega) (by simp only [List.length_append]; omega)]
 simp only [Option.bind_some, Bool.not_true, Bool.false_eq_true, if_false]
 rw [appendS_some (by simp only [List.length_nil]; omega) (by omega)]
 simp only [Option.bind_some, List.nil_append]
 rw [appendS_some (by omega) (by omega)]
 simp only [Option.bind_some]
 rw [decodes_eq (l := F ++ A) (by simp only [List.length_append]; omega) (by simp only [List.length_append]; omega)]
 simp only [Option.bind_some, Bool.not_true, Bool.false_eq_true, if_false]
 by_cases hA : A = []
 ·subst hA
  rw [if_pos (by rfl), awake_eq (by omega)]
  exact Ok.mk rfl
 ·have hpos : 0 < A.length := List.length_pos_iff.2 hA
  rw [if_neg (by rw [beq_iff_eq]; omega)]
  obtain ⟨r, hr, r0, r1⟩ := fold_ok' (N := 30000000) (v := at') (n := (A.length : Int)) (by omega)
  have r2 := r1 (by omega)
  rw [hr]
  obtain ⟨k, rfl⟩ : ∃ k : Nat, r = k := ⟨r.toNat, by omega⟩
  simp only [Option.bind_some]
  rw [appA_some hA (by omega) (by omega)]
  simp only [Option.bind_some]
  rw [idx_nat (show k < A.length by omega)]
  simp only [Option.bind_some]
  rw [decodes_eq (by rw [List.length_set]; omega) (by rw [List.length_set]; omega)]
  simp only [Option.bind_some, if_true]
  rw [subS_some (by omega) (by omega) (by omega)]
  simp only [Option.bind_some]
  rw [decodes_eq (by simp only [List.length_drop, List.length_take]; omega) (by simp only [List.length_drop, List.length_take]; omega), awake_eq (by omega)]
  exact Ok.mk rfl
end Go.Proofs.YtfodebccikifcaaGreatDoor
