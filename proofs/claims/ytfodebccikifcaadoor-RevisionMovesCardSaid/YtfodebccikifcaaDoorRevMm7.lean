/- The plain law of RevisionMoves. No condition. -/
import Derived.Test.YtfodebccikifcaaDoorMakem7
import Derived.Test.YtfodebccikifcaaDoorRevDm7
namespace Go.Proofs.YtfodebccikifcaaDoor
open Go Go.Dc

def zzB : ByteArray := ⟨#[122, 122, 47, 110, 101, 119]⟩
theorem zz_path : pathB zzB.data.toList = true := by kernel_rfl
theorem zz_not : ((srcL ++ datL).all fun p => !decide (p = zzB)) = true := by kernel_rfl
theorem Made.zz {L : List File} (h : Made L) : fget L zzB = none := by
  cases hg : fget L zzB with
  | none => rfl
  | some b =>
    have := (h.2 _ (fget_mem hg)).1
    have hn := List.all_eq_true.1 zz_not _ this
    simp at hn

theorem moves_def {N : Nat} {y1 : (List Int × Int) × ((List (ByteArray × ByteArray)))} {o1 : ByteArray} {s2 : Int} : testgatelaw07_RevisionMoves_L1 N y1 o1 s2 =
 if (decide (s2 < (List.length y1.2 : Int))) = true then ((idx y1.2 s2).bind fun x1 => (revision_Move N y1.2 x1.1 zzB).bind fun y2 => (revision_Move N y2.1 zzB x1.1).bind fun y3 => (revision_Remove N y1.2 x1.1).bind fun y4 => (revision_Put N y4.1 zzB o1).bind fun y5 => (revision_Put N y1.2 zzB o1).bind fun y6 => (revision_Remove N y6.1 x1.1).bind fun y7 => (if (y2.2 != 0) = true then (some true) else (if (y3.2 != 0) = true then (some true) else (if (y4.2 != 0) = true then (some true) else (if (y5.2 != 0) = true then (some true) else (if (y6.2 != 0) = true then (some true) else (if (y7.2 != 0) = true then (some true) else ((testgateref07_Same N y1.2 y3.1).bind fun y8 => if (!y8) = true then (some true) else ((testgateref07_Same N y5.1 y7.1).bind fun y9 => some (!y9)))))))) : Option (Bool)).bind fun o3 => if o3 = true then (some (.inr (.inr (false)))) else (some (.inl (IntKind.wrap .i64 (s2 + 1))))) else (some (.inr (.inl ()))) := rfl

theorem moves_step {N : Nat} {t : List Int × Int} {L : List File} {o1 : ByteArray} (hN : 20000 < N) (hm : Made L) (hl : L.length ≤ 7) (ho : o1.size ≤ 100) {i : Nat} (hi : i < L.length) : testgatelaw07_RevisionMoves_L1 N (t, L) o1 (i : Int) = some (.inl ((i : Int) + 1)) := by
  have hw := hm.wf (by omega)
  have hx : pathB (L[i]).1.data.toList = true := hm.path (List.getElem_mem hi)
  have hg : fget L (L[i]).1 = some (L[i]).2 := fget_of_mem hm.1 (List.getElem_mem hi)
  have hb : (L[i]).2.size ≤ 16384 := Nat.le_trans (hm.2 _ (List.getElem_mem hi)).2 (by decide)
  have hz := hm.zz
  have hne : zzB ≠ (L[i]).1 := fun e => by rw [e, hg] at hz; cases hz
  rw [moves_def]
  dsimp only
  rw [if_pos (by simpa using hi), idx_nat hi]
  simp only [Option.bind_some]
  rw [Move_eq _ _ (hw.paths hN) (path_ok zz_path hN) (by omega), moveP_ok hw zz_path hg hz]
  simp only [Option.bind_some]
  have hd := hw.del (L[i]).1
  have hdl : (fdel L (L[i]).1).length ≤ 7 := Nat.le_trans (List.length_filter_le _ _) hl
  have hpl := fput_length (fdel L (L[i]).1) zzB (L[i]).2
  have hw2 : WF (fput (fdel L (L[i]).1) zzB (L[i]).2) := hd.put zz_path hb (by omega)
  have g2 : fget (fput (fdel L (L[i]).1) zzB (L[i]).2) zzB = some (L[i]).2 := by rw [fget_put hd.2.1, if_pos rfl]
  have g3 : fget (fput (fdel L (L[i]).1) zzB (L[i]).2) (L[i]).1 = none := by rw [fget_put hd.2.1, if_neg hne, fget_del_self]
  rw [Move_eq _ _ (hw2.paths hN) (path_ok hx hN) (by omega), moveP_ok hw2 hx g2 g3]
  simp only [Option.bind_some]
  rw [Remove_eq _ (hw.paths hN) (by omega), removeP_ok hw hg]
  simp only [Option.bind_some]
  rw [Put_eq _ _ (hd.paths hN) (path_ok zz_path hN) (by omega), putP_ok hd zz_path (by omega) (by omega)]
  simp only [Option.bind_some]
  rw [Put_eq _ _ (hw.paths hN) (path_ok zz_path hN) (by omega), putP_ok hw zz_path (by omega) (by omega)]
  simp only [Option.bind_some]
  have hpl3 := fput_length L zzB o1
  have hw3 : WF (fput L zzB o1) := hw.put zz_path (by omega) (by omega)
  have g4 : fget (fput L zzB o1) (L[i]).1 = some (L[i]).2 := by rw [fget_put hw.2.1, if_neg hne, hg]
  rw [Remove_eq _ (hw3.paths hN) (by omega), removeP_ok hw3 g4]
  simp only [Option.bind_some, bne_self_eq_false, Bool.false_eq_true, if_false]
  have e1 : fput (fdel (fput (fdel L (L[i]).1) zzB (L[i]).2) zzB) (L[i]).1 (L[i]).2 = L := Asc.ext ((hw2.2.1.del _).put _ _) hw.2.1 fun q => by
    rw [fget_put (hw2.2.1.del _), fget_del, fget_put hd.2.1, fget_del]
    by_cases q1 : (L[i]).1 = q
    · rw [if_pos q1, ← q1, hg]
    · rw [if_neg q1]
      by_cases q2 : zzB = q
      · rw [if_pos q2, ← q2, hz]
      · rw [if_neg q2, if_neg q2, if_neg q1]
  have e2 : fput (fdel L (L[i]).1) zzB o1 = fdel (fput L zzB o1) (L[i]).1 := Asc.ext (hd.2.1.put _ _) (hw3.2.1.del _) fun q => by
    rw [fget_put hd.2.1, fget_del, fget_del, fget_put hw.2.1]
    by_cases q2 : zzB = q
    · rw [if_pos q2, if_pos q2, if_neg (fun e => hne (q2.trans e.symm))]
    · rw [if_neg q2, if_neg q2]
  have hpl4 := fput_length (fdel L (L[i]).1) zzB o1
  rw [refSame_eq (by omega) (by omega), e1, refSame_eq (by omega) (by omega), e2]
  simp only [Option.bind_some, decide_true, Bool.not_true, Bool.false_eq_true, if_false]
  rw [wi64 (by omega) (by omega)]

theorem moves_loop {N : Nat} {t : List Int × Int} {L : List File} {o1 : ByteArray} (hN : 20000 < N) (hm : Made L) (hl : L.length ≤ 7) (ho : o1.size ≤ 100) : ∀ (d i M : Nat), i + d = L.length → d < M → loopM (testgatelaw07_RevisionMoves_L1 N (t, L) o1) M (i : Int) = some (.inl ())
  | _, _, 0, _, h => by omega
  | 0, i, M + 1, hd, _ => by
    simp only [loopM, moves_def]
    rw [if_neg (by simp only [decide_eq_true_eq]; omega)]
    rfl
  | d + 1, i, M + 1, hd, hM => by
    simp only [loopM, moves_step hN hm hl ho (show i < L.length by omega), Option.bind_some]
    have e1 : (i : Int) + 1 = ((i + 1 : Nat) : Int) := by omega
    rw [e1]
    exact moves_loop hN hm hl ho d (i + 1) M (by omega) (by omega)

theorem testgatelaw07_RevisionMoves_true (l : List Int) (_gl : l.length * 8 ≤ reachBytes ∧ ∀ x ∈ l, (Lit.int .i64 x).wf = true) (bytes : ByteArray) (_gb : bytes.size ≤ reachBytes) : ∃ N, testgatelaw07_RevisionMoves N l bytes = some true := by
  refine ⟨3000001, ?_⟩
  obtain ⟨y, hy, a', L, rfl, g1, g2, hm, hl⟩ := Revision_ok (N := 3000001) (l := l) (a := 0) (by omega) (by omega) (by omega)
  have hcut : ∃ o, (if (decide ((ByteArray.size bytes : Int) > 100)) = true then ((subB bytes 0 100).bind fun s1 => some s1) else (some bytes) : Option (ByteArray)) = some o ∧ o.size ≤ 100 := by
    by_cases h : 100 < bytes.size
    · rw [if_pos (by simp only [decide_eq_true_eq]; omega), subB_some (by omega) (by omega) (by omega)]
      exact ⟨_, rfl, by simp only [ByteArray.size_extract]; omega⟩
    · rw [if_neg (by simp only [decide_eq_true_eq]; omega)]
      exact ⟨_, rfl, by omega⟩
  obtain ⟨o, ho1, ho2⟩ := hcut
  simp only [testgatelaw07_RevisionMoves, hy, Option.bind_some, ho1]
  have hN : 20000 < 3000001 := by omega
  have hloop := moves_loop (N := 3000001) (t := (l, a')) hN hm hl ho2 L.length 0 3000001 (by omega) (by omega)
  rw [show ((0 : Nat) : Int) = 0 from rfl] at hloop
  rw [hloop]
  simp only [Option.bind_some]
  have hw := hm.wf (by omega)
  have hz := hm.zz
  show (revision_Put 3000001 L zzB o).bind _ = _
  rw [Put_eq _ _ (hw.paths hN) (path_ok zz_path hN) (by omega), putP_ok hw zz_path (by omega) (by omega)]
  simp only [Option.bind_some]
  have hpl3 := fput_length L zzB o
  have hw3 : WF (fput L zzB o) := hw.put zz_path (by omega) (by omega)
  have g4 : fget (fput L zzB o) zzB = some o := by rw [fget_put hw.2.1, if_pos rfl]
  show ((revision_Remove 3000001 (fput L zzB o) zzB).bind _) = _
  rw [Remove_eq _ (hw3.paths hN) (by omega), removeP_ok hw3 g4]
  have e1 : fdel (fput L zzB o) zzB = L := Asc.ext (hw3.2.1.del _) hw.2.1 fun q => by
    rw [fget_del, fget_put hw.2.1]
    by_cases q2 : zzB = q
    · rw [if_pos q2, ← q2, hz]
    · rw [if_neg q2, if_neg q2]
  simp only [Option.bind_some, e1]
  rw [refSame_eq (by omega) (by omega), awake_eq (by omega)]
  simp
end Go.Proofs.YtfodebccikifcaaDoor
