/- Revisions: the law's own small example; no beginning of the bytes is whole. No condition. -/
import Derived.Test.YtfodebccikifcaaGreatDoorRevCy1
namespace Go.Proofs.YtfodebccikifcaaGreatDoor
open Go Go.Dc
theorem path_small {p : ByteArray} (h : pathB p.data.toList = true) : p.size ≤ 80 := by
 have h1 := (of_decide_eq_true h).1
 have h2 := size_list' p
 omega
theorem WF.paths {N : Nat} {L : List File} (h : WF L) (hN : 20000 < N) : PathsOk N L := fun g hg => Path_eq (by have := path_small (h.2.2 g hg).1; omega) (by have := path_small (h.2.2 g hg).1; omega)
theorem path_ok {N : Nat} {p : ByteArray} (h : pathB p.data.toList = true) (hN : 20000 < N) : lexer_Path N p = some (pathB p.data.toList) := Path_eq (by have := path_small h; omega) (by have := path_small h; omega)
theorem putP_ok {L : List File} {p b : ByteArray} (h : WF L) (hp : pathB p.data.toList = true) (hb : b.size ≤ 16384) (hl : L.length < 64) : putP L p b = (fput L p b, 0) := by
 have := fput_length L p b
 unfold putP
 rw [if_neg (by simp [checkP_wf.2 h]), if_neg (by simp [hp]), if_neg (by omega)]
theorem moveP_ok {L : List File} {p q b : ByteArray} (h : WF L) (hq : pathB q.data.toList = true) (hg : fget L p = some b) (hn : fget L q = none) : moveP L p q = (fput (fdel L p) q b, 0) := by
 unfold moveP
 rw [if_neg (by simp [checkP_wf.2 h]), if_neg (by simp [hq]), hg]
 simp only
 rw [if_neg (by simp [hn])]
theorem Decode_enc {N : Nat} {L : List File} (hw : WF L) (hN : 3000000 < N) : revision_Decode N (encP L) = some (L, 0) := by
 have h0 := encP_len hw
 rw [Decode_eq (by omega) (by omega), decP_encP hw]
 intro K hK
 have e := framesR_all (its := frs L ++ [(2, encU L.length)]) (encP_its hw) (show (encP L).length < _ by omega)
 rw [show framesR (encP L) = _ from e] at hK
 simp only [List.dropLast_concat, filesP_frs hw.2.2, Option.some.injEq] at hK
 subst hK
 exact hw.paths (by omega)
theorem Encode_enc {N : Nat} {L : List File} (hw : WF L) (hN : 20000 < N) : revision_Encode N L = some (encP L, 0) := by
 rw [Encode_eq (hw.paths hN) hN]
 unfold encodeP
 rw [if_pos (checkP_wf.2 hw)]
def nA : ByteArray := ⟨#[97, 46, 115, 114, 99]⟩
def nB : ByteArray := ⟨#[98, 46, 115, 114, 99]⟩
def nX : ByteArray := ⟨#[120]⟩
def nS : ByteArray := ⟨#[46, 115, 114, 99]⟩
theorem nA_ok : pathB nA.data.toList = true := by kernel_rfl
theorem nB_ok : pathB nB.data.toList = true := by kernel_rfl
theorem wf0 : WF [] := ⟨by simp, by simp [Asc], by simp⟩
theorem awake_eq {N : Nat} (hN : 3000000 < N) : testgatelaw07_awake N = some true := by
 have w1 : WF (fput [] nA nX) := wf0.put nA_ok (by decide) (by decide)
 have e2 : fput (fdel (fput [] nA nX) nA) nB nX = [(nB, nX)] := by kernel_rfl
 have w2 : WF [(nB, nX)] := wf0.put nB_ok (by decide) (by decide)
 have g1 : fget (fput [] nA nX) nA = some nX := by kernel_rfl
 have g2 : fget (fput [] nA nX) nB = none := by kernel_rfl
 have g3 : fget [(nB, nX)] nB = some nX := by kernel_rfl
 have h1 : revision_Put N [] nA nX = some (fput [] nA nX, 0) := by
  rw [Put_eq _ _ (wf0.paths (by omega)) (path_ok nA_ok (by omega)) (by omega), putP_ok wf0 nA_ok (by decide) (by decide)]
 have h2 : revision_Move N (fput [] nA nX) nA nB = some ([(nB, nX)], 0) := by
  rw [Move_eq _ _ (w1.paths (by omega)) (path_ok nB_ok (by omega)) (by omega), moveP_ok w1 nB_ok g1 g2, e2]
 have h3 : revision_Find N [(nB, nX)] nB = some (nX, true) := by
  rw [Find_eq _ (w2.paths (by omega)) (by omega), findP, if_pos (checkP_wf.2 w2), g3]; rfl
 have h6 : revision_Same N [(nB, nX)] [(nB, nX)] = some true := by
  rw [Same_eq (by decide) (by simp only [List.length_cons, List.length_nil]; omega)]; simp
 have h7 : revision_IsSource N nB = some true := by
  rw [IsSource_eq (path_ok nB_ok (by omega))]; exact congrArg some (by kernel_rfl)
 have h8 : revision_IsSource N nS = some false := by
  rw [IsSource_eq (Path_eq (by decide) (show 2 * 4 + 1000 < N by omega))]; exact congrArg some (by kernel_rfl)
 show (revision_Put N [] nA nX).bind _ = _
 rw [h1]
 show (revision_Move N (fput [] nA nX) nA nB).bind _ = _
 rw [h2]
 show (revision_Find N [(nB, nX)] nB).bind _ = _
 rw [h3]
 show (revision_Encode N [(nB, nX)]).bind _ = _
 rw [Encode_enc w2 (by omega)]
 show (revision_Decode N (encP [(nB, nX)])).bind _ = _
 rw [Decode_enc w2 hN]
 simp only [Option.bind_some, beq_self_eq_true, if_true]
 rw [if_pos (show (nX.toList == (⟨#[120]⟩ : ByteArray).toList) = true from beq_self_eq_true nX.toList), h6]
 simp only [Option.bind_some, if_true]
 show ((revision_IsSource N nB).bind _).bind _ = _
 rw [h7]
 simp only [Option.bind_some, if_true]
 show ((revision_IsSource N nS).bind _).bind _ = _
 rw [h8]
 rfl
end Go.Proofs.YtfodebccikifcaaGreatDoor
