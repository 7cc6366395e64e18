/- Revisions: the law's own small example; no beginning of the bytes is whole. No condition. -/
import Derived.Test.YtfodebccikifcaaDoorRevCm8
namespace Go.Proofs.YtfodebccikifcaaDoor
open Go Go.Dc

theorem path_small {p : ByteArray} (h : pathB p.data.toList = true) : p.size ≤ 80 := by
  have h1 := (of_decide_eq_true h).1
  have h2 := size_list' p
  omega
theorem WF.paths {N : Nat} {L : List File} (h : WF L) (hN : 20000 < N) : PathsOk N L := fun g hg => Path_eq (by have := path_small (h.2.2 g hg).1; omega) (by have := path_small (h.2.2 g hg).1; omega)
theorem path_ok {N : Nat} {p : ByteArray} (h : pathB p.data.toList = true) (hN : 20000 < N) : lexer_Path N p = some (pathB p.data.toList) := Path_eq (by have := path_small h; omega) (by have := path_small h; omega)

theorem putP_ok {L : List File} {p b : ByteArray} (h : WF L) (hp : pathB p.data.toList = true) (hb : b.size ≤ 16384) (hl : L.length < 64) : putP L p b = (fput L p b, 0) := by
  have := fput_length L p b
  unfold putP
  rw [if_neg (by simp [checkP_wf.2 h]), if_neg (by simp [hp]), if_neg (by omega)]
theorem moveP_ok {L : List File} {p q b : ByteArray} (h : WF L) (hq : pathB q.data.toList = true) (hg : fget L p = some b) (hn : fget L q = none) : moveP L p q = (fput (fdel L p) q b, 0) := by
  unfold moveP
  rw [if_neg (by simp [checkP_wf.2 h]), if_neg (by simp [hq]), hg]
  simp only
  rw [if_neg (by simp [hn])]

theorem Decode_enc {N : Nat} {L : List File} (hw : WF L) (hN : 3000000 < N) : revision_Decode N (encP L) = some (L, 0) := by
  have h0 := encP_len hw
  rw [Decode_eq (by omega) (by omega), decP_encP hw]
  intro K hK
  have e := framesR_all (its := frs L ++ [(2, encU L.length)]) (encP_its hw) (show (encP L).length < _ by omega)
  rw [show framesR (encP L) = _ from e] at hK
  simp only [List.dropLast_concat, filesP_frs hw.2.2, Option.some.injEq] at hK
  subst hK
  exact hw.paths (by omega)
theorem Encode_enc {N : Nat} {L : List File} (hw : WF L) (hN : 20000 < N) : revision_Encode N L = some (encP L, 0) := by
  rw [Encode_eq (hw.paths hN) hN]
  unfold encodeP
  rw [if_pos (checkP_wf.2 hw)]

def nA : ByteArray := ⟨#[97, 46, 115, 114, 99]⟩
def nB : ByteArray := ⟨#[98, 46, 115, 114, 99]⟩
def nX : ByteArray := ⟨#[120]⟩
def nS : ByteArray := ⟨#[46, 115, 114, 99]⟩
theorem nA_ok : pathB nA.data.toList = true := by kernel_rfl
theorem nB_ok : pathB nB.data.toList = true := by kernel_rfl
theorem wf0 : WF [] := ⟨by simp, by simp [Asc], by simp⟩
theorem awake_eq {N : Nat} (hN : 3000000 < N) : testgatelaw07_awake N = some true := by
  have w1 : WF (fput [] nA nX) := wf0.put nA_ok (by decide) (by decide)
  have e2 : fput (fdel (fput [] nA nX) nA) nB nX = [(nB, nX)] := by kernel_rfl
  have w2 : WF [(nB, nX)] := wf0.put nB_ok (by decide) (by decide)
  have g1 : fget (fput [] nA nX) nA = some nX := by kernel_rfl
  have g2 : fget (fput [] nA nX) nB = none := by kernel_rfl
  have g3 : fget [(nB, nX)] nB = some nX := by kernel_rfl
  have h1 : revision_Put N [] nA nX = some (fput [] nA nX, 0) := by
    rw [Put_eq _ _ (wf0.paths (by omega)) (path_ok nA_ok (by omega)) (by omega), putP_ok wf0 nA_ok (by decide) (by decide)]
  have h2 : revision_Move N (fput [] nA nX) nA nB = some ([(nB, nX)], 0) := by
    rw [Move_eq _ _ (w1.paths (by omega)) (path_ok nB_ok (by omega)) (by omega), moveP_ok w1 nB_ok g1 g2, e2]
  have h3 : revision_Find N [(nB, nX)] nB = some (nX, true) := by
    rw [Find_eq _ (w2.paths (by omega)) (by omega), findP, if_pos (checkP_wf.2 w2), g3]; rfl
  have h6 : revision_Same N [(nB, nX)] [(nB, nX)] = some true := by
    rw [Same_eq (by decide) (by simp only [List.length_cons, List.length_nil]; omega)]; simp
  have h7 : revision_IsSource N nB = some true := by
    rw [IsSource_eq (path_ok nB_ok (by omega))]; exact congrArg some (by kernel_rfl)
  have h8 : revision_IsSource N nS = some false := by
    rw [IsSource_eq (Path_eq (by decide) (show 2 * 4 + 1000 < N by omega))]; exact congrArg some (by kernel_rfl)
  show (revision_Put N [] nA nX).bind _ = _
  rw [h1]
  show (revision_Move N (fput [] nA nX) nA nB).bind _ = _
  rw [h2]
  show (revision_Find N [(nB, nX)] nB).bind _ = _
  rw [h3]
  show (revision_Encode N [(nB, nX)]).bind _ = _
  rw [Encode_enc w2 (by omega)]
  show (revision_Decode N (encP [(nB, nX)])).bind _ = _
  rw [Decode_enc w2 hN]
  simp only [Option.bind_some, beq_self_eq_true, if_true]
  rw [if_pos (show (nX.toList == (⟨#[120]⟩ : ByteArray).toList) = true from beq_self_eq_true nX.toList), h6]
  simp only [Option.bind_some, if_true]
  show ((revision_IsSource N nB).bind _).bind _ = _
  rw [h7]
  simp only [Option.bind_some, if_true]
  show ((revision_IsSource N nS).bind _).bind _ = _
  rw [h8]
  rfl

theorem beginning_at {pre : List UInt8} {kind : Int} {p : List UInt8} (hp : p.length ≤ 2097152) {j : Nat} (hj : j < (frameL kind p).length) : (nextR (pre ++ (frameL kind p).take j) (pre.length : Int)).2.2 ≠ 0 := by
  intro h
  have hpre : pre ++ (frameL kind p).take j <+: pre ++ frameL kind p := (List.prefix_append_right_inj _).2 (List.take_prefix _ _)
  have hl : (pre ++ (frameL kind p).take j).length = pre.length + j := by simp; omega
  have hu : uintP (pre ++ frameL kind p) ((pre.length : Int) + 2) = ((p.length : Int), ((pre.length + 2 + (encU p.length).length : Nat) : Int), 0) := by
    have := uintP_enc (pre := pre ++ [247, toU8 (IntKind.wrap .u8 kind)]) (post := p ++ le4 (ck ((headL kind p).drop 1))) (n := p.length) (by omega)
    have e : pre ++ [247, toU8 (IntKind.wrap .u8 kind)] ++ (encU p.length ++ (p ++ le4 (ck ((headL kind p).drop 1)))) = pre ++ frameL kind p := by simp [frameL, headL]
    rw [e] at this
    simpa using this
  have hfl := frameL_len kind p
  have hhl : (headL kind p).length = 2 + (encU p.length).length + p.length := by simp [headL]; omega
  unfold nextR at h
  split at h
  · cases h
  · split at h
    · cases h
    · split at h
      · cases h
      · split at h
        · cases h
        · split at h
          · cases h
          · split at h
            · rename_i g5; exact g5 h
            · rename_i g5
              have hup := uintP_prefix hpre (i := (pre.length : Int) + 2) (Decidable.of_not_not g5)
              rw [hu] at hup
              split at h
              · cases h
              · split at h
                · cases h
                · rename_i g7
                  rw [← hup, hl] at g7
                  simp only at g7
                  omega

/-- Where a beginning of many frames ends. -/
theorem cut_at : ∀ (its : List (Int × List UInt8)) (j : Nat), j < (fmL its).length → ∃ (k : Nat) (hk : k < its.length) (j' : Nat), j' < (frameL its[k].1 its[k].2).length ∧ (fmL its).take j = fmL (its.take k) ++ (frameL its[k].1 its[k].2).take j'
  | [], j, h => by simp [fmL] at h
  | x :: its, j, h => by
    have e : fmL (x :: its) = frameL x.1 x.2 ++ fmL its := by simp [fmL]
    by_cases hj : j < (frameL x.1 x.2).length
    · refine ⟨0, by simp, j, hj, ?_⟩
      rw [e, List.take_append_of_le_length (by omega)]
      simp [fmL]
    · rw [e, List.length_append] at h
      obtain ⟨k, hk, j', h1, h2⟩ := cut_at its (j - (frameL x.1 x.2).length) (by omega)
      refine ⟨k + 1, by simp; omega, j', by simpa using h1, ?_⟩
      rw [e, List.take_append, List.take_of_length_le (by omega), h2]
      simp [fmL]

theorem fmL_le (its : List (Int × List UInt8)) : its.length ≤ (fmL its).length := by
  induction its with
  | nil => simp
  | cons x its ih =>
    have := frameL_len x.1 x.2
    simp only [fmL, List.flatMap_cons, List.length_append, List.length_cons] at *; omega
theorem framesR_cut {its : List (Int × List UInt8)} (h : ∀ x ∈ its, 1 ≤ x.1 ∧ x.1 ≤ 255 ∧ x.2.length ≤ 2097152) (hb : (fmL its).length < 100000000000) {j : Nat} (hj : j < (fmL its).length) : (framesR ((fmL its).take j)).2.2 ≠ 0 ∨ ∃ k, k < its.length ∧ (framesR ((fmL its).take j)).1 = its.take k := by
  obtain ⟨k, hk, j', h1, h2⟩ := cut_at its j hj
  have hx := h _ (List.getElem_mem hk)
  have hle := fmL_le (its.take k)
  have hkl : (its.take k).length = k := by simp; omega
  have hlen : ((fmL its).take j).length = j := by simp; omega
  have hl2 : (fmL (its.take k)).length + j' = j := by
    rw [h2, List.length_append, List.length_take] at hlen; omega
  have := frames_many (post := (frameL its[k].1 its[k].2).take j') (its.take k) [] (j + 1 - k) [] (fun x hx => h x (List.mem_of_mem_take hx)) (by rw [List.length_take, List.length_nil]; omega)
  simp only [List.nil_append, List.length_nil, Nat.zero_add, hkl] at this
  unfold framesR
  rw [hlen, h2]
  rw [show k + (j + 1 - k) = j + 1 by omega] at this
  rw [show (0 : Int) = ((0 : Nat) : Int) from rfl, this]
  obtain ⟨m, hm⟩ : ∃ m, j + 1 - k = m + 1 := ⟨j - k, by omega⟩
  rw [hm]
  simp only [framesF]
  have hh : (fmL (its.take k) ++ (frameL its[k].1 its[k].2).take j').length = j := by rw [← h2, hlen]
  by_cases hj0 : ((fmL (its.take k)).length : Int) < (fmL (its.take k) ++ (frameL its[k].1 its[k].2).take j').length
  · rw [if_pos hj0]
    have hb := beginning_at (pre := fmL (its.take k)) (kind := its[k].1) (p := its[k].2) hx.2.2 h1
    rw [if_pos hb]
    exact .inl hb
  · rw [if_neg hj0]
    exact .inr ⟨k, hk, rfl⟩

theorem decP_cut {L : List File} (hw : WF L) {j : Nat} (hj : j < (encP L).length) : (decP ((encP L).take j)).2 ≠ 0 := by
  have h0 := encP_len hw
  unfold decP
  rcases framesR_cut (encP_its hw) (show (encP L).length < _ by omega) hj with h | ⟨k, hk, h⟩
  · have h' : (framesR ((encP L).take j)).2.2 ≠ 0 := h
    rw [if_pos h']; exact h'
  · have h' : (framesR ((encP L).take j)).1 = _ := h
    split
    · assumption
    · rw [h']
      have hk' : k ≤ (frs L).length := by simp only [List.length_append, List.length_cons, List.length_nil] at hk; omega
      rw [List.take_append_of_le_length hk']
      cases hg : ((frs L).take k).getLast? with
      | none => simp
      | some x =>
        simp only []
        have hm := List.mem_of_mem_take (List.mem_of_getLast? hg)
        obtain ⟨f, _, rfl⟩ := List.mem_map.1 hm
        simp
end Go.Proofs.YtfodebccikifcaaDoor
