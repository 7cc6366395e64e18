/- The plain law of RevisionBack. No condition. -/
import Derived.Test.YtfodebccikifcaaDoorMakem8
import Derived.Test.YtfodebccikifcaaDoorRevEm8
namespace Go.Proofs.YtfodebccikifcaaDoor
open Go Go.Dc

theorem encP_pos (L : List File) : 0 < (encP L).length := by
  have h5 := frameL_len 2 (encU L.length)
  rw [encP_split, List.length_append]; omega
theorem testgatelaw07_RevisionBack_true (l : List Int) (_gl : l.length * 8 ≤ reachBytes ∧ ∀ x ∈ l, (Lit.int .i64 x).wf = true) (cut : Int) (_gc : (Lit.int .i64 cut).wf = true) : ∃ N, testgatelaw07_RevisionBack N l cut = some true := by
  refine ⟨10000000, ?_⟩
  obtain ⟨y, hy, a', L, rfl, g1, g2, hm, hl⟩ := Revision_ok (N := 10000000) (l := l) (a := 0) (by omega) (by omega) (by omega)
  have hw := hm.wf (by omega)
  have hpos := encP_pos L
  have hle := encP_len hw
  simp only [testgatelaw07_RevisionBack, hy, Option.bind_some]
  rw [Encode_enc hw (by omega)]
  simp only [Option.bind_some]
  rw [Decode_enc hw (by omega)]
  simp only [Option.bind_some, bne_self_eq_false, Bool.false_eq_true, if_false]
  rw [refSame_eq (by omega) (by omega)]
  have h0 : (((encP L).length : Int) == 0) = false := beq_eq_false_iff_ne.2 (by omega)
  simp only [Option.bind_some, decide_true, Bool.not_true, Bool.false_eq_true, if_false, h0]
  obtain ⟨r, hr, r0, r1⟩ := fold_ok' (N := 10000000) (v := cut) (n := ((encP L).length : Int)) (by omega)
  have r2 := r1 (by omega)
  rw [hr]
  simp only [Option.bind_some]
  rw [subS_some (by omega) (by omega) (by omega)]
  simp only [Option.bind_some, show (0 : Int).toNat = 0 from rfl, List.drop_zero]
  have hcl : ((encP L).take r.toNat).length = r.toNat := by simp; omega
  have hcut := decP_cut hw (show r.toNat < (encP L).length by omega)
  rw [Decode_eq (by omega) (by omega)]
  · simp only [Option.bind_some]
    rw [if_pos (by simpa using hcut), awake_eq (by omega)]
    rfl
  · exact filesOk hcl (by omega) (by omega)
end Go.Proofs.YtfodebccikifcaaDoor
