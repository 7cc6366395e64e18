/- FilediffBack: the changes between two revisions lead from one to the other. No condition. -/
import Derived.Test.YtgggihpbhmbjaaaGreatDoorFdKy5
namespace Go.Proofs.YtgggihpbhmbjaaaGreatDoor
open Go Go.Dc Go.Sort Go.Proofs
theorem takeB_perm : ∀ {U : List File} {B p : ByteArray} {t : List ByteArray}, ofB B U = p :: t → ∃ g ∈ U, g.1 = p ∧ g.2 = B ∧ U.Perm (g :: takeB U B)
 | [], B, p, t, h => by simp [ofB] at h
 | g :: U, B, p, t, h => by
  by_cases hg : g.2 = B
  ·have h1 : ofB B (g :: U) = g.1 :: ofB B U := by simp [ofB, hg]
   rw [h1] at h
   simp only [List.cons.injEq] at h
   refine ⟨g, List.mem_cons_self .., h.1, hg, ?_⟩
   unfold takeB
   rw [List.eraseP_cons_of_pos (by simpa using hg)]
  ·have h1 : ofB B (g :: U) = ofB B U := by simp [ofB, hg]
   rw [h1] at h
   obtain ⟨g2, h2, h3, h4, h5⟩ := takeB_perm h
   refine ⟨g2, List.mem_cons_of_mem _ h2, h3, h4, ?_⟩
   unfold takeB at *
   rw [List.eraseP_cons_of_neg (by simpa using hg)]
   exact (h5.cons g).trans (.swap g2 g _)
theorem match_takes (U : List File) (f : File) : ((match takenP (matchF U f).1 with | some p => [p] | none => []) ++ (matchF U f).2.map (·.1)).Perm (U.map (·.1)) := by
 unfold matchF
 cases h : ofB f.2 U with
 | nil => exact .refl _
 | cons p t =>
  obtain ⟨g, h2, h3, h4, h5⟩ := takeB_perm h
  simp only [takenP, if_true, List.cons_append, List.nil_append]
  rw [← h3]
  exact (h5.map (·.1)).symm
theorem adds_takes (a : List File) : ∀ (b U : List File), (takesL (addsF a b U).1 ++ (addsF a b U).2.map (·.1)).Perm (U.map (·.1))
 | [], _ => .refl _
 | f :: b, U => by
  simp only [addsF]
  split
  ·exact adds_takes a b U
  ·have ih := adds_takes a b (matchF U f).2
   have e1 : takesL ((matchF U f).1 :: (addsF a b (matchF U f).2).1) = (match takenP (matchF U f).1 with | some p => [p] | none => []) ++ takesL (addsF a b (matchF U f).2).1 := by
    unfold takesL; rw [List.filterMap_cons]; cases takenP (matchF U f).1 <;> rfl
   rw [e1, List.append_assoc]
   exact (ih.append_left _).trans (match_takes U f)
theorem diffP_wf {a b : List File} (wa : WF a) (wb : WF b) : diffP a b = (sortC (diffL a b), 0) := by
 unfold diffP; rw [if_pos ⟨checkP_wf.2 wa, checkP_wf.2 wb⟩]
end Go.Proofs.YtgggihpbhmbjaaaGreatDoor
