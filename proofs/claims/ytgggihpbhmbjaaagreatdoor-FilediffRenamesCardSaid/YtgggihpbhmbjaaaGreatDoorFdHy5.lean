/- Filediff: Invert, the sanity check, two revisions. No condition. -/
import Derived.Test.YtgggihpbhmbjaaaGreatDoorFdGy5
import Derived.Test.YtgggihpbhmbjaaaGreatDoorEdity5
namespace Go.Proofs.YtgggihpbhmbjaaaGreatDoor
open Go Go.Dc Go.Sort Go.Proofs
def invertP (a : List File) (l : List Chg) : List Chg × Int := if (applyP a l).2 ≠ 0 then ([], (applyP a l).2) else diffP (applyP a l).1 a
theorem Invert_eq {N : Nat} {a : List File} {l : List Chg} (hl : l.length < 100000) (hPa : PathsOk N a) (hPf : PathsOk N (applyL a l)) (hN : 2000 + l.length < N) : filediff_Invert N a l = some (invertP a l) := by
 unfold filediff_Invert invertP
 rw [Apply_eq hl hPa hPf (by omega)]
 simp only [Option.bind_some]
 by_cases h : (applyP a l).2 = 0
 ·have e : (applyP a l).1 = applyL a l ∨ (applyP a l).1 = [] := by
   unfold applyP
   repeat' split
   all_goals first | exact .inr rfl | exact .inl rfl
  have hP : PathsOk N (applyP a l).1 := by
   rcases e with e | e
   ·rw [e]; exact hPf
   ·rw [e]; intro g hg; cases hg
  simp only [h, bne_self_eq_false, Bool.false_eq_true, if_false, ne_eq, not_true_eq_false]
  rw [Diff_eq hP hPa (by omega)]
  rfl
 ·have : ((applyP a l).2 != 0) = true := by simpa using h
  simp only [this, if_true, ne_eq, h, not_false_eq_true]
theorem PAsc.dist {L : List Chg} (h : PAsc L) : PDist L := List.pairwise_map.2 (h.imp fun h e => by rw [e] at h; exact cS_irr _ h)
theorem sortC_self {L : List Chg} (h : PAsc L) : sortC L = L := (sortC_asc h.dist).ext h fun z => sortC_mem
def wA : List File := [((⟨#[97]⟩ : ByteArray), (⟨#[49]⟩ : ByteArray))]
def wB : List File := [((⟨#[98]⟩ : ByteArray), (⟨#[49]⟩ : ByteArray)), ((⟨#[99]⟩ : ByteArray), (⟨#[50]⟩ : ByteArray))]
def wD : List Chg := [(4, (⟨#[98]⟩ : ByteArray), (⟨#[97]⟩ : ByteArray), emptyB), (1, (⟨#[99]⟩ : ByteArray), emptyB, (⟨#[50]⟩ : ByteArray))]
def wE : List Chg := [(4, (⟨#[97]⟩ : ByteArray), (⟨#[98]⟩ : ByteArray), emptyB), (2, (⟨#[99]⟩ : ByteArray), emptyB, emptyB)]
theorem wA_ok : checkP wA = 0 := by kernel_rfl
theorem wB_ok : checkP wB = 0 := by kernel_rfl
theorem pasc2 {x y : Chg} (h : blt x.2.1 y.2.1 = true) : PAsc [x, y] := by
 simp only [PAsc, List.pairwise_cons, List.mem_cons, List.not_mem_nil, or_false, forall_eq, false_imp_iff, implies_true, List.Pairwise.nil, and_self, and_true]
 exact blt_iff.1 h
theorem wDiff : diffP wA wB = (wD, 0) := by
 have h : diffL wA wB = wD := by kernel_rfl
 have hp : PAsc wD := pasc2 (by kernel_rfl)
 unfold diffP
 rw [if_pos ⟨wA_ok, wB_ok⟩, h, sortC_self hp]
theorem wBack : diffP wB wA = (wE, 0) := by
 have h : (diffL wB wA) = wE := by kernel_rfl
 have hp : PAsc wE := pasc2 (by kernel_rfl)
 unfold diffP
 rw [if_pos ⟨wB_ok, wA_ok⟩, h, sortC_self hp]
theorem wApply : applyP wA wD = (wB, 0) := by kernel_rfl
theorem small_paths {N : Nat} {L : List File} (h : ∀ f ∈ L, f.1.size ≤ 1048576) (hN : 3000000 < N) : PathsOk N L := fun g hg => Path_eq (by have := h g hg; omega) (by have := h g hg; omega)
theorem path_small' {p : ByteArray} (h : pathB p.data.toList = true) : p.size ≤ 80 := by
 have h := of_decide_eq_true h
 have := h.1
 simpa using this
theorem fd_awake {N : Nat} (hN : 3000000 < N) : testgatelaw15_awake N = some true := by
 have hwA : PathsOk N wA := small_paths (fun f hf => by simp only [wA, List.mem_cons, List.not_mem_nil, or_false] at hf; subst hf; decide) hN
 have hwB : PathsOk N wB := small_paths (fun f hf => by simp only [wB, List.mem_cons, List.not_mem_nil, or_false] at hf; rcases hf with rfl | rfl <;> decide) hN
 have hApp : applyL wA wD = wB := by kernel_rfl
 have h1 : filediff_Diff N wA wB = some (wD, 0) := by rw [Diff_eq hwA hwB (by omega), wDiff]
 have h2 : filediff_Apply N wA wD = some (wB, 0) := by rw [Apply_eq (by simp [wD]) hwA (by rw [hApp]; exact hwB) (by simp only [wD, List.length_cons, List.length_nil]; omega), wApply]
 have h3 : filediff_Invert N wA wD = some (wE, 0) := by
  rw [Invert_eq (by simp [wD]) hwA (by rw [hApp]; exact hwB) (by simp only [wD, List.length_cons, List.length_nil]; omega)]
  unfold invertP
  rw [wApply]
  simp only [ne_eq, not_true_eq_false, if_false]
  rw [wBack]
 have h4 : testgateref07_Same N wB wB = some true := by rw [refSame_eq (by simp [wB]) (by simp only [wB, List.length_cons, List.length_nil]; omega)]; simp
 unfold testgatelaw15_awake
 rw [show filediff_Diff N ([((⟨#[97]⟩ : ByteArray), (⟨#[49]⟩ : ByteArray))]) ([((⟨#[98]⟩ : ByteArray), (⟨#[49]⟩ : ByteArray)), ((⟨#[99]⟩ : ByteArray), (⟨#[50]⟩ : ByteArray))]) = _ from h1]
 simp only [Option.bind_some]
 rw [show filediff_Apply N ([((⟨#[97]⟩ : ByteArray), (⟨#[49]⟩ : ByteArray))]) wD = _ from h2, show filediff_Invert N ([((⟨#[97]⟩ : ByteArray), (⟨#[49]⟩ : ByteArray))]) wD = _ from h3]
 simp only [Option.bind_some]
 rw [show testgateref07_Same N wB ([((⟨#[98]⟩ : ByteArray), (⟨#[49]⟩ : ByteArray)), ((⟨#[99]⟩ : ByteArray), (⟨#[50]⟩ : ByteArray))]) = _ from h4]
 refine Eq.trans (b := some true) ?_ rfl
 kernel_rfl
end Go.Proofs.YtgggihpbhmbjaaaGreatDoor
