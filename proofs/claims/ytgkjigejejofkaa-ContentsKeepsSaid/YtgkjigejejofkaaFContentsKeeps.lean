import Derived.Test.YtgkjigejejofkaaTConq9
import Derived.Test.YtgkjigejejofkaaContentsKq9
import Derived.Test.YtgkjigejejofkaaRows
import Derived.Test.YtgkjigejejofkaaFrame
import Derived.WalkKit
import Derived.ProofKit
/- MADE BY frame.py: the frame of the law ContentsKeeps. No condition. -/
namespace Go.Proofs.Ytgkjigejejofkaa.contentsKeeps
open Go Go.Dc Go.ChangeShapes Go.WideShapes Go.ChangeAt Go.RowKit
set_option linter.unusedVariables false
theorem own : ownKnob Try.prog.godebug = none := by kernel_rfl
theorem kids : Kids Try.prog (· < Try.prog.types.size) := kids_rows (by kernel_rfl) (by kernel_rfl)
theorem slices : slicesB Try.prog = true := by kernel_rfl
set_option maxRecDepth 100000 in
theorem lifted (os : Os) (started : os.Started) (H : Type) (enc : TypeId × Value → H) :
    ReturnsInHanded {} Try.checked os 11 .any (Rows.contentsKeepsSpec.pre6 enc Try.prog Try.f11 Rows.contentsKeepsRow.domain false) (Rows.contentsKeepsSpec.post enc Try.prog Try.f11 false true false false) := by
  refine returnsInHanded_of_change_shaped (C := Try.checked) own started (by kernel_rfl) Try.func11
    (ChangeSpec.witness6 (enc := enc) (C := Try.checked) false ⟨#[], #[.slice none 0 0, .string ⟨#[]⟩], []⟩ 8 (by kernel_rfl) (by kernel_rfl) (by kernel_rfl) (by kernel_rfl)) ?_
  intro W base args ds gs before hval0 hW hcnd hwt _ _
  have hval : ∀ (j : Nat) t v, Try.f11.params[j]? = some t → args[j]? = some v → Value.okWide Try.prog W .any base t v := hval0
  have hW1 := hW
  obtain ⟨p, q, hA0, hV, rfl, hfz, hnd⟩ := hW1
  have hA : DataW.TrodAll enc Try.prog W 0 (fun _ => true) true Try.f11.params.toList args.toList ds p := hA0
  have hwt1 : (DataW.weightsEach Try.prog (Try.f11.params.toList ++ []) (ds ++ gs)).all (· ≤ reachBytes) = true := hwt
  obtain ⟨rfl, rfl⟩ := trodVars_none hV
  rw [Try.params11] at hA hval hwt1
  obtain ⟨v0, vs0, d0, ds0, p0, q0, hargs0, rfl, rfl, h0, r0⟩ := trodAll_cons hA
  obtain ⟨v1, vs1, d1, ds1, p1, q1, hargs1, rfl, rfl, h1, r1⟩ := trodAll_cons r0
  obtain ⟨hnil, rfl, rfl⟩ := trodAll_nil r1
  obtain rfl : args = #[v0, v1] := by cases args; simp_all
  simp only [List.append_nil, DataW.weightsEach, List.all_append, Bool.and_eq_true] at hwt1
  obtain ⟨hw0, hw1⟩ := hwt1
  obtain ⟨x0, a0, c0, rfl, rep0, g0⟩ := arg_slice Try.underlying32 (opens_slice (by_ := 8) Try.underlying32 (by kernel_rfl) (by kernel_rfl) (opens_int Try.underlying3 (by kernel_rfl))) (hval 0 32 v0 rfl rfl) h0 hw0
  obtain ⟨x1, rfl, g1⟩ := arg_str Try.underlying9 (hval 1 9 v1 rfl rfl) h1 hw1
  obtain ⟨N, hN⟩ := testgatelaw13_ContentsKeeps_true x0 g0 x1 g1
  refine (testgatelaw13_ContentsKeeps_ok (snap_st W) rep0 hN).mono fun e W2 ⟨m2, he, hle, st⟩ => ?_
  exact ⟨_, he, post_law kids (fun ht he => slices_of slices ht he) (of_decide_eq_true (by kernel_rfl)) (by kernel_rfl) Try.underlying4 rfl rfl hW hle st⟩
theorem over : Rows.contentsKeepsRow.holds Try.pinned (OpenSpec.ofChange Rows.contentsKeepsSpec) :=
  OpenClaim.holds_of_wide 11 Try.f11 rfl rfl rfl rfl rfl rfl rfl ⟨rfl, rfl, rfl, rfl, rfl⟩ rfl rfl rfl rfl rfl (by kernel_rfl) Try.func11 (by kernel_rfl)
    (of_decide_eq_true (by kernel_rfl)) (by unfold Func.isWrapper; first | (rw [if_pos (by decide +kernel)]; kernel_rfl) | (rw [if_neg (by decide +kernel)]; exact ⟨rfl, rfl⟩))
    (fun os started H enc _ => lifted os started H enc)
theorem holds : Rows.ContentsKeepsSaid := over
#print axioms holds
end Go.Proofs.Ytgkjigejejofkaa.contentsKeeps
