import Derived.Test.YtgkjigejejofkaaTConq5
import Derived.Test.YtgkjigejejofkaaWireStq5
import Derived.Test.YtgkjigejejofkaaRows
import Derived.Test.YtgkjigejejofkaaFrame
import Derived.WalkKit
import Derived.ProofKit
/- MADE BY frame.py: the frame of the law WireStops. No condition. -/
namespace Go.Proofs.Ytgkjigejejofkaa.wireStops
open Go Go.Dc Go.ChangeShapes Go.WideShapes Go.ChangeAt Go.RowKit
set_option linter.unusedVariables false
theorem own : ownKnob Try.prog.godebug = none := by kernel_rfl
theorem kids : Kids Try.prog (· < Try.prog.types.size) := kids_rows (by kernel_rfl) (by kernel_rfl)
theorem slices : slicesB Try.prog = true := by kernel_rfl
set_option maxRecDepth 100000 in
theorem lifted (os : Os) (started : os.Started) (H : Type) (enc : TypeId × Value → H) :
    ReturnsInHanded {} Try.checked os 7 .any (Rows.wireStopsSpec.pre6 enc Try.prog Try.f7 Rows.wireStopsRow.domain false) (Rows.wireStopsSpec.post enc Try.prog Try.f7 false true false false) := by
  refine returnsInHanded_of_change_shaped (C := Try.checked) own started (by kernel_rfl) Try.func7
    (ChangeSpec.witness6 (enc := enc) (C := Try.checked) false ⟨#[], #[.slice none 0 0, .int .u8 0, .int .u8 0], []⟩ 8 (by kernel_rfl) (by kernel_rfl) (by kernel_rfl) (by kernel_rfl)) ?_
  intro W base args ds gs before hval0 hW hcnd hwt _ _
  have hval : ∀ (j : Nat) t v, Try.f7.params[j]? = some t → args[j]? = some v → Value.okWide Try.prog W .any base t v := hval0
  have hW1 := hW
  obtain ⟨p, q, hA0, hV, rfl, hfz, hnd⟩ := hW1
  have hA : DataW.TrodAll enc Try.prog W 0 (fun _ => true) true Try.f7.params.toList args.toList ds p := hA0
  have hwt1 : (DataW.weightsEach Try.prog (Try.f7.params.toList ++ []) (ds ++ gs)).all (· ≤ reachBytes) = true := hwt
  obtain ⟨rfl, rfl⟩ := trodVars_none hV
  rw [Try.params7] at hA hval hwt1
  obtain ⟨v0, vs0, d0, ds0, p0, q0, hargs0, rfl, rfl, h0, r0⟩ := trodAll_cons hA
  obtain ⟨v1, vs1, d1, ds1, p1, q1, hargs1, rfl, rfl, h1, r1⟩ := trodAll_cons r0
  obtain ⟨v2, vs2, d2, ds2, p2, q2, hargs2, rfl, rfl, h2, r2⟩ := trodAll_cons r1
  obtain ⟨hnil, rfl, rfl⟩ := trodAll_nil r2
  obtain rfl : args = #[v0, v1, v2] := by cases args; simp_all
  simp only [List.append_nil, DataW.weightsEach, List.all_append, Bool.and_eq_true] at hwt1
  obtain ⟨hw0, hw1, hw2⟩ := hwt1
  obtain ⟨x0, a0, c0, rfl, rep0, g0⟩ := arg_slice Try.underlying50 (opens_slice (by_ := 1) Try.underlying50 (by kernel_rfl) (by kernel_rfl) (opens_u8 Try.underlying5 (by kernel_rfl))) (hval 0 50 v0 rfl rfl) h0 hw0
  obtain ⟨x1, rfl, g1⟩ := arg_int Try.underlying5 (hval 1 5 v1 rfl rfl) h1
  obtain ⟨x2, rfl, g2⟩ := arg_int Try.underlying5 (hval 2 5 v2 rfl rfl) h2
  obtain ⟨N, hN⟩ := testgatelaw03_WireStops_true x0 g0 x1 g1 x2 g2
  refine (testgatelaw03_WireStops_ok (snap_st W) rep0 hN).mono fun e W2 ⟨m2, he, hle, st⟩ => ?_
  exact ⟨_, he, post_law kids (fun ht he => slices_of slices ht he) (of_decide_eq_true (by kernel_rfl)) (by kernel_rfl) Try.underlying4 rfl rfl hW hle st⟩
theorem over : Rows.wireStopsRow.holds Try.pinned (OpenSpec.ofChange Rows.wireStopsSpec) :=
  OpenClaim.holds_of_wide 7 Try.f7 rfl rfl rfl rfl rfl rfl rfl ⟨rfl, rfl, rfl, rfl, rfl⟩ rfl rfl rfl rfl rfl (by kernel_rfl) Try.func7 (by kernel_rfl)
    (of_decide_eq_true (by kernel_rfl)) (by unfold Func.isWrapper; first | (rw [if_pos (by decide +kernel)]; kernel_rfl) | (rw [if_neg (by decide +kernel)]; exact ⟨rfl, rfl⟩))
    (fun os started H enc _ => lifted os started H enc)
theorem holds : Rows.WireStopsSaid := over
#print axioms holds
end Go.Proofs.Ytgkjigejejofkaa.wireStops
