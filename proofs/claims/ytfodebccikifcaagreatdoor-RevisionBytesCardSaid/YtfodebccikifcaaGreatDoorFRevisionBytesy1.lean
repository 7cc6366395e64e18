import Derived.Test.YtfodebccikifcaaGreatDoorTCony1
import Derived.Test.YtfodebccikifcaaGreatDoorRevYy1
import Derived.Test.YtfodebccikifcaaGreatDoorCards
import Derived.Test.YtfodebccikifcaaGreatDoorTie
import Derived.Test.YtfodebccikifcaaGreatDoorFramey1
import Derived.WalkKit
import Derived.ProofKit
import Derived.OpenShut
import Derived.Deep.DeepHandedRow
import Derived.LaidMore
import Derived.SevenTiedAt
/- MADE BY frame.py: the frame of the law RevisionBytes. No condition. -/
namespace Go.Proofs.YtfodebccikifcaaGreatDoor.revisionBytes
open Go Go.Dc Go.ChangeShapes Go.WideShapes Go.ChangeAt Go.RowKit
set_option linter.unusedVariables false
theorem own : ownKnob Tryz.prog.godebug = none := by kernel_rfl
theorem kids : Kids Tryz.prog (· < Tryz.prog.types.size) := kids_rows (by kernel_rfl) (by kernel_rfl)
theorem slices : slicesB Tryz.prog = true := by kernel_rfl
/-- The two tables' cells. -/
noncomputable def laidObj (cs : Array Value) : Obj → Obj
  | .cells _ t frozen => .cells cs t frozen
  | o => o
noncomputable def laidWorld (os : Os) : World :=
  { World.holding Tryz.prog os ⟨#[], #[], []⟩ with heap := ((World.holding Tryz.prog os ⟨#[], #[], []⟩).heap.modify 1 (laidObj (Pinned.utf8FirstZ.map fun x => Value.int .u8 (Int.ofNat x)).toArray)).modify 2 (laidObj #[.int .u8 128, .int .u8 191, .int .u8 160, .int .u8 191, .int .u8 128, .int .u8 159, .int .u8 144, .int .u8 191, .int .u8 128, .int .u8 143, .int .u8 0, .int .u8 0, .int .u8 0, .int .u8 0, .int .u8 0, .int .u8 0, .int .u8 0, .int .u8 0, .int .u8 0, .int .u8 0, .int .u8 0, .int .u8 0, .int .u8 0, .int .u8 0, .int .u8 0, .int .u8 0, .int .u8 0, .int .u8 0, .int .u8 0, .int .u8 0, .int .u8 0, .int .u8 0]) }
set_option maxRecDepth 100000 in
theorem laid_met (os : Os) : laidMet Tryz.prog Rows.revisionBytesRow.laid ((laidWorld os).forCall (fun _ _ => 0) ⟨#[], #[.slice none 0 0, .int .i64 0, .int .u8 0, .int .u8 0, .slice none 0 0], []⟩).memory :=
  laidMet_of_run' 8 (by kernel_rfl) (by kernel_rfl)
set_option maxRecDepth 100000 in
theorem lifted (os : Os) (started : os.Started) (H : Type) (enc : TypeId × Value → H) (Fi : Stop.Interp) :
    ReturnsInHanded {} Tryz.checked os 3 .any ((OpenSpec.ofChange Rows.revisionBytesSpec).preRow enc Tryz.prog Tryz.f3 Rows.revisionBytesRow.domain false Rows.revisionBytesRow.laid) (((OpenSpec.ofChange Rows.revisionBytesSpec).at Fi).post enc Tryz.prog Tryz.f3 false true false false) := by
  refine returnsInHanded_of_row (C := Tryz.checked) (s := OpenSpec.ofChange Rows.revisionBytesSpec) own started (by kernel_rfl) Tryz.func3
    (witness_row_at (enc := enc) (C := Tryz.checked) false (laidWorld os) #[.slice none 0 0, .int .i64 0, .int .u8 0, .int .u8 0, .slice none 0 0] rfl (by kernel_rfl) (by kernel_rfl) (by kernel_rfl)
      (OpenSpec.preRow_of_cond 8 (show DataW.whole enc Tryz.prog ((laidWorld os).forCall (fun _ _ => 0) ⟨#[], #[.slice none 0 0, .int .i64 0, .int .u8 0, .int .u8 0, .slice none 0 0], []⟩).memory Tryz.f3.params.toList Rows.revisionBytesSpec.vars false #[.slice none 0 0, .int .i64 0, .int .u8 0, .int .u8 0, .slice none 0 0].toList 8 = some ([.nil, .lit (.int .i64 0), .lit (.int .u8 0), .lit (.int .u8 0), .nil], [], []) by kernel_rfl) (by kernel_rfl) (fun k hk => by cases hk) (by kernel_rfl) (laid_met os))) ?_
  intro W base args ds gs before hval0 hW hcnd _ hwt _ _ _
  have hval : ∀ (j : Nat) t v, Tryz.f3.params[j]? = some t → args[j]? = some v → Value.okWide Tryz.prog W .any base t v := hval0
  have hW1 := hW
  obtain ⟨p, q, hA0, hV, rfl, hfz, hnd⟩ := hW1
  have hA : DataW.TrodAll enc Tryz.prog W 0 (fun _ => true) true Tryz.f3.params.toList args.toList ds p := hA0
  have hwt1 : (DataW.weightsEach Tryz.prog (Tryz.f3.params.toList ++ []) (ds ++ gs)).all (· ≤ reachBytes) = true := hwt
  obtain ⟨rfl, rfl⟩ := trodVars_none hV
  rw [Tryz.params3] at hA hval hwt1
  obtain ⟨v0, vs0, d0, ds0, p0, q0, hargs0, rfl, rfl, h0, r0⟩ := trodAll_cons hA
  obtain ⟨v1, vs1, d1, ds1, p1, q1, hargs1, rfl, rfl, h1, r1⟩ := trodAll_cons r0
  obtain ⟨v2, vs2, d2, ds2, p2, q2, hargs2, rfl, rfl, h2, r2⟩ := trodAll_cons r1
  obtain ⟨v3, vs3, d3, ds3, p3, q3, hargs3, rfl, rfl, h3, r3⟩ := trodAll_cons r2
  obtain ⟨v4, vs4, d4, ds4, p4, q4, hargs4, rfl, rfl, h4, r4⟩ := trodAll_cons r3
  obtain ⟨hnil, rfl, rfl⟩ := trodAll_nil r4
  obtain rfl : args = #[v0, v1, v2, v3, v4] := by cases args; simp_all
  simp only [List.append_nil, DataW.weightsEach, List.all_append, Bool.and_eq_true] at hwt1
  obtain ⟨hw0, hw1, hw2, hw3, hw4⟩ := hwt1
  obtain ⟨x0, a0, c0, rfl, rep0, g0⟩ := arg_slice Tryz.underlying22 (opens_slice (by_ := 8) Tryz.underlying22 (by kernel_rfl) (by kernel_rfl) (opens_int Tryz.underlying3 (by kernel_rfl))) (hval 0 22 v0 rfl rfl) h0 hw0
  obtain ⟨x1, rfl, g1⟩ := arg_int Tryz.underlying3 (hval 1 3 v1 rfl rfl) h1
  obtain ⟨x2, rfl, g2⟩ := arg_int Tryz.underlying5 (hval 2 5 v2 rfl rfl) h2
  obtain ⟨x3, rfl, g3⟩ := arg_int Tryz.underlying5 (hval 3 5 v3 rfl rfl) h3
  obtain ⟨x4, a4, c4, rfl, rep4, g4⟩ := arg_slice Tryz.underlying23 (opens_slice (by_ := 1) Tryz.underlying23 (by kernel_rfl) (by kernel_rfl) (opens_u8 Tryz.underlying5 (by kernel_rfl))) (hval 4 23 v4 rfl rfl) h4 hw4
  obtain ⟨N, hN⟩ := testgatelaw07_RevisionBytes_true x0 g0 x1 g1 x2 g2 x3 g3 x4 g4
  refine (testgatelaw07_RevisionBytes_ok (snap_st W) rep0 rep4 hN).mono fun e W2 ⟨m2, he, hle, st⟩ => ?_
  exact ⟨_, he, post_law kids (fun ht he => slices_of slices ht he) (of_decide_eq_true (by kernel_rfl)) (by kernel_rfl) Tryz.underlying4 rfl rfl hW hle st⟩
theorem said : Rows.RevisionBytesSaid :=
  OpenClaim.holds_of_cond 3 Tryz.f3 rfl rfl rfl rfl rfl rfl rfl ⟨rfl, rfl, rfl, rfl, rfl⟩ rfl rfl rfl rfl rfl (by kernel_rfl) Tryz.func3 (by kernel_rfl)
    (of_decide_eq_true (by kernel_rfl)) (by unfold Func.isWrapper; first | (rw [if_pos (by decide +kernel)]; kernel_rfl) | (rw [if_neg (by decide +kernel)]; exact ⟨rfl, rfl⟩))
    (fun os started H enc _ Fi => by rw [OpenClaim.pre_eq_preRow]; exact lifted os started H enc Fi)
theorem plain (g : FuncId) (fn : Func) (hf : Tryz.pinned.checked.prog.funcNamed "testgate/testgatelaw07.RevisionBytes" = some g) (hfn : Tryz.pinned.checked.prog.funcs[g]? = some fn) :
    false = Tryz.pinned.checked.prog.looks [] ∧ ∀ (j : Nat) t, fn.params[j]? = some t → Tryz.pinned.checked.prog.wantsStandIn t = false := by
  obtain rfl : g = 3 := Option.some.inj ((show Tryz.prog.funcNamed "testgate/testgatelaw07.RevisionBytes" = some 3 by kernel_rfl).symm.trans hf) |>.symm
  obtain rfl : fn = Tryz.f3 := (Option.some.inj (Tryz.func3.symm.trans hfn)).symm
  refine ⟨by kernel_rfl, fun j t ht => ?_⟩
  rw [Tryz.params3] at ht
  have hm := Array.mem_of_getElem? ht
  simp only [List.mem_toArray, List.mem_cons, List.not_mem_nil, or_false] at hm
  rcases hm with rfl | rfl | rfl | rfl | rfl
  · exact (show Tryz.prog.wantsStandIn 22 = false by kernel_rfl)
  · exact (show Tryz.prog.wantsStandIn 3 = false by kernel_rfl)
  · exact (show Tryz.prog.wantsStandIn 5 = false by kernel_rfl)
  · exact (show Tryz.prog.wantsStandIn 5 = false by kernel_rfl)
  · exact (show Tryz.prog.wantsStandIn 23 = false by kernel_rfl)
theorem card : Rows.RevisionBytesCardSaid :=
  Claim7.holds_tied_plain_at .later [] _ _ _ _ said (fun _ h => by cases h) (by kernel_rfl) (fun _ h => by cases h) revisionBytes_row_tie rfl ⟨rfl, rfl⟩ (by kernel_rfl) rfl plain (by kernel_rfl)
#print axioms card
end Go.Proofs.YtfodebccikifcaaGreatDoor.revisionBytes

