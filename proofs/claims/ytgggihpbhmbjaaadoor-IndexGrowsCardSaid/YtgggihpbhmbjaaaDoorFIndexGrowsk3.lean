import Derived.Test.YtgggihpbhmbjaaaDoorTConk3
import Derived.Test.YtgggihpbhmbjaaaDoorIdxFk3
import Derived.Test.YtgggihpbhmbjaaaDoorCards
import Derived.Test.YtgggihpbhmbjaaaDoorTie
import Derived.Test.YtgggihpbhmbjaaaDoorFramek3
import Derived.WalkKit
import Derived.ProofKit
import Derived.OpenShut
import Derived.Deep.DeepHandedRow
import Derived.LaidMore
import Derived.SevenTiedAt
/- MADE BY frame.py: the frame of the law IndexGrows. No condition. -/
namespace Go.Proofs.YtgggihpbhmbjaaaDoor.indexGrows
open Go Go.Dc Go.ChangeShapes Go.WideShapes Go.ChangeAt Go.RowKit
set_option linter.unusedVariables false
theorem own : ownKnob Tryd.prog.godebug = none := by kernel_rfl
theorem kids : Kids Tryd.prog (· < Tryd.prog.types.size) := kids_rows (by kernel_rfl) (by kernel_rfl)
theorem slices : slicesB Tryd.prog = true := by kernel_rfl
/-- The two tables' cells. -/
noncomputable def laidObj (cs : Array Value) : Obj → Obj
  | .cells _ t frozen => .cells cs t frozen
  | o => o
noncomputable def laidWorld (os : Os) : World :=
  { World.holding Tryd.prog os ⟨#[], #[], []⟩ with heap := ((World.holding Tryd.prog os ⟨#[], #[], []⟩).heap.modify 1 (laidObj (Pinned.utf8FirstZ.map fun x => Value.int .u8 (Int.ofNat x)).toArray)).modify 2 (laidObj #[.int .u8 128, .int .u8 191, .int .u8 160, .int .u8 191, .int .u8 128, .int .u8 159, .int .u8 144, .int .u8 191, .int .u8 128, .int .u8 143, .int .u8 0, .int .u8 0, .int .u8 0, .int .u8 0, .int .u8 0, .int .u8 0, .int .u8 0, .int .u8 0, .int .u8 0, .int .u8 0, .int .u8 0, .int .u8 0, .int .u8 0, .int .u8 0, .int .u8 0, .int .u8 0, .int .u8 0, .int .u8 0, .int .u8 0, .int .u8 0, .int .u8 0, .int .u8 0]) }
set_option maxRecDepth 100000 in
theorem laid_met (os : Os) : laidMet Tryd.prog Rows.indexGrowsRow.laid ((laidWorld os).forCall (fun _ _ => 0) ⟨#[], #[.slice none 0 0], []⟩).memory :=
  laidMet_of_run' 8 (by kernel_rfl) (by kernel_rfl)
set_option maxRecDepth 100000 in
theorem lifted (os : Os) (started : os.Started) (H : Type) (enc : TypeId × Value → H) (Fi : Stop.Interp) :
    ReturnsInHanded {} Tryd.checked os 6 .any ((OpenSpec.ofChange Rows.indexGrowsSpec).preRow enc Tryd.prog Tryd.f6 Rows.indexGrowsRow.domain false Rows.indexGrowsRow.laid) (((OpenSpec.ofChange Rows.indexGrowsSpec).at Fi).post enc Tryd.prog Tryd.f6 false true false false) := by
  refine returnsInHanded_of_row (C := Tryd.checked) (s := OpenSpec.ofChange Rows.indexGrowsSpec) own started (by kernel_rfl) Tryd.func6
    (witness_row_at (enc := enc) (C := Tryd.checked) false (laidWorld os) #[.slice none 0 0] rfl (by kernel_rfl) (by kernel_rfl) (by kernel_rfl)
      (OpenSpec.preRow_of_cond 8 (show DataW.whole enc Tryd.prog ((laidWorld os).forCall (fun _ _ => 0) ⟨#[], #[.slice none 0 0], []⟩).memory Tryd.f6.params.toList Rows.indexGrowsSpec.vars false #[.slice none 0 0].toList 8 = some ([.nil], [], []) by kernel_rfl) (by kernel_rfl) (fun k hk => by cases hk) (by kernel_rfl) (laid_met os))) ?_
  intro W base args ds gs before hval0 hW hcnd _ hwt _ _ _
  have hval : ∀ (j : Nat) t v, Tryd.f6.params[j]? = some t → args[j]? = some v → Value.okWide Tryd.prog W .any base t v := hval0
  have hW1 := hW
  obtain ⟨p, q, hA0, hV, rfl, hfz, hnd⟩ := hW1
  have hA : DataW.TrodAll enc Tryd.prog W 0 (fun _ => true) true Tryd.f6.params.toList args.toList ds p := hA0
  have hwt1 : (DataW.weightsEach Tryd.prog (Tryd.f6.params.toList ++ []) (ds ++ gs)).all (· ≤ reachBytes) = true := hwt
  obtain ⟨rfl, rfl⟩ := trodVars_none hV
  rw [Tryd.params6] at hA hval hwt1
  obtain ⟨v0, vs0, d0, ds0, p0, q0, hargs0, rfl, rfl, h0, r0⟩ := trodAll_cons hA
  obtain ⟨hnil, rfl, rfl⟩ := trodAll_nil r0
  obtain rfl : args = #[v0] := by cases args; simp_all
  simp only [List.append_nil, DataW.weightsEach, List.all_append, Bool.and_eq_true] at hwt1
  have hw0 := hwt1
  obtain ⟨x0, a0, c0, rfl, rep0, g0⟩ := arg_slice Tryd.underlying22 (opens_slice (by_ := 8) Tryd.underlying22 (by kernel_rfl) (by kernel_rfl) (opens_int Tryd.underlying3 (by kernel_rfl))) (hval 0 22 v0 rfl rfl) h0 hw0
  obtain ⟨N, hN⟩ := testgatelaw18_IndexGrows_true x0 g0
  refine (testgatelaw18_IndexGrows_ok (snap_st W) rep0 hN).mono fun e W2 ⟨m2, he, hle, st⟩ => ?_
  exact ⟨_, he, post_law kids (fun ht he => slices_of slices ht he) (of_decide_eq_true (by kernel_rfl)) (by kernel_rfl) Tryd.underlying4 rfl rfl hW hle st⟩
theorem said : Rows.IndexGrowsSaid :=
  OpenClaim.holds_of_cond 6 Tryd.f6 rfl rfl rfl rfl rfl rfl rfl ⟨rfl, rfl, rfl, rfl, rfl⟩ rfl rfl rfl rfl rfl (by kernel_rfl) Tryd.func6 (by kernel_rfl)
    (of_decide_eq_true (by kernel_rfl)) (by unfold Func.isWrapper; first | (rw [if_pos (by decide +kernel)]; kernel_rfl) | (rw [if_neg (by decide +kernel)]; exact ⟨rfl, rfl⟩))
    (fun os started H enc _ Fi => by rw [OpenClaim.pre_eq_preRow]; exact lifted os started H enc Fi)
theorem plain (g : FuncId) (fn : Func) (hf : Tryd.pinned.checked.prog.funcNamed "testgate/testgatelaw18.IndexGrows" = some g) (hfn : Tryd.pinned.checked.prog.funcs[g]? = some fn) :
    true = Tryd.pinned.checked.prog.looks [] ∧ ∀ (j : Nat) t, fn.params[j]? = some t → Tryd.pinned.checked.prog.wantsStandIn t = false := by
  obtain rfl : g = 6 := Option.some.inj ((show Tryd.prog.funcNamed "testgate/testgatelaw18.IndexGrows" = some 6 by kernel_rfl).symm.trans hf) |>.symm
  obtain rfl : fn = Tryd.f6 := (Option.some.inj (Tryd.func6.symm.trans hfn)).symm
  refine ⟨by kernel_rfl, fun j t ht => ?_⟩
  rw [Tryd.params6] at ht
  have hm := Array.mem_of_getElem? ht
  simp only [List.mem_toArray, List.mem_cons, List.not_mem_nil, or_false] at hm
  rcases hm with rfl
  · exact (show Tryd.prog.wantsStandIn 22 = false by kernel_rfl)
theorem card : Rows.IndexGrowsCardSaid :=
  Claim7.holds_tied_plain_at .later [] _ _ _ _ said (fun _ h => by cases h) (by kernel_rfl) (fun _ h => by cases h) indexGrows_row_tie rfl ⟨rfl, rfl⟩ (by kernel_rfl) rfl plain (by kernel_rfl)
#print axioms card
end Go.Proofs.YtgggihpbhmbjaaaDoor.indexGrows

