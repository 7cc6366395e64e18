import Derived.Test.YtfodebccikifcaaDoorTConr1
import Derived.Test.YtfodebccikifcaaDoorRevRr1
import Derived.Test.YtfodebccikifcaaDoorUptor1
import Derived.Test.YtfodebccikifcaaDoorCards
import Derived.Test.YtfodebccikifcaaDoorTie
import Derived.Test.YtfodebccikifcaaDoorFramer1
import Derived.WalkKit
import Derived.ProofKit
import Derived.OpenShut
import Derived.Deep.DeepHandedRow
import Derived.LaidMore
import Derived.SevenTiedAt
/- MADE BY frame.py: the frame of the law RevisionRaw. No condition. -/
namespace Go.Proofs.YtfodebccikifcaaDoor.revisionRaw
open Go Go.Dc Go.ChangeShapes Go.WideShapes Go.ChangeAt Go.RowKit
set_option linter.unusedVariables false
theorem own : ownKnob Tryd.prog.godebug = none := by kernel_rfl
theorem kids : Kids Tryd.prog (· < Tryd.prog.types.size) := kids_rows (by kernel_rfl) (by kernel_rfl)
theorem slices : slicesB Tryd.prog = true := by kernel_rfl
/-- The two tables' cells. -/
noncomputable def laidObj (cs : Array Value) : Obj → Obj
  | .cells _ t frozen => .cells cs t frozen
  | o => o
noncomputable def laidWorld (os : Os) : World :=
  { World.holding Tryd.prog os ⟨#[], #[], []⟩ with heap := ((World.holding Tryd.prog os ⟨#[], #[], []⟩).heap.modify 1 (laidObj (Pinned.utf8FirstZ.map fun x => Value.int .u8 (Int.ofNat x)).toArray)).modify 2 (laidObj #[.int .u8 128, .int .u8 191, .int .u8 160, .int .u8 191, .int .u8 128, .int .u8 159, .int .u8 144, .int .u8 191, .int .u8 128, .int .u8 143, .int .u8 0, .int .u8 0, .int .u8 0, .int .u8 0, .int .u8 0, .int .u8 0, .int .u8 0, .int .u8 0, .int .u8 0, .int .u8 0, .int .u8 0, .int .u8 0, .int .u8 0, .int .u8 0, .int .u8 0, .int .u8 0, .int .u8 0, .int .u8 0, .int .u8 0, .int .u8 0, .int .u8 0, .int .u8 0]) }
set_option maxRecDepth 100000 in
theorem laid_met (os : Os) : laidMet Tryd.prog Rows.revisionRawUptoRow.laid ((laidWorld os).forCall (fun _ _ => 0) ⟨#[], #[.agg #[.slice none 0 0], .slice none 0 0], []⟩).memory :=
  laidMet_of_run' 8 (by kernel_rfl) (by kernel_rfl)
set_option maxRecDepth 100000 in
theorem lifted (os : Os) (started : os.Started) (H : Type) (enc : TypeId × Value → H) (Fi : Stop.Interp) :
    ReturnsInHanded {} Tryd.checked os 10 .any ((Rows.OpenSpec.upto Rows.revisionRawSpec).preRow enc Tryd.prog Tryd.f10 Rows.revisionRawUptoRow.domain false Rows.revisionRawUptoRow.laid) (((Rows.OpenSpec.upto Rows.revisionRawSpec).at Fi).post enc Tryd.prog Tryd.f10 false true false false) := by
  refine returnsInHanded_of_row (C := Tryd.checked) (s := Rows.OpenSpec.upto Rows.revisionRawSpec) own started (by kernel_rfl) Tryd.func10
    (witness_row_at (enc := enc) (C := Tryd.checked) false (laidWorld os) #[.agg #[.slice none 0 0], .slice none 0 0] rfl (by kernel_rfl) (by kernel_rfl) (by kernel_rfl)
      (OpenSpec.preRow_of_cond 8 (show DataW.whole enc Tryd.prog ((laidWorld os).forCall (fun _ _ => 0) ⟨#[], #[.agg #[.slice none 0 0], .slice none 0 0], []⟩).memory Tryd.f10.params.toList Rows.revisionRawSpec.vars false #[.agg #[.slice none 0 0], .slice none 0 0].toList 8 = some ([.agg [.nil], .nil], [], []) by kernel_rfl) (by kernel_rfl) (fun k hk => by cases hk; kernel_rfl) (by kernel_rfl) (laid_met os))) ?_
  intro W base args ds gs before hval0 hW hcnd hcond hwt _ _ _
  have hval : ∀ (j : Nat) t v, Tryd.f10.params[j]? = some t → args[j]? = some v → Value.okWide Tryd.prog W .any base t v := hval0
  have hW1 := hW
  obtain ⟨p, q, hA0, hV, rfl, hfz, hnd⟩ := hW1
  have hA : DataW.TrodAll enc Tryd.prog W 0 (fun _ => true) true Tryd.f10.params.toList args.toList ds p := hA0
  have hwt1 : (DataW.weightsEach Tryd.prog (Tryd.f10.params.toList ++ []) (ds ++ gs)).all (· ≤ reachBytes) = true := hwt
  obtain ⟨rfl, rfl⟩ := trodVars_none hV
  have hb0 : decide (Rows.uptoBulkAll (ds ++ []) ≤ 1048576) = true := hcond _ rfl
  have hbk := of_decide_eq_true hb0
  clear hb0
  rw [Tryd.params10] at hA hval hwt1
  obtain ⟨v0, vs0, d0, ds0, p0, q0, hargs0, rfl, rfl, h0, r0⟩ := trodAll_cons hA
  obtain ⟨v1, vs1, d1, ds1, p1, q1, hargs1, rfl, rfl, h1, r1⟩ := trodAll_cons r0
  obtain ⟨hnil, rfl, rfl⟩ := trodAll_nil r1
  obtain rfl : args = #[v0, v1] := by cases args; simp_all
  simp only [List.append_nil, Rows.uptoBulkAll] at hbk
  simp only [List.append_nil, DataW.weightsEach, List.all_append, Bool.and_eq_true] at hwt1
  obtain ⟨hw0, hw1⟩ := hwt1
  obtain ⟨x0, cs0, rfl, ⟨a0, c0, hcs0, rep0⟩, g0⟩ := argU_struct Tryd.underlying47 (opensU_struct Tryd.underlying47 (by kernel_rfl) (opensFU_one rfl (opensU_slice Tryd.underlying45 (by kernel_rfl) (opensU_struct Tryd.underlying66 (by kernel_rfl) (opensFU_cons rfl (opensU_str Tryd.underlying9 (by kernel_rfl)) (opensFU_one rfl (opensU_str Tryd.underlying9 (by kernel_rfl)))))))) (hval 0 47 v0 rfl rfl) h0 (by omega)
  obtain rfl : cs0 = #[.slice a0 x0.length c0] := Array.toList_inj.1 hcs0
  obtain ⟨x1, a1, c1, rfl, rep1, g1⟩ := argU_slice Tryd.underlying43 (opensU_slice Tryd.underlying43 (by kernel_rfl) (opensU_u8 Tryd.underlying5 (by kernel_rfl))) (hval 1 43 v1 rfl rfl) h1 (by omega)
  obtain ⟨N, hN⟩ := testgatelaw07_RevisionRaw_true x0 g0 x1 g1
  refine (testgatelaw07_RevisionRaw_ok (snap_st W) rep0 rep1 hN).mono fun e W2 ⟨m2, he, hle, st⟩ => ?_
  exact ⟨_, he, post_law kids (fun ht he => slices_of slices ht he) (of_decide_eq_true (by kernel_rfl)) (by kernel_rfl) Tryd.underlying4 rfl rfl hW hle st⟩
theorem said : Rows.RevisionRawUptoSaid :=
  OpenClaim.holds_of_cond 10 Tryd.f10 rfl rfl rfl rfl rfl rfl rfl ⟨rfl, rfl, rfl, rfl, rfl⟩ rfl rfl rfl rfl rfl (by kernel_rfl) Tryd.func10 (by kernel_rfl)
    (of_decide_eq_true (by kernel_rfl)) (by unfold Func.isWrapper; first | (rw [if_pos (by decide +kernel)]; kernel_rfl) | (rw [if_neg (by decide +kernel)]; exact ⟨rfl, rfl⟩))
    (fun os started H enc _ Fi => by rw [OpenClaim.pre_eq_preRow]; exact lifted os started H enc Fi)
theorem plain (g : FuncId) (fn : Func) (hf : Tryd.pinned.checked.prog.funcNamed "testgate/testgatelaw07.RevisionRaw" = some g) (hfn : Tryd.pinned.checked.prog.funcs[g]? = some fn) :
    false = Tryd.pinned.checked.prog.looks [] ∧ ∀ (j : Nat) t, fn.params[j]? = some t → Tryd.pinned.checked.prog.wantsStandIn t = false := by
  obtain rfl : g = 10 := Option.some.inj ((show Tryd.prog.funcNamed "testgate/testgatelaw07.RevisionRaw" = some 10 by kernel_rfl).symm.trans hf) |>.symm
  obtain rfl : fn = Tryd.f10 := (Option.some.inj (Tryd.func10.symm.trans hfn)).symm
  refine ⟨by kernel_rfl, fun j t ht => ?_⟩
  rw [Tryd.params10] at ht
  have hm := Array.mem_of_getElem? ht
  simp only [List.mem_toArray, List.mem_cons, List.not_mem_nil, or_false] at hm
  rcases hm with rfl | rfl
  · exact (show Tryd.prog.wantsStandIn 47 = false by kernel_rfl)
  · exact (show Tryd.prog.wantsStandIn 43 = false by kernel_rfl)
theorem card : Rows.RevisionRawUptoCardSaid :=
  Claim7.holds_tied_plain_at .later [] _ _ _ _ said (fun _ h => by cases h) (by kernel_rfl) (fun _ h => by cases h) revisionRawUpto_row_tie rfl ⟨rfl, rfl⟩ (by kernel_rfl) rfl plain (by kernel_rfl)
#print axioms card
end Go.Proofs.YtfodebccikifcaaDoor.revisionRaw


