import Derived.Test.YtgggihpbhmbjaaaDoorTConk2
import Derived.Test.YtgggihpbhmbjaaaDoorLevEk2
import Derived.Test.YtgggihpbhmbjaaaDoorUptok2
import Derived.Test.YtgggihpbhmbjaaaDoorCards
import Derived.Test.YtgggihpbhmbjaaaDoorTie
import Derived.Test.YtgggihpbhmbjaaaDoorFramek2
import Derived.WalkKit
import Derived.ProofKit
import Derived.OpenShut
import Derived.Deep.DeepHandedRow
import Derived.LaidMore
import Derived.SevenTiedAt
/- MADE BY frame.py: the frame of the law LevelKeys. No condition. -/
namespace Go.Proofs.YtgggihpbhmbjaaaDoor.levelKeys
open Go Go.Dc Go.ChangeShapes Go.WideShapes Go.ChangeAt Go.RowKit
set_option linter.unusedVariables false
theorem own : ownKnob Tryd.prog.godebug = none := by kernel_rfl
theorem kids : Kids Tryd.prog (· < Tryd.prog.types.size) := kids_rows (by kernel_rfl) (by kernel_rfl)
theorem slices : slicesB Tryd.prog = true := by kernel_rfl
/-- The two tables' cells. -/
noncomputable def laidObj (cs : Array Value) : Obj → Obj
  | .cells _ t frozen => .cells cs t frozen
  | o => o
noncomputable def laidWorld (os : Os) : World :=
  { World.holding Tryd.prog os ⟨#[], #[], []⟩ with heap := ((World.holding Tryd.prog os ⟨#[], #[], []⟩).heap.modify 1 (laidObj (Pinned.utf8FirstZ.map fun x => Value.int .u8 (Int.ofNat x)).toArray)).modify 2 (laidObj #[.int .u8 128, .int .u8 191, .int .u8 160, .int .u8 191, .int .u8 128, .int .u8 159, .int .u8 144, .int .u8 191, .int .u8 128, .int .u8 143, .int .u8 0, .int .u8 0, .int .u8 0, .int .u8 0, .int .u8 0, .int .u8 0, .int .u8 0, .int .u8 0, .int .u8 0, .int .u8 0, .int .u8 0, .int .u8 0, .int .u8 0, .int .u8 0, .int .u8 0, .int .u8 0, .int .u8 0, .int .u8 0, .int .u8 0, .int .u8 0, .int .u8 0, .int .u8 0]) }
set_option maxRecDepth 100000 in
theorem laid_met (os : Os) : laidMet Tryd.prog Rows.levelKeysUptoRow.laid ((laidWorld os).forCall (fun _ _ => 0) ⟨#[], #[.slice none 0 0, .slice none 0 0, .int .i64 0, .int .i64 0], []⟩).memory :=
  laidMet_of_run' 8 (by kernel_rfl) (by kernel_rfl)
set_option maxRecDepth 100000 in
theorem lifted (os : Os) (started : os.Started) (H : Type) (enc : TypeId × Value → H) (Fi : Stop.Interp) :
    ReturnsInHanded {} Tryd.checked os 3 .any ((Rows.OpenSpec.upto Rows.levelKeysSpec).preRow enc Tryd.prog Tryd.f3 Rows.levelKeysUptoRow.domain false Rows.levelKeysUptoRow.laid) (((Rows.OpenSpec.upto Rows.levelKeysSpec).at Fi).post enc Tryd.prog Tryd.f3 false true false false) := by
  refine returnsInHanded_of_row (C := Tryd.checked) (s := Rows.OpenSpec.upto Rows.levelKeysSpec) own started (by kernel_rfl) Tryd.func3
    (witness_row_at (enc := enc) (C := Tryd.checked) false (laidWorld os) #[.slice none 0 0, .slice none 0 0, .int .i64 0, .int .i64 0] rfl (by kernel_rfl) (by kernel_rfl) (by kernel_rfl)
      (OpenSpec.preRow_of_cond 8 (show DataW.whole enc Tryd.prog ((laidWorld os).forCall (fun _ _ => 0) ⟨#[], #[.slice none 0 0, .slice none 0 0, .int .i64 0, .int .i64 0], []⟩).memory Tryd.f3.params.toList Rows.levelKeysSpec.vars false #[.slice none 0 0, .slice none 0 0, .int .i64 0, .int .i64 0].toList 8 = some ([.nil, .nil, .lit (.int .i64 0), .lit (.int .i64 0)], [], []) by kernel_rfl) (by kernel_rfl) (fun k hk => by cases hk; kernel_rfl) (by kernel_rfl) (laid_met os))) ?_
  intro W base args ds gs before hval0 hW hcnd hcond hwt _ _ _
  have hval : ∀ (j : Nat) t v, Tryd.f3.params[j]? = some t → args[j]? = some v → Value.okWide Tryd.prog W .any base t v := hval0
  have hW1 := hW
  obtain ⟨p, q, hA0, hV, rfl, hfz, hnd⟩ := hW1
  have hA : DataW.TrodAll enc Tryd.prog W 0 (fun _ => true) true Tryd.f3.params.toList args.toList ds p := hA0
  have hwt1 : (DataW.weightsEach Tryd.prog (Tryd.f3.params.toList ++ []) (ds ++ gs)).all (· ≤ reachBytes) = true := hwt
  obtain ⟨rfl, rfl⟩ := trodVars_none hV
  have hb0 : decide (Rows.uptoBulkAll (ds ++ []) ≤ 1048576) = true := hcond _ rfl
  have hbk := of_decide_eq_true hb0
  clear hb0
  rw [Tryd.params3] at hA hval hwt1
  obtain ⟨v0, vs0, d0, ds0, p0, q0, hargs0, rfl, rfl, h0, r0⟩ := trodAll_cons hA
  obtain ⟨v1, vs1, d1, ds1, p1, q1, hargs1, rfl, rfl, h1, r1⟩ := trodAll_cons r0
  obtain ⟨v2, vs2, d2, ds2, p2, q2, hargs2, rfl, rfl, h2, r2⟩ := trodAll_cons r1
  obtain ⟨v3, vs3, d3, ds3, p3, q3, hargs3, rfl, rfl, h3, r3⟩ := trodAll_cons r2
  obtain ⟨hnil, rfl, rfl⟩ := trodAll_nil r3
  obtain rfl : args = #[v0, v1, v2, v3] := by cases args; simp_all
  simp only [List.append_nil, Rows.uptoBulkAll] at hbk
  simp only [List.append_nil, DataW.weightsEach, List.all_append, Bool.and_eq_true] at hwt1
  obtain ⟨hw0, hw1, hw2, hw3⟩ := hwt1
  obtain ⟨x0, a0, c0, rfl, rep0, g0⟩ := argU_slice Tryd.underlying22 (opensU_slice Tryd.underlying22 (by kernel_rfl) (opensU_int Tryd.underlying3 (by kernel_rfl))) (hval 0 22 v0 rfl rfl) h0 (by omega)
  obtain ⟨x1, a1, c1, rfl, rep1, g1⟩ := argU_slice Tryd.underlying23 (opensU_slice Tryd.underlying23 (by kernel_rfl) (opensU_struct Tryd.underlying29 (by kernel_rfl) (opensFU_cons rfl (opensU_int Tryd.underlying3 (by kernel_rfl)) (opensFU_cons rfl (opensU_str Tryd.underlying9 (by kernel_rfl)) (opensFU_one rfl (opensU_str Tryd.underlying9 (by kernel_rfl))))))) (hval 1 23 v1 rfl rfl) h1 (by omega)
  obtain ⟨x2, rfl, g2⟩ := arg_int Tryd.underlying3 (hval 2 3 v2 rfl rfl) h2
  obtain ⟨x3, rfl, g3⟩ := arg_int Tryd.underlying3 (hval 3 3 v3 rfl rfl) h3
  obtain ⟨N, hN⟩ := testgatelaw12_LevelKeys_true x0 g0 x1 g1 x2 g2 x3 g3
  refine (testgatelaw12_LevelKeys_ok (snap_st W) rep0 rep1 hN).mono fun e W2 ⟨m2, he, hle, st⟩ => ?_
  exact ⟨_, he, post_law kids (fun ht he => slices_of slices ht he) (of_decide_eq_true (by kernel_rfl)) (by kernel_rfl) Tryd.underlying4 rfl rfl hW hle st⟩
theorem said : Rows.LevelKeysUptoSaid :=
  OpenClaim.holds_of_cond 3 Tryd.f3 rfl rfl rfl rfl rfl rfl rfl ⟨rfl, rfl, rfl, rfl, rfl⟩ rfl rfl rfl rfl rfl (by kernel_rfl) Tryd.func3 (by kernel_rfl)
    (of_decide_eq_true (by kernel_rfl)) (by unfold Func.isWrapper; first | (rw [if_pos (by decide +kernel)]; kernel_rfl) | (rw [if_neg (by decide +kernel)]; exact ⟨rfl, rfl⟩))
    (fun os started H enc _ Fi => by rw [OpenClaim.pre_eq_preRow]; exact lifted os started H enc Fi)
theorem plain (g : FuncId) (fn : Func) (hf : Tryd.pinned.checked.prog.funcNamed "testgate/testgatelaw12.LevelKeys" = some g) (hfn : Tryd.pinned.checked.prog.funcs[g]? = some fn) :
    true = Tryd.pinned.checked.prog.looks [] ∧ ∀ (j : Nat) t, fn.params[j]? = some t → Tryd.pinned.checked.prog.wantsStandIn t = false := by
  obtain rfl : g = 3 := Option.some.inj ((show Tryd.prog.funcNamed "testgate/testgatelaw12.LevelKeys" = some 3 by kernel_rfl).symm.trans hf) |>.symm
  obtain rfl : fn = Tryd.f3 := (Option.some.inj (Tryd.func3.symm.trans hfn)).symm
  refine ⟨by kernel_rfl, fun j t ht => ?_⟩
  rw [Tryd.params3] at ht
  have hm := Array.mem_of_getElem? ht
  simp only [List.mem_toArray, List.mem_cons, List.not_mem_nil, or_false] at hm
  rcases hm with rfl | rfl | rfl | rfl
  · exact (show Tryd.prog.wantsStandIn 22 = false by kernel_rfl)
  · exact (show Tryd.prog.wantsStandIn 23 = false by kernel_rfl)
  · exact (show Tryd.prog.wantsStandIn 3 = false by kernel_rfl)
  · exact (show Tryd.prog.wantsStandIn 3 = false by kernel_rfl)
theorem card : Rows.LevelKeysUptoCardSaid :=
  Claim7.holds_tied_plain_at .later [] _ _ _ _ said (fun _ h => by cases h) (by kernel_rfl) (fun _ h => by cases h) levelKeysUpto_row_tie rfl ⟨rfl, rfl⟩ (by kernel_rfl) rfl plain (by kernel_rfl)
#print axioms card
end Go.Proofs.YtgggihpbhmbjaaaDoor.levelKeys


