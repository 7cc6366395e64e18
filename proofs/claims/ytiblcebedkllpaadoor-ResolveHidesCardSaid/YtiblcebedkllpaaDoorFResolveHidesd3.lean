import Derived.Test.YtiblcebedkllpaaDoorK5d3
import Derived.Test.YtiblcebedkllpaaDoorCards
import Derived.Test.YtiblcebedkllpaaDoorTie
import Derived.WalkKit
import Derived.ProofKit
import Derived.OpenShut
import Derived.Deep.DeepHandedRow
import Derived.LaidMore
import Derived.SevenTiedAt
namespace Go.Proofs.YtiblcebedkllpaaDoor.resolveHides
open Go Go.Dc Go.ChangeShapes Go.WideShapes Go.ChangeAt Go.RowKit
set_option linter.unusedVariables false
theorem own : ownKnob Tryd.prog.godebug = none := by kernel_rfl
theorem kids : Kids Tryd.prog (· < Tryd.prog.types.size) := kids_rows (by kernel_rfl) (by kernel_rfl)
theorem slices : zCs Tryd.prog = true := by kernel_rfl
noncomputable def zAz (cs : Array Value) : Obj → Obj
 | .cells _ t frozen => .cells cs t frozen
 | o => o
noncomputable def qRm (os : Os) : World :=
 { World.holding Tryd.prog os ⟨#[], #[], []⟩ with heap := ((World.holding Tryd.prog os ⟨#[], #[], []⟩).heap.modify 1 (zAz (Pinned.utf8FirstZ.map fun x => Value.int .u8 (Int.ofNat x)).toArray)).modify 2 (zAz #[.int .u8 128, .int .u8 191, .int .u8 160, .int .u8 191, .int .u8 128, .int .u8 159, .int .u8 144, .int .u8 191, .int .u8 128, .int .u8 143, .int .u8 0, .int .u8 0, .int .u8 0, .int .u8 0, .int .u8 0, .int .u8 0, .int .u8 0, .int .u8 0, .int .u8 0, .int .u8 0, .int .u8 0, .int .u8 0, .int .u8 0, .int .u8 0, .int .u8 0, .int .u8 0, .int .u8 0, .int .u8 0, .int .u8 0, .int .u8 0, .int .u8 0, .int .u8 0]) }
set_option maxRecDepth 100000 in
theorem zDn (os : Os) : laidMet Tryd.prog Rows.resolveHidesRow.laid ((qRm os).forCall (fun _ _ => 0) ⟨#[], #[.slice none 0 0, .string ⟨#[]⟩], []⟩).memory :=
 laidMet_of_run' 8 (by kernel_rfl) (by kernel_rfl)
set_option maxRecDepth 100000 in
theorem lifted (os : Os) (started : os.Started) (H : Type) (enc : TypeId × Value → H) (Fi : Stop.Interp) :
  ReturnsInHanded {} Tryd.checked os 3 .any ((OpenSpec.ofChange Rows.resolveHidesSpec).preRow enc Tryd.prog Tryd.f3 Rows.resolveHidesRow.domain false Rows.resolveHidesRow.laid) (((OpenSpec.ofChange Rows.resolveHidesSpec).at Fi).post enc Tryd.prog Tryd.f3 false true false false) := by
 refine returnsInHanded_of_row (C := Tryd.checked) (s := OpenSpec.ofChange Rows.resolveHidesSpec) own started (by kernel_rfl) Tryd.func3
  (witness_row_at (enc := enc) (C := Tryd.checked) false (qRm os) #[.slice none 0 0, .string ⟨#[]⟩] rfl (by kernel_rfl) (by kernel_rfl) (by kernel_rfl)
   (OpenSpec.preRow_of_cond 8 (show DataW.whole enc Tryd.prog ((qRm os).forCall (fun _ _ => 0) ⟨#[], #[.slice none 0 0, .string ⟨#[]⟩], []⟩).memory Tryd.f3.params.toList Rows.resolveHidesSpec.vars false #[.slice none 0 0, .string ⟨#[]⟩].toList 8 = some ([.nil, .lit (.string [])], [], []) by kernel_rfl) (by kernel_rfl) (fun k hk => by cases hk) (by kernel_rfl) (zDn os))) ?_
 intro W base args ds gs before hval0 hW hcnd _ hwt _ _ _
 have hval : ∀ (j : Nat) t v, Tryd.f3.params[j]? = some t → args[j]? = some v → Value.okWide Tryd.prog W .any base t v := hval0
 have hW1 := hW
 obtain ⟨p, q, hA0, hV, rfl, hfz, hnd⟩ := hW1
 have hA : DataW.TrodAll enc Tryd.prog W 0 (fun _ => true) true Tryd.f3.params.toList args.toList ds p := hA0
 have hwt1 : (DataW.weightsEach Tryd.prog (Tryd.f3.params.toList ++ []) (ds ++ gs)).all (· ≤ reachBytes) = true := hwt
 obtain ⟨rfl, rfl⟩ := trodVars_none hV
 rw [Tryd.params3] at hA hval hwt1
 obtain ⟨v0, vs0, d0, ds0, p0, q0, hargs0, rfl, rfl, h0, r0⟩ := trodAll_cons hA
 obtain ⟨v1, vs1, d1, ds1, p1, q1, hargs1, rfl, rfl, h1, r1⟩ := trodAll_cons r0
 obtain ⟨hnil, rfl, rfl⟩ := trodAll_nil r1
 obtain rfl : args = #[v0, v1] := by cases args; simp_all
 simp only [List.append_nil, DataW.weightsEach, List.all_append, jN] at hwt1
 obtain ⟨hw0, hw1⟩ := hwt1
 obtain ⟨x0, a0, c0, rfl, rep0, g0⟩ := zCw Tryd.underlying22 (qYf (by_ := 8) Tryd.underlying22 (by kernel_rfl) (by kernel_rfl) (zCo Tryd.underlying3 (by kernel_rfl))) (hval 0 22 v0 rfl rfl) h0 hw0
 obtain ⟨x1, rfl, g1⟩ := zFm Tryd.underlying9 (hval 1 9 v1 rfl rfl) h1 hw1
 obtain ⟨N, hN⟩ := testgatelaw09_ResolveHides_true x0 g0 x1 g1
 refine (qJz (zFp W) rep0 hN).mono fun e W2 ⟨m2, he, hle, st⟩ => ?_
 exact ⟨_, he, zEh kids (fun ht he => zCz slices ht he) (kT (by kernel_rfl)) (by kernel_rfl) Tryd.underlying4 rfl rfl hW hle st⟩
theorem said : Rows.ResolveHidesSaid :=
 OpenClaim.holds_of_cond 3 Tryd.f3 rfl rfl rfl rfl rfl rfl rfl ⟨rfl, rfl, rfl, rfl, rfl⟩ rfl rfl rfl rfl rfl (by kernel_rfl) Tryd.func3 (by kernel_rfl)
  (kT (by kernel_rfl)) (by unfold Func.isWrapper; first | (rw [if_pos (by decide +kernel)]; kernel_rfl) | (rw [if_neg (by decide +kernel)]; exact ⟨rfl, rfl⟩))
  (fun os started H enc _ Fi => by rw [OpenClaim.pre_eq_preRow]; exact lifted os started H enc Fi)
theorem plain (g : FuncId) (fn : Func) (hf : Tryd.pinned.checked.prog.funcNamed "testgate/testgatelaw09.ResolveHides" = some g) (hfn : Tryd.pinned.checked.prog.funcs[g]? = some fn) :
  true = Tryd.pinned.checked.prog.looks [] ∧ ∀ (j : Nat) t, fn.params[j]? = some t → Tryd.pinned.checked.prog.wantsStandIn t = false := by
 obtain rfl : g = 3 := jD ((show Tryd.prog.funcNamed "testgate/testgatelaw09.ResolveHides" = some 3 by kernel_rfl).symm.trans hf) |>.symm
 obtain rfl : fn = Tryd.f3 := (jD (Tryd.func3.symm.trans hfn)).symm
 refine ⟨by kernel_rfl, fun j t ht => ?_⟩
 rw [Tryd.params3] at ht
 have hm := Array.mem_of_getElem? ht
 simp only [List.mem_toArray, jI, kY, or_false] at hm
 rcases hm with rfl | rfl
 ·exact (show Tryd.prog.wantsStandIn 22 = false by kernel_rfl)
 ·exact (show Tryd.prog.wantsStandIn 9 = false by kernel_rfl)
theorem card : Rows.ResolveHidesCardSaid :=
 Claim7.holds_tied_plain_at .later [] _ _ _ _ said (fun _ h => by cases h) (by kernel_rfl) (fun _ h => by cases h) resolveHides_row_tie rfl ⟨rfl, rfl⟩ (by kernel_rfl) rfl plain (by kernel_rfl)
#print axioms card
end Go.Proofs.YtiblcebedkllpaaDoor.resolveHides
