import Derived.Test.YtadnagdgimicdaaGreatDoorK4a1
import Derived.Test.YtadnagdgimicdaaGreatDoorCards
import Derived.Test.YtadnagdgimicdaaGreatDoorTie
import Derived.WalkKit
import Derived.ProofKit
import Derived.OpenShut
import Derived.Deep.DeepHandedRow
import Derived.LaidMore
import Derived.SevenTiedAt
namespace Go.Proofs.YtadnagdgimicdaaGreatDoor.evaluateArithmetic
open Go Go.Dc Go.ChangeShapes Go.WideShapes Go.ChangeAt Go.RowKit
set_option linter.unusedVariables false
theorem own:ownKnob Tryz.prog.godebug=none:=by kernel_rfl
theorem kids:Kids Tryz.prog (· <Tryz.prog.types.size):=kids_rows (by kernel_rfl) (by kernel_rfl)
theorem qXu:qUx Tryz.prog=true:=by kernel_rfl
noncomputable def qUf(cs:Array Value):Obj->Obj
 | .cells _ t frozen=> .cells cs t frozen
 |o=>o
noncomputable def qPa(os:Os):World:=
 {World.holding Tryz.prog os ⟨#[],#[],[]⟩ with heap:=(((World.holding Tryz.prog os ⟨#[],#[],[]⟩).heap).modify 1 (qUf ((Pinned.utf8FirstZ.map fun x=>Value.int .u8 (Int.ofNat x)).toArray))).modify 2 (qUf (#[.int .u8 128,.int .u8 191,.int .u8 160,.int .u8 191,.int .u8 128,.int .u8 159,.int .u8 144,.int .u8 191,.int .u8 128,.int .u8 143,.int .u8 0,.int .u8 0,.int .u8 0,.int .u8 0,.int .u8 0,.int .u8 0,.int .u8 0,.int .u8 0,.int .u8 0,.int .u8 0,.int .u8 0,.int .u8 0,.int .u8 0,.int .u8 0,.int .u8 0,.int .u8 0,.int .u8 0,.int .u8 0,.int .u8 0,.int .u8 0,.int .u8 0,.int .u8 0]))}
set_option maxRecDepth 100000 in
theorem qWd(os:Os):laidMet Tryz.prog Rows.evaluateArithmeticRow.laid ((qPa os).forCall (fun _ _=>0) ⟨#[],#[.int .i64 0,.int .i64 0],[]⟩).memory:=
 laidMet_of_run' 8 (by kernel_rfl) (by kernel_rfl)
set_option maxRecDepth 100000 in
theorem qXv(os:Os)(started:os.Started)(H:Type)(enc:TypeId×Value->H)(Fi:Stop.Interp):
  ReturnsInHanded {} Tryz.checked os 3 .any ((OpenSpec.ofChange Rows.evaluateArithmeticSpec).preRow enc Tryz.prog Tryz.f3 Rows.evaluateArithmeticRow.domain false Rows.evaluateArithmeticRow.laid) (((OpenSpec.ofChange Rows.evaluateArithmeticSpec).at Fi).post enc Tryz.prog Tryz.f3 false true false false):=by
 refine returnsInHanded_of_row (C:=Tryz.checked) (s:=OpenSpec.ofChange Rows.evaluateArithmeticSpec) own started (by kernel_rfl) Tryz.func3
  (witness_row_at (enc:=enc) (C:=Tryz.checked) false (qPa os) #[.int .i64 0,.int .i64 0] rfl (by kernel_rfl) (by kernel_rfl) (by kernel_rfl)
   (OpenSpec.preRow_of_cond 8 (show DataW.whole enc Tryz.prog ((qPa os).forCall (fun _ _=>0) ⟨#[],#[.int .i64 0,.int .i64 0],[]⟩).memory Tryz.f3.params.toList Rows.evaluateArithmeticSpec.vars false #[.int .i64 0,.int .i64 0].toList 8=some ([.lit (.int .i64 0),.lit (.int .i64 0)],[],[]) by kernel_rfl) (by kernel_rfl) (fun k hk=>by cases hk) (by kernel_rfl) (qWd os))) ?_
 intro W base args ds gs before hval0 hW hcnd _ hwt _ _ _
 have hval:∀(j:Nat) t v,Tryz.f3.params[j]? =some t->args[j]? =some v->Value.okWide Tryz.prog W .any base t v:=hval0
 have hW1:=hW
 obtain⟨p,q,hA0,hV,rfl,hfz,hnd⟩:=hW1
 have hA:DataW.TrodAll enc Tryz.prog W 0 (fun _=>true) true Tryz.f3.params.toList args.toList ds p:=hA0
 have hwt1:(DataW.weightsEach Tryz.prog (Tryz.f3.params.toList++[]) (ds++gs)).all (· <=reachBytes)=true:=hwt
 obtain⟨rfl,rfl⟩:=trodVars_none hV
 rw[Tryz.params3] at hA hval hwt1
 obtain⟨v0,vs0,d0,ds0,p0,q0,hargs0,rfl,rfl,h0,r0⟩:=trodAll_cons hA
 obtain⟨v1,vs1,d1,ds1,p1,q1,hargs1,rfl,rfl,h1,r1⟩:=trodAll_cons r0
 obtain⟨hnil,rfl,rfl⟩:=trodAll_nil r1
 obtain rfl:args= #[v0,v1]:=by cases args;simp_all
 simp only[List.append_nil,DataW.weightsEach,List.all_append,jL] at hwt1
 obtain⟨hw0,hw1⟩:=hwt1
 obtain⟨x0,rfl,g0⟩:=qVa Tryz.underlying3 (hval 0 3 v0 rfl rfl) h0
 obtain⟨x1,rfl,g1⟩:=qVa Tryz.underlying3 (hval 1 3 v1 rfl rfl) h1
 obtain⟨N,hN⟩:=testgatelaw10_EvaluateArithmetic_true x0 g0 x1 g1
 refine(qHf (qVe W) hN).mono fun e W2 ⟨m2,he,hle,st⟩=> ?_
 exact⟨_,he,qWb kids (fun ht he=>qVm qXu ht he) (of_decide_eq_true (by kernel_rfl)) (by kernel_rfl) Tryz.underlying4 rfl rfl hW hle st⟩
theorem jf1:Tryz.pinned.checked.prog.inPlace 3=Rows.evaluateArithmeticRow.inPlace:=by kernel_rfl
theorem jf2:Tryz.pinned.checked.prog.unfollowed 3=Rows.evaluateArithmeticRow.unfollowed:=by kernel_rfl
theorem jf3:Tryz.pinned.checked.prog.recurses 3=Rows.evaluateArithmeticRow.recurses:=by kernel_rfl
theorem jf4:Tryz.pinned.checked.prog.varsNamed 3=Rows.evaluateArithmeticRow.named:=by kernel_rfl
theorem jf5:joinedFacts Tryz.pinned.checked.prog 3 Tryz.f3 (OpenSpec.ofChange Rows.evaluateArithmeticSpec).bare Rows.evaluateArithmeticRow=true:=by
 unfold joinedFacts
 rw[jf1,jf2,jf3,jf4]
 kernel_rfl
theorem said:Rows.EvaluateArithmeticSaid:=
 OpenClaim.holds_of_cond 3 Tryz.f3 rfl rfl rfl rfl rfl rfl rfl ⟨rfl,rfl,rfl,rfl,rfl⟩ rfl rfl rfl rfl rfl (by kernel_rfl) Tryz.func3 jf5
  (of_decide_eq_true (by kernel_rfl)) (by unfold Func.isWrapper;first|(rw[if_pos (by decide+kernel)];kernel_rfl)|(rw[if_neg (by decide+kernel)];exact⟨rfl,rfl⟩))
  (fun os started H enc _ Fi=>by rw[OpenClaim.pre_eq_preRow];exact qXv os started H enc Fi)
theorem plain (g : FuncId) (fn : Func) (hf : Tryz.pinned.checked.prog.funcNamed "testgate/testgatelaw10.EvaluateArithmetic" = some g) (hfn : Tryz.pinned.checked.prog.funcs[g]? = some fn) :
  true=Tryz.pinned.checked.prog.looks []/\∀(j:Nat) t,fn.params[j]? =some t->Tryz.pinned.checked.prog.wantsStandIn t=false:=by
 obtain rfl : g = 3 := j0 ((show Tryz.prog.funcNamed "testgate/testgatelaw10.EvaluateArithmetic" = some 3 by kernel_rfl).symm.trans hf) |>.symm
 obtain rfl:fn=Tryz.f3:=(j0 (Tryz.func3.symm.trans hfn)).symm
 refine⟨by kernel_rfl,fun j t ht=> ?_⟩
 rw[Tryz.params3] at ht
 have hm:=Array.mem_of_getElem? ht
 simp only[List.mem_toArray,jE,kM,or_false] at hm
 rcases hm with rfl|rfl
 .exact(show Tryz.prog.wantsStandIn 3=false by kernel_rfl)
 exact(show Tryz.prog.wantsStandIn 3=false by kernel_rfl)
theorem card:Rows.EvaluateArithmeticCardSaid:=
 Claim7.holds_tied_plain_at .later [] _ _ _ _ said (fun _ h=>by cases h) (by kernel_rfl) (fun _ h=>by cases h) evaluateArithmetic_row_tie rfl ⟨rfl,rfl⟩ (by kernel_rfl) rfl plain (by kernel_rfl)
#print axioms card
end Go.Proofs.YtadnagdgimicdaaGreatDoor.evaluateArithmetic
