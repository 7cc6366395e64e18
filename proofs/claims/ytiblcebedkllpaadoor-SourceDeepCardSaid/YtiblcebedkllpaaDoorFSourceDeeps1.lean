import Derived.Test.YtiblcebedkllpaaDoorK3s1
import Derived.Test.YtiblcebedkllpaaDoorCards
import Derived.Test.YtiblcebedkllpaaDoorTie
import Derived.WalkKit
import Derived.ProofKit
import Derived.OpenShut
import Derived.Deep.DeepHandedRow
import Derived.LaidMore
import Derived.SevenTiedAt
namespace Go.Proofs.YtiblcebedkllpaaDoor.sourceDeep
open Go Go.Dc Go.ChangeShapes Go.WideShapes Go.ChangeAt Go.RowKit
set_option linter.unusedVariables false
theorem own:ownKnob Tryd.prog.godebug=none:=by kernel_rfl
theorem kids:Kids Tryd.prog (· <Tryd.prog.types.size):=kids_rows (by kernel_rfl) (by kernel_rfl)
theorem slices:qWa Tryd.prog=true:=by kernel_rfl
noncomputable def qOi(cs:Array Value):Obj→Obj
 | .cells _ t frozen=> .cells cs t frozen
 |o=>o
noncomputable def qOc(os:Os):World:=
 {World.holding Tryd.prog os ⟨#[],#[],[]⟩ with heap:=((((((World.holding Tryd.prog os ⟨#[],#[],[]⟩).heap).modify 1 (qOi ((Pinned.utf8FirstZ.map fun x=>Value.int .u8 (Int.ofNat x)).toArray))).modify 2 (qOi (#[.int .u8 128,.int .u8 191,.int .u8 160,.int .u8 191,.int .u8 128,.int .u8 159,.int .u8 144,.int .u8 191,.int .u8 128,.int .u8 143,.int .u8 0,.int .u8 0,.int .u8 0,.int .u8 0,.int .u8 0,.int .u8 0,.int .u8 0,.int .u8 0,.int .u8 0,.int .u8 0,.int .u8 0,.int .u8 0,.int .u8 0,.int .u8 0,.int .u8 0,.int .u8 0,.int .u8 0,.int .u8 0,.int .u8 0,.int .u8 0,.int .u8 0,.int .u8 0]))).modify 3 (qOi (#[.int .u64 1,.int .u64 10,.int .u64 100,.int .u64 1000,.int .u64 10000,.int .u64 100000,.int .u64 1000000,.int .u64 10000000,.int .u64 100000000,.int .u64 1000000000,.int .u64 10000000000,.int .u64 100000000000,.int .u64 1000000000000,.int .u64 10000000000000,.int .u64 100000000000000,.int .u64 1000000000000000,.int .u64 10000000000000000,.int .u64 100000000000000000,.int .u64 1000000000000000000,.int .u64 10000000000000000000]))).modify 4 (qOi (#[.int .u8 0,.int .u8 1,.int .u8 28,.int .u8 2,.int .u8 29,.int .u8 14,.int .u8 24,.int .u8 3,.int .u8 30,.int .u8 22,.int .u8 20,.int .u8 15,.int .u8 25,.int .u8 17,.int .u8 4,.int .u8 8,.int .u8 31,.int .u8 27,.int .u8 13,.int .u8 23,.int .u8 21,.int .u8 19,.int .u8 16,.int .u8 7,.int .u8 26,.int .u8 12,.int .u8 18,.int .u8 6,.int .u8 11,.int .u8 5,.int .u8 10,.int .u8 9]))).modify 5 (qOi (#[.int .u8 0,.int .u8 1,.int .u8 56,.int .u8 2,.int .u8 57,.int .u8 49,.int .u8 28,.int .u8 3,.int .u8 61,.int .u8 58,.int .u8 42,.int .u8 50,.int .u8 38,.int .u8 29,.int .u8 17,.int .u8 4,.int .u8 62,.int .u8 47,.int .u8 59,.int .u8 36,.int .u8 45,.int .u8 43,.int .u8 51,.int .u8 22,.int .u8 53,.int .u8 39,.int .u8 33,.int .u8 30,.int .u8 24,.int .u8 18,.int .u8 12,.int .u8 5,.int .u8 63,.int .u8 55,.int .u8 48,.int .u8 27,.int .u8 60,.int .u8 41,.int .u8 37,.int .u8 16,.int .u8 46,.int .u8 35,.int .u8 44,.int .u8 21,.int .u8 52,.int .u8 32,.int .u8 23,.int .u8 11,.int .u8 54,.int .u8 26,.int .u8 40,.int .u8 15,.int .u8 34,.int .u8 20,.int .u8 31,.int .u8 10,.int .u8 25,.int .u8 14,.int .u8 19,.int .u8 9,.int .u8 13,.int .u8 8,.int .u8 7,.int .u8 6]))}
set_option maxRecDepth 100000 in
theorem qXz(os:Os):laidMet Tryd.prog Rows.sourceDeepRow.laid ((qOc os).forCall (fun _ _=>0) ⟨#[],#[.int .u8 0,.int .u8 0],[]⟩).memory:=
 laidMet_of_run' 8 (by kernel_rfl) (by kernel_rfl)
set_option maxRecDepth 100000 in
theorem lifted(os:Os)(started:os.Started)(H:Type)(enc:TypeId×Value→H)(Fi:Stop.Interp):
  ReturnsInHanded {} Tryd.checked os 4 .any ((OpenSpec.ofChange Rows.sourceDeepSpec).preRow enc Tryd.prog Tryd.f4 Rows.sourceDeepRow.domain false Rows.sourceDeepRow.laid) (((OpenSpec.ofChange Rows.sourceDeepSpec).at Fi).post enc Tryd.prog Tryd.f4 false true false false):=by
 refine returnsInHanded_of_row (C:=Tryd.checked) (s:=OpenSpec.ofChange Rows.sourceDeepSpec) own started (by kernel_rfl) Tryd.func4
  (witness_row_at (enc:=enc) (C:=Tryd.checked) false (qOc os) #[.int .u8 0,.int .u8 0] rfl (by kernel_rfl) (by kernel_rfl) (by kernel_rfl)
   (OpenSpec.preRow_of_cond 8 (show DataW.whole enc Tryd.prog ((qOc os).forCall (fun _ _=>0) ⟨#[],#[.int .u8 0,.int .u8 0],[]⟩).memory Tryd.f4.params.toList Rows.sourceDeepSpec.vars false #[.int .u8 0,.int .u8 0].toList 8=some ([.lit (.int .u8 0),.lit (.int .u8 0)],[],[]) by kernel_rfl) (by kernel_rfl) (fun k hk=>by cases hk) (by kernel_rfl) (qXz os))) ?_
 intro W base args ds gs before hval0 hW hcnd _ hwt _ _ _
 have hval:∀(j:Nat) t v,Tryd.f4.params[j]? =some t→args[j]? =some v→Value.okWide Tryd.prog W .any base t v:=hval0
 have hW1:=hW
 obtain⟨p,q,hA0,hV,rfl,hfz,hnd⟩:=hW1
 have hA:DataW.TrodAll enc Tryd.prog W 0 (fun _=>true) true Tryd.f4.params.toList args.toList ds p:=hA0
 have hwt1:(DataW.weightsEach Tryd.prog (Tryd.f4.params.toList++[]) (ds++gs)).all (· ≤reachBytes)=true:=hwt
 obtain⟨rfl,rfl⟩:=trodVars_none hV
 rw[Tryd.params4] at hA hval hwt1
 obtain⟨v0,vs0,d0,ds0,p0,q0,hargs0,rfl,rfl,h0,r0⟩:=trodAll_cons hA
 obtain⟨v1,vs1,d1,ds1,p1,q1,hargs1,rfl,rfl,h1,r1⟩:=trodAll_cons r0
 obtain⟨hnil,rfl,rfl⟩:=trodAll_nil r1
 obtain rfl:args= #[v0,v1]:=by cases args;simp_all
 simp only[List.append_nil,DataW.weightsEach,List.all_append,jP] at hwt1
 obtain⟨hw0,hw1⟩:=hwt1
 obtain⟨x0,rfl,g0⟩:=qWz Tryd.underlying5 (hval 0 5 v0 rfl rfl) h0
 obtain⟨x1,rfl,g1⟩:=qWz Tryd.underlying5 (hval 1 5 v1 rfl rfl) h1
 obtain⟨N,hN⟩:=testgatelaw05_SourceDeep_true x0 g0 x1 g1
 refine(qIh (qZs W) hN).mono fun e W2 ⟨m2,he,hle,st⟩=> ?_
 exact⟨_,he,qXr kids (fun ht he=>qWq slices ht he) (of_decide_eq_true (by kernel_rfl)) (by kernel_rfl) Tryd.underlying4 rfl rfl hW hle st⟩
theorem said:Rows.SourceDeepSaid:=
 OpenClaim.holds_of_cond 4 Tryd.f4 rfl rfl rfl rfl rfl rfl rfl ⟨rfl,rfl,rfl,rfl,rfl⟩ rfl rfl rfl rfl rfl (by kernel_rfl) Tryd.func4 (by kernel_rfl)
  (of_decide_eq_true (by kernel_rfl)) (by unfold Func.isWrapper;first|(rw[if_pos (by decide+kernel)];kernel_rfl)|(rw[if_neg (by decide+kernel)];exact⟨rfl,rfl⟩))
  (fun os started H enc _ Fi=>by rw[OpenClaim.pre_eq_preRow];exact lifted os started H enc Fi)
theorem plain (g : FuncId) (fn : Func) (hf : Tryd.pinned.checked.prog.funcNamed "testgate/testgatelaw05.SourceDeep" = some g) (hfn : Tryd.pinned.checked.prog.funcs[g]? = some fn) :
  true=Tryd.pinned.checked.prog.looks []∧∀(j:Nat) t,fn.params[j]? =some t→Tryd.pinned.checked.prog.wantsStandIn t=false:=by
 obtain rfl : g = 4 := jA ((show Tryd.prog.funcNamed "testgate/testgatelaw05.SourceDeep" = some 4 by kernel_rfl).symm.trans hf) |>.symm
 obtain rfl:fn=Tryd.f4:=(jA (Tryd.func4.symm.trans hfn)).symm
 refine⟨by kernel_rfl,fun j t ht=> ?_⟩
 rw[Tryd.params4] at ht
 have hm:=Array.mem_of_getElem? ht
 simp only[List.mem_toArray,jQ,gP,or_false] at hm
 rcases hm with rfl|rfl
 ·exact(show Tryd.prog.wantsStandIn 5=false by kernel_rfl)
 ·exact(show Tryd.prog.wantsStandIn 5=false by kernel_rfl)
theorem card:Rows.SourceDeepCardSaid:=
 Claim7.holds_tied_plain_at .later [] _ _ _ _ said (fun _ h=>by cases h) (by kernel_rfl) (fun _ h=>by cases h) sourceDeep_row_tie rfl ⟨rfl,rfl⟩ (by kernel_rfl) rfl plain (by kernel_rfl)
#print axioms card
end Go.Proofs.YtiblcebedkllpaaDoor.sourceDeep
