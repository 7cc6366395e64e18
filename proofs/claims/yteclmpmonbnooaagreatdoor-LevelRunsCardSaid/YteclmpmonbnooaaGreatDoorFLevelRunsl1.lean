import Derived.Test.YteclmpmonbnooaaGreatDoorK6l1
import Derived.Test.YteclmpmonbnooaaGreatDoorCards
import Derived.Test.YteclmpmonbnooaaGreatDoorTie
import Derived.WalkKit
import Derived.ProofKit
import Derived.OpenShut
import Derived.Deep.DeepHandedRow
import Derived.LaidMore
import Derived.SevenTiedAt
namespace Go.Proofs.YteclmpmonbnooaaGreatDoor.levelRuns
open Go Go.Dc Go.ChangeShapes Go.WideShapes Go.ChangeAt Go.RowKit
set_option linter.unusedVariables false
theorem own:ownKnob Tryz.prog.godebug=none:=by kernel_rfl
theorem kids:Kids Tryz.prog (· <Tryz.prog.types.size):=kids_rows af af
theorem zGn:qMk Tryz.prog=true:=by kernel_rfl
noncomputable def qMr(cs:Array Value):Obj->Obj
 | .cells _ t frozen=> .cells cs t frozen
 |o=>o
noncomputable def XS(os:Os):World:=
 {World.holding Tryz.prog os ⟨#[],#[],[]⟩ with heap:=(((World.holding Tryz.prog os ⟨#[],#[],[]⟩).heap).modify 1 (qMr ((Pinned.utf8FirstZ.map fun x=>Value.int .u8 (Int.ofNat x)).toArray))).modify 2 (qMr (#[.int .u8 128,.int .u8 191,.int .u8 160,.int .u8 191,.int .u8 128,.int .u8 159,.int .u8 144,.int .u8 191,.int .u8 128,.int .u8 143,.int .u8 0,.int .u8 0,.int .u8 0,.int .u8 0,.int .u8 0,.int .u8 0,.int .u8 0,.int .u8 0,.int .u8 0,.int .u8 0,.int .u8 0,.int .u8 0,.int .u8 0,.int .u8 0,.int .u8 0,.int .u8 0,.int .u8 0,.int .u8 0,.int .u8 0,.int .u8 0,.int .u8 0,.int .u8 0]))}
set_option maxRecDepth 100000 in
theorem zCm(os:Os):laidMet Tryz.prog Rows.levelRunsRow.laid ((XS os).forCall (fun _ _=>0) ⟨#[],#[.slice none 0 0],[]⟩).memory:=
 laidMet_of_run' 8 af af
set_option maxRecDepth 100000 in
theorem zGj(os:Os)(started:os.Started)(H:Type)(enc:TypeId×Value->H)(Fi:Stop.Interp):
  ReturnsInHanded {} Tryz.checked os 3 .any ((OpenSpec.ofChange Rows.levelRunsSpec).preRow enc Tryz.prog Tryz.f3 Rows.levelRunsRow.domain false Rows.levelRunsRow.laid) (((OpenSpec.ofChange Rows.levelRunsSpec).at Fi).post enc Tryz.prog Tryz.f3 false true false false):=by
 refine returnsInHanded_of_row (C:=Tryz.checked) (s:=OpenSpec.ofChange Rows.levelRunsSpec) own started af Tryz.func3
  (witness_row_at (enc:=enc) (C:=Tryz.checked) false (XS os) #[.slice none 0 0] rfl af af af
   (OpenSpec.preRow_of_cond 8 (show DataW.whole enc Tryz.prog ((XS os).forCall (fun _ _=>0) ⟨#[],#[.slice none 0 0],[]⟩).memory Tryz.f3.params.toList Rows.levelRunsSpec.vars false #[.slice none 0 0].toList 8=some ([.nil],[],[]) by kernel_rfl) af (fun k hk=>by cases hk) af (zCm os))) ?_
 intro W base args ds gs before hval0 hW hcnd _ hwt _ _ _
 have hval:∀(j:Nat) t v,Tryz.f3.params[j]? =some t->args[j]? =some v->Value.okWide Tryz.prog W .any base t v:=hval0
 have hW1:=hW
 obtain⟨p,q,hA0,hV,rfl,hfz,hnd⟩:=hW1
 have hA:DataW.TrodAll enc Tryz.prog W 0 (fun _=>true) true Tryz.f3.params.toList args.toList ds p:=hA0
 have hwt1:(DataW.weightsEach Tryz.prog (Tryz.f3.params.toList++[]) (ds++gs)).all (· <=reachBytes)=true:=hwt
 obtain⟨rfl,rfl⟩:=trodVars_none hV
 rw[Tryz.params3] at hA hval hwt1
 obtain⟨v0,vs0,d0,ds0,p0,q0,hargs0,rfl,rfl,h0,r0⟩:=trodAll_cons hA
 obtain⟨hnil,rfl,rfl⟩:=trodAll_nil r0
 obtain rfl:args= #[v0]:=by cases args;simp_all
 simp only[jV,DataW.weightsEach,List.all_append,jK] at hwt1
 have hw0:=hwt1
 obtain⟨x0,a0,c0,rfl,rep0,g0⟩:=qZo Tryz.underlying22 (qVu (by_:=8) Tryz.underlying22 af af (qZk Tryz.underlying3 af)) (hval 0 22 v0 rfl rfl) h0 hw0
 obtain⟨N,hN⟩:=testgatelaw12_LevelRuns_true x0 g0
 refine(qRr (qMm W) rep0 hN).mono fun e W2 ⟨m2,he,hle,st⟩=> ?_
 exact⟨_,he,zAt kids (fun ht he=>qXw zGn ht he) (gH af) af Tryz.underlying4 rfl rfl hW hle st⟩
theorem jf1:Tryz.pinned.checked.prog.inPlace 3=Rows.levelRunsRow.inPlace:=by kernel_rfl
theorem jf2:Tryz.pinned.checked.prog.unfollowed 3=Rows.levelRunsRow.unfollowed:=by kernel_rfl
theorem jf3:Tryz.pinned.checked.prog.recurses 3=Rows.levelRunsRow.recurses:=by kernel_rfl
theorem jf4:Tryz.pinned.checked.prog.varsNamed 3=Rows.levelRunsRow.named:=by kernel_rfl
theorem jf5:joinedFacts Tryz.pinned.checked.prog 3 Tryz.f3 (OpenSpec.ofChange Rows.levelRunsSpec).bare Rows.levelRunsRow=true:=by
 unfold joinedFacts
 rw[jf1,jf2,jf3,jf4]
 kernel_rfl
theorem said:Rows.LevelRunsSaid:=
 OpenClaim.holds_of_cond 3 Tryz.f3 rfl rfl rfl rfl rfl rfl rfl ⟨rfl,rfl,rfl,rfl,rfl⟩ rfl rfl rfl rfl rfl af Tryz.func3 jf5
  (gH af) (by unfold Func.isWrapper;first|(rw[if_pos ah];kernel_rfl)|(rw[if_neg ah];exact⟨rfl,rfl⟩))
  (fun os started H enc _ Fi=>by rw[OpenClaim.pre_eq_preRow];exact zGj os started H enc Fi)
theorem zIm (g : FuncId) (fn : Func) (hf : Tryz.pinned.checked.prog.funcNamed "testgate/testgatelaw12.LevelRuns" = some g) (hfn : Tryz.pinned.checked.prog.funcs[g]? = some fn) :
  false=Tryz.pinned.checked.prog.looks []/\∀(j:Nat) t,fn.params[j]? =some t->Tryz.pinned.checked.prog.wantsStandIn t=false:=by
 obtain rfl : g = 3 := kG ((show Tryz.prog.funcNamed "testgate/testgatelaw12.LevelRuns" = some 3 by kernel_rfl).symm.trans hf) |>.symm
 obtain rfl:fn=Tryz.f3:=(kG (Tryz.func3.symm.trans hfn)).symm
 refine⟨by kernel_rfl,fun j t ht=> ?_⟩
 rw[Tryz.params3] at ht
 have hm:=Array.mem_of_getElem? ht
 simp only[List.mem_toArray,jJ,gE,hU] at hm
 rcases hm with rfl
 exact(show Tryz.prog.wantsStandIn 22=false by kernel_rfl)
theorem card:Rows.LevelRunsCardSaid:=
 Claim7.holds_tied_plain_at .later [] _ _ _ _ said (fun _ h=>by cases h) af (fun _ h=>by cases h) levelRuns_row_tie rfl ⟨rfl,rfl⟩ af rfl zIm af
#print axioms card
end Go.Proofs.YteclmpmonbnooaaGreatDoor.levelRuns
