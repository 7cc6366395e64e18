import Derived.Test.YtgboehjfofcogaaGreatDoorK6i3
import Derived.Test.YtgboehjfofcogaaGreatDoorCards
import Derived.Test.YtgboehjfofcogaaGreatDoorTie
import Derived.WalkKit
import Derived.ProofKit
import Derived.OpenShut
import Derived.Deep.DeepHandedRow
import Derived.LaidMore
import Derived.SevenTiedAt
namespace Go.Proofs.YtgboehjfofcogaaGreatDoor.indexSafe
open Go Go.Dc Go.ChangeShapes Go.WideShapes Go.ChangeAt Go.RowKit
set_option linter.unusedVariables false
theorem own:ownKnob Tryz.prog.godebug=none:=by kernel_rfl
theorem kids:Kids Tryz.prog (· <Tryz.prog.types.size):=kids_rows ag ag
theorem qJh:Pj Tryz.prog=true:=by kernel_rfl
noncomputable def Oa(cs:Array Value):Obj->Obj
 | .cells _ t frozen=> .cells cs t frozen
 |o=>o
noncomputable def YP(os:Os):World:=
 {World.holding Tryz.prog os ⟨#[],#[],[]⟩ with heap:=(((World.holding Tryz.prog os ⟨#[],#[],[]⟩).heap).modify 1 (Oa ((Pinned.utf8FirstZ.map λx=>Value.int .u8 (Int.ofNat x)).toArray))).modify 2 (Oa (#[.int .u8 128,.int .u8 191,.int .u8 160,.int .u8 191,.int .u8 128,.int .u8 159,.int .u8 144,.int .u8 191,.int .u8 128,.int .u8 143,.int .u8 0,.int .u8 0,.int .u8 0,.int .u8 0,.int .u8 0,.int .u8 0,.int .u8 0,.int .u8 0,.int .u8 0,.int .u8 0,.int .u8 0,.int .u8 0,.int .u8 0,.int .u8 0,.int .u8 0,.int .u8 0,.int .u8 0,.int .u8 0,.int .u8 0,.int .u8 0,.int .u8 0,.int .u8 0]))}
set_option maxRecDepth 100000 in
theorem qEe(os:Os):laidMet Tryz.prog Rows.indexSafeRow.laid ((YP os).forCall (λ_ _=>0) ⟨#[],#[.slice none 0 0],[]⟩).memory:=
 laidMet_of_run' 8 ag ag
set_option maxRecDepth 100000 in
theorem qKg(os:Os)(started:os.Started)(H:Type)(enc:TypeId×Value->H)(Fi:Stop.Interp):
  ReturnsInHanded {} Tryz.checked os 3 .any ((OpenSpec.ofChange Rows.indexSafeSpec).preRow enc Tryz.prog Tryz.f3 Rows.indexSafeRow.domain false Rows.indexSafeRow.laid) (((OpenSpec.ofChange Rows.indexSafeSpec).at Fi).post enc Tryz.prog Tryz.f3 false true false false):=by
 refine returnsInHanded_of_row (C:=Tryz.checked) (s:=OpenSpec.ofChange Rows.indexSafeSpec) own started ag Tryz.func3
  (witness_row_at (enc:=enc) (C:=Tryz.checked) false (YP os) #[.slice none 0 0] rfl ag ag ag
   (OpenSpec.preRow_of_cond 8 (show DataW.whole enc Tryz.prog ((YP os).forCall (λ_ _=>0) ⟨#[],#[.slice none 0 0],[]⟩).memory Tryz.f3.params.toList Rows.indexSafeSpec.vars false #[.slice none 0 0].toList 8=some ([.nil],[],[]) by kernel_rfl) ag (λk hk=>by cases hk) ag (qEe os))) ?_
 intro W base args ds gs before hval0 hW hcnd _ hwt _ _ _
 have hval:∀(j:Nat) t v,Tryz.f3.params[j]? =some t->args[j]? =some v->Value.okWide Tryz.prog W .any base t v:=hval0
 have hW1:=hW
 obtain⟨p,q,hA0,hV,rfl,hfz,hnd⟩:=hW1
 have hA:DataW.TrodAll enc Tryz.prog W 0 (λ_=>true) true Tryz.f3.params.toList args.toList ds p:=hA0
 have hwt1:(DataW.weightsEach Tryz.prog (Tryz.f3.params.toList++[]) (ds++gs)).all (· <=reachBytes)=true:=hwt
 obtain⟨rfl,rfl⟩:=trodVars_none hV
 rw[Tryz.params3] at hA hval hwt1
 obtain⟨v0,vs0,d0,ds0,p0,q0,hargs0,rfl,rfl,h0,r0⟩:=trodAll_cons hA
 obtain⟨hnil,rfl,rfl⟩:=trodAll_nil r0
 obtain rfl:args= #[v0]:=by cases args;simp_all
 simp only[gT,DataW.weightsEach,List.all_append,jU] at hwt1
 have hw0:=hwt1
 obtain⟨x0,a0,c0,rfl,rep0,g0⟩:=qCb Tryz.underlying22 (qAa (by_:=8) Tryz.underlying22 ag ag (qDi Tryz.underlying3 ag)) (hval 0 22 v0 rfl rfl) h0 hw0
 obtain⟨N,hN⟩:=testgatelaw18_IndexSafe_true x0 g0
 refine(Ur (Ph W) rep0 hN).mono λe W2 ⟨m2,he,hle,st⟩=> ?_
 exact⟨_,he,qEm kids (λht he=>qDl qJh ht he) (gO ag) ag Tryz.underlying4 rfl rfl hW hle st⟩
theorem jf1:Tryz.pinned.checked.prog.inPlace 3=Rows.indexSafeRow.inPlace:=by kernel_rfl
theorem jf2:Tryz.pinned.checked.prog.unfollowed 3=Rows.indexSafeRow.unfollowed:=by kernel_rfl
theorem jf3:Tryz.pinned.checked.prog.recurses 3=Rows.indexSafeRow.recurses:=by kernel_rfl
theorem jf4:Tryz.pinned.checked.prog.varsNamed 3=Rows.indexSafeRow.named:=by kernel_rfl
theorem jf5:joinedFacts Tryz.pinned.checked.prog 3 Tryz.f3 (OpenSpec.ofChange Rows.indexSafeSpec).bare Rows.indexSafeRow=true:=by
 unfold joinedFacts
 rw[jf1,jf2,jf3,jf4]
 kernel_rfl
theorem said:Rows.IndexSafeSaid:=
 OpenClaim.holds_of_cond 3 Tryz.f3 rfl rfl rfl rfl rfl rfl rfl ⟨rfl,rfl,rfl,rfl,rfl⟩ rfl rfl rfl rfl rfl ag Tryz.func3 jf5
  (gO ag) (by unfold Func.isWrapper;first|(rw[jB ae];kernel_rfl)|(rw[jA ae];exact⟨rfl,rfl⟩))
  (λos started H enc _ Fi=>by rw[OpenClaim.pre_eq_preRow];exact qKg os started H enc Fi)
theorem qKp (g : FuncId) (fn : Func) (hf : Tryz.pinned.checked.prog.funcNamed "testgate/testgatelaw18.IndexSafe" = some g) (hfn : Tryz.pinned.checked.prog.funcs[g]? = some fn) :
  false=Tryz.pinned.checked.prog.looks []/\∀(j:Nat) t,fn.params[j]? =some t->Tryz.pinned.checked.prog.wantsStandIn t=false:=by
 obtain rfl : g = 3 := jX ((show Tryz.prog.funcNamed "testgate/testgatelaw18.IndexSafe" = some 3 by kernel_rfl).symm.trans hf) |>.symm
 obtain rfl:fn=Tryz.f3:=(jX (Tryz.func3.symm.trans hfn)).symm
 refine⟨by kernel_rfl,λj t ht=> ?_⟩
 rw[Tryz.params3] at ht
 have hm:=Array.mem_of_getElem? ht
 simp only[List.mem_toArray,jG,gC,hY] at hm
 rcases hm with rfl
 exact(show Tryz.prog.wantsStandIn 22=false by kernel_rfl)
theorem card:Rows.IndexSafeCardSaid:=
 Claim7.holds_tied_plain_at .later [] _ _ _ _ said (λ_ h=>by cases h) ag (λ_ h=>by cases h) indexSafe_row_tie rfl ⟨rfl,rfl⟩ ag rfl qKp ag
#print axioms card
end Go.Proofs.YtgboehjfofcogaaGreatDoor.indexSafe
