import Derived.Test.YthfgphcennamkaaGreatDoorK6w5
import Derived.Test.YthfgphcennamkaaGreatDoorCards
import Derived.Test.YthfgphcennamkaaGreatDoorTie
import Derived.WalkKit
import Derived.ProofKit
import Derived.OpenShut
import Derived.Deep.DeepHandedRow
import Derived.LaidMore
import Derived.SevenTiedAt
namespace Go.Proofs.YthfgphcennamkaaGreatDoor.evaluateWords
open Go Go.Dc Go.ChangeShapes Go.WideShapes Go.ChangeAt Go.RowKit
set_option linter.unusedVariables false
theorem own:ownKnob Tryz.prog.godebug=none:=by kernel_rfl
theorem kids:Kids Tryz.prog (· <Tryz.prog.types.size):=kids_rows af af
theorem qTn:qDl Tryz.prog=true:=by kernel_rfl
noncomputable def qCm(cs:Array Value):Obj->Obj
 | .cells _ t frozen=> .cells cs t frozen
 |o=>o
noncomputable def SJ(os:Os):World:=
 {World.holding Tryz.prog os ⟨#[],#[],[]⟩ with heap:=(((World.holding Tryz.prog os ⟨#[],#[],[]⟩).heap).modify 1 (qCm ((Pinned.utf8FirstZ.map fun x=>Value.int .u8 (Int.ofNat x)).toArray))).modify 2 (qCm (#[.int .u8 128,.int .u8 191,.int .u8 160,.int .u8 191,.int .u8 128,.int .u8 159,.int .u8 144,.int .u8 191,.int .u8 128,.int .u8 143,.int .u8 0,.int .u8 0,.int .u8 0,.int .u8 0,.int .u8 0,.int .u8 0,.int .u8 0,.int .u8 0,.int .u8 0,.int .u8 0,.int .u8 0,.int .u8 0,.int .u8 0,.int .u8 0,.int .u8 0,.int .u8 0,.int .u8 0,.int .u8 0,.int .u8 0,.int .u8 0,.int .u8 0,.int .u8 0]))}
set_option maxRecDepth 100000 in
theorem qPz(os:Os):laidMet Tryz.prog Rows.evaluateWordsRow.laid ((SJ os).forCall (fun _ _=>0) ⟨#[],#[.slice none 0 0,.int .u64 0,.int .u64 0],[]⟩).memory:=
 laidMet_of_run' 8 af af
set_option maxRecDepth 100000 in
theorem qSk(os:Os)(started:os.Started)(H:Type)(enc:TypeId×Value->H)(Fi:Stop.Interp):
  ReturnsInHanded {} Tryz.checked os 3 .any ((OpenSpec.ofChange Rows.evaluateWordsSpec).preRow enc Tryz.prog Tryz.f3 Rows.evaluateWordsRow.domain false Rows.evaluateWordsRow.laid) (((OpenSpec.ofChange Rows.evaluateWordsSpec).at Fi).post enc Tryz.prog Tryz.f3 false true false false):=by
 refine returnsInHanded_of_row (C:=Tryz.checked) (s:=OpenSpec.ofChange Rows.evaluateWordsSpec) own started af Tryz.func3
  (witness_row_at (enc:=enc) (C:=Tryz.checked) false (SJ os) #[.slice none 0 0,.int .u64 0,.int .u64 0] rfl af af af
   (OpenSpec.preRow_of_cond 8 (show DataW.whole enc Tryz.prog ((SJ os).forCall (fun _ _=>0) ⟨#[],#[.slice none 0 0,.int .u64 0,.int .u64 0],[]⟩).memory Tryz.f3.params.toList Rows.evaluateWordsSpec.vars false #[.slice none 0 0,.int .u64 0,.int .u64 0].toList 8=some ([.nil,.lit (.int .u64 0),.lit (.int .u64 0)],[],[]) by kernel_rfl) af (fun k hk=>by cases hk) af (qPz os))) ?_
 intro W base args ds gs before hval0 hW hcnd _ hwt _ _ _
 have hval:∀(j:Nat) t v,Tryz.f3.params[j]? =some t->args[j]? =some v->Value.okWide Tryz.prog W .any base t v:=hval0
 have hW1:=hW
 obtain⟨p,q,hA0,hV,rfl,hfz,hnd⟩:=hW1
 have hA:DataW.TrodAll enc Tryz.prog W 0 (fun _=>true) true Tryz.f3.params.toList args.toList ds p:=hA0
 have hwt1:(DataW.weightsEach Tryz.prog (Tryz.f3.params.toList++[]) (ds++gs)).all (· <=reachBytes)=true:=hwt
 obtain⟨rfl,rfl⟩:=trodVars_none hV
 rw[Tryz.params3] at hA hval hwt1
 obtain⟨v0,vs0,d0,ds0,p0,q0,hargs0,rfl,rfl,h0,r0⟩:=trodAll_cons hA
 obtain⟨v1,vs1,d1,ds1,p1,q1,hargs1,rfl,rfl,h1,r1⟩:=trodAll_cons r0
 obtain⟨v2,vs2,d2,ds2,p2,q2,hargs2,rfl,rfl,h2,r2⟩:=trodAll_cons r1
 obtain⟨hnil,rfl,rfl⟩:=trodAll_nil r2
 obtain rfl:args= #[v0,v1,v2]:=by cases args;simp_all
 simp only[gO,DataW.weightsEach,List.all_append,jK] at hwt1
 obtain⟨hw0,hw1,hw2⟩:=hwt1
 obtain⟨x0,a0,c0,rfl,rep0,g0⟩:=qNd Tryz.underlying22 (qJx (by_:=8) Tryz.underlying22 af af (qMg Tryz.underlying3 af)) (hval 0 22 v0 rfl rfl) h0 hw0
 obtain⟨x1,rfl,g1⟩:=qCz Tryz.underlying23 (hval 1 23 v1 rfl rfl) h1
 obtain⟨x2,rfl,g2⟩:=qCz Tryz.underlying23 (hval 2 23 v2 rfl rfl) h2
 obtain⟨N,hN⟩:=testgatelaw10_EvaluateWords_true x0 g0 x1 g1 x2 g2
 refine(qFo (qDc W) rep0 hN).mono fun e W2 ⟨m2,he,hle,st⟩=> ?_
 exact⟨_,he,qPj kids (fun ht he=>qMj qTn ht he) (gA af) af Tryz.underlying4 rfl rfl hW hle st⟩
theorem jf1:Tryz.pinned.checked.prog.inPlace 3=Rows.evaluateWordsRow.inPlace:=by kernel_rfl
theorem jf2:Tryz.pinned.checked.prog.unfollowed 3=Rows.evaluateWordsRow.unfollowed:=by kernel_rfl
theorem jf3:Tryz.pinned.checked.prog.recurses 3=Rows.evaluateWordsRow.recurses:=by kernel_rfl
theorem jf4:Tryz.pinned.checked.prog.varsNamed 3=Rows.evaluateWordsRow.named:=by kernel_rfl
theorem jf5:joinedFacts Tryz.pinned.checked.prog 3 Tryz.f3 (OpenSpec.ofChange Rows.evaluateWordsSpec).bare Rows.evaluateWordsRow=true:=by
 unfold joinedFacts
 rw[jf1,jf2,jf3,jf4]
 kernel_rfl
theorem said:Rows.EvaluateWordsSaid:=
 OpenClaim.holds_of_cond 3 Tryz.f3 rfl rfl rfl rfl rfl rfl rfl ⟨rfl,rfl,rfl,rfl,rfl⟩ rfl rfl rfl rfl rfl af Tryz.func3 jf5
  (gA af) (by unfold Func.isWrapper;first|(rw[if_pos ae];kernel_rfl)|(rw[if_neg ae];exact⟨rfl,rfl⟩))
  (fun os started H enc _ Fi=>by rw[OpenClaim.pre_eq_preRow];exact qSk os started H enc Fi)
theorem qUh (g : FuncId) (fn : Func) (hf : Tryz.pinned.checked.prog.funcNamed "testgate/testgatelaw10.EvaluateWords" = some g) (hfn : Tryz.pinned.checked.prog.funcs[g]? = some fn) :
  true=Tryz.pinned.checked.prog.looks []/\∀(j:Nat) t,fn.params[j]? =some t->Tryz.pinned.checked.prog.wantsStandIn t=false:=by
 obtain rfl : g = 3 := jC ((show Tryz.prog.funcNamed "testgate/testgatelaw10.EvaluateWords" = some 3 by kernel_rfl).symm.trans hf) |>.symm
 obtain rfl:fn=Tryz.f3:=(jC (Tryz.func3.symm.trans hfn)).symm
 refine⟨by kernel_rfl,fun j t ht=> ?_⟩
 rw[Tryz.params3] at ht
 have hm:=Array.mem_of_getElem? ht
 simp only[List.mem_toArray,jJ,gP,or_false] at hm
 rcases hm with rfl|rfl|rfl
 .exact(show Tryz.prog.wantsStandIn 22=false by kernel_rfl)
 .exact(show Tryz.prog.wantsStandIn 23=false by kernel_rfl)
 exact(show Tryz.prog.wantsStandIn 23=false by kernel_rfl)
theorem card:Rows.EvaluateWordsCardSaid:=
 Claim7.holds_tied_plain_at .later [] _ _ _ _ said (fun _ h=>by cases h) af (fun _ h=>by cases h) evaluateWords_row_tie rfl ⟨rfl,rfl⟩ af rfl qUh af
#print axioms card
end Go.Proofs.YthfgphcennamkaaGreatDoor.evaluateWords
