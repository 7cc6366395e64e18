import Derived.Test.YtiblcebedkllpaaGreatDoorK4i1
import Derived.Test.YtiblcebedkllpaaGreatDoorCards
import Derived.Test.YtiblcebedkllpaaGreatDoorTie
import Derived.WalkKit
import Derived.ProofKit
import Derived.OpenShut
import Derived.Deep.DeepHandedRow
import Derived.LaidMore
import Derived.SevenTiedAt
namespace Go.Proofs.YtiblcebedkllpaaGreatDoor.indexCalls
open Go Go.Dc Go.ChangeShapes Go.WideShapes Go.ChangeAt Go.RowKit
set_option linter.unusedVariables false
theorem own:ownKnob Tryz.prog.godebug=none:=by kernel_rfl
theorem kids:Kids Tryz.prog (· <Tryz.prog.types.size):=kids_rows (by kernel_rfl) (by kernel_rfl)
theorem slices:zAg Tryz.prog=true:=by kernel_rfl
noncomputable def zAk(cs:Array Value):Obj→Obj
 | .cells _ t frozen=> .cells cs t frozen
 |o=>o
noncomputable def qPz(os:Os):World:=
 {World.holding Tryz.prog os ⟨#[],#[],[]⟩ with heap:=((World.holding Tryz.prog os ⟨#[],#[],[]⟩).heap.modify 1 (zAk (Pinned.utf8FirstZ.map fun x=>Value.int .u8 (Int.ofNat x)).toArray)).modify 2 (zAk #[.int .u8 128,.int .u8 191,.int .u8 160,.int .u8 191,.int .u8 128,.int .u8 159,.int .u8 144,.int .u8 191,.int .u8 128,.int .u8 143,.int .u8 0,.int .u8 0,.int .u8 0,.int .u8 0,.int .u8 0,.int .u8 0,.int .u8 0,.int .u8 0,.int .u8 0,.int .u8 0,.int .u8 0,.int .u8 0,.int .u8 0,.int .u8 0,.int .u8 0,.int .u8 0,.int .u8 0,.int .u8 0,.int .u8 0,.int .u8 0,.int .u8 0,.int .u8 0])}
set_option maxRecDepth 100000 in
theorem zBy(os:Os):laidMet Tryz.prog Rows.indexCallsUptoRow.laid ((qPz os).forCall (fun _ _=>0) ⟨#[],#[.slice none 0 0,.agg #[.slice none 0 0,.int .i64 0],.agg #[.string ⟨#[]⟩,.string ⟨#[]⟩,.int .i64 0,.int .i64 0,.int .i64 0,.int .i64 0,.int .i64 0,.int .i64 0,.bool false,.slice none 0 0]],[]⟩).memory:=
 laidMet_of_run' 8 (by kernel_rfl) (by kernel_rfl)
set_option maxRecDepth 100000 in
theorem lifted(os:Os)(started:os.Started)(H:Type)(enc:TypeId×Value→H)(Fi:Stop.Interp):
  ReturnsInHanded {} Tryz.checked os 5 .any ((Rows.OpenSpec.upto Rows.indexCallsSpec).preRow enc Tryz.prog Tryz.f5 Rows.indexCallsUptoRow.domain false Rows.indexCallsUptoRow.laid) (((Rows.OpenSpec.upto Rows.indexCallsSpec).at Fi).post enc Tryz.prog Tryz.f5 false true false false):=by
 refine returnsInHanded_of_row (C:=Tryz.checked) (s:=Rows.OpenSpec.upto Rows.indexCallsSpec) own started (by kernel_rfl) Tryz.func5
  (witness_row_at (enc:=enc) (C:=Tryz.checked) false (qPz os) #[.slice none 0 0,.agg #[.slice none 0 0,.int .i64 0],.agg #[.string ⟨#[]⟩,.string ⟨#[]⟩,.int .i64 0,.int .i64 0,.int .i64 0,.int .i64 0,.int .i64 0,.int .i64 0,.bool false,.slice none 0 0]] rfl (by kernel_rfl) (by kernel_rfl) (by kernel_rfl)
   (OpenSpec.preRow_of_cond 8 (show DataW.whole enc Tryz.prog ((qPz os).forCall (fun _ _=>0) ⟨#[],#[.slice none 0 0,.agg #[.slice none 0 0,.int .i64 0],.agg #[.string ⟨#[]⟩,.string ⟨#[]⟩,.int .i64 0,.int .i64 0,.int .i64 0,.int .i64 0,.int .i64 0,.int .i64 0,.bool false,.slice none 0 0]],[]⟩).memory Tryz.f5.params.toList Rows.indexCallsSpec.vars false #[.slice none 0 0,.agg #[.slice none 0 0,.int .i64 0],.agg #[.string ⟨#[]⟩,.string ⟨#[]⟩,.int .i64 0,.int .i64 0,.int .i64 0,.int .i64 0,.int .i64 0,.int .i64 0,.bool false,.slice none 0 0]].toList 8=some ([.nil,.agg [.nil,.lit (.int .i64 0)],.agg [.agg [.lit (.string []),.lit (.string [])],.lit (.int .i64 0),.lit (.int .i64 0),.lit (.int .i64 0),.agg [.lit (.int .i64 0),.lit (.int .i64 0),.lit (.int .i64 0)],.lit (.bool false),.nil]],[],[]) by kernel_rfl) (by kernel_rfl) (fun k hk=>by cases hk;kernel_rfl) (by kernel_rfl) (zBy os))) ?_
 intro W base args ds gs before hval0 hW hcnd hcond hwt _ _ _
 have hval:∀(j:Nat) t v,Tryz.f5.params[j]? =some t→args[j]? =some v→Value.okWide Tryz.prog W .any base t v:=hval0
 have hW1:=hW
 obtain⟨p,q,hA0,hV,rfl,hfz,hnd⟩:=hW1
 have hA:DataW.TrodAll enc Tryz.prog W 0 (fun _=>true) true Tryz.f5.params.toList args.toList ds p:=hA0
 have hwt1:(DataW.weightsEach Tryz.prog (Tryz.f5.params.toList++[]) (ds++gs)).all (· ≤reachBytes)=true:=hwt
 obtain⟨rfl,rfl⟩:=trodVars_none hV
 have hb0:decide (Rows.uptoBulkAll (ds++[])≤1048576)=true:=hcond _ rfl
 have hbk:=g9 hb0
 clear hb0
 rw[Tryz.params5] at hA hval hwt1
 obtain⟨v0,vs0,d0,ds0,p0,q0,hargs0,rfl,rfl,h0,r0⟩:=trodAll_cons hA
 obtain⟨v1,vs1,d1,ds1,p1,q1,hargs1,rfl,rfl,h1,r1⟩:=trodAll_cons r0
 obtain⟨v2,vs2,d2,ds2,p2,q2,hargs2,rfl,rfl,h2,r2⟩:=trodAll_cons r1
 obtain⟨hnil,rfl,rfl⟩:=trodAll_nil r2
 obtain rfl:args= #[v0,v1,v2]:=by cases args;simp_all
 simp only[gO,Rows.uptoBulkAll] at hbk
 simp only[gO,DataW.weightsEach,List.all_append,jX] at hwt1
 obtain⟨hw0,hw1,hw2⟩:=hwt1
 obtain⟨x0,a0,c0,rfl,rep0,g0⟩:=qYy Tryz.underlying22 (qKa Tryz.underlying22 (by kernel_rfl) (qFd Tryz.underlying3 (by kernel_rfl))) (hval 0 22 v0 rfl rfl) h0 (by omega)
 obtain⟨x1,cs1,rfl,⟨_,_,hcs1,⟨a1_0,c1_0,rfl,rep1_0⟩,rfl⟩,g1⟩:=qPi Tryz.underlying56 (qFl Tryz.underlying56 (by kernel_rfl) (qCb rfl (qKa Tryz.underlying54 (by kernel_rfl) (qFl Tryz.underlying71 (by kernel_rfl) (qCb rfl (qFl Tryz.underlying51 (by kernel_rfl) (qCb rfl (qFd Tryz.underlying3 (by kernel_rfl)) (qCb rfl (qJl Tryz.underlying9 (by kernel_rfl)) (qGu rfl (qJl Tryz.underlying9 (by kernel_rfl)))))) (qGu rfl (qKa Tryz.underlying22 (by kernel_rfl) (qFd Tryz.underlying3 (by kernel_rfl))))))) (qGu rfl (qFd Tryz.underlying3 (by kernel_rfl))))) (hval 1 56 v1 rfl rfl) h1 (by omega)
 obtain rfl:cs1= #[.slice a1_0 x1.1.length c1_0,.int .i64 x1.2]:=Array.toList_inj.1 hcs1
 obtain⟨x2,cs2,rfl,⟨_,_,hcs2,⟨_,_,rfl,rfl,rfl⟩,⟨_,_,rfl,rfl,⟨_,_,rfl,rfl,⟨_,_,rfl,rfl,⟨_,_,rfl,⟨_,_,rfl,rfl,⟨_,_,rfl,rfl,rfl⟩⟩,⟨_,_,rfl,rfl,⟨a2_0,c2_0,rfl,rep2_0⟩⟩⟩⟩⟩⟩⟩,g2⟩:=qPi Tryz.underlying63 (qFl Tryz.underlying63 (by kernel_rfl) (qCb rfl (qFl Tryz.underlying58 (by kernel_rfl) (qCb rfl (qJl Tryz.underlying9 (by kernel_rfl)) (qGu rfl (qJl Tryz.underlying9 (by kernel_rfl))))) (qCb rfl (qFd Tryz.underlying3 (by kernel_rfl)) (qCb rfl (qFd Tryz.underlying3 (by kernel_rfl)) (qCb rfl (qFd Tryz.underlying3 (by kernel_rfl)) (qCb rfl (qFl Tryz.underlying60 (by kernel_rfl) (qCb rfl (qFd Tryz.underlying3 (by kernel_rfl)) (qCb rfl (qFd Tryz.underlying3 (by kernel_rfl)) (qGu rfl (qFd Tryz.underlying41 (by kernel_rfl)))))) (qCb rfl (qWk Tryz.underlying4 (by kernel_rfl)) (qGu rfl (qKa Tryz.underlying61 (by kernel_rfl) (qFl Tryz.underlying123 (by kernel_rfl) (qCb rfl (qFl Tryz.underlying51 (by kernel_rfl) (qCb rfl (qFd Tryz.underlying3 (by kernel_rfl)) (qCb rfl (qJl Tryz.underlying9 (by kernel_rfl)) (qGu rfl (qJl Tryz.underlying9 (by kernel_rfl)))))) (qGu rfl (qFd Tryz.underlying3 (by kernel_rfl)))))))))))))) (hval 2 63 v2 rfl rfl) h2 (by omega)
 obtain rfl:cs2= #[.string x2.1.1,.string x2.1.2,.int .i64 x2.2.1,.int .i64 x2.2.2.1,.int .i64 x2.2.2.2.1,.int .i64 x2.2.2.2.2.1.1,.int .i64 x2.2.2.2.2.1.2.1,.int .i64 x2.2.2.2.2.1.2.2,.bool x2.2.2.2.2.2.1,.slice a2_0 x2.2.2.2.2.2.2.length c2_0]:=Array.toList_inj.1 hcs2
 obtain⟨N,hN⟩:=testgatelaw18_IndexCalls_true x0 g0 x1 g1 x2 g2
 refine(qJq (qZs W) rep0 rep1_0 rep2_0 hN).mono fun e W2 ⟨m2,he,hle,st⟩=> ?_
 exact⟨_,he,zBg kids (fun ht he=>zAn slices ht he) (g9 (by kernel_rfl)) (by kernel_rfl) Tryz.underlying4 rfl rfl hW hle st⟩
theorem said:Rows.IndexCallsUptoSaid:=
 OpenClaim.holds_of_cond 5 Tryz.f5 rfl rfl rfl rfl rfl rfl rfl ⟨rfl,rfl,rfl,rfl,rfl⟩ rfl rfl rfl rfl rfl (by kernel_rfl) Tryz.func5 (by kernel_rfl)
  (g9 (by kernel_rfl)) (by unfold Func.isWrapper;first|(rw[if_pos (by decide+kernel)];kernel_rfl)|(rw[if_neg (by decide+kernel)];exact⟨rfl,rfl⟩))
  (fun os started H enc _ Fi=>by rw[OpenClaim.pre_eq_preRow];exact lifted os started H enc Fi)
theorem plain (g : FuncId) (fn : Func) (hf : Tryz.pinned.checked.prog.funcNamed "testgate/testgatelaw18.IndexCalls" = some g) (hfn : Tryz.pinned.checked.prog.funcs[g]? = some fn) :
  true=Tryz.pinned.checked.prog.looks []∧∀(j:Nat) t,fn.params[j]? =some t→Tryz.pinned.checked.prog.wantsStandIn t=false:=by
 obtain rfl : g = 5 := gL ((show Tryz.prog.funcNamed "testgate/testgatelaw18.IndexCalls" = some 5 by kernel_rfl).symm.trans hf) |>.symm
 obtain rfl:fn=Tryz.f5:=(gL (Tryz.func5.symm.trans hfn)).symm
 refine⟨by kernel_rfl,fun j t ht=> ?_⟩
 rw[Tryz.params5] at ht
 have hm:=Array.mem_of_getElem? ht
 simp only[List.mem_toArray,jD,jU,gH] at hm
 rcases hm with rfl|rfl|rfl
 ·exact(show Tryz.prog.wantsStandIn 22=false by kernel_rfl)
 ·exact(show Tryz.prog.wantsStandIn 56=false by kernel_rfl)
 ·exact(show Tryz.prog.wantsStandIn 63=false by kernel_rfl)
theorem card:Rows.IndexCallsUptoCardSaid:=
 Claim7.holds_tied_plain_at .later [] _ _ _ _ said (fun _ h=>by cases h) (by kernel_rfl) (fun _ h=>by cases h) indexCallsUpto_row_tie rfl ⟨rfl,rfl⟩ (by kernel_rfl) rfl plain (by kernel_rfl)
#print axioms card
end Go.Proofs.YtiblcebedkllpaaGreatDoor.indexCalls
