import Derived.Test.YtiblcebedkllpaaGreatDoorK6d2
import Derived.Test.YtiblcebedkllpaaGreatDoorCards
import Derived.Test.YtiblcebedkllpaaGreatDoorTie
import Derived.WalkKit
import Derived.ProofKit
import Derived.OpenShut
import Derived.Deep.DeepHandedRow
import Derived.LaidMore
import Derived.SevenTiedAt
namespace Go.Proofs.YtiblcebedkllpaaGreatDoor.resolveCalls
open Go Go.Dc Go.ChangeShapes Go.WideShapes Go.ChangeAt Go.RowKit
set_option linter.unusedVariables false
theorem own:ownKnob Tryz.prog.godebug=none:=by kernel_rfl
theorem kids:Kids Tryz.prog (· <Tryz.prog.types.size):=kids_rows (by kernel_rfl) (by kernel_rfl)
theorem slices:zLg Tryz.prog=true:=by kernel_rfl
noncomputable def zJp(cs:Array Value):Obj→Obj
 | .cells _ t frozen=> .cells cs t frozen
 |o=>o
noncomputable def qXu(os:Os):World:=
 {World.holding Tryz.prog os ⟨#[],#[],[]⟩ with heap:=((World.holding Tryz.prog os ⟨#[],#[],[]⟩).heap.modify 1 (zJp (Pinned.utf8FirstZ.map fun x=>Value.int .u8 (Int.ofNat x)).toArray)).modify 2 (zJp #[.int .u8 128,.int .u8 191,.int .u8 160,.int .u8 191,.int .u8 128,.int .u8 159,.int .u8 144,.int .u8 191,.int .u8 128,.int .u8 143,.int .u8 0,.int .u8 0,.int .u8 0,.int .u8 0,.int .u8 0,.int .u8 0,.int .u8 0,.int .u8 0,.int .u8 0,.int .u8 0,.int .u8 0,.int .u8 0,.int .u8 0,.int .u8 0,.int .u8 0,.int .u8 0,.int .u8 0,.int .u8 0,.int .u8 0,.int .u8 0,.int .u8 0,.int .u8 0])}
set_option maxRecDepth 100000 in
theorem zMp(os:Os):laidMet Tryz.prog Rows.resolveCallsUptoRow.laid ((qXu os).forCall (fun _ _=>0) ⟨#[],#[.slice none 0 0,.agg #[.slice none 0 0],.string ⟨#[]⟩],[]⟩).memory:=
 laidMet_of_run' 8 (by kernel_rfl) (by kernel_rfl)
set_option maxRecDepth 100000 in
theorem lifted(os:Os)(started:os.Started)(H:Type)(enc:TypeId×Value→H)(Fi:Stop.Interp):
  ReturnsInHanded {} Tryz.checked os 3 .any ((Rows.OpenSpec.upto Rows.resolveCallsSpec).preRow enc Tryz.prog Tryz.f3 Rows.resolveCallsUptoRow.domain false Rows.resolveCallsUptoRow.laid) (((Rows.OpenSpec.upto Rows.resolveCallsSpec).at Fi).post enc Tryz.prog Tryz.f3 false true false false):=by
 refine returnsInHanded_of_row (C:=Tryz.checked) (s:=Rows.OpenSpec.upto Rows.resolveCallsSpec) own started (by kernel_rfl) Tryz.func3
  (witness_row_at (enc:=enc) (C:=Tryz.checked) false (qXu os) #[.slice none 0 0,.agg #[.slice none 0 0],.string ⟨#[]⟩] rfl (by kernel_rfl) (by kernel_rfl) (by kernel_rfl)
   (OpenSpec.preRow_of_cond 8 (show DataW.whole enc Tryz.prog ((qXu os).forCall (fun _ _=>0) ⟨#[],#[.slice none 0 0,.agg #[.slice none 0 0],.string ⟨#[]⟩],[]⟩).memory Tryz.f3.params.toList Rows.resolveCallsSpec.vars false #[.slice none 0 0,.agg #[.slice none 0 0],.string ⟨#[]⟩].toList 8=some ([.nil,.agg [.nil],.lit (.string [])],[],[]) by kernel_rfl) (by kernel_rfl) (fun k hk=>by cases hk;kernel_rfl) (by kernel_rfl) (zMp os))) ?_
 intro W base args ds gs before hval0 hW hcnd hcond hwt _ _ _
 have hval:∀(j:Nat) t v,Tryz.f3.params[j]? =some t→args[j]? =some v→Value.okWide Tryz.prog W .any base t v:=hval0
 have hW1:=hW
 obtain⟨p,q,hA0,hV,rfl,hfz,hnd⟩:=hW1
 have hA:DataW.TrodAll enc Tryz.prog W 0 (fun _=>true) true Tryz.f3.params.toList args.toList ds p:=hA0
 have hwt1:(DataW.weightsEach Tryz.prog (Tryz.f3.params.toList++[]) (ds++gs)).all (· ≤reachBytes)=true:=hwt
 obtain⟨rfl,rfl⟩:=trodVars_none hV
 have hb0:decide (Rows.uptoBulkAll (ds++[])≤1048576)=true:=hcond _ rfl
 have hbk:=kJ hb0
 clear hb0
 rw[Tryz.params3] at hA hval hwt1
 obtain⟨v0,vs0,d0,ds0,p0,q0,hargs0,rfl,rfl,h0,r0⟩:=trodAll_cons hA
 obtain⟨v1,vs1,d1,ds1,p1,q1,hargs1,rfl,rfl,h1,r1⟩:=trodAll_cons r0
 obtain⟨v2,vs2,d2,ds2,p2,q2,hargs2,rfl,rfl,h2,r2⟩:=trodAll_cons r1
 obtain⟨hnil,rfl,rfl⟩:=trodAll_nil r2
 obtain rfl:args= #[v0,v1,v2]:=by cases args;simp_all
 simp only[List.append_nil,Rows.uptoBulkAll] at hbk
 simp only[List.append_nil,DataW.weightsEach,List.all_append,jS] at hwt1
 obtain⟨hw0,hw1,hw2⟩:=hwt1
 obtain⟨x0,a0,c0,rfl,rep0,g0⟩:=zHv Tryz.underlying22 (qWd Tryz.underlying22 (by kernel_rfl) (zHz Tryz.underlying3 (by kernel_rfl))) (hval 0 22 v0 rfl rfl) h0 (by omega)
 obtain⟨x1,cs1,rfl,⟨a1,c1,hcs1,rep1⟩,g1⟩:=zFd Tryz.underlying25 (qUv Tryz.underlying25 (by kernel_rfl) (qYs rfl (qWd Tryz.underlying23 (by kernel_rfl) (qUv Tryz.underlying101 (by kernel_rfl) (zEi rfl (qVj Tryz.underlying9 (by kernel_rfl)) (qYs rfl (qVj Tryz.underlying9 (by kernel_rfl)))))))) (hval 1 25 v1 rfl rfl) h1 (by omega)
 obtain rfl:cs1= #[.slice a1 x1.length c1]:=Array.toList_inj.1 hcs1
 obtain⟨x2,rfl,g2⟩:=zNf Tryz.underlying9 (by kernel_rfl) (hval 2 9 v2 rfl rfl) h2 (by omega)
 obtain⟨N,hN⟩:=testgatelaw09_ResolveCalls_true x0 g0 x1 g1 x2 g2
 refine(qOo (zOn W) rep0 rep1 hN).mono fun e W2 ⟨m2,he,hle,st⟩=> ?_
 exact⟨_,he,zMx kids (fun ht he=>zKg slices ht he) (kJ (by kernel_rfl)) (by kernel_rfl) Tryz.underlying4 rfl rfl hW hle st⟩
theorem said:Rows.ResolveCallsUptoSaid:=
 OpenClaim.holds_of_cond 3 Tryz.f3 rfl rfl rfl rfl rfl rfl rfl ⟨rfl,rfl,rfl,rfl,rfl⟩ rfl rfl rfl rfl rfl (by kernel_rfl) Tryz.func3 (by kernel_rfl)
  (kJ (by kernel_rfl)) (by unfold Func.isWrapper;first|(rw[if_pos (by decide+kernel)];kernel_rfl)|(rw[if_neg (by decide+kernel)];exact⟨rfl,rfl⟩))
  (fun os started H enc _ Fi=>by rw[OpenClaim.pre_eq_preRow];exact lifted os started H enc Fi)
theorem plain (g : FuncId) (fn : Func) (hf : Tryz.pinned.checked.prog.funcNamed "testgate/testgatelaw09.ResolveCalls" = some g) (hfn : Tryz.pinned.checked.prog.funcs[g]? = some fn) :
  true=Tryz.pinned.checked.prog.looks []∧∀(j:Nat) t,fn.params[j]? =some t→Tryz.pinned.checked.prog.wantsStandIn t=false:=by
 obtain rfl : g = 3 := jG ((show Tryz.prog.funcNamed "testgate/testgatelaw09.ResolveCalls" = some 3 by kernel_rfl).symm.trans hf) |>.symm
 obtain rfl:fn=Tryz.f3:=(jG (Tryz.func3.symm.trans hfn)).symm
 refine⟨by kernel_rfl,fun j t ht=> ?_⟩
 rw[Tryz.params3] at ht
 have hm:=Array.mem_of_getElem? ht
 simp only[List.mem_toArray,jO,gN,or_false] at hm
 rcases hm with rfl|rfl|rfl
 ·exact(show Tryz.prog.wantsStandIn 22=false by kernel_rfl)
 ·exact(show Tryz.prog.wantsStandIn 25=false by kernel_rfl)
 ·exact(show Tryz.prog.wantsStandIn 9=false by kernel_rfl)
theorem card:Rows.ResolveCallsUptoCardSaid:=
 Claim7.holds_tied_plain_at .later [] _ _ _ _ said (fun _ h=>by cases h) (by kernel_rfl) (fun _ h=>by cases h) resolveCallsUpto_row_tie rfl ⟨rfl,rfl⟩ (by kernel_rfl) rfl plain (by kernel_rfl)
#print axioms card
end Go.Proofs.YtiblcebedkllpaaGreatDoor.resolveCalls
