import Derived.Test.YtcdpbapbpcpflaaGreatDoorK4q1
import Derived.Test.YtcdpbapbpcpflaaGreatDoorCards
import Derived.Test.YtcdpbapbpcpflaaGreatDoorTie
import Derived.WalkKit
import Derived.ProofKit
import Derived.Lib.LaidTab
import Derived.Lib.ItoaNum
import Derived.Stop.LaidErr
import Derived.OpenShut
import Derived.Deep.DeepHandedRow
import Derived.LaidMore
import Derived.SevenTiedAt
namespace Go.Proofs.YtcdpbapbpcpflaaGreatDoor.sourceParens
open Go Go.Dc Go.ChangeShapes Go.WideShapes Go.ChangeAt Go.RowKit
set_option linter.unusedVariables false
theorem own:ownKnob Tryz.prog.godebug=none:=by kernel_rfl
theorem kids:Kids Tryz.prog (· <Tryz.prog.types.size):=kids_rows (by kernel_rfl) (by kernel_rfl)
theorem slices:zCw Tryz.prog=true:=by kernel_rfl
noncomputable def qRr(cs:Array Value):Obj→Obj
 | .cells _ t frozen=> .cells cs t frozen
 |o=>o
noncomputable def qQt(os:Os):World:=
 {World.holding Tryz.prog os ⟨#[],#[],[]⟩ with heap:=((((((World.holding Tryz.prog os ⟨#[],#[],[]⟩).heap).modify 1 (qRr (#[.int .u64 1,.int .u64 10,.int .u64 100,.int .u64 1000,.int .u64 10000,.int .u64 100000,.int .u64 1000000,.int .u64 10000000,.int .u64 100000000,.int .u64 1000000000,.int .u64 10000000000,.int .u64 100000000000,.int .u64 1000000000000,.int .u64 10000000000000,.int .u64 100000000000000,.int .u64 1000000000000000,.int .u64 10000000000000000,.int .u64 100000000000000000,.int .u64 1000000000000000000,.int .u64 10000000000000000000]))).modify 2 (qRr ((Pinned.utf8FirstZ.map fun x=>Value.int .u8 (Int.ofNat x)).toArray))).modify 3 (qRr (#[.int .u8 128,.int .u8 191,.int .u8 160,.int .u8 191,.int .u8 128,.int .u8 159,.int .u8 144,.int .u8 191,.int .u8 128,.int .u8 143,.int .u8 0,.int .u8 0,.int .u8 0,.int .u8 0,.int .u8 0,.int .u8 0,.int .u8 0,.int .u8 0,.int .u8 0,.int .u8 0,.int .u8 0,.int .u8 0,.int .u8 0,.int .u8 0,.int .u8 0,.int .u8 0,.int .u8 0,.int .u8 0,.int .u8 0,.int .u8 0,.int .u8 0,.int .u8 0]))).modify 4 (qRr (#[.int .u8 0,.int .u8 1,.int .u8 28,.int .u8 2,.int .u8 29,.int .u8 14,.int .u8 24,.int .u8 3,.int .u8 30,.int .u8 22,.int .u8 20,.int .u8 15,.int .u8 25,.int .u8 17,.int .u8 4,.int .u8 8,.int .u8 31,.int .u8 27,.int .u8 13,.int .u8 23,.int .u8 21,.int .u8 19,.int .u8 16,.int .u8 7,.int .u8 26,.int .u8 12,.int .u8 18,.int .u8 6,.int .u8 11,.int .u8 5,.int .u8 10,.int .u8 9]))).modify 5 (qRr (#[.int .u8 0,.int .u8 1,.int .u8 56,.int .u8 2,.int .u8 57,.int .u8 49,.int .u8 28,.int .u8 3,.int .u8 61,.int .u8 58,.int .u8 42,.int .u8 50,.int .u8 38,.int .u8 29,.int .u8 17,.int .u8 4,.int .u8 62,.int .u8 47,.int .u8 59,.int .u8 36,.int .u8 45,.int .u8 43,.int .u8 51,.int .u8 22,.int .u8 53,.int .u8 39,.int .u8 33,.int .u8 30,.int .u8 24,.int .u8 18,.int .u8 12,.int .u8 5,.int .u8 63,.int .u8 55,.int .u8 48,.int .u8 27,.int .u8 60,.int .u8 41,.int .u8 37,.int .u8 16,.int .u8 46,.int .u8 35,.int .u8 44,.int .u8 21,.int .u8 52,.int .u8 32,.int .u8 23,.int .u8 11,.int .u8 54,.int .u8 26,.int .u8 40,.int .u8 15,.int .u8 34,.int .u8 20,.int .u8 31,.int .u8 10,.int .u8 25,.int .u8 14,.int .u8 19,.int .u8 9,.int .u8 13,.int .u8 8,.int .u8 7,.int .u8 6]))}
set_option maxRecDepth 100000 in
theorem zDs(os:Os):laidMet Tryz.prog Rows.sourceParensRow.laid ((qQt os).forCall (fun _ _=>0) ⟨#[],#[.int .u8 0,.int .u8 0,.int .u16 0,.int .u16 0,.int .u16 0],[]⟩).memory:=
 laidMet_of_run' 8 (by kernel_rfl) (by kernel_rfl)
theorem tab_w{W:World}(h:laidMet Tryz.prog Rows.sourceParensRow.laid W):TabW W:=by
 have e : Rows.sourceParensRow.laid.drop 2 = ("internal/strconv.uint64pow10", Lib.tabData .u64 Lib.pow10Tab) :: Rows.sourceParensRow.laid.drop (2 + 1) := by kernel_rfl
 have h1:laidMet Tryz.prog (Rows.sourceParensRow.laid.drop 2) W:=laidMet.tail (laidMet.tail (h))
 rw[e] at h1
 have hg : Tryz.prog.globalNamed "internal/strconv.uint64pow10" = some 1 := by kernel_rfl
 have h2:=Lib.tabIs_of_head (n:=20) hg (show(Tryz.prog.globals[1]?).map (·.type)=some 315 by kernel_rfl) (show Tryz.prog.underlying 315=some (.array 20 232) by kernel_rfl) (show Tryz.prog.underlying 232=some (.int .u64) by kernel_rfl) (by kernel_rfl) (by kernel_rfl) h1
 refine⟨fun p hp=> ?_⟩
 obtain rfl:=jW.1 hp
 unfold Lib.TabIs World.var? at h2
 rw[hg] at h2
 simp only[j0] at h2
 split at h2
 ·rename_i cs t f hh
  refine⟨t,f,?_⟩
  rw[show((1:Nat),_).1=1 from rfl,hh,jD h2]
  rfl
 ·cases h2
set_option maxRecDepth 100000 in
theorem lifted(os:Os)(started:os.Started)(H:Type)(enc:TypeId×Value→H)(Fi:Stop.Interp):
  ReturnsInHanded {} Tryz.checked os 4 .any ((OpenSpec.ofChange Rows.sourceParensSpec).preRow enc Tryz.prog Tryz.f4 Rows.sourceParensRow.domain false Rows.sourceParensRow.laid) (((OpenSpec.ofChange Rows.sourceParensSpec).at Fi).post enc Tryz.prog Tryz.f4 false true false false):=by
 refine returnsInHanded_of_row (C:=Tryz.checked) (s:=OpenSpec.ofChange Rows.sourceParensSpec) own started (by kernel_rfl) Tryz.func4
  (witness_row_at (enc:=enc) (C:=Tryz.checked) false (qQt os) #[.int .u8 0,.int .u8 0,.int .u16 0,.int .u16 0,.int .u16 0] rfl (by kernel_rfl) (by kernel_rfl) (by kernel_rfl)
   (OpenSpec.preRow_of_cond 8 (show DataW.whole enc Tryz.prog ((qQt os).forCall (fun _ _=>0) ⟨#[],#[.int .u8 0,.int .u8 0,.int .u16 0,.int .u16 0,.int .u16 0],[]⟩).memory Tryz.f4.params.toList Rows.sourceParensSpec.vars false #[.int .u8 0,.int .u8 0,.int .u16 0,.int .u16 0,.int .u16 0].toList 8=some ([.lit (.int .u8 0),.lit (.int .u8 0),.lit (.int .u16 0),.lit (.int .u16 0),.lit (.int .u16 0)],[],[]) by kernel_rfl) (by kernel_rfl) (fun k hk=>by cases hk) (by kernel_rfl) (zDs os))) ?_
 intro W base args ds gs before hval0 hW hcnd _ hwt hlaid _ _
 haveI:TabW W:=tab_w hlaid
 have hval:∀(j:Nat) t v,Tryz.f4.params[j]? =some t→args[j]? =some v→Value.okWide Tryz.prog W .any base t v:=hval0
 have hW1:=hW
 obtain⟨p,q,hA0,hV,rfl,hfz,hnd⟩:=hW1
 have hA:DataW.TrodAll enc Tryz.prog W 0 (fun _=>true) true Tryz.f4.params.toList args.toList ds p:=hA0
 have hwt1:(DataW.weightsEach Tryz.prog (Tryz.f4.params.toList++[]) (ds++gs)).all (· ≤reachBytes)=true:=hwt
 obtain⟨rfl,rfl⟩:=trodVars_none hV
 rw[Tryz.params4] at hA hval hwt1
 obtain⟨v0,vs0,d0,ds0,p0,q0,hargs0,rfl,rfl,h0,r0⟩:=trodAll_cons hA
 obtain⟨v1,vs1,d1,ds1,p1,q1,hargs1,rfl,rfl,h1,r1⟩:=trodAll_cons r0
 obtain⟨v2,vs2,d2,ds2,p2,q2,hargs2,rfl,rfl,h2,r2⟩:=trodAll_cons r1
 obtain⟨v3,vs3,d3,ds3,p3,q3,hargs3,rfl,rfl,h3,r3⟩:=trodAll_cons r2
 obtain⟨v4,vs4,d4,ds4,p4,q4,hargs4,rfl,rfl,h4,r4⟩:=trodAll_cons r3
 obtain⟨hnil,rfl,rfl⟩:=trodAll_nil r4
 obtain rfl:args= #[v0,v1,v2,v3,v4]:=by cases args;simp_all
 simp only[kQ,DataW.weightsEach,List.all_append,jI] at hwt1
 obtain⟨hw0,hw1,hw2,hw3,hw4⟩:=hwt1
 obtain⟨x0,rfl,g0⟩:=qRm Tryz.underlying5 (hval 0 5 v0 rfl rfl) h0
 obtain⟨x1,rfl,g1⟩:=qRm Tryz.underlying5 (hval 1 5 v1 rfl rfl) h1
 obtain⟨x2,rfl,g2⟩:=qRm Tryz.underlying49 (hval 2 49 v2 rfl rfl) h2
 obtain⟨x3,rfl,g3⟩:=qRm Tryz.underlying49 (hval 3 49 v3 rfl rfl) h3
 obtain⟨x4,rfl,g4⟩:=qRm Tryz.underlying49 (hval 4 49 v4 rfl rfl) h4
 obtain⟨N,hN⟩:=testgatelaw05_SourceParens_true x0 g0 x1 g1 x2 g2 x3 g3 x4 g4
 refine(qJv (zGa W) hN).mono fun e W2 ⟨m2,he,hle,st⟩=> ?_
 exact⟨_,he,zDh kids (fun ht he=>zAo slices ht he) (fC (by kernel_rfl)) (by kernel_rfl) Tryz.underlying4 rfl rfl hW hle st⟩
theorem jf1:Tryz.pinned.checked.prog.inPlace 4=Rows.sourceParensRow.inPlace:=by kernel_rfl
theorem jf2:Tryz.pinned.checked.prog.unfollowed 4=Rows.sourceParensRow.unfollowed:=by kernel_rfl
theorem jf3:Tryz.pinned.checked.prog.recurses 4=Rows.sourceParensRow.recurses:=by kernel_rfl
theorem jf4:Tryz.pinned.checked.prog.varsNamed 4=Rows.sourceParensRow.named:=by kernel_rfl
theorem jf5:joinedFacts Tryz.pinned.checked.prog 4 Tryz.f4 (OpenSpec.ofChange Rows.sourceParensSpec).bare Rows.sourceParensRow=true:=by
 unfold joinedFacts
 rw[jf1,jf2,jf3,jf4]
 kernel_rfl
theorem said:Rows.SourceParensSaid:=
 OpenClaim.holds_of_cond 4 Tryz.f4 rfl rfl rfl rfl rfl rfl rfl ⟨rfl,rfl,rfl,rfl,rfl⟩ rfl rfl rfl rfl rfl (by kernel_rfl) Tryz.func4 jf5
  (fC (by kernel_rfl)) (by unfold Func.isWrapper;first|(rw[if_pos (by decide+kernel)];kernel_rfl)|(rw[if_neg (by decide+kernel)];exact⟨rfl,rfl⟩))
  (fun os started H enc _ Fi=>by rw[OpenClaim.pre_eq_preRow];exact lifted os started H enc Fi)
theorem plain (g : FuncId) (fn : Func) (hf : Tryz.pinned.checked.prog.funcNamed "testgate/testgatelaw05.SourceParens" = some g) (hfn : Tryz.pinned.checked.prog.funcs[g]? = some fn) :
  true=Tryz.pinned.checked.prog.looks []∧∀(j:Nat) t,fn.params[j]? =some t→Tryz.pinned.checked.prog.wantsStandIn t=false:=by
 obtain rfl : g = 4 := jD ((show Tryz.prog.funcNamed "testgate/testgatelaw05.SourceParens" = some 4 by kernel_rfl).symm.trans hf) |>.symm
 obtain rfl:fn=Tryz.f4:=(jD (Tryz.func4.symm.trans hfn)).symm
 refine⟨by kernel_rfl,fun j t ht=> ?_⟩
 rw[Tryz.params4] at ht
 have hm:=Array.mem_of_getElem? ht
 simp only[List.mem_toArray,jQ,kO,fX] at hm
 rcases hm with rfl|rfl|rfl|rfl|rfl
 ·exact(show Tryz.prog.wantsStandIn 5=false by kernel_rfl)
 ·exact(show Tryz.prog.wantsStandIn 5=false by kernel_rfl)
 ·exact(show Tryz.prog.wantsStandIn 49=false by kernel_rfl)
 ·exact(show Tryz.prog.wantsStandIn 49=false by kernel_rfl)
 ·exact(show Tryz.prog.wantsStandIn 49=false by kernel_rfl)
theorem card:Rows.SourceParensCardSaid:=
 Claim7.holds_tied_plain_at .later [] _ _ _ _ said (fun _ h=>by cases h) (by kernel_rfl) (fun _ h=>by cases h) sourceParens_row_tie rfl ⟨rfl,rfl⟩ (by kernel_rfl) rfl plain (by kernel_rfl)
#print axioms card
end Go.Proofs.YtcdpbapbpcpflaaGreatDoor.sourceParens
