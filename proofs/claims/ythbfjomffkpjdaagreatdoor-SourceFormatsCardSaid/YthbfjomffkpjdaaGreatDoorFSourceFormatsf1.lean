import Derived.Test.YthbfjomffkpjdaaGreatDoorK6f1
import Derived.Test.YthbfjomffkpjdaaGreatDoorCards
import Derived.Test.YthbfjomffkpjdaaGreatDoorTie
import Derived.WalkKit
import Derived.ProofKit
import Derived.Lib.LaidTab
import Derived.Lib.ItoaNum
import Derived.Stop.LaidErr
import Derived.OpenShut
import Derived.Deep.DeepHandedRow
import Derived.LaidMore
import Derived.SevenTiedAt
namespace Go.Proofs.YthbfjomffkpjdaaGreatDoor.sourceFormats
open Go Go.Dc Go.ChangeShapes Go.WideShapes Go.ChangeAt Go.RowKit
set_option linter.unusedVariables false
theorem own:ownKnob Tryz.prog.godebug=none:=by kernel_rfl
theorem kids:Kids Tryz.prog (· <Tryz.prog.types.size):=kids_rows (by kernel_rfl) (by kernel_rfl)
theorem qOj:YZ Tryz.prog=true:=by kernel_rfl
noncomputable def HQ(cs:Array Value):Obj->Obj
 | .cells _ t frozen=> .cells cs t frozen
 |o=>o
noncomputable def OU(os:Os):World:=
 {World.holding Tryz.prog os ⟨#[],#[],[]⟩ with heap:=((((((World.holding Tryz.prog os ⟨#[],#[],[]⟩).heap).modify 1 (HQ (#[.int .u64 1,.int .u64 10,.int .u64 100,.int .u64 1000,.int .u64 10000,.int .u64 100000,.int .u64 1000000,.int .u64 10000000,.int .u64 100000000,.int .u64 1000000000,.int .u64 10000000000,.int .u64 100000000000,.int .u64 1000000000000,.int .u64 10000000000000,.int .u64 100000000000000,.int .u64 1000000000000000,.int .u64 10000000000000000,.int .u64 100000000000000000,.int .u64 1000000000000000000,.int .u64 10000000000000000000]))).modify 2 (HQ ((Pinned.utf8FirstZ.map fun x=>Value.int .u8 (Int.ofNat x)).toArray))).modify 3 (HQ (#[.int .u8 128,.int .u8 191,.int .u8 160,.int .u8 191,.int .u8 128,.int .u8 159,.int .u8 144,.int .u8 191,.int .u8 128,.int .u8 143,.int .u8 0,.int .u8 0,.int .u8 0,.int .u8 0,.int .u8 0,.int .u8 0,.int .u8 0,.int .u8 0,.int .u8 0,.int .u8 0,.int .u8 0,.int .u8 0,.int .u8 0,.int .u8 0,.int .u8 0,.int .u8 0,.int .u8 0,.int .u8 0,.int .u8 0,.int .u8 0,.int .u8 0,.int .u8 0]))).modify 4 (HQ (#[.int .u8 0,.int .u8 1,.int .u8 28,.int .u8 2,.int .u8 29,.int .u8 14,.int .u8 24,.int .u8 3,.int .u8 30,.int .u8 22,.int .u8 20,.int .u8 15,.int .u8 25,.int .u8 17,.int .u8 4,.int .u8 8,.int .u8 31,.int .u8 27,.int .u8 13,.int .u8 23,.int .u8 21,.int .u8 19,.int .u8 16,.int .u8 7,.int .u8 26,.int .u8 12,.int .u8 18,.int .u8 6,.int .u8 11,.int .u8 5,.int .u8 10,.int .u8 9]))).modify 5 (HQ (#[.int .u8 0,.int .u8 1,.int .u8 56,.int .u8 2,.int .u8 57,.int .u8 49,.int .u8 28,.int .u8 3,.int .u8 61,.int .u8 58,.int .u8 42,.int .u8 50,.int .u8 38,.int .u8 29,.int .u8 17,.int .u8 4,.int .u8 62,.int .u8 47,.int .u8 59,.int .u8 36,.int .u8 45,.int .u8 43,.int .u8 51,.int .u8 22,.int .u8 53,.int .u8 39,.int .u8 33,.int .u8 30,.int .u8 24,.int .u8 18,.int .u8 12,.int .u8 5,.int .u8 63,.int .u8 55,.int .u8 48,.int .u8 27,.int .u8 60,.int .u8 41,.int .u8 37,.int .u8 16,.int .u8 46,.int .u8 35,.int .u8 44,.int .u8 21,.int .u8 52,.int .u8 32,.int .u8 23,.int .u8 11,.int .u8 54,.int .u8 26,.int .u8 40,.int .u8 15,.int .u8 34,.int .u8 20,.int .u8 31,.int .u8 10,.int .u8 25,.int .u8 14,.int .u8 19,.int .u8 9,.int .u8 13,.int .u8 8,.int .u8 7,.int .u8 6]))}
set_option maxRecDepth 100000 in
theorem qKm(os:Os):laidMet Tryz.prog Rows.sourceFormatsRow.laid ((OU os).forCall (fun _ _=>0) ⟨#[],#[.slice none 0 0],[]⟩).memory:=
 laidMet_of_run' 8 (by kernel_rfl) (by kernel_rfl)
theorem qPy{W:World}(h:laidMet Tryz.prog Rows.sourceFormatsRow.laid W):TabW W:=by
 have e : Rows.sourceFormatsRow.laid.drop 2 = ("internal/strconv.uint64pow10", Lib.tabData .u64 Lib.pow10Tab) :: Rows.sourceFormatsRow.laid.drop (2 + 1) := by kernel_rfl
 have h1:laidMet Tryz.prog (Rows.sourceFormatsRow.laid.drop 2) W:=laidMet.tail (laidMet.tail (h))
 rw[e] at h1
 have hg : Tryz.prog.globalNamed "internal/strconv.uint64pow10" = some 1 := by kernel_rfl
 have h2:=Lib.tabIs_of_head (n:=20) hg (show(Tryz.prog.globals[1]?).map (·.type)=some 162 by kernel_rfl) (show Tryz.prog.underlying 162=some (.array 20 129) by kernel_rfl) (show Tryz.prog.underlying 129=some (.int .u64) by kernel_rfl) (by kernel_rfl) (by kernel_rfl) h1
 refine⟨fun p hp=> ?_⟩
 obtain rfl:=kI.1 hp
 unfold Lib.TabIs World.var? at h2
 rw[hg] at h2
 simp only[j0] at h2
 split at h2
 .rename_i cs t f hh
  refine⟨t,f,?_⟩
  rw[show((1:Nat),_).1=1 from rfl,hh,jG h2]
  rfl
 cases h2
set_option maxRecDepth 100000 in
theorem qMy(os:Os)(started:os.Started)(H:Type)(enc:TypeId×Value->H)(Fi:Stop.Interp):
  ReturnsInHanded {} Tryz.checked os 3 .any ((OpenSpec.ofChange Rows.sourceFormatsSpec).preRow enc Tryz.prog Tryz.f3 Rows.sourceFormatsRow.domain false Rows.sourceFormatsRow.laid) (((OpenSpec.ofChange Rows.sourceFormatsSpec).at Fi).post enc Tryz.prog Tryz.f3 false true false false):=by
 refine returnsInHanded_of_row (C:=Tryz.checked) (s:=OpenSpec.ofChange Rows.sourceFormatsSpec) own started (by kernel_rfl) Tryz.func3
  (witness_row_at (enc:=enc) (C:=Tryz.checked) false (OU os) #[.slice none 0 0] rfl (by kernel_rfl) (by kernel_rfl) (by kernel_rfl)
   (OpenSpec.preRow_of_cond 8 (show DataW.whole enc Tryz.prog ((OU os).forCall (fun _ _=>0) ⟨#[],#[.slice none 0 0],[]⟩).memory Tryz.f3.params.toList Rows.sourceFormatsSpec.vars false #[.slice none 0 0].toList 8=some ([.nil],[],[]) by kernel_rfl) (by kernel_rfl) (fun k hk=>by cases hk) (by kernel_rfl) (qKm os))) ?_
 intro W base args ds gs before hval0 hW hcnd _ hwt hlaid _ _
 haveI:TabW W:=qPy hlaid
 have hval:∀(j:Nat) t v,Tryz.f3.params[j]? =some t->args[j]? =some v->Value.okWide Tryz.prog W .any base t v:=hval0
 have hW1:=hW
 obtain⟨p,q,hA0,hV,rfl,hfz,hnd⟩:=hW1
 have hA:DataW.TrodAll enc Tryz.prog W 0 (fun _=>true) true Tryz.f3.params.toList args.toList ds p:=hA0
 have hwt1:(DataW.weightsEach Tryz.prog (Tryz.f3.params.toList++[]) (ds++gs)).all (· <=reachBytes)=true:=hwt
 obtain⟨rfl,rfl⟩:=trodVars_none hV
 rw[Tryz.params3] at hA hval hwt1
 obtain⟨v0,vs0,d0,ds0,p0,q0,hargs0,rfl,rfl,h0,r0⟩:=trodAll_cons hA
 obtain⟨hnil,rfl,rfl⟩:=trodAll_nil r0
 obtain rfl:args= #[v0]:=by cases args;simp_all
 simp only[jV,DataW.weightsEach,List.all_append,jM] at hwt1
 have hw0:=hwt1
 obtain⟨x0,a0,c0,rfl,rep0,g0⟩:=qIh Tryz.underlying22 (qFm (by_:=8) Tryz.underlying22 (by kernel_rfl) (by kernel_rfl) (qHk Tryz.underlying3 (by kernel_rfl))) (hval 0 22 v0 rfl rfl) h0 hw0
 obtain⟨N,hN⟩:=testgatelaw05_SourceFormats_true x0 g0
 refine(qBr (qLq W) rep0 hN).mono fun e W2 ⟨m2,he,hle,st⟩=> ?_
 exact⟨_,he,qJx kids (fun ht he=>qIi qOj ht he) (gL (by kernel_rfl)) (by kernel_rfl) Tryz.underlying4 rfl rfl hW hle st⟩
theorem jf1:Tryz.pinned.checked.prog.inPlace 3=Rows.sourceFormatsRow.inPlace:=by kernel_rfl
theorem jf2:Tryz.pinned.checked.prog.unfollowed 3=Rows.sourceFormatsRow.unfollowed:=by kernel_rfl
theorem jf3:Tryz.pinned.checked.prog.recurses 3=Rows.sourceFormatsRow.recurses:=by kernel_rfl
theorem jf4:Tryz.pinned.checked.prog.varsNamed 3=Rows.sourceFormatsRow.named:=by kernel_rfl
theorem jf5:joinedFacts Tryz.pinned.checked.prog 3 Tryz.f3 (OpenSpec.ofChange Rows.sourceFormatsSpec).bare Rows.sourceFormatsRow=true:=by
 unfold joinedFacts
 rw[jf1,jf2,jf3,jf4]
 kernel_rfl
theorem said:Rows.SourceFormatsSaid:=
 OpenClaim.holds_of_cond 3 Tryz.f3 rfl rfl rfl rfl rfl rfl rfl ⟨rfl,rfl,rfl,rfl,rfl⟩ rfl rfl rfl rfl rfl (by kernel_rfl) Tryz.func3 jf5
  (gL (by kernel_rfl)) (by unfold Func.isWrapper;first|(rw[if_pos (by decide+kernel)];kernel_rfl)|(rw[if_neg (by decide+kernel)];exact⟨rfl,rfl⟩))
  (fun os started H enc _ Fi=>by rw[OpenClaim.pre_eq_preRow];exact qMy os started H enc Fi)
theorem qPr (g : FuncId) (fn : Func) (hf : Tryz.pinned.checked.prog.funcNamed "testgate/testgatelaw05.SourceFormats" = some g) (hfn : Tryz.pinned.checked.prog.funcs[g]? = some fn) :
  true=Tryz.pinned.checked.prog.looks []/\∀(j:Nat) t,fn.params[j]? =some t->Tryz.pinned.checked.prog.wantsStandIn t=false:=by
 obtain rfl : g = 3 := jG ((show Tryz.prog.funcNamed "testgate/testgatelaw05.SourceFormats" = some 3 by kernel_rfl).symm.trans hf) |>.symm
 obtain rfl:fn=Tryz.f3:=(jG (Tryz.func3.symm.trans hfn)).symm
 refine⟨by kernel_rfl,fun j t ht=> ?_⟩
 rw[Tryz.params3] at ht
 have hm:=Array.mem_of_getElem? ht
 simp only[List.mem_toArray,jR,gK,dG] at hm
 rcases hm with rfl
 exact(show Tryz.prog.wantsStandIn 22=false by kernel_rfl)
theorem card:Rows.SourceFormatsCardSaid:=
 Claim7.holds_tied_plain_at .later [] _ _ _ _ said (fun _ h=>by cases h) (by kernel_rfl) (fun _ h=>by cases h) sourceFormats_row_tie rfl ⟨rfl,rfl⟩ (by kernel_rfl) rfl qPr (by kernel_rfl)
#print axioms card
end Go.Proofs.YthbfjomffkpjdaaGreatDoor.sourceFormats
