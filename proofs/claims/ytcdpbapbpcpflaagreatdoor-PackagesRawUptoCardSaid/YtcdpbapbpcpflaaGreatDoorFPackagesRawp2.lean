import Derived.Test.YtcdpbapbpcpflaaGreatDoorK6p2
import Derived.Test.YtcdpbapbpcpflaaGreatDoorCards
import Derived.Test.YtcdpbapbpcpflaaGreatDoorTie
import Derived.WalkKit
import Derived.ProofKit
import Derived.OpenShut
import Derived.Deep.DeepHandedRow
import Derived.LaidMore
import Derived.SevenTiedAt
namespace Go.Proofs.YtcdpbapbpcpflaaGreatDoor.packagesRaw
open Go Go.Dc Go.ChangeShapes Go.WideShapes Go.ChangeAt Go.RowKit
set_option linter.unusedVariables false
theorem own:ownKnob Tryz.prog.godebug=none:=by kernel_rfl
theorem kids:Kids Tryz.prog (· <Tryz.prog.types.size):=kids_rows (by kernel_rfl) (by kernel_rfl)
theorem slices:zOy Tryz.prog=true:=by kernel_rfl
noncomputable def zQf(cs:Array Value):Obj→Obj
 | .cells _ t frozen=> .cells cs t frozen
 |o=>o
noncomputable def zBp(os:Os):World:=
 {World.holding Tryz.prog os ⟨#[],#[],[]⟩ with heap:=(((World.holding Tryz.prog os ⟨#[],#[],[]⟩).heap).modify 2 (zQf ((Pinned.utf8FirstZ.map fun x=>Value.int .u8 (Int.ofNat x)).toArray))).modify 3 (zQf (#[.int .u8 128,.int .u8 191,.int .u8 160,.int .u8 191,.int .u8 128,.int .u8 159,.int .u8 144,.int .u8 191,.int .u8 128,.int .u8 143,.int .u8 0,.int .u8 0,.int .u8 0,.int .u8 0,.int .u8 0,.int .u8 0,.int .u8 0,.int .u8 0,.int .u8 0,.int .u8 0,.int .u8 0,.int .u8 0,.int .u8 0,.int .u8 0,.int .u8 0,.int .u8 0,.int .u8 0,.int .u8 0,.int .u8 0,.int .u8 0,.int .u8 0,.int .u8 0]))}
set_option maxRecDepth 100000 in
theorem zRq(os:Os):laidMet Tryz.prog Rows.packagesRawUptoRow.laid ((zBp os).forCall (fun _ _=>0) ⟨#[],#[.agg #[.slice none 0 0],.slice none 0 0],[]⟩).memory:=
 laidMet_of_run' 8 (by kernel_rfl) (by kernel_rfl)
set_option maxRecDepth 100000 in
theorem lifted(os:Os)(started:os.Started)(H:Type)(enc:TypeId×Value→H)(Fi:Stop.Interp):
  ReturnsInHanded {} Tryz.checked os 8 .any ((Rows.OpenSpec.upto Rows.packagesRawSpec).preRow enc Tryz.prog Tryz.f8 Rows.packagesRawUptoRow.domain false Rows.packagesRawUptoRow.laid) (((Rows.OpenSpec.upto Rows.packagesRawSpec).at Fi).post enc Tryz.prog Tryz.f8 false true false false):=by
 refine returnsInHanded_of_row (C:=Tryz.checked) (s:=Rows.OpenSpec.upto Rows.packagesRawSpec) own started (by kernel_rfl) Tryz.func8
  (witness_row_at (enc:=enc) (C:=Tryz.checked) false (zBp os) #[.agg #[.slice none 0 0],.slice none 0 0] rfl (by kernel_rfl) (by kernel_rfl) (by kernel_rfl)
   (OpenSpec.preRow_of_cond 8 (show DataW.whole enc Tryz.prog ((zBp os).forCall (fun _ _=>0) ⟨#[],#[.agg #[.slice none 0 0],.slice none 0 0],[]⟩).memory Tryz.f8.params.toList Rows.packagesRawSpec.vars false #[.agg #[.slice none 0 0],.slice none 0 0].toList 8=some ([.agg [.nil],.nil],[],[]) by kernel_rfl) (by kernel_rfl) (fun k hk=>by cases hk;kernel_rfl) (by kernel_rfl) (zRq os))) ?_
 intro W base args ds gs before hval0 hW hcnd hcond hwt _ _ _
 have hval:∀(j:Nat) t v,Tryz.f8.params[j]? =some t→args[j]? =some v→Value.okWide Tryz.prog W .any base t v:=hval0
 have hW1:=hW
 obtain⟨p,q,hA0,hV,rfl,hfz,hnd⟩:=hW1
 have hA:DataW.TrodAll enc Tryz.prog W 0 (fun _=>true) true Tryz.f8.params.toList args.toList ds p:=hA0
 have hwt1:(DataW.weightsEach Tryz.prog (Tryz.f8.params.toList++[]) (ds++gs)).all (· ≤reachBytes)=true:=hwt
 obtain⟨rfl,rfl⟩:=trodVars_none hV
 have hb0:decide (Rows.uptoBulkAll (ds++[])≤1048576)=true:=hcond _ rfl
 have hbk:=kY hb0
 clear hb0
 rw[Tryz.params8] at hA hval hwt1
 obtain⟨v0,vs0,d0,ds0,p0,q0,hargs0,rfl,rfl,h0,r0⟩:=trodAll_cons hA
 obtain⟨v1,vs1,d1,ds1,p1,q1,hargs1,rfl,rfl,h1,r1⟩:=trodAll_cons r0
 obtain⟨hnil,rfl,rfl⟩:=trodAll_nil r1
 obtain rfl:args= #[v0,v1]:=by cases args;simp_all
 simp only[hU,Rows.uptoBulkAll] at hbk
 simp only[hU,DataW.weightsEach,List.all_append,jX] at hwt1
 obtain⟨hw0,hw1⟩:=hwt1
 obtain⟨x0,cs0,rfl,⟨a0,c0,hcs0,rep0⟩,g0⟩:=zIp Tryz.underlying28 (qWe Tryz.underlying28 (by kernel_rfl) (zAm rfl (qYp Tryz.underlying26 (by kernel_rfl) (qWe Tryz.underlying68 (by kernel_rfl) (zGn rfl (zDn Tryz.underlying9 (by kernel_rfl)) (zAm rfl (zDn Tryz.underlying9 (by kernel_rfl)))))))) (hval 0 28 v0 rfl rfl) h0 (by omega)
 obtain rfl:cs0= #[.slice a0 x0.length c0]:=Array.toList_inj.1 hcs0
 obtain⟨x1,a1,c1,rfl,rep1,g1⟩:=zMg Tryz.underlying22 (qYp Tryz.underlying22 (by kernel_rfl) (zMv Tryz.underlying3 (by kernel_rfl))) (hval 1 22 v1 rfl rfl) h1 (by omega)
 obtain⟨N,hN⟩:=testgatelaw08_PackagesRaw_true x0 g0 x1 g1
 refine(qQi (zPk W) rep0 rep1 hN).mono fun e W2 ⟨m2,he,hle,st⟩=> ?_
 exact⟨_,he,zRl kids (fun ht he=>zQh slices ht he) (kY (by kernel_rfl)) (by kernel_rfl) Tryz.underlying4 rfl rfl hW hle st⟩
theorem jf1:Tryz.pinned.checked.prog.inPlace 8=Rows.packagesRawUptoRow.inPlace:=by kernel_rfl
theorem jf2:Tryz.pinned.checked.prog.unfollowed 8=Rows.packagesRawUptoRow.unfollowed:=by kernel_rfl
theorem jf3:Tryz.pinned.checked.prog.recurses 8=Rows.packagesRawUptoRow.recurses:=by kernel_rfl
theorem jf4:Tryz.pinned.checked.prog.varsNamed 8=Rows.packagesRawUptoRow.named:=by kernel_rfl
theorem jf5:joinedFacts Tryz.pinned.checked.prog 8 Tryz.f8 (Rows.OpenSpec.upto Rows.packagesRawSpec).bare Rows.packagesRawUptoRow=true:=by
 unfold joinedFacts
 rw[jf1,jf2,jf3,jf4]
 kernel_rfl
theorem said:Rows.PackagesRawUptoSaid:=
 OpenClaim.holds_of_cond 8 Tryz.f8 rfl rfl rfl rfl rfl rfl rfl ⟨rfl,rfl,rfl,rfl,rfl⟩ rfl rfl rfl rfl rfl (by kernel_rfl) Tryz.func8 jf5
  (kY (by kernel_rfl)) (by unfold Func.isWrapper;first|(rw[if_pos (by decide+kernel)];kernel_rfl)|(rw[if_neg (by decide+kernel)];exact⟨rfl,rfl⟩))
  (fun os started H enc _ Fi=>by rw[OpenClaim.pre_eq_preRow];exact lifted os started H enc Fi)
theorem plain (g : FuncId) (fn : Func) (hf : Tryz.pinned.checked.prog.funcNamed "testgate/testgatelaw08.PackagesRaw" = some g) (hfn : Tryz.pinned.checked.prog.funcs[g]? = some fn) :
  true=Tryz.pinned.checked.prog.looks []∧∀(j:Nat) t,fn.params[j]? =some t→Tryz.pinned.checked.prog.wantsStandIn t=false:=by
 obtain rfl : g = 8 := jF ((show Tryz.prog.funcNamed "testgate/testgatelaw08.PackagesRaw" = some 8 by kernel_rfl).symm.trans hf) |>.symm
 obtain rfl:fn=Tryz.f8:=(jF (Tryz.func8.symm.trans hfn)).symm
 refine⟨by kernel_rfl,fun j t ht=> ?_⟩
 rw[Tryz.params8] at ht
 have hm:=Array.mem_of_getElem? ht
 simp only[List.mem_toArray,jL,kV,d7] at hm
 rcases hm with rfl|rfl
 ·exact(show Tryz.prog.wantsStandIn 28=false by kernel_rfl)
 ·exact(show Tryz.prog.wantsStandIn 22=false by kernel_rfl)
theorem card:Rows.PackagesRawUptoCardSaid:=
 Claim7.holds_tied_plain_at .later [] _ _ _ _ said (fun _ h=>by cases h) (by kernel_rfl) (fun _ h=>by cases h) packagesRawUpto_row_tie rfl ⟨rfl,rfl⟩ (by kernel_rfl) rfl plain (by kernel_rfl)
#print axioms card
end Go.Proofs.YtcdpbapbpcpflaaGreatDoor.packagesRaw
