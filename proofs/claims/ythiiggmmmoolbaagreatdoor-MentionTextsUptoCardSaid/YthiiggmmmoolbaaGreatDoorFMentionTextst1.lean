import Derived.Test.YthiiggmmmoolbaaGreatDoorK6t1
import Derived.Test.YthiiggmmmoolbaaGreatDoorCards
import Derived.Test.YthiiggmmmoolbaaGreatDoorTie
import Derived.WalkKit
import Derived.ProofKit
import Derived.Lib.LaidTab
import Derived.Lib.ItoaNum
import Derived.Stop.LaidErr
import Derived.OpenShut
import Derived.Deep.DeepHandedRow
import Derived.LaidMore
import Derived.SevenTiedAt
namespace Go.Proofs.YthiiggmmmoolbaaGreatDoor.mentionTexts
open Go Go.Dc Go.ChangeShapes Go.WideShapes Go.ChangeAt Go.RowKit
set_option linter.unusedVariables false
theorem own:ownKnob Tryz.prog.godebug=none:=by kernel_rfl
theorem kids:Kids Tryz.prog (· <Tryz.prog.types.size):=kids_rows (by kernel_rfl) (by kernel_rfl)
theorem qMw:XW Tryz.prog=true:=by kernel_rfl
noncomputable def GO(cs:Array Value):Obj->Obj
 | .cells _ t frozen=> .cells cs t frozen
 |o=>o
noncomputable def NK(os:Os):World:=
 {World.holding Tryz.prog os ⟨#[],#[],[]⟩ with heap:=((((((World.holding Tryz.prog os ⟨#[],#[],[]⟩).heap).modify 1 (GO (#[.int .u64 1,.int .u64 10,.int .u64 100,.int .u64 1000,.int .u64 10000,.int .u64 100000,.int .u64 1000000,.int .u64 10000000,.int .u64 100000000,.int .u64 1000000000,.int .u64 10000000000,.int .u64 100000000000,.int .u64 1000000000000,.int .u64 10000000000000,.int .u64 100000000000000,.int .u64 1000000000000000,.int .u64 10000000000000000,.int .u64 100000000000000000,.int .u64 1000000000000000000,.int .u64 10000000000000000000]))).modify 2 (GO (#[.int .u8 0,.int .u8 1,.int .u8 28,.int .u8 2,.int .u8 29,.int .u8 14,.int .u8 24,.int .u8 3,.int .u8 30,.int .u8 22,.int .u8 20,.int .u8 15,.int .u8 25,.int .u8 17,.int .u8 4,.int .u8 8,.int .u8 31,.int .u8 27,.int .u8 13,.int .u8 23,.int .u8 21,.int .u8 19,.int .u8 16,.int .u8 7,.int .u8 26,.int .u8 12,.int .u8 18,.int .u8 6,.int .u8 11,.int .u8 5,.int .u8 10,.int .u8 9]))).modify 3 (GO (#[.int .u8 0,.int .u8 1,.int .u8 56,.int .u8 2,.int .u8 57,.int .u8 49,.int .u8 28,.int .u8 3,.int .u8 61,.int .u8 58,.int .u8 42,.int .u8 50,.int .u8 38,.int .u8 29,.int .u8 17,.int .u8 4,.int .u8 62,.int .u8 47,.int .u8 59,.int .u8 36,.int .u8 45,.int .u8 43,.int .u8 51,.int .u8 22,.int .u8 53,.int .u8 39,.int .u8 33,.int .u8 30,.int .u8 24,.int .u8 18,.int .u8 12,.int .u8 5,.int .u8 63,.int .u8 55,.int .u8 48,.int .u8 27,.int .u8 60,.int .u8 41,.int .u8 37,.int .u8 16,.int .u8 46,.int .u8 35,.int .u8 44,.int .u8 21,.int .u8 52,.int .u8 32,.int .u8 23,.int .u8 11,.int .u8 54,.int .u8 26,.int .u8 40,.int .u8 15,.int .u8 34,.int .u8 20,.int .u8 31,.int .u8 10,.int .u8 25,.int .u8 14,.int .u8 19,.int .u8 9,.int .u8 13,.int .u8 8,.int .u8 7,.int .u8 6]))).modify 4 (GO ((Pinned.utf8FirstZ.map fun x=>Value.int .u8 (Int.ofNat x)).toArray))).modify 5 (GO (#[.int .u8 128,.int .u8 191,.int .u8 160,.int .u8 191,.int .u8 128,.int .u8 159,.int .u8 144,.int .u8 191,.int .u8 128,.int .u8 143,.int .u8 0,.int .u8 0,.int .u8 0,.int .u8 0,.int .u8 0,.int .u8 0,.int .u8 0,.int .u8 0,.int .u8 0,.int .u8 0,.int .u8 0,.int .u8 0,.int .u8 0,.int .u8 0,.int .u8 0,.int .u8 0,.int .u8 0,.int .u8 0,.int .u8 0,.int .u8 0,.int .u8 0,.int .u8 0]))}
set_option maxRecDepth 100000 in
theorem qIk(os:Os):laidMet Tryz.prog Rows.mentionTextsUptoRow.laid ((NK os).forCall (fun _ _=>0) ⟨#[],#[.slice none 0 0,.int .i64 0,.agg #[.string ⟨#[]⟩,.slice none 0 0,.slice none 0 0],.string ⟨#[]⟩],[]⟩).memory:=
 laidMet_of_run' 8 (by kernel_rfl) (by kernel_rfl)
theorem qNw{W:World}(h:laidMet Tryz.prog Rows.mentionTextsUptoRow.laid W):TabW W:=by
 have e : Rows.mentionTextsUptoRow.laid.drop 2 = ("internal/strconv.uint64pow10", Lib.tabData .u64 Lib.pow10Tab) :: Rows.mentionTextsUptoRow.laid.drop (2 + 1) := by kernel_rfl
 have h1:laidMet Tryz.prog (Rows.mentionTextsUptoRow.laid.drop 2) W:=laidMet.tail (laidMet.tail (h))
 rw[e] at h1
 have hg : Tryz.prog.globalNamed "internal/strconv.uint64pow10" = some 1 := by kernel_rfl
 have h2:=Lib.tabIs_of_head (n:=20) hg (show(Tryz.prog.globals[1]?).map (·.type)=some 194 by kernel_rfl) (show Tryz.prog.underlying 194=some (.array 20 155) by kernel_rfl) (show Tryz.prog.underlying 155=some (.int .u64) by kernel_rfl) (by kernel_rfl) (by kernel_rfl) h1
 refine⟨fun p hp=> ?_⟩
 obtain rfl:=kL.1 hp
 unfold Lib.TabIs World.var? at h2
 rw[hg] at h2
 simp only[j0] at h2
 split at h2
 .rename_i cs t f hh
  refine⟨t,f,?_⟩
  rw[show((1:Nat),_).1=1 from rfl,hh,jG h2]
  rfl
 cases h2
set_option maxRecDepth 100000 in
theorem qMp(os:Os)(started:os.Started)(H:Type)(enc:TypeId×Value->H)(Fi:Stop.Interp):
  ReturnsInHanded {} Tryz.checked os 5 .any ((Rows.OpenSpec.upto Rows.mentionTextsSpec).preRow enc Tryz.prog Tryz.f5 Rows.mentionTextsUptoRow.domain false Rows.mentionTextsUptoRow.laid) (((Rows.OpenSpec.upto Rows.mentionTextsSpec).at Fi).post enc Tryz.prog Tryz.f5 false true false false):=by
 refine returnsInHanded_of_row (C:=Tryz.checked) (s:=Rows.OpenSpec.upto Rows.mentionTextsSpec) own started (by kernel_rfl) Tryz.func5
  (witness_row_at (enc:=enc) (C:=Tryz.checked) false (NK os) #[.slice none 0 0,.int .i64 0,.agg #[.string ⟨#[]⟩,.slice none 0 0,.slice none 0 0],.string ⟨#[]⟩] rfl (by kernel_rfl) (by kernel_rfl) (by kernel_rfl)
   (OpenSpec.preRow_of_cond 8 (show DataW.whole enc Tryz.prog ((NK os).forCall (fun _ _=>0) ⟨#[],#[.slice none 0 0,.int .i64 0,.agg #[.string ⟨#[]⟩,.slice none 0 0,.slice none 0 0],.string ⟨#[]⟩],[]⟩).memory Tryz.f5.params.toList Rows.mentionTextsSpec.vars false #[.slice none 0 0,.int .i64 0,.agg #[.string ⟨#[]⟩,.slice none 0 0,.slice none 0 0],.string ⟨#[]⟩].toList 8=some ([.nil,.lit (.int .i64 0),.agg [.lit (.string []),.nil,.nil],.lit (.string [])],[],[]) by kernel_rfl) (by kernel_rfl) (fun k hk=>by cases hk;kernel_rfl) (by kernel_rfl) (qIk os))) ?_
 intro W base args ds gs before hval0 hW hcnd hcond hwt hlaid _ _
 haveI:TabW W:=qNw hlaid
 have hval:∀(j:Nat) t v,Tryz.f5.params[j]? =some t->args[j]? =some v->Value.okWide Tryz.prog W .any base t v:=hval0
 have hW1:=hW
 obtain⟨p,q,hA0,hV,rfl,hfz,hnd⟩:=hW1
 have hA:DataW.TrodAll enc Tryz.prog W 0 (fun _=>true) true Tryz.f5.params.toList args.toList ds p:=hA0
 have hwt1:(DataW.weightsEach Tryz.prog (Tryz.f5.params.toList++[]) (ds++gs)).all (· <=reachBytes)=true:=hwt
 obtain⟨rfl,rfl⟩:=trodVars_none hV
 have hb0:decide (Rows.uptoBulkAll (ds++[])<=1048576)=true:=hcond _ rfl
 have hbk:=fB hb0
 clear hb0
 rw[Tryz.params5] at hA hval hwt1
 obtain⟨v0,vs0,d0,ds0,p0,q0,hargs0,rfl,rfl,h0,r0⟩:=trodAll_cons hA
 obtain⟨v1,vs1,d1,ds1,p1,q1,hargs1,rfl,rfl,h1,r1⟩:=trodAll_cons r0
 obtain⟨v2,vs2,d2,ds2,p2,q2,hargs2,rfl,rfl,h2,r2⟩:=trodAll_cons r1
 obtain⟨v3,vs3,d3,ds3,p3,q3,hargs3,rfl,rfl,h3,r3⟩:=trodAll_cons r2
 obtain⟨hnil,rfl,rfl⟩:=trodAll_nil r3
 obtain rfl:args= #[v0,v1,v2,v3]:=by cases args;simp_all
 simp only[gZ,Rows.uptoBulkAll] at hbk
 simp only[gZ,DataW.weightsEach,List.all_append,jK] at hwt1
 obtain⟨hw0,hw1,hw2,hw3⟩:=hwt1
 obtain⟨x0,a0,c0,rfl,rep0,g0⟩:=qGp Tryz.underlying22 (BM Tryz.underlying22 (by kernel_rfl) (BS Tryz.underlying3 (by kernel_rfl))) (hval 0 22 v0 rfl rfl) h0 (by omega)
 obtain⟨x1,rfl,g1⟩:=qKz Tryz.underlying3 (hval 1 3 v1 rfl rfl) h1
 obtain⟨x2,cs2,rfl,⟨_,_,hcs2,rfl,⟨_,_,rfl,⟨a2_0,c2_0,rfl,rep2_0⟩,⟨a2_1,c2_1,rfl,rep2_1⟩⟩⟩,g2⟩:=qEz Tryz.underlying29 (MN Tryz.underlying29 (by kernel_rfl) (tS rfl (BU Tryz.underlying9 (by kernel_rfl)) (tS rfl (BM Tryz.underlying26 (by kernel_rfl) (BU Tryz.underlying9 (by kernel_rfl))) (MS rfl (BM Tryz.underlying27 (by kernel_rfl) (MN Tryz.underlying43 (by kernel_rfl) (tS rfl (BS Tryz.underlying3 (by kernel_rfl)) (tS rfl (BU Tryz.underlying9 (by kernel_rfl)) (tS rfl (BM Tryz.underlying26 (by kernel_rfl) (BU Tryz.underlying9 (by kernel_rfl))) (MS rfl (BM Tryz.underlying41 (by kernel_rfl) (MN Tryz.underlying61 (by kernel_rfl) (tS rfl (BS Tryz.underlying3 (by kernel_rfl)) (tS rfl (BS Tryz.underlying3 (by kernel_rfl)) (tS rfl (BS Tryz.underlying3 (by kernel_rfl)) (tS rfl (BU Tryz.underlying9 (by kernel_rfl)) (MS rfl (BM Tryz.underlying22 (by kernel_rfl) (BS Tryz.underlying3 (by kernel_rfl)))))))))))))))))))) (hval 2 29 v2 rfl rfl) h2 (by omega)
 obtain rfl:cs2= #[.string x2.1,.slice a2_0 x2.2.1.length c2_0,.slice a2_1 x2.2.2.length c2_1]:=Array.toList_inj.1 hcs2
 obtain⟨x3,rfl,g3⟩:=qIt Tryz.underlying9 (by kernel_rfl) (hval 3 9 v3 rfl rfl) h3 (by omega)
 obtain⟨N,hN⟩:=testgatelaw06_MentionTexts_true x0 g0 x1 g1 x2 g2 x3 g3
 refine(qAq (qMc W) rep0 rep2_0 rep2_1 hN).mono fun e W2 ⟨m2,he,hle,st⟩=> ?_
 exact⟨_,he,qIv kids (fun ht he=>qGz qMw ht he) (fB (by kernel_rfl)) (by kernel_rfl) Tryz.underlying4 rfl rfl hW hle st⟩
theorem jf1:Tryz.pinned.checked.prog.inPlace 5=Rows.mentionTextsUptoRow.inPlace:=by kernel_rfl
theorem jf2:Tryz.pinned.checked.prog.unfollowed 5=Rows.mentionTextsUptoRow.unfollowed:=by kernel_rfl
theorem jf3:Tryz.pinned.checked.prog.recurses 5=Rows.mentionTextsUptoRow.recurses:=by kernel_rfl
theorem jf4:Tryz.pinned.checked.prog.varsNamed 5=Rows.mentionTextsUptoRow.named:=by kernel_rfl
theorem jf5:joinedFacts Tryz.pinned.checked.prog 5 Tryz.f5 (Rows.OpenSpec.upto Rows.mentionTextsSpec).bare Rows.mentionTextsUptoRow=true:=by
 unfold joinedFacts
 rw[jf1,jf2,jf3,jf4]
 kernel_rfl
theorem said:Rows.MentionTextsUptoSaid:=
 OpenClaim.holds_of_cond 5 Tryz.f5 rfl rfl rfl rfl rfl rfl rfl ⟨rfl,rfl,rfl,rfl,rfl⟩ rfl rfl rfl rfl rfl (by kernel_rfl) Tryz.func5 jf5
  (fB (by kernel_rfl)) (by unfold Func.isWrapper;first|(rw[if_pos (by decide+kernel)];kernel_rfl)|(rw[if_neg (by decide+kernel)];exact⟨rfl,rfl⟩))
  (fun os started H enc _ Fi=>by rw[OpenClaim.pre_eq_preRow];exact qMp os started H enc Fi)
theorem qNz (g : FuncId) (fn : Func) (hf : Tryz.pinned.checked.prog.funcNamed "testgate/testgatelaw06.MentionTexts" = some g) (hfn : Tryz.pinned.checked.prog.funcs[g]? = some fn) :
  true=Tryz.pinned.checked.prog.looks []/\∀(j:Nat) t,fn.params[j]? =some t->Tryz.pinned.checked.prog.wantsStandIn t=false:=by
 obtain rfl : g = 5 := jG ((show Tryz.prog.funcNamed "testgate/testgatelaw06.MentionTexts" = some 5 by kernel_rfl).symm.trans hf) |>.symm
 obtain rfl:fn=Tryz.f5:=(jG (Tryz.func5.symm.trans hfn)).symm
 refine⟨by kernel_rfl,fun j t ht=> ?_⟩
 rw[Tryz.params5] at ht
 have hm:=Array.mem_of_getElem? ht
 simp only[List.mem_toArray,jV,fA,or_false] at hm
 rcases hm with rfl|rfl|rfl|rfl
 .exact(show Tryz.prog.wantsStandIn 22=false by kernel_rfl)
 .exact(show Tryz.prog.wantsStandIn 3=false by kernel_rfl)
 .exact(show Tryz.prog.wantsStandIn 29=false by kernel_rfl)
 exact(show Tryz.prog.wantsStandIn 9=false by kernel_rfl)
theorem card:Rows.MentionTextsUptoCardSaid:=
 Claim7.holds_tied_plain_at .later [] _ _ _ _ said (fun _ h=>by cases h) (by kernel_rfl) (fun _ h=>by cases h) mentionTextsUpto_row_tie rfl ⟨rfl,rfl⟩ (by kernel_rfl) rfl qNz (by kernel_rfl)
#print axioms card
end Go.Proofs.YthiiggmmmoolbaaGreatDoor.mentionTexts
