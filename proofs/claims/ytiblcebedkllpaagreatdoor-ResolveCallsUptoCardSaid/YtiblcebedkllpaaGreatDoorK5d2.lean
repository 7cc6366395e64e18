/- No condition but those of each theorem. -/
import Derived.Test.YtiblcebedkllpaaGreatDoorProg
import Derived.WalkKit
import Derived.Deep.LoopGhost
import Derived.KernelRfl
import Derived.OrdersHeld
import Derived.OrdersIn
import Derived.LoopNIn
import Derived.Sort.LoopGhostIn
import Derived.Laws.AppendOwn
import Derived.RangeFuncLeaves
import Derived.RangeFuncRecord
import Derived.MapKept
import Derived.Maps.RangeRun
import Derived.ChangeKeysEq
import Derived.HandedShaped
import Derived.ChangeStays
import Derived.ChangeSame
import Derived.OpenShut
import Derived.WideShapes
import Derived.JoinedOf
import Derived.ReadAgain
import Derived.ChangeAt
import Derived.RowKit
import Derived.Lib.Overlaps
import Derived.WalkSmall
import Derived.Recover
import Derived.Test.YtiblcebedkllpaaGreatDoorRows
import Derived.Lib.Bytealg
import Derived.Test.YtiblcebedkllpaaGreatDoorK4d2
namespace Go.Proofs.YtiblcebedkllpaaGreatDoor
section
open Go Go.Dc
set_option maxHeartbeats 4000000
set_option maxRecDepth 100000
variable {N c1 c2 c3 c4 bp0:Nat} {m:Mem} {O:List Piece} {w:World} {a1 a2 a3 a4:Option Addr}
def qFu(N:Nat)(p0:T2o)(p2:ByteArray)(l1:T2)(s1:T23×Int):Option (T23×Int⊕T23⊕T25):=
 if(decide (s1.2<(List.length l1:Int)))=true then((idx l1 s1.2).bind fun x1=>(qDo 40 s1.1 ([(1,x1,p2)])).bind fun l2=>(qEr N p0 1 x1 p2).bind fun y1=>if(y1.2.2.2.2.2==1)=true then(some (.inr (.inr ((y1,l2,0))))) else(if(decide (y1.2.2.2.2.2>1))=true then(some (.inr (.inr ((((⟨#[]⟩:ByteArray),(⟨#[]⟩:ByteArray),0,(⟨#[]⟩:ByteArray),0,0),l2,12))))) else(some (.inl (l2,IntKind.wrap .i64 (s1.2+1)))))) else(some (.inr (.inl s1.1)))
def qKl(N:Nat)(p0:T2o)(p1:T1s)(p2:ByteArray):Option T25:=
 (qDo 16 ([p1.1]) p1.2.1).bind fun l1=>(qAx (qFu N p0 p2 l1) N (([]:T23),0)).bind fun out1=>(match out1 with| .inl o1=>some (((⟨#[]⟩:ByteArray),(⟨#[]⟩:ByteArray),0,(⟨#[]⟩:ByteArray),0,0),o1,11)| .inr (z)=>some z)
theorem qRg{p0:T2o}{p1:T1s}{p2:ByteArray}{r:T25}(g:St m (O) w)(r1:RepS cStr m a1 c1 p0.1)(r2:RepS C6 m a2 c2 p0.2)(r3:RepS cStr m a3 c3 p1.2.1)(r4:RepS C5 m a4 c4 p1.2.2)(i:qKl N p0 p1 p2=some r):Calls Tryz.prog 66 #[.agg #[vS a1 p0.1 c1,vS a2 p0.2 c2],.agg (Vc p1 a3 c3 a4 c4),vT p2] w fun e w'=>∃ra1 rc1 m',e= .returned (.tuple #[.agg (Vh r.1),vS ra1 r.2.1 rc1,vI r.2.2])∧m.le m'∧St m' (kR ra1 r.2.1 rc1 51 3::O) w'∧RepS C8 m' ra1 rc1 r.2.1:=by
 unfold qKl at i;have q:=m.le_refl;refine W_cA Tryz.func66 rfl Tryz.ntmps66 ?_;refine W_sr (qAb rfl (qJg 3 116 0 (.agg #[vS a1 p0.1 c1,vS a2 p0.2 c2]) g fun b1 m1 w1 e1 g hb1=>(qAb rfl (qJg 4 36 1 (.agg (Vc p1 a3 c3 a4 c4)) g fun b2 m2 w2 e2 g hb2=>(qAb rfl (qCh 6 39 (.agg (Vg eB eB 0 eB 0 0)) g fun b3 w3 g=>(qAa 2 [] (WO_e (W_sr (qAa 1 [(9,vS none ([]:T23) 0)] (WO_e (qAu (W_sr (qAa 1 [(13,vP b2 0)] (qEp 14 9 13 0 (vT p1.1) g hb2 (qAb rfl (qAp (d:=15) (t:=33) (e:=9) (len:=1) (parts:= #[(0,(.tmp 14))]) cStr (xs:=[p1.1]) [vT p1.1] kr rfl (fun _=>qAo kr _) rfl rfl g ⟨[vT p1.1],_,rfl,rfl,rfl⟩ fun b4 m3 w4 e3 g r5=>(qAa 1 [(16,vP b2 1)] (qAb rfl (qKy (d:=17) (t:=33) (x:=(.tmp 16)) (vS a3 p1.2.1 c3) kr rfl (ev (vP b2 1)) g ((hb2.mono e3).drop 1) kr (qAb rfl (qFb 18 33 33 9 16 15 17 g (.inl kr) r5 (((r3.mono e1).mono e2).mono e3).src i fun l1 i a5 c5 m4 w5 e4 g r6=>(qAa 2 [(19,vI (l1.length:Int)),(20,vI 0)] (WO_e (qAy ?_)))))))))))))))))))))))));have⟨out1,i,j1⟩:=qBc i;refine qCg (.exit 0) (fun L' w'=>∃(o1:T23),∃a6 c6 m5,(.inl o1)=out1∧L'=[(6,vP b3 0),(9,vS a6 o1 c6)]∧m.le m5∧St m5 (kB b3 (Vg eB eB 0 eB 0 0) 39::kR a5 l1 c5 9 1::kR a6 o1 c6 51 3::O) w'∧RepS C8 m5 a6 c6 o1) ?_ ?_
 ·rintro _ w6 ⟨o1,a6,c6,m5,rfl,rfl,q,g,r7⟩;have i:=j1;refine qBl (qAd (W_sr (qAa 2 [(45,.agg (Vg eB eB 0 eB 0 0)),(46,vS a6 o1 c6)] (qAb rfl (qBi 39 6 45 (.agg (Vg eB eB 0 eB 0 0)) g fun w15 g=>(qAa 2 [(7,vS a6 o1 c6),(8,vI 11)] (qAv rfl ?_)))))));have g:=g.f1.t;refine qAd (qBg ?_);obtain rfl:=sI i;exact qEo [.cell 6 39,.tmp 7,.tmp 8] [.agg (Vg eB eB 0 eB 0 0),vS a6 o1 c6,vI 11] rfl (ResAll.cons (ResAt.blk (v:= .agg (Vg eB eB 0 eB 0 0)) (o:=0) kr g.h kr) (ResAll.cons (ResAt.tmp kr) (ResAll.cons (ResAt.tmp kr) ResAll.nil))) ⟨a6,c6,m5,rfl,q,g.t,r7⟩
 intro K0_u1;have g:=(g.nilroom 51 3).front1.front2;refine qGd _ kr (qDj (fun k1 L' w'=>∃(s1:T23×Int),∃a7 c7 m6,qAx (qFu N p0 p2 l1) k1 s1=some out1∧L'=[(2,vT p2),(3,vP b1 0),(6,vP b3 0),(9,vS a7 s1.1 c7),(18,vS a5 l1 c5),(19,vI (l1.length:Int)),(20,vI s1.2)]∧m.le m6∧St m6 (kB b3 (Vg eB eB 0 eB 0 0) 39::kR a5 l1 c5 9 1::kR a7 s1.1 c7 51 3::O) w'∧MRow m6 b1 0 [vS a1 p0.1 c1,vS a2 p0.2 c2]∧RepS cStr m6 a1 c1 p0.1∧RepS C6 m6 a2 c2 p0.2∧RepS C8 m6 a7 c7 s1.1∧RepS cStr m6 a5 c5 l1) N ⟨(([]:T23),0),none,0,m4,i,rfl,(((q.t e1).t e2).t e3).t e4,g,((hb1.mono e2).mono e3).mono e4,(((r1.mono e1).mono e2).mono e3).mono e4,(((r2.mono e1).mono e2).mono e3).mono e4,(RepS.nil _ _),r6⟩ ?_);rintro k1 _ w7 ⟨s1,a7,c7,m6,hL,rfl,q,g,hb1,r1,r2,r8,r6⟩;rcases k1 with _|k1
 ·exact qBq hL
 ·obtain⟨qu1,i,hSu1,hBu1⟩:=qBr hL;clear hL;unfold qFu at i;refine W_sr (qAa 1 [(21,vB (decide (s1.2<(l1.length:Int))))] (WO_e (qAu (W_if i ?_ ?_))))
  ·intro A i;refine qAq (qAd (qAu (qAy (W_sr (qAb rfl (qFr 22 33 9 18 20 r6 i ?_))))));rintro x1 i b5 f1 cs1 rfl hq1;refine qEp 23 9 22 f1 (vT x1) g hq1 (qAa 1 [(11,vT x1)] (WO_e (W_sr (qAa 4 [(24,vS a7 s1.1 c7),(27,.agg (Vd 1 x1 p2))] (qAb rfl (qAp (d:=28) (t:=40) (e:=51) (len:=1) (parts:= #[(0,(.tmp 27))]) C8 (xs:=[(1,x1,p2)]) [vI 1,vT x1,vT p2] kr rfl (fun _=>qAo kr _) rfl rfl g ⟨[vI 1,vT x1,vT p2],_,rfl,⟨_,_,rfl,rfl,⟨_,_,rfl,rfl,rfl⟩⟩,rfl⟩ fun b6 m7 w8 e5 g r9=>(qAb rfl (qFb 29 40 40 51 40 24 28 g.f3 (.inl kr) (r8.mono e5) r9.src i fun l2 i a8 c8 m8 w9 e6 g r10=>(qAa 1 [(9,vS a8 l2 c8)] (qAv rfl ?_))))))))));have g:=g.f1.t;refine qAd (W_sr (qEp 30 116 3 0 (.agg #[vS a1 p0.1 c1,vS a2 p0.2 c2]) g ((hb1.mono e5).mono e6) (qAa 2 [(31,vT x1),(32,vT p2)] (qAl 33 i (fun _ h=>qNf g ((r1.mono e5).mono e6) ((r2.mono e5).mono e6) h) ?_))));rintro y1 i _ w10 ⟨m9,rfl,e7,g⟩;have q:=((q.t e5).t e6).t e7;have r10:=r10.mono e7;refine qAb rfl (qCh 12 39 (.agg (Vg eB eB 0 eB 0 0)) g fun b7 w11 g=>(qAb rfl (qBi 39 12 33 (.agg (Vh y1)) g fun w12 g=>(WO_e (qAu (W_sr (qAa 1 [(34,vP b7 5)] (qAb rfl (qAn 35 3 34 5 (vI y1.2.2.2.2.2) g.h (qAa 1 [(36,vB (y1.2.2.2.2.2==1))] (WO_e (W_if i ?_ ?_))))))))))))
   ·intro A i;refine W_sr (qAb rfl (qAn 37 39 12 0 (.agg (Vh y1)) g.h (qAa 1 [(38,vS a8 l2 c8)] (qAb rfl (qBi 39 6 37 (.agg (Vh y1)) g.f2 fun w13 g=>(qAa 2 [(7,vS a8 l2 c8),(8,vI 0)] (qAv rfl ?_)))))));have g:=g.f3.t;refine qAd (qBg (qAc (qAe (qAc ?_))));obtain rfl:=sI i;have ho:=hBu1 _ rfl;subst ho;have i:=j1;refine qAc (qAe (qAc ?_));obtain rfl:=sI i;exact qEo [.cell 6 39,.tmp 7,.tmp 8] [.agg (Vh y1),vS a8 l2 c8,vI 0] rfl (ResAll.cons (ResAt.blk (v:= .agg (Vh y1)) (o:=0) kr g.h kr) (ResAll.cons (ResAt.tmp kr) (ResAll.cons (ResAt.tmp kr) ResAll.nil))) ⟨a8,c8,m9,rfl,q,g.t.t,r10⟩
   ·intro A i;refine qAq (qAd (W_sr (qAa 1 [(39,vP b7 5)] (qAb rfl (qAn 40 3 39 5 (vI y1.2.2.2.2.2) g.h (qAa 1 [(41,vB (decide (y1.2.2.2.2.2>1)))] (WO_e (W_if i ?_ ?_))))))))
    ·intro A i;refine W_sr (qAa 2 [(42,.agg (Vg eB eB 0 eB 0 0)),(43,vS a8 l2 c8)] (qAb rfl (qBi 39 6 42 (.agg (Vg eB eB 0 eB 0 0)) g.f2 fun w14 g=>(qAa 2 [(7,vS a8 l2 c8),(8,vI 12)] (qAv rfl ?_)))));have g:=g.f3.t;refine qAd (qBg (qAe (qAc ?_)));obtain rfl:=sI i;have ho:=hBu1 _ rfl;subst ho;have i:=j1;refine qAc (qAe (qAc ?_));obtain rfl:=sI i;exact qEo [.cell 6 39,.tmp 7,.tmp 8] [.agg (Vg eB eB 0 eB 0 0),vS a8 l2 c8,vI 12] rfl (ResAll.cons (ResAt.blk (v:= .agg (Vg eB eB 0 eB 0 0)) (o:=0) kr g.h kr) (ResAll.cons (ResAt.tmp kr) (ResAll.cons (ResAt.tmp kr) ResAll.nil))) ⟨a8,c8,m9,rfl,q,g.t.t,r10⟩
    ·intro A i;refine qAq (qBp (qAd (qAr (qAa 2 [(20,vI (wr (s1.2+1)))] (qAv rfl ?_)))));obtain rfl:=sI i;have hL:=hSu1 _ rfl;exact xE (qCp k1 (jF _) ⟨(l2,wr (s1.2+1)),a8,c8,m9,hL,rfl,q,g.t.f2.f2,((hb1.mono e5).mono e6).mono e7,((r1.mono e5).mono e6).mono e7,((r2.mono e5).mono e6).mono e7,r10,((r6.mono e5).mono e6).mono e7⟩)
  ·intro A i;refine qDb (qAf ?_);cases i;have ho:=hBu1 _ rfl;have g:=g.f2.f2.f2;refine qAf ?_;exact xE (K0_u1 _ _ ⟨s1.1,a7,c7,m6,ho,rfl,q,g,r8⟩)
def qKb(N:Nat)(p0:Tj)(p1:T1s)(p2:ByteArray):Option T25:=
 ((qGp N p0).bind fun y1=>if(y1 !=0)=true then(some true) else((qHc N p2).bind fun y2=>some (!y2)):Tb).bind fun o1=>if o1=true then(some (((⟨#[]⟩:ByteArray),(⟨#[]⟩:ByteArray),0,(⟨#[]⟩:ByteArray),0,0),([]:T23),1)) else((qIq N p0).bind fun y3=>(qKl N y3 p1 p2).bind fun y4=>some (y4.1,y4.2.1,y4.2.2))
theorem qSy{p0:Tj}{p1:T1s}{p2:ByteArray}{r:T25}(g:St m (O) w)(r1:RepS C1 m a1 c1 p0)(r2:RepS cStr m a2 c2 p1.2.1)(r3:RepS C5 m a3 c3 p1.2.2)(i:qKb N p0 p1 p2=some r):Calls Tryz.prog 15 #[.agg #[vS a1 p0 c1],.agg (Vc p1 a2 c2 a3 c3),vT p2] w fun e w'=>∃ra1 rc1 m',e= .returned (.tuple #[.agg (Vh r.1),vS ra1 r.2.1 rc1,vI r.2.2])∧m.le m'∧St m' (kR ra1 r.2.1 rc1 51 3::O) w'∧RepS C8 m' ra1 rc1 r.2.1:=by
 unfold qKb at i;have q:=m.le_refl;refine W_cA Tryz.func15 rfl Tryz.ntmps15 ?_;refine W_sr (qAb rfl (qJg 3 25 0 (.agg #[vS a1 p0 c1]) g fun b1 m1 w1 e1 g hb1=>(qAb rfl (qJg 4 36 1 (.agg (Vc p1 a2 c2 a3 c3)) g fun b2 m2 w2 e2 g hb2=> ?_))));have r1:=(r1.mono e1).mono e2;have hb1:=hb1.mono e2;refine qAb rfl (qCh 6 39 (.agg (Vg eB eB 0 eB 0 0)) g fun b3 w3 g=>(qAa 2 [] (WO_e (qAu (W_sr ?_)))));have⟨o1,i,J⟩:=qBc i;refine qDz (j:=8) (fun L' w'=>∃m3,L'=[(2,vT p2),(3,vP b1 0),(4,vP b2 0),(6,vP b3 0),(16,vB o1)]∧m.le m3∧St m3 (kB b3 (Vg eB eB 0 eB 0 0) 39::O) w'∧MRow m3 b1 0 [vS a1 p0 c1]∧RepS C1 m3 a1 c1 p0∧MRow m3 b2 0 (Vf p1 a2 c2 a3 c3)∧RepS cStr m3 a2 c2 p1.2.1∧RepS C5 m3 a3 c3 p1.2.2) ?_ ?_
 ·have i:=J;rintro _ w4 ⟨m3,rfl,q,g,hb1,r1,hb2,r2,r3⟩;refine WO_e (W_if i ?_ ?_)
  ·intro A i;refine W_sr (qAa 1 [(17,.agg (Vg eB eB 0 eB 0 0))] (qAb rfl (qBi 39 6 17 (.agg (Vg eB eB 0 eB 0 0)) g fun w7 g=>(qAa 2 [(7,vS none ([]:T23) 0),(8,vI 1)] (WO_e (qBg (qAc ?_)))))));cases i;refine qEo [.cell 6 39,.tmp 7,.tmp 8] [.agg (Vg eB eB 0 eB 0 0),vS none ([]:T23) 0,vI 1] rfl (ResAll.cons (ResAt.blk (v:= .agg (Vg eB eB 0 eB 0 0)) (o:=0) kr g.h kr) (ResAll.cons (ResAt.tmp kr) (ResAll.cons (ResAt.tmp kr) ResAll.nil))) ?_;have g:=(g.nilroom 51 3).front1;exact⟨none,0,m3,rfl,q,g.t,(RepS.nil _ _)⟩
  ·intro A i;refine qAq (qAd (qAu (qEe [(11,fun w'=>Inv m3 w'∧True)] kr g fun w8 _ g=> ?_)));have hmS1:=m3.le_refl;refine tA g hmS1 ?_;refine qMy 25 3 0 18 0 (.agg #[vS a1 p0 c1]) (.head _) (fun _ h=>h.1) hb1 (qMy 36 4 2 20 0 (.agg (Vc p1 a2 c2 a3 c3)) (.head _) (fun _ h=>h.1) hb2 (qBb 3 21 (vT p2) (.head _) (qBn 1 kr (qDd 19 i (fun _ h=>qOi g r1 h) ?_))));rintro y3 i _ w9 ⟨a4,c4,a5,c5,m6,rfl,e5,g,r4,r5⟩;refine⟨_,rfl,?_⟩;have hmS1:=Mem.le_trans hmS1 e5;refine tA g hmS1 ?_;refine qBn 4 kr (qDd 22 i (fun _ h=>qRg g r4 r5 (r2.mono e5) (r3.mono e5) h) ?_);rintro y4 i _ w10 ⟨a6,c6,m7,rfl,e6,g,r6⟩;refine⟨_,rfl,?_⟩;have hmS1:=Mem.le_trans hmS1 e6;refine tA g hmS1 ?_;refine qBb 5 23 (.agg (Vh y4.1)) (.head _) (qBb 6 24 (vS a6 y4.2.1 c6) (.head _) (qBb 7 25 (vI y4.2.2) (.head _) (qBn 8 kr (qBi 39 6 23 (.agg (Vh y4.1)) g.f3 fun w11 g=>(tA g hmS1 (qBb 9 7 (vS a6 y4.2.1 c6) (.head _) (qBb 10 8 (vI y4.2.2) (.head _) (qCn kr ?_))))))));have g:=g.f2.t.f2.t;refine qAd (qBg ?_);obtain rfl:=sI i;exact qEo [.cell 6 39,.tmp 7,.tmp 8] [.agg (Vh y4.1),vS a6 y4.2.1 c6,vI y4.2.2] rfl (ResAll.cons (ResAt.blk (v:= .agg (Vh y4.1)) (o:=0) kr g.h kr) (ResAll.cons (ResAt.tmp kr) (ResAll.cons (ResAt.tmp kr) ResAll.nil))) ⟨a6,c6,m7,rfl,(q.t e5).t e6,g.t,r6⟩
 ·intro K;refine qEp 9 25 3 0 (.agg #[vS a1 p0 c1]) g hb1 (qAl 10 i (fun _ h=>qJt g r1 h) ?_);rintro y1 i _ w5 ⟨m4,rfl,e3,g⟩;refine qAa 2 [(12,vB (y1 !=0))] (qDt 12 i ?_ ?_)
  ·intro A i;refine qAa 4 [(16,vB true)] ?_;cases i;exact qBo _ kr (K _ _ ⟨m4,rfl,((q.t e1).t e2).t e3,g,hb1.mono e3,r1.mono e3,hb2.mono e3,((r2.mono e1).mono e2).mono e3,((r3.mono e1).mono e2).mono e3⟩)
  ·intro A i;refine qAa 1 [(13,vT p2)] (qAl 14 i (fun _ h=>qLw g h) ?_);rintro y2 i _ w6 ⟨m5,rfl,e4,g⟩;refine qAa 2 [(16,vB (!y2))] ?_;cases i;exact qBo _ kr (K _ _ ⟨m5,rfl,(((q.t e1).t e2).t e3).t e4,g,(hb1.mono e3).mono e4,(r1.mono e3).mono e4,(hb2.mono e3).mono e4,(((r2.mono e1).mono e2).mono e3).mono e4,(((r3.mono e1).mono e2).mono e3).mono e4⟩)
def qEa(N:Nat)(p0:T23)(p1:T23)(s1:Int):Ta:=
 if(decide (s1<(List.length p0:Int)))=true then((idx p0 s1).bind fun x1=>(idx p1 s1).bind fun x2=>if(!((x1.1==x2.1)&&((x1.2.1.toList==x2.2.1.toList)&&((x1.2.2.toList==x2.2.2.toList)&&true))))=true then(some (.inr (.inr (false)))) else(some (.inl (IntKind.wrap .i64 (s1+1))))) else(some (.inr (.inl ())))
def qGf(N:Nat)(p0:T23)(p1:T23):Tb:=
 if((List.length p0:Int) !=(List.length p1:Int))=true then(some false) else((qAx (qEa N p0 p1) N 0).bind fun out1=>(match out1 with| .inl o1=>some true| .inr (z)=>some z))
theorem qMi{p0:T23}{p1:T23}{r:Bool}(g:St m (O) w)(r1:RepS C8 m a1 c1 p0)(r2:RepS C8 m a2 c2 p1)(i:qGf N p0 p1=some r):Calls Tryz.prog 16 #[vS a1 p0 c1,vS a2 p1 c2] w fun e w'=>∃m',e= .returned (vB r)∧m.le m'∧St m' (O) w':=by
 unfold qGf at i;have q:=m.le_refl;refine W_cA Tryz.func16 rfl Tryz.ntmps16 ?_;refine W_sr (qAa 1 [] (WO_e (qAu (W_sr (qAa 5 [(10,vB ((p0.length:Int) !=(p1.length:Int)))] (WO_e (W_if i ?_ ?_)))))))
 ·intro A i;refine W_sr (qAa 1 [(4,vB false)] (WO_e (qBg (qAc ?_))));cases i;exact X_rt [4] [vB false] ⟨m,rfl,q,g⟩
 ·intro A i;refine qAq (qAd (qAu (W_sr (qAa 3 [(12,vI (p0.length:Int)),(13,vI 0)] (WO_e (qAy ?_))))));have⟨out1,i,j1⟩:=qBc i;refine qCg (.exit 0) (fun L' w'=>∃(o1:Unit),∃m1,(.inl o1)=out1∧L'=[]∧m.le m1∧St m1 (O) w') ?_ ?_
  ·rintro _ w1 ⟨o1,m1,rfl,rfl,q,g⟩;have i:=j1;refine qBl (qAd (W_sr (qAa 1 [(4,vB true)] (WO_e (qBg ?_)))));cases i;exact X_rt [4] [vB true] ⟨m1,rfl,q,g⟩
  intro K0_u1;refine qGd _ kr (qDj (fun k1 L' w'=>∃(s1:Int),∃m2,qAx (qEa N p0 p1) k1 s1=some out1∧L'=[(0,vS a1 p0 c1),(1,vS a2 p1 c2),(12,vI (p0.length:Int)),(13,vI s1)]∧m.le m2∧St m2 (O) w'∧RepS C8 m2 a1 c1 p0∧RepS C8 m2 a2 c2 p1) N ⟨0,m,i,rfl,q,g,r1,r2⟩ ?_);rintro k1 _ w2 ⟨s1,m2,hL,rfl,q,g,r1,r2⟩;rcases k1 with _|k1
  ·exact qBq hL
  ·obtain⟨qu1,i,hSu1,hBu1⟩:=qBr hL;clear hL;unfold qEa at i;refine W_sr (qAa 1 [(14,vB (decide (s1<(p0.length:Int))))] (WO_e (qAu (W_if i ?_ ?_))))
   ·intro A i;refine qAq (qAd (qAu (qAy (W_sr (qAa 2 [(5,vI s1)] (WO_e (qAu (qEe [(9,fun w'=>Inv m2 w'∧True)] kr g fun w3 _ g=> ?_))))))));have hmS1:=m2.le_refl;refine tA g hmS1 ?_;refine qBb 0 16 (vS a1 p0 c1) (.head _) (qBb 1 17 (vI s1) (.head _) ?_);have⟨x1,d1,i⟩:=qBc i;refine qOf (t:=40) (e:=51) (x:=(.tmp 16)) (y:=(.tmp 17)) 2 18 C8 kr rfl kr (.head _) (qFk (qJe (qFk (qFk (qJe (qFk qPm)))))) (ev (vS a1 p0 c1)) (ev (vI s1)) kr r1 d1 ?_;rintro b1 f1 cs1 ⟨_,_,rfl,rfl,⟨_,_,rfl,rfl,rfl⟩⟩ hq1;refine qMy 51 18 3 19 f1 (.agg (Ve x1)) (.head _) (fun _ h=>h.1) hq1 (qBb 4 20 (vS a2 p1 c2) (.head _) (qBb 5 21 (vI s1) (.head _) ?_));have⟨x2,d2,i⟩:=qBc i;refine qOf (t:=40) (e:=51) (x:=(.tmp 20)) (y:=(.tmp 21)) 6 22 C8 kr rfl kr (.head _) (qFk (qJe (qFk (qFk (qJe (qFk qPm)))))) (ev (vS a2 p1 c2)) (ev (vI s1)) kr r2 d2 ?_;rintro b2 f2 cs2 ⟨_,_,rfl,rfl,⟨_,_,rfl,rfl,rfl⟩⟩ hq2;refine qMy 51 22 7 23 f2 (.agg (Ve x2)) (.head _) (fun _ h=>h.1) hq2 (qBn 8 kr (qZf (d:=24) (t:=51) (t2:=51) (x:=(.tmp 19)) (y:=(.tmp 23)) (xs:=(Ve x1)) (ys:=(Ve x2)) ((x1.1==x2.1)&&((x1.2.1.toList==x2.2.1.toList)&&((x1.2.2.toList==x2.2.2.toList)&&true))) kr rfl (ev (.agg (Ve x1))) (ev (.agg (Ve x2))) kr kr kr (tA g hmS1 (qCn kr (qAd (W_if i ?_ ?_))))))
    ·intro A i;refine W_sr (qAa 1 [(4,vB false)] (WO_e (qBg (qAe (qAc ?_)))));cases i;have ho:=hBu1 _ rfl;subst ho;have i:=j1;refine qAc (qAe (qAc ?_));cases i;exact X_rt [4] [vB false] ⟨m2,rfl,q,g⟩
    ·intro A i;refine qAq (qBp (qAd (qAr (qAa 2 [(13,vI (wr (s1+1)))] (qAv rfl ?_)))));obtain rfl:=sI i;have hL:=hSu1 _ rfl;exact xE (qCp k1 (jF _) ⟨wr (s1+1),m2,hL,rfl,q,g,r1,r2⟩)
   ·intro A i;refine qDb (qAf ?_);cases i;have ho:=hBu1 _ rfl;refine qAf ?_;exact xE (K0_u1 _ _ ⟨(),m2,ho,rfl,q,g⟩)
def qIe(N:Nat)(p0:T22)(p1:ByteArray)(s1:Int):Option (Int⊕Unit⊕T26):=
 if(decide (s1<(List.length p0.1:Int)))=true then((idx p0.1 s1).bind fun x1=>if(x1.1.toList==p1.toList)=true then(some (.inr (.inr ((x1.2,true))))) else(some (.inl (IntKind.wrap .i64 (s1+1))))) else(some (.inr (.inl ())))
def qLh(N:Nat)(p0:T22)(p1:ByteArray):Option T26:=
 (qAx (qIe N p0 p1) N 0).bind fun out1=>(match out1 with| .inl o1=>some ((⟨#[]⟩:ByteArray),false)| .inr (z)=>some z)
theorem qUk{p0:T22}{p1:ByteArray}{q1:Tv}{es1:Array MapEntry}{ck1:Nat}{q2:Tv}{es2:Array MapEntry}{ck2:Nat}{r:T26}(g:St m (qCd q1 es1 ck1::qCd q2 es2 ck2::kB bp0 #[vS a1 p0.1 c1,vB p0.2.1,.map q1,vS a2 p0.2.2.2.1 c2,.map q2] 109::O) w)(r1:RepS C1 m a1 c1 p0.1)(r2:MapQ (fun s:ByteArray=>Value.string s) C6 true m q1 es1 ck1 p0.2.2.1)(r3:RepS cStr m a2 c2 p0.2.2.2.1)(r4:MapQ qLu C7 true m q2 es2 ck2 p0.2.2.2.2)(i:qLh N p0 p1=some r):Calls Tryz.prog 136 #[vP bp0 0,vT p1] w fun e w'=>∃m',e= .returned (.tuple #[vT r.1,vB r.2])∧m.le m'∧St m' (qCd q1 es1 ck1::qCd q2 es2 ck2::kB bp0 #[vS a1 p0.1 c1,vB p0.2.1,.map q1,vS a2 p0.2.2.2.1 c2,.map q2] 109::O) w':=by
 unfold qLh at i;have q:=m.le_refl;refine W_cA Tryz.func136 rfl Tryz.ntmps136 ?_;refine W_sr (qAa 2 [] (WO_e (qAu (W_sr (qAa 4 [(11,vP bp0 0)] (qAb rfl (qAn 12 23 11 0 (vS a1 p0.1 c1) g.t.t.h (qAa 2 [(13,vI (p0.1.length:Int)),(14,vI 0)] (WO_e (qAy ?_))))))))));have⟨out1,i,j1⟩:=qBc i;refine qCg (.exit 0) (fun L' w'=>∃(o1:Unit),∃m1,(.inl o1)=out1∧L'=[]∧m.le m1∧St m1 (kB bp0 #[vS a1 p0.1 c1,vB p0.2.1,.map q1,vS a2 p0.2.2.2.1 c2,.map q2] 109::qCd q1 es1 ck1::qCd q2 es2 ck2::O) w'∧RepS C1 m1 a1 c1 p0.1∧RepS cStr m1 a2 c2 p0.2.2.2.1∧MapQ (fun s:ByteArray=>Value.string s) C6 true m1 q1 es1 ck1 p0.2.2.1∧MapQ qLu C7 true m1 q2 es2 ck2 p0.2.2.2.2) ?_ ?_
 ·rintro _ w1 ⟨o1,m1,rfl,rfl,q,g,r1,r3,r2,r4⟩;have i:=j1;refine qBl (qAd (W_sr (qAa 2 [(4,vT eB),(5,vB false)] (WO_e (qBg ?_)))));cases i;exact X_rt [4,5] [vT eB,vB false] ⟨m1,rfl,q,g.f2.f2⟩
 intro K0_u1;refine qGd _ kr (qDj (fun k1 L' w'=>∃(s1:Int),∃m2,qAx (qIe N p0 p1) k1 s1=some out1∧L'=[(1,vT p1),(12,vS a1 p0.1 c1),(13,vI (p0.1.length:Int)),(14,vI s1)]∧m.le m2∧St m2 (kB bp0 #[vS a1 p0.1 c1,vB p0.2.1,.map q1,vS a2 p0.2.2.2.1 c2,.map q2] 109::qCd q1 es1 ck1::qCd q2 es2 ck2::O) w'∧RepS C1 m2 a1 c1 p0.1∧RepS cStr m2 a2 c2 p0.2.2.2.1∧MapQ (fun s:ByteArray=>Value.string s) C6 true m2 q1 es1 ck1 p0.2.2.1∧MapQ qLu C7 true m2 q2 es2 ck2 p0.2.2.2.2) N ⟨0,m,i,rfl,q,g.f1.f1.f2,r1,r3,r2,r4⟩ ?_);rintro k1 _ w2 ⟨s1,m2,hL,rfl,q,g,r1,r3,r2,r4⟩;rcases k1 with _|k1
 ·exact qBq hL
 ·obtain⟨qu1,i,hSu1,hBu1⟩:=qBr hL;clear hL;unfold qIe at i;refine W_sr (qAa 1 [(15,vB (decide (s1<(p0.1.length:Int))))] (WO_e (qAu (W_if i ?_ ?_))))
  ·intro A i;refine qAq (qAd (qAu (qAy (W_sr (qAb rfl (qFr 16 23 101 12 14 r1 i ?_))))));rintro x1 i b1 f1 cs1 ⟨_,_,rfl,rfl,rfl⟩ hq1;refine qEp 17 101 16 f1 (.agg (V2 x1)) g hq1 (qAb rfl (qCh 7 101 (.agg #[vT eB,vT eB]) g fun b2 w3 g=>(qAb rfl (qBi 101 7 17 (.agg (V2 x1)) g fun w4 g=>(WO_e (W_sr (qAa 1 [(18,vP b2 0)] (qAb rfl (qAn 19 9 18 0 (vT x1.1) g.h (qAa 2 [(21,vB (x1.1.toList==p1.toList))] (WO_e (W_if i ?_ ?_))))))))))))
   ·intro A i;refine W_sr (qAa 1 [(22,vP b2 1)] (qAb rfl (qAn 23 9 22 1 (vT x1.2) g.h (qAa 2 [(4,vT x1.2),(5,vB true)] (WO_e (qBg (qAe (qAc ?_))))))));cases i;have ho:=hBu1 _ rfl;subst ho;have i:=j1;refine qAc (qAe (qAc ?_));cases i;exact X_rt [4,5] [vT x1.2,vB true] ⟨m2,rfl,q,g.t.f2.f2⟩
   ·intro A i;refine qAq (qBp (qAd (qAr (qAa 2 [(14,vI (wr (s1+1)))] (qAv rfl ?_)))));obtain rfl:=sI i;have hL:=hSu1 _ rfl;exact xE (qCp k1 (jF _) ⟨wr (s1+1),m2,hL,rfl,q,g.t.f2.f2.f2,r1,r3,r2,r4⟩)
  ·intro A i;refine qDb (qAf ?_);cases i;have ho:=hBu1 _ rfl;have g:=g.f2.f2.f2;refine qAf ?_;exact xE (K0_u1 _ _ ⟨(),m2,ho,rfl,q,g,r1,r3,r2,r4⟩)
def qOg(N:Nat)(p0:T22)(p1:ByteArray):Option T2r:=
 (qLh N p0 p1).bind fun y1=>if y1.2=true then(some (1,((⟨#[]⟩:ByteArray),(⟨#[]⟩:ByteArray),0,(⟨#[]⟩:ByteArray),0,0),[(4,p1,(⟨#[]⟩:ByteArray))],0)) else((qDo 40 ([(4,p1,(⟨#[]⟩:ByteArray))]) ([(3,p1,(⟨#[]⟩:ByteArray))])).bind fun l1=>(qIy N p0 3 (⟨#[]⟩:ByteArray) p1).bind fun y2=>if(y2.2.2.2.2.2==0)=true then(some (0,((⟨#[]⟩:ByteArray),(⟨#[]⟩:ByteArray),0,(⟨#[]⟩:ByteArray),0,0),l1,14)) else(if(decide (y2.2.2.2.2.2>1))=true then(some (3,((⟨#[]⟩:ByteArray),(⟨#[]⟩:ByteArray),0,(⟨#[]⟩:ByteArray),0,0),l1,12)) else(some (2,y2,l1,0))))
theorem qVo{p0:T22}{p1:ByteArray}{q1:Tv}{es1:Array MapEntry}{ck1:Nat}{q2:Tv}{es2:Array MapEntry}{ck2:Nat}{r:T2r}(g:St m (qCd q1 es1 ck1::qCd q2 es2 ck2::kB bp0 #[vS a1 p0.1 c1,vB p0.2.1,.map q1,vS a2 p0.2.2.2.1 c2,.map q2] 109::O) w)(r1:RepS C1 m a1 c1 p0.1)(r2:MapQ (fun s:ByteArray=>Value.string s) C6 true m q1 es1 ck1 p0.2.2.1)(r3:RepS cStr m a2 c2 p0.2.2.2.1)(r4:MapQ qLu C7 true m q2 es2 ck2 p0.2.2.2.2)(i:qOg N p0 p1=some r):Calls Tryz.prog 69 #[vP bp0 0,vT p1] w fun e w'=>∃ra1 rc1 m',e= .returned (.tuple #[vI r.1,.agg (Vh r.2.1),vS ra1 r.2.2.1 rc1,vI r.2.2.2])∧m.le m'∧St m' (kR ra1 r.2.2.1 rc1 51 3::qCd q1 es1 ck1::qCd q2 es2 ck2::kB bp0 #[vS a1 p0.1 c1,vB p0.2.1,.map q1,vS a2 p0.2.2.2.1 c2,.map q2] 109::O) w'∧RepS C8 m' ra1 rc1 r.2.2.1:=by
 unfold qOg at i;have q:=m.le_refl;refine W_cA Tryz.func69 rfl Tryz.ntmps69 ?_;refine W_sr (qAa 1 [] (qAb rfl (qCh 5 39 (.agg (Vg eB eB 0 eB 0 0)) g fun b1 w1 g=>(qAa 2 [] (WO_e (W_sr (qAa 2 [(12,.agg (Vd 4 p1 eB))] (qAb rfl (qAp (d:=13) (t:=40) (e:=51) (len:=1) (parts:= #[(0,(.tmp 12))]) C8 (xs:=[(4,p1,eB)]) [vI 4,vT p1,vT eB] kr rfl (fun _=>qAo kr _) rfl rfl g ⟨[vI 4,vT p1,vT eB],_,rfl,⟨_,_,rfl,rfl,⟨_,_,rfl,rfl,rfl⟩⟩,rfl⟩ fun b2 m1 w2 e1 g r5=>(qAa 1 [(6,vS (aP b2) ([(4,p1,eB)]) 1)] (WO_e (qAu (W_sr (qAa 2 [(15,vP bp0 0),(16,vT p1)] (qAl 17 i (fun _ h=>qUk g.f4.f4.f4 (r1.mono e1) (r2.mono e1) (r3.mono e1) (r4.mono e1) h) ?_)))))))))))))));rintro y1 i _ w3 ⟨m2,rfl,e2,g⟩;refine qAa 5 [(9,vB y1.2)] (WO_e (W_sr (qAa 1 [(20,vB y1.2)] (WO_e (W_if i ?_ ?_)))))
 ·intro A i;refine W_sr (qAa 3 [(21,.agg (Vg eB eB 0 eB 0 0)),(22,vS (aP b2) ([(4,p1,eB)]) 1),(4,vI 1)] (qAb rfl (qBi 39 5 21 (.agg (Vg eB eB 0 eB 0 0)) g.f4 fun w4 g=>(qAa 2 [(6,vS (aP b2) ([(4,p1,eB)]) 1),(7,vI 0)] (WO_e (qBg (qAc ?_)))))));cases i;exact qEo [.tmp 4,.cell 5 39,.tmp 6,.tmp 7] [vI 1,.agg (Vg eB eB 0 eB 0 0),vS (aP b2) ([(4,p1,eB)]) 1,vI 0] rfl (ResAll.cons (ResAt.tmp kr) (ResAll.cons (ResAt.blk (v:= .agg (Vg eB eB 0 eB 0 0)) (o:=0) kr g.h kr) (ResAll.cons (ResAt.tmp kr) (ResAll.cons (ResAt.tmp kr) ResAll.nil)))) ⟨(aP b2),1,m2,rfl,(q.t e1).t e2,g.t.f2.f2.f2.f3,r5.mono e2⟩
 ·intro A i;refine qAq (qAd (W_sr (qAa 3 [(23,vS (aP b2) ([(4,p1,eB)]) 1),(25,.agg (Vd 3 p1 eB))] (qAb rfl (qAp (d:=26) (t:=40) (e:=51) (len:=1) (parts:= #[(0,(.tmp 25))]) C8 (xs:=[(3,p1,eB)]) [vI 3,vT p1,vT eB] kr rfl (fun _=>qAo kr _) rfl rfl g ⟨[vI 3,vT p1,vT eB],_,rfl,⟨_,_,rfl,rfl,⟨_,_,rfl,rfl,rfl⟩⟩,rfl⟩ fun b3 m3 w5 e3 g r6=>(qAb rfl (qFb 27 40 40 51 40 23 26 g.f4 (.inl kr) ((r5.mono e2).mono e3) r6.src i fun l1 i a3 c3 m4 w6 e4 g r7=>(qAa 1 [(6,vS a3 l1 c3)] (qAv rfl ?_)))))))));have g:=g.f1.t;refine qAd (W_sr (qAa 2 [(28,vP bp0 0),(29,vT p1)] (qAl 30 i (fun _ h=>qMs g.f3.f3.f3 ((((r1.mono e1).mono e2).mono e3).mono e4) ((((r2.mono e1).mono e2).mono e3).mono e4) ((((r3.mono e1).mono e2).mono e3).mono e4) ((((r4.mono e1).mono e2).mono e3).mono e4) h) ?_)));rintro y2 i _ w7 ⟨m5,rfl,e5,g⟩;have q:=((((q.t e1).t e2).t e3).t e4).t e5;have r7:=r7.mono e5;refine qAb rfl (qCh 10 39 (.agg (Vg eB eB 0 eB 0 0)) g fun b4 w8 g=>(qAb rfl (qBi 39 10 30 (.agg (Vh y2)) g fun w9 g=>(WO_e (qAu (qAy (W_sr (qAa 1 [(32,vP b4 5)] (qAb rfl (qAn 33 3 32 5 (vI y2.2.2.2.2.2) g.h (qAa 2 [(31,vB (y2.2.2.2.2.2==0))] (WO_e (W_if i ?_ ?_)))))))))))))
  ·intro A i;refine W_sr (qAa 3 [(35,.agg (Vg eB eB 0 eB 0 0)),(36,vS a3 l1 c3),(4,vI 0)] (qAb rfl (qBi 39 5 35 (.agg (Vg eB eB 0 eB 0 0)) g.f5 fun w10 g=>(qAa 2 [(6,vS a3 l1 c3),(7,vI 14)] (WO_e (qBg (qAe (qAc ?_))))))));obtain rfl:=sI i;exact qEo [.tmp 4,.cell 5 39,.tmp 6,.tmp 7] [vI 0,.agg (Vg eB eB 0 eB 0 0),vS a3 l1 c3,vI 14] rfl (ResAll.cons (ResAt.tmp kr) (ResAll.cons (ResAt.blk (v:= .agg (Vg eB eB 0 eB 0 0)) (o:=0) kr g.h kr) (ResAll.cons (ResAt.tmp kr) (ResAll.cons (ResAt.tmp kr) ResAll.nil)))) ⟨a3,c3,m5,rfl,q,g.t.t.f2.f2.f2.f3,r7⟩
  ·intro A i;refine W_sr (qAa 1 [(38,vP b4 5)] (qAb rfl (qAn 39 3 38 5 (vI y2.2.2.2.2.2) g.h (qAa 2 [(37,vB (decide (y2.2.2.2.2.2>1)))] (WO_e (W_if i ?_ ?_))))))
   ·intro A i;refine W_sr (qAa 3 [(41,.agg (Vg eB eB 0 eB 0 0)),(42,vS a3 l1 c3),(4,vI 3)] (qAb rfl (qBi 39 5 41 (.agg (Vg eB eB 0 eB 0 0)) g.f5 fun w11 g=>(qAa 2 [(6,vS a3 l1 c3),(7,vI 12)] (WO_e (qBg (qAe (qAc ?_))))))));obtain rfl:=sI i;exact qEo [.tmp 4,.cell 5 39,.tmp 6,.tmp 7] [vI 3,.agg (Vg eB eB 0 eB 0 0),vS a3 l1 c3,vI 12] rfl (ResAll.cons (ResAt.tmp kr) (ResAll.cons (ResAt.blk (v:= .agg (Vg eB eB 0 eB 0 0)) (o:=0) kr g.h kr) (ResAll.cons (ResAt.tmp kr) (ResAll.cons (ResAt.tmp kr) ResAll.nil)))) ⟨a3,c3,m5,rfl,q,g.t.t.f2.f2.f2.f3,r7⟩
   ·intro A i;refine qAq (qBp (qAd (qAu (qEe [(6,fun w'=>Inv m5 w'∧Piece.holds m5 w' (kB b4 (Vh y2) 39)∧True)] kr g fun w12 _ g=> ?_))));have hmS1:=m5.le_refl;refine⟨⟨.inr ⟨Inv.anti g.inv hmS1,Piece.holds_anti g.h hmS1,trivial⟩,trivial⟩,?_⟩;refine qFc 39 10 0 43 0 (.agg (Vh y2)) (.head _) (fun _ h=>h.2.1) (qBb 1 44 (vS a3 l1 c3) (.head _) (qBb 2 4 (vI 2) (.head _) (qBn 3 kr (qBi 39 5 43 (.agg (Vh y2)) g.f5 fun w13 g=>(⟨⟨.inr ⟨Inv.anti g.inv hmS1,Piece.holds_anti g.t.h hmS1,trivial⟩,trivial⟩,?_⟩)))));refine qBb 4 6 (vS a3 l1 c3) (.head _) (qBb 5 7 (vI 0) (.head _) (qCn kr (qAd (qBg ?_))));obtain rfl:=sI i;exact qEo [.tmp 4,.cell 5 39,.tmp 6,.tmp 7] [vI 2,.agg (Vh y2),vS a3 l1 c3,vI 0] rfl (ResAll.cons (ResAt.tmp kr) (ResAll.cons (ResAt.blk (v:= .agg (Vh y2)) (o:=0) kr g.h kr) (ResAll.cons (ResAt.tmp kr) (ResAll.cons (ResAt.tmp kr) ResAll.nil)))) ⟨a3,c3,m5,rfl,q,g.t.t.f2.f2.f2.f3,r7⟩
def qMw(N:Nat)(p0:Tj)(p1:ByteArray):Option T2r:=
 (qQz N p0).bind fun y1=>(if(!y1.2.1)=true then(some true) else((qJj N p1).bind fun y2=>some (!y2)):Tb).bind fun o1=>if o1=true then(some (0,((⟨#[]⟩:ByteArray),(⟨#[]⟩:ByteArray),0,(⟨#[]⟩:ByteArray),0,0),([]:T23),1)) else((qOg N y1 p1).bind fun y3=>some (y3.1,y3.2.1,y3.2.2.1,y3.2.2.2))
theorem qSz{p0:Tj}{p1:ByteArray}{r:T2r}(g:St m (O) w)(r1:RepS C1 m a1 c1 p0)(i:qMw N p0 p1=some r):Calls Tryz.prog 17 #[.agg #[vS a1 p0 c1],vT p1] w fun e w'=>∃ra1 rc1 m',e= .returned (.tuple #[vI r.1,.agg (Vh r.2.1),vS ra1 r.2.2.1 rc1,vI r.2.2.2])∧m.le m'∧St m' (kR ra1 r.2.2.1 rc1 51 3::O) w'∧RepS C8 m' ra1 rc1 r.2.2.1:=by
 unfold qMw at i;have q:=m.le_refl;refine W_cA Tryz.func17 rfl Tryz.ntmps17 ?_;refine W_sr (qAb rfl (qJg 2 25 0 (.agg #[vS a1 p0 c1]) g fun b1 m1 w1 e1 g hb1=>(qAa 1 [] (qAb rfl (qCh 5 39 (.agg (Vg eB eB 0 eB 0 0)) g fun b2 w2 g=>(qAa 2 [] (WO_e (W_sr (qEp 9 25 2 0 (.agg #[vS a1 p0 c1]) g hb1 (qAl 10 i (fun _ h=>qWq g (r1.mono e1) h) ?_))))))))));rintro y1 i _ w3 ⟨b3,a2,c2,q1,es1,ck1,a3,c3,q2,es2,ck2,m2,rfl,e2,g,r2,r3,r4,r5⟩;refine qAa 1 [(8,vP b3 0)] (WO_e (qAu (W_sr ?_)));have⟨o1,i,J⟩:=qBc i;refine qDz (j:=10) (fun L' w'=>∃m3,L'=[(1,vT p1),(5,vP b2 0),(8,vP b3 0),(20,vB o1)]∧m.le m3∧St m3 (kB b3 #[vS a2 y1.1 c2,vB y1.2.1,.map q1,vS a3 y1.2.2.2.1 c3,.map q2] 109::kB b2 (Vg eB eB 0 eB 0 0) 39::qCd q1 es1 ck1::qCd q2 es2 ck2::O) w'∧RepS C1 m3 a2 c2 y1.1∧RepS cStr m3 a3 c3 y1.2.2.2.1∧MapQ (fun s:ByteArray=>Value.string s) C6 true m3 q1 es1 ck1 y1.2.2.1∧MapQ qLu C7 true m3 q2 es2 ck2 y1.2.2.2.2) ?_ ?_
 ·have i:=J;rintro _ w4 ⟨m3,rfl,q,g,r2,r4,r3,r5⟩;refine WO_e (W_if i ?_ ?_)
  ·intro A i;refine W_sr (qAa 2 [(21,.agg (Vg eB eB 0 eB 0 0)),(4,vI 0)] (qAb rfl (qBi 39 5 21 (.agg (Vg eB eB 0 eB 0 0)) g.f1 fun w6 g=>(qAa 2 [(6,vS none ([]:T23) 0),(7,vI 1)] (WO_e (qBg (qAc ?_)))))));cases i;refine qEo [.tmp 4,.cell 5 39,.tmp 6,.tmp 7] [vI 0,.agg (Vg eB eB 0 eB 0 0),vS none ([]:T23) 0,vI 1] rfl (ResAll.cons (ResAt.tmp kr) (ResAll.cons (ResAt.blk (v:= .agg (Vg eB eB 0 eB 0 0)) (o:=0) kr g.h kr) (ResAll.cons (ResAt.tmp kr) (ResAll.cons (ResAt.tmp kr) ResAll.nil)))) ?_;have g:=(g.nilroom 51 3).front1;exact⟨none,0,m3,rfl,q,g.t.f1.t.f1.t.f1.t,(RepS.nil _ _)⟩
  ·intro A i;refine qAq (qAd (W_sr (qAa 2 [(22,vP b3 0),(23,vT p1)] (qAl 24 i (fun _ h=>qVo g.f3.f3 r2 r3 r4 r5 h) ?_))));rintro y3 i _ w7 ⟨a4,c4,m5,rfl,e4,g,r6⟩;refine qAa 5 [(26,.agg (Vh y3.2.1)),(27,vS a4 y3.2.2.1 c4),(28,vI y3.2.2.2),(4,vI y3.1)] (qAb rfl (qBi 39 5 26 (.agg (Vh y3.2.1)) g.f4 fun w8 g=>(qAa 2 [(6,vS a4 y3.2.2.1 c4),(7,vI y3.2.2.2)] (WO_e (qBg ?_)))));obtain rfl:=sI i;exact qEo [.tmp 4,.cell 5 39,.tmp 6,.tmp 7] [vI y3.1,.agg (Vh y3.2.1),vS a4 y3.2.2.1 c4,vI y3.2.2.2] rfl (ResAll.cons (ResAt.tmp kr) (ResAll.cons (ResAt.blk (v:= .agg (Vh y3.2.1)) (o:=0) kr g.h kr) (ResAll.cons (ResAt.tmp kr) (ResAll.cons (ResAt.tmp kr) ResAll.nil)))) ⟨a4,c4,m5,rfl,q.t e4,g.t.f1.t.f1.t.f1.t,r6⟩
 ·intro K;refine qAa 3 [(13,vP b3 1)] (qAb rfl (qAn 14 4 13 1 (vB y1.2.1) g.t.t.h (qAa 2 [(16,vB (!y1.2.1))] (qDt 16 i ?_ ?_))))
  ·intro A i;refine qAa 4 [(20,vB true)] ?_;cases i;exact qBo _ kr (K _ _ ⟨m2,rfl,(q.t e1).t e2,g.f1.f1.f3.f3,r2,r4,r3,r5⟩)
  ·intro A i;refine qAa 1 [(17,vT p1)] (qAl 18 i (fun _ h=>qPh g h) ?_);rintro y2 i _ w5 ⟨m4,rfl,e3,g⟩;refine qAa 2 [(20,vB (!y2))] ?_;cases i;exact qBo _ kr (K _ _ ⟨m4,rfl,((q.t e1).t e2).t e3,g.f1.f1.f3.f3,r2.mono e3,r4.mono e3,r3.mono e3,r5.mono e3⟩)
def qKm(N:Nat)(p0:Tj)(p1:T2o)(p2:ByteArray):Option T2r:=
 (qIr N p0 p2).bind fun y1=>if y1.2=true then(some (1,((⟨#[]⟩:ByteArray),(⟨#[]⟩:ByteArray),0,(⟨#[]⟩:ByteArray),0,0),[(4,p2,(⟨#[]⟩:ByteArray))],0)) else((qDo 40 ([(4,p2,(⟨#[]⟩:ByteArray))]) ([(3,p2,(⟨#[]⟩:ByteArray))])).bind fun l1=>(qEr N p1 3 (⟨#[]⟩:ByteArray) p2).bind fun y2=>if(y2.2.2.2.2.2==1)=true then(some (2,y2,l1,0)) else(if(decide (y2.2.2.2.2.2>1))=true then(some (3,((⟨#[]⟩:ByteArray),(⟨#[]⟩:ByteArray),0,(⟨#[]⟩:ByteArray),0,0),l1,12)) else(some (0,((⟨#[]⟩:ByteArray),(⟨#[]⟩:ByteArray),0,(⟨#[]⟩:ByteArray),0,0),l1,14))))
theorem qRv{p0:Tj}{p1:T2o}{p2:ByteArray}{r:T2r}(g:St m (O) w)(r1:RepS C1 m a1 c1 p0)(r2:RepS cStr m a2 c2 p1.1)(r3:RepS C6 m a3 c3 p1.2)(i:qKm N p0 p1 p2=some r):Calls Tryz.prog 71 #[.agg #[vS a1 p0 c1],.agg #[vS a2 p1.1 c2,vS a3 p1.2 c3],vT p2] w fun e w'=>∃ra1 rc1 m',e= .returned (.tuple #[vI r.1,.agg (Vh r.2.1),vS ra1 r.2.2.1 rc1,vI r.2.2.2])∧m.le m'∧St m' (kR ra1 r.2.2.1 rc1 51 3::O) w'∧RepS C8 m' ra1 rc1 r.2.2.1:=by
 unfold qKm at i;have q:=m.le_refl;refine W_cA Tryz.func71 rfl Tryz.ntmps71 ?_;refine W_sr (qAb rfl (qJg 3 25 0 (.agg #[vS a1 p0 c1]) g fun b1 m1 w1 e1 g hb1=>(qAb rfl (qJg 4 116 1 (.agg #[vS a2 p1.1 c2,vS a3 p1.2 c3]) g fun b2 m2 w2 e2 g hb2=>(qAa 1 [] (qAb rfl (qCh 7 39 (.agg (Vg eB eB 0 eB 0 0)) g fun b3 w3 g=>(qAa 2 [] (WO_e (W_sr (qAa 2 [(14,.agg (Vd 4 p2 eB))] (qAb rfl (qAp (d:=15) (t:=40) (e:=51) (len:=1) (parts:= #[(0,(.tmp 14))]) C8 (xs:=[(4,p2,eB)]) [vI 4,vT p2,vT eB] kr rfl (fun _=>qAo kr _) rfl rfl g ⟨[vI 4,vT p2,vT eB],_,rfl,⟨_,_,rfl,rfl,⟨_,_,rfl,rfl,rfl⟩⟩,rfl⟩ fun b4 m3 w4 e3 g r4=>(qAa 1 [(8,vS (aP b4) ([(4,p2,eB)]) 1)] (WO_e (qAu (W_sr (qEp 17 25 3 0 (.agg #[vS a1 p0 c1]) g ((hb1.mono e2).mono e3) (qAa 1 [(18,vT p2)] (qAl 19 i (fun _ h=>qOh g (((r1.mono e1).mono e2).mono e3) h) ?_))))))))))))))))))));rintro y1 i _ w5 ⟨m4,rfl,e4,g⟩;refine qAa 5 [(11,vB y1.2)] (WO_e (W_sr (qAa 1 [(22,vB y1.2)] (WO_e (W_if i ?_ ?_)))))
 ·intro A i;refine W_sr (qAa 3 [(23,.agg (Vg eB eB 0 eB 0 0)),(24,vS (aP b4) ([(4,p2,eB)]) 1),(6,vI 1)] (qAb rfl (qBi 39 7 23 (.agg (Vg eB eB 0 eB 0 0)) g.f1 fun w6 g=>(qAa 2 [(8,vS (aP b4) ([(4,p2,eB)]) 1),(9,vI 0)] (WO_e (qBg (qAc ?_)))))));cases i;exact qEo [.tmp 6,.cell 7 39,.tmp 8,.tmp 9] [vI 1,.agg (Vg eB eB 0 eB 0 0),vS (aP b4) ([(4,p2,eB)]) 1,vI 0] rfl (ResAll.cons (ResAt.tmp kr) (ResAll.cons (ResAt.blk (v:= .agg (Vg eB eB 0 eB 0 0)) (o:=0) kr g.h kr) (ResAll.cons (ResAt.tmp kr) (ResAll.cons (ResAt.tmp kr) ResAll.nil)))) ⟨(aP b4),1,m4,rfl,(((q.t e1).t e2).t e3).t e4,g.t,r4.mono e4⟩
 ·intro A i;refine qAq (qAd (W_sr (qAa 3 [(25,vS (aP b4) ([(4,p2,eB)]) 1),(27,.agg (Vd 3 p2 eB))] (qAb rfl (qAp (d:=28) (t:=40) (e:=51) (len:=1) (parts:= #[(0,(.tmp 27))]) C8 (xs:=[(3,p2,eB)]) [vI 3,vT p2,vT eB] kr rfl (fun _=>qAo kr _) rfl rfl g ⟨[vI 3,vT p2,vT eB],_,rfl,⟨_,_,rfl,rfl,⟨_,_,rfl,rfl,rfl⟩⟩,rfl⟩ fun b5 m5 w7 e5 g r5=>(qAb rfl (qFb 29 40 40 51 40 25 28 g.f1 (.inl kr) ((r4.mono e4).mono e5) r5.src i fun l1 i a4 c4 m6 w8 e6 g r6=>(qAa 1 [(8,vS a4 l1 c4)] (qAv rfl ?_)))))))));have g:=g.f1.t;refine qAd (W_sr (qEp 30 116 4 0 (.agg #[vS a2 p1.1 c2,vS a3 p1.2 c3]) g ((((hb2.mono e3).mono e4).mono e5).mono e6) (qAa 1 [(31,vT p2)] (qAl 32 i (fun _ h=>qNf g ((((((r2.mono e1).mono e2).mono e3).mono e4).mono e5).mono e6) ((((((r3.mono e1).mono e2).mono e3).mono e4).mono e5).mono e6) h) ?_))));rintro y2 i _ w9 ⟨m7,rfl,e7,g⟩;have q:=((((((q.t e1).t e2).t e3).t e4).t e5).t e6).t e7;have r6:=r6.mono e7;refine qAb rfl (qCh 12 39 (.agg (Vg eB eB 0 eB 0 0)) g fun b6 w10 g=>(qAb rfl (qBi 39 12 32 (.agg (Vh y2)) g fun w11 g=>(WO_e (qAu (qAy (W_sr (qAa 1 [(34,vP b6 5)] (qAb rfl (qAn 35 3 34 5 (vI y2.2.2.2.2.2) g.h (qAa 2 [(33,vB (y2.2.2.2.2.2==1))] (WO_e (W_if i ?_ ?_)))))))))))))
  ·intro A i;refine qAu (qEe [(6,fun w'=>Inv m7 w'∧Piece.holds m7 w' (kB b6 (Vh y2) 39)∧True)] kr g fun w12 _ g=> ?_);have hmS1:=m7.le_refl;refine⟨⟨.inr ⟨Inv.anti g.inv hmS1,Piece.holds_anti g.h hmS1,trivial⟩,trivial⟩,?_⟩;refine qFc 39 12 0 37 0 (.agg (Vh y2)) (.head _) (fun _ h=>h.2.1) (qBb 1 38 (vS a4 l1 c4) (.head _) (qBb 2 6 (vI 2) (.head _) (qBn 3 kr (qBi 39 7 37 (.agg (Vh y2)) g.f2 fun w13 g=>(⟨⟨.inr ⟨Inv.anti g.inv hmS1,Piece.holds_anti g.t.h hmS1,trivial⟩,trivial⟩,?_⟩)))));refine qBb 4 8 (vS a4 l1 c4) (.head _) (qBb 5 9 (vI 0) (.head _) (qCn kr (qAd (qBg (qAe (qAc ?_))))));obtain rfl:=sI i;exact qEo [.tmp 6,.cell 7 39,.tmp 8,.tmp 9] [vI 2,.agg (Vh y2),vS a4 l1 c4,vI 0] rfl (ResAll.cons (ResAt.tmp kr) (ResAll.cons (ResAt.blk (v:= .agg (Vh y2)) (o:=0) kr g.h kr) (ResAll.cons (ResAt.tmp kr) (ResAll.cons (ResAt.tmp kr) ResAll.nil)))) ⟨a4,c4,m7,rfl,q,g.t.t,r6⟩
  ·intro A i;refine W_sr (qAa 1 [(40,vP b6 5)] (qAb rfl (qAn 41 3 40 5 (vI y2.2.2.2.2.2) g.h (qAa 2 [(39,vB (decide (y2.2.2.2.2.2>1)))] (WO_e (W_if i ?_ ?_))))))
   ·intro A i;refine W_sr (qAa 3 [(43,.agg (Vg eB eB 0 eB 0 0)),(44,vS a4 l1 c4),(6,vI 3)] (qAb rfl (qBi 39 7 43 (.agg (Vg eB eB 0 eB 0 0)) g.f2 fun w14 g=>(qAa 2 [(8,vS a4 l1 c4),(9,vI 12)] (WO_e (qBg (qAe (qAc ?_))))))));obtain rfl:=sI i;exact qEo [.tmp 6,.cell 7 39,.tmp 8,.tmp 9] [vI 3,.agg (Vg eB eB 0 eB 0 0),vS a4 l1 c4,vI 12] rfl (ResAll.cons (ResAt.tmp kr) (ResAll.cons (ResAt.blk (v:= .agg (Vg eB eB 0 eB 0 0)) (o:=0) kr g.h kr) (ResAll.cons (ResAt.tmp kr) (ResAll.cons (ResAt.tmp kr) ResAll.nil)))) ⟨a4,c4,m7,rfl,q,g.t.t,r6⟩
   ·intro A i;refine qAq (qBp (qAd (W_sr (qAa 3 [(45,.agg (Vg eB eB 0 eB 0 0)),(46,vS a4 l1 c4),(6,vI 0)] (qAb rfl (qBi 39 7 45 (.agg (Vg eB eB 0 eB 0 0)) g.f2 fun w15 g=>(qAa 2 [(8,vS a4 l1 c4),(9,vI 14)] (WO_e (qBg ?_)))))))));obtain rfl:=sI i;exact qEo [.tmp 6,.cell 7 39,.tmp 8,.tmp 9] [vI 0,.agg (Vg eB eB 0 eB 0 0),vS a4 l1 c4,vI 14] rfl (ResAll.cons (ResAt.tmp kr) (ResAll.cons (ResAt.blk (v:= .agg (Vg eB eB 0 eB 0 0)) (o:=0) kr g.h kr) (ResAll.cons (ResAt.tmp kr) (ResAll.cons (ResAt.tmp kr) ResAll.nil)))) ⟨a4,c4,m7,rfl,q,g.t.t,r6⟩
def qKf(N:Nat)(p0:Tj)(p1:ByteArray):Option T2r:=
 ((qGp N p0).bind fun y1=>if(y1 !=0)=true then(some true) else((qEx N p1).bind fun y2=>some (!y2)):Tb).bind fun o1=>if o1=true then(some (0,((⟨#[]⟩:ByteArray),(⟨#[]⟩:ByteArray),0,(⟨#[]⟩:ByteArray),0,0),([]:T23),1)) else((qIq N p0).bind fun y3=>(qKm N p0 y3 p1).bind fun y4=>some (y4.1,y4.2.1,y4.2.2.1,y4.2.2.2))
theorem qSw{p0:Tj}{p1:ByteArray}{r:T2r}(g:St m (O) w)(r1:RepS C1 m a1 c1 p0)(i:qKf N p0 p1=some r):Calls Tryz.prog 18 #[.agg #[vS a1 p0 c1],vT p1] w fun e w'=>∃ra1 rc1 m',e= .returned (.tuple #[vI r.1,.agg (Vh r.2.1),vS ra1 r.2.2.1 rc1,vI r.2.2.2])∧m.le m'∧St m' (kR ra1 r.2.2.1 rc1 51 3::O) w'∧RepS C8 m' ra1 rc1 r.2.2.1:=by
 unfold qKf at i;have q:=m.le_refl;refine W_cA Tryz.func18 rfl Tryz.ntmps18 ?_;refine W_sr (qAb rfl (qJg 2 25 0 (.agg #[vS a1 p0 c1]) g fun b1 m1 w1 e1 g hb1=> ?_));have r1:=r1.mono e1;refine qAa 1 [] (qAb rfl (qCh 5 39 (.agg (Vg eB eB 0 eB 0 0)) g fun b2 w2 g=>(qAa 2 [] (WO_e (qAu (W_sr ?_))))));have⟨o1,i,J⟩:=qBc i;refine qDz (j:=8) (fun L' w'=>∃m2,L'=[(1,vT p1),(2,vP b1 0),(5,vP b2 0),(15,vB o1)]∧m.le m2∧St m2 (kB b2 (Vg eB eB 0 eB 0 0) 39::O) w'∧MRow m2 b1 0 [vS a1 p0 c1]∧RepS C1 m2 a1 c1 p0) ?_ ?_
 ·have i:=J;rintro _ w3 ⟨m2,rfl,q,g,hb1,r1⟩;refine WO_e (W_if i ?_ ?_)
  ·intro A i;refine W_sr (qAa 2 [(16,.agg (Vg eB eB 0 eB 0 0)),(4,vI 0)] (qAb rfl (qBi 39 5 16 (.agg (Vg eB eB 0 eB 0 0)) g fun w6 g=>(qAa 2 [(6,vS none ([]:T23) 0),(7,vI 1)] (WO_e (qBg (qAc ?_)))))));cases i;refine qEo [.tmp 4,.cell 5 39,.tmp 6,.tmp 7] [vI 0,.agg (Vg eB eB 0 eB 0 0),vS none ([]:T23) 0,vI 1] rfl (ResAll.cons (ResAt.tmp kr) (ResAll.cons (ResAt.blk (v:= .agg (Vg eB eB 0 eB 0 0)) (o:=0) kr g.h kr) (ResAll.cons (ResAt.tmp kr) (ResAll.cons (ResAt.tmp kr) ResAll.nil)))) ?_;have g:=(g.nilroom 51 3).front1;exact⟨none,0,m2,rfl,q,g.t,(RepS.nil _ _)⟩
  ·intro A i;refine qAq (qAd (qAu (qEe [(13,fun w'=>Inv m2 w'∧True)] kr g fun w7 _ g=> ?_)));have hmS1:=m2.le_refl;refine tA g hmS1 ?_;refine qMy 25 2 0 17 0 (.agg #[vS a1 p0 c1]) (.head _) (fun _ h=>h.1) hb1 (qMy 25 2 1 18 0 (.agg #[vS a1 p0 c1]) (.head _) (fun _ h=>h.1) hb1 (qBb 3 20 (vT p1) (.head _) (qBn 2 kr (qDd 19 i (fun _ h=>qOi g r1 h) ?_))));rintro y3 i _ w8 ⟨a2,c2,a3,c3,m5,rfl,e4,g,r2,r3⟩;refine⟨_,rfl,?_⟩;have hmS1:=Mem.le_trans hmS1 e4;refine tA g hmS1 ?_;refine qBn 4 kr (qDd 21 i (fun _ h=>qRv g (r1.mono e4) r2 r3 h) ?_);rintro y4 i _ w9 ⟨a4,c4,m6,rfl,e5,g,r4⟩;refine⟨_,rfl,?_⟩;have hmS1:=Mem.le_trans hmS1 e5;refine tA g hmS1 ?_;refine qBb 5 22 (vI y4.1) (.head _) (qBb 6 23 (.agg (Vh y4.2.1)) (.head _) (qBb 7 24 (vS a4 y4.2.2.1 c4) (.head _) (qBb 8 25 (vI y4.2.2.2) (.head _) (qBb 9 4 (vI y4.1) (.head _) (qBn 10 kr (qBi 39 5 23 (.agg (Vh y4.2.1)) g.f3 fun w10 g=>(tA g hmS1 (qBb 11 6 (vS a4 y4.2.2.1 c4) (.head _) (qBb 12 7 (vI y4.2.2.2) (.head _) (qCn kr ?_))))))))));have g:=g.f2.t.f2.t;refine qAd (qBg ?_);obtain rfl:=sI i
   exact qEo [.tmp 4,.cell 5 39,.tmp 6,.tmp 7] [vI y4.1,.agg (Vh y4.2.1),vS a4 y4.2.2.1 c4,vI y4.2.2.2] rfl (ResAll.cons (ResAt.tmp kr) (ResAll.cons (ResAt.blk (v:= .agg (Vh y4.2.1)) (o:=0) kr g.h kr) (ResAll.cons (ResAt.tmp kr) (ResAll.cons (ResAt.tmp kr) ResAll.nil)))) ⟨a4,c4,m6,rfl,(q.t e4).t e5,g.t,r4⟩
 ·intro K;refine qEp 8 25 2 0 (.agg #[vS a1 p0 c1]) g hb1 (qAl 9 i (fun _ h=>qJt g r1 h) ?_);rintro y1 i _ w4 ⟨m3,rfl,e2,g⟩;refine qAa 2 [(11,vB (y1 !=0))] (qDt 11 i ?_ ?_)
  ·intro A i;refine qAa 4 [(15,vB true)] ?_;cases i;exact qBo _ kr (K _ _ ⟨m3,rfl,(q.t e1).t e2,g,hb1.mono e2,r1.mono e2⟩)
  ·intro A i;refine qAa 1 [(12,vT p1)] (qAl 13 i (fun _ h=>qKc g h) ?_);rintro y2 i _ w5 ⟨m4,rfl,e3,g⟩;refine qAa 2 [(15,vB (!y2))] ?_;cases i;exact qBo _ kr (K _ _ ⟨m4,rfl,((q.t e1).t e2).t e3,g,(hb1.mono e2).mono e3,(r1.mono e2).mono e3⟩)
def qJq(N:Nat):Tb:=
 (qMv N ([((⟨#[97,46,115,114,99]⟩:ByteArray),(⟨#[112,97,99,107,97,103,101,32,115,59,32,102,117,110,99,32,102,40,41,32,61,32,49,59,32,103,101,110,32,34,99,34,32,61,32,50,59]⟩:ByteArray))]) ((⟨#[112]⟩:ByteArray),[(⟨#[113]⟩:ByteArray),(⟨#[115]⟩:ByteArray)],([]:T1n)) (⟨#[102]⟩:ByteArray)).bind fun y1=>(qMw N ([((⟨#[97,46,115,114,99]⟩:ByteArray),(⟨#[112,97,99,107,97,103,101,32,115,59,32,102,117,110,99,32,102,40,41,32,61,32,49,59,32,103,101,110,32,34,99,34,32,61,32,50,59]⟩:ByteArray))]) (⟨#[99]⟩:ByteArray)).bind fun y2=>(if(y1.2.2==0)=true then(if(y2.2.2.2==0)=true then(if(y1.1.1.toList==(⟨#[115]⟩:ByteArray).toList)=true then(if((List.length y1.2.1:Int)==3)=true then((idx y1.2.1 2).bind fun x1=>if((x1.1==1)&&((x1.2.1.toList==(⟨#[115]⟩:ByteArray).toList)&&((x1.2.2.toList==(⟨#[102]⟩:ByteArray).toList)&&true)))=true then(if(y2.1==2)=true then(if(y2.2.1.2.2.1==3)=true then(some ((List.length y2.2.2.1:Int)==2)) else(some false)) else(some false)) else(some false)) else(some false)) else(some false)) else(some false)) else(some false):Tb).bind fun o1=>some o1
theorem qSe{r:Bool}(g:St m (O) w)(i:qJq N=some r):Calls Tryz.prog 19 #[] w fun e w'=>∃m',e= .returned (vB r)∧m.le m'∧St m' (O) w':=by
 unfold qJq at i;have q:=m.le_refl;refine W_cA Tryz.func19 rfl Tryz.ntmps19 ?_;refine W_sr (qAa 1 [] (WO_e (W_sr (qAa 1 [(9,.agg #[vT ba,vT b22])] (qAb rfl (qAp (d:=10) (t:=23) (e:=101) (len:=1) (parts:= #[(0,(.tmp 9))]) C1 (xs:=[(ba,b22)]) [vT ba,vT b22] kr rfl (fun _=>qAo kr _) rfl rfl g ⟨[vT ba,vT b22],_,rfl,⟨_,_,rfl,rfl,rfl⟩,rfl⟩ fun b1 m1 w1 e1 g r1=>(qAa 1 [(11,.agg #[.slice (aP b1) (List.length ([(ba,b22)])) 1])] (qAb rfl (qCh 1 25 (.agg #[.slice none 0 0]) g fun b2 w2 g=>(qAb rfl (qBi 25 1 11 (.agg #[.slice (aP b1) (List.length ([(ba,b22)])) 1]) g fun w3 g=>(WO_e (W_sr (qAb rfl (qAn 13 25 1 0 (.agg #[.slice (aP b1) (List.length ([(ba,b22)])) 1]) g.h (qAb rfl (qAp (d:=14) (t:=33) (e:=9) (len:=2) (parts:= #[(0,(.const (vT bf))),(1,(.const (vT bg)))]) cStr (xs:=[bf,bg]) [vT bf,vT bg] kr rfl (fun _=>qAo kr _) rfl rfl g ⟨[vT bf],_,rfl,rfl,⟨[vT bg],_,rfl,rfl,rfl⟩⟩ fun b3 m2 w4 e2 g r2=> ?_)))))))))))))))));have r1:=r1.mono e2;refine qAa 1 [(15,.agg #[vT be,.slice (aP b3) (List.length ([bf,bg])) 2,vS none ([]:T1n) 0])] (qAl 16 i (fun _ h=>qSq g r1 r2 (RepS.nil _ _) h) ?_);rintro y1 i _ w5 ⟨a1,c1,m3,rfl,e3,g,r3⟩
 refine qAa 4 [(17,.agg (Vh y1.1)),(18,vS a1 y1.2.1 c1),(19,vI y1.2.2)] (qAb rfl (qCh 2 39 (.agg (Vg eB eB 0 eB 0 0)) g fun b4 w6 g=>(qAb rfl (qBi 39 2 17 (.agg (Vh y1.1)) g fun w7 g=>(qAa 2 [(3,vS a1 y1.2.1 c1),(4,vI y1.2.2)] (qAv rfl ?_))))));have g:=g.f2.t;refine qAd (W_sr (qAb rfl (qAn 21 25 1 0 (.agg #[.slice (aP b1) (List.length ([(ba,b22)])) 1]) g.t.t.h (qAl 22 i (fun _ h=>qSz g (r1.mono e3) h) ?_))));rintro y2 i _ w8 ⟨a2,c2,m4,rfl,e4,g,r4⟩;have q:=(((q.t e1).t e2).t e3).t e4;have r1:=(r1.mono e3).mono e4;refine qAa 5 [(23,vI y2.1),(24,.agg (Vh y2.2.1)),(25,vS a2 y2.2.2.1 c2),(26,vI y2.2.2.2)] (qAb rfl (qCh 6 39 (.agg (Vg eB eB 0 eB 0 0)) g fun b5 w9 g=>(qAa 1 [(5,vI y2.1)] (qAb rfl (qBi 39 6 24 (.agg (Vh y2.2.1)) g fun w10 g=>(qAa 2 [(7,vS a2 y2.2.2.1 c2),(8,vI y2.2.2.2)] (WO_e (W_sr ?_))))))));have⟨o1,i,J⟩:=qBc i;refine qDz (j:=38) (fun L' w'=>∃m5,L'=[(0,vB o1)]∧m.le m5∧St m5 (kB b5 (Vh y2.2.1) 39::kB b4 (Vh y1.1) 39::kB b2 #[.slice (aP b1) (List.length ([(ba,b22)])) 1] 25::kR a2 y2.2.2.1 c2 51 3::kR a1 y1.2.1 c1 51 3:: .room (aP b1) (List.length ([(ba,b22)])) 1 101 2::O) w'∧RepS C1 m5 (aP b1) 1 ([(ba,b22)])) ?_ ?_
 ·have i:=J;rintro _ w11 ⟨m5,rfl,q,g,r1⟩;refine WO_e (qBg ?_);obtain rfl:=sI i;exact X_rt [0] [vB o1] ⟨m5,rfl,q,g.t.t.t.t.t.t⟩
 ·intro K;refine qAa 3 [(29,vB (y1.2.2==0))] (qDt 29 i ?_ ?_)
  ·intro A i;refine qAa 4 [(33,vB (y2.2.2.2==0))] (qDt 33 i ?_ ?_)
   ·intro A i;refine qAa 1 [(34,vP b4 0)] (qAb rfl (qAn 35 9 34 0 (vT y1.1.1) g.t.t.h (qAa 3 [(38,vB (y1.1.1.toList==bg.toList))] (qDt 38 i ?_ ?_))))
    ·intro A i;refine qAa 5 [(43,vB ((y1.2.1.length:Int)==3))] (qDt 43 i ?_ ?_)
     ·intro A i;refine qAa 1 [(44,vS a1 y1.2.1 c1)] (qAb rfl (qFr 45 40 51 44 ((.const (vI 2))) (r3.mono e4) i ?_));rintro x1 i b6 f1 cs1 ⟨_,_,rfl,rfl,⟨_,_,rfl,rfl,rfl⟩⟩ hq1;refine qEp 46 51 45 f1 (.agg (Ve x1)) g hq1 (qAa 1 [(47,.agg (Vd 1 bg bq))] (qAb rfl (zLf (d:=48) (t:=51) (t2:=51) (x:=(.tmp 46)) (y:=(.tmp 47)) (xs:=(Ve x1)) (ys:=(Vd 1 bg bq)) ((x1.1==1)&&((x1.2.1.toList==bg.toList)&&((x1.2.2.toList==bq.toList)&&true))) kr rfl (ev (.agg (Ve x1))) (ev (.agg (Vd 1 bg bq))) kr kr kr (qAa 2 [(50,vB ((x1.1==1)&&((x1.2.1.toList==bg.toList)&&((x1.2.2.toList==bq.toList)&&true))))] (qDt 50 i ?_ ?_)))))
      ·intro A i;refine qAa 4 [(54,vB (y2.1==2))] (qDt 54 i ?_ ?_)
       ·intro A i;refine qAa 1 [(55,vP b5 2)] (qAb rfl (qAn 56 3 55 2 (vI y2.2.1.2.2.1) g.h (qAa 3 [(59,vB (y2.2.1.2.2.1==3))] (qDt 59 i ?_ ?_))))
        ·intro A i;refine qAa 5 [(0,vB ((y2.2.2.1.length:Int)==2))] ?_;cases i;exact qBo _ kr (K _ _ ⟨m4,rfl,q,g.f5.f4.f3.f5.f5.f5,r1⟩)
        ·intro A i;refine qAa 5 [(0,vB false)] ?_;cases i;exact qBo _ kr (K _ _ ⟨m4,rfl,q,g.f5.f4.f3.f5.f5.f5,r1⟩)
       ·intro A i;refine qAa 10 [(0,vB false)] ?_;cases i;exact qBo _ kr (K _ _ ⟨m4,rfl,q,g.f5.f4.f3.f5.f5.f5,r1⟩)
      ·intro A i;refine qAa 14 [(0,vB false)] ?_;cases i;exact qBo _ kr (K _ _ ⟨m4,rfl,q,g.f5.f4.f3.f5.f5.f5,r1⟩)
     ·intro A i;refine qAa 21 [(0,vB false)] ?_;cases i;exact qBo _ kr (K _ _ ⟨m4,rfl,q,g.f5.f4.f3.f5.f5.f5,r1⟩)
    ·intro A i;refine qAa 26 [(0,vB false)] ?_;cases i;exact qBo _ kr (K _ _ ⟨m4,rfl,q,g.f5.f4.f3.f5.f5.f5,r1⟩)
   ·intro A i;refine qAa 31 [(0,vB false)] ?_;cases i;exact qBo _ kr (K _ _ ⟨m4,rfl,q,g.f5.f4.f3.f5.f5.f5,r1⟩)
  ·intro A i;refine qAa 35 [(0,vB false)] ?_;cases i;exact qBo _ kr (K _ _ ⟨m4,rfl,q,g.f5.f4.f3.f5.f5.f5,r1⟩)
def qEq(N:Nat)(s3:Int×T2s):Option (Int×T2s⊕T2s):=
 if(decide (s3.1>0))=true then((qBf N (s3.2.1,s3.2.2.1) ([(⟨#[112]⟩:ByteArray),(⟨#[113]⟩:ByteArray),(⟨#[115]⟩:ByteArray),(⟨#[110,111,110,101]⟩:ByteArray)])).bind fun y5=>(qDo 16 s3.2.2.2 ([y5.2])).bind fun l2=>some (.inl (IntKind.wrap .i64 (s3.1-1),y5.1.1,y5.1.2,l2))) else(some (.inr s3.2))
def qDi(N:Nat)(p2:ByteArray)(s1:Td)(x1:Tj)(s2:Td):Option (Td⊕T6⊕Bool):=
 if(decide (s2.1<8))=true then((qBf N s2.2 ([(⟨#[112]⟩:ByteArray),(⟨#[113]⟩:ByteArray),(⟨#[115]⟩:ByteArray),(⟨#[120]⟩:ByteArray)])).bind fun y3=>(qBw N y3.1 4).bind fun y4=>(qAx (qEq N) N (y4.2,y4.1.1,y4.1.2,([]:T2))).bind fun o4=>(qBf N (o4.1,o4.2.1) ([(⟨#[102]⟩:ByteArray),(⟨#[103]⟩:ByteArray),(⟨#[104]⟩:ByteArray),(⟨#[107]⟩:ByteArray),(⟨#[110,111,110,101]⟩:ByteArray),(⟨#[105,102]⟩:ByteArray)])).bind fun y6=>(qBf N y6.1 ([(⟨#[97,46,100,97,116]⟩:ByteArray),(⟨#[99]⟩:ByteArray),(⟨#[97,46,115,114,99]⟩:ByteArray),(⟨#[100,47,98,46,100,97,116]⟩:ByteArray),(⟨#[110,111,110,101]⟩:ByteArray)])).bind fun y7=>(if(s2.1==7)=true then(some (s1.1==0)) else(some false):Tb).bind fun o5=>(if o5=true then(some (p2,p2)) else(some (y6.2,y7.2)):Option Ti).bind fun o6=>(qMv N x1 (y3.2,o4.2.2,([]:T1n)) o6.1).bind fun y8=>(qKb N x1 (y3.2,o4.2.2,([]:T1n)) o6.1).bind fun y9=>(if(!((y8.1.1.toList==y9.1.1.toList)&&((y8.1.2.1.toList==y9.1.2.1.toList)&&((y8.1.2.2.1==y9.1.2.2.1)&&((y8.1.2.2.2.1.toList==y9.1.2.2.2.1.toList)&&((y8.1.2.2.2.2.1==y9.1.2.2.2.2.1)&&((y8.1.2.2.2.2.2==y9.1.2.2.2.2.2)&&true)))))))=true then(some true) else(if(y8.2.2 !=y9.2.2)=true then(some true) else((qGf N y8.2.1 y9.2.1).bind fun y10=>some (!y10))):Tb).bind fun o7=>if o7=true then(some (.inr (.inr (false)))) else((qMw N x1 o6.2).bind fun y11=>(qKf N x1 o6.2).bind fun y12=>(if(y11.1 !=y12.1)=true then(some true) else(if(!((y11.2.1.1.toList==y12.2.1.1.toList)&&((y11.2.1.2.1.toList==y12.2.1.2.1.toList)&&((y11.2.1.2.2.1==y12.2.1.2.2.1)&&((y11.2.1.2.2.2.1.toList==y12.2.1.2.2.2.1.toList)&&((y11.2.1.2.2.2.2.1==y12.2.1.2.2.2.2.1)&&((y11.2.1.2.2.2.2.2==y12.2.1.2.2.2.2.2)&&true)))))))=true then(some true) else(if(y11.2.2.2 !=y12.2.2.2)=true then(some true) else((qGf N y11.2.2.1 y12.2.2.1).bind fun y13=>some (!y13)))):Tb).bind fun o8=>if o8=true then(some (.inr (.inr (false)))) else(some (.inl (IntKind.wrap .i64 (s2.1+1),y7.1.1,y7.1.2))))) else(some (.inr (.inl s2.2)))
def qGn(N:Nat)(p2:ByteArray)(o1:Tj)(y2:Tp)(s1:Td):Option (Td⊕T6⊕Bool):=
 if(decide (s1.1<(List.length ([y2.2,o1]):Int)))=true then((idx ([y2.2,o1]) s1.1).bind fun x1=>(qAx (qDi N p2 s1 x1) N (0,s1.2.1,s1.2.2)).bind fun out2=>(match out2 with| .inl o3=>some (.inl (IntKind.wrap .i64 (s1.1+1),o3.1,o3.2))| .inr (z)=>some (.inr (.inr (z))))) else(some (.inr (.inl s1.2)))
def qFw(N:Nat)(p0:T5)(p1:Tj)(p2:ByteArray):Tb:=
 (if(decide ((List.length p1:Int)>5))=true then((subS p1 0 5).bind fun l1=>some l1) else(some p1):Option Tj).bind fun o1=>(qIo N (p0,0)).bind fun y1=>(qKn N y1.1 y1.2).bind fun y2=>(qAx (qGn N p2 o1 y2) N (0,y2.1.1,y2.1.2)).bind fun out1=>(match out1 with| .inl o2=>(qJq N).bind fun y14=>some y14| .inr (z)=>some z)
theorem qOo{p0:T5}{p1:Tj}{p2:ByteArray}{r:Bool}(g:St m (O) w)(r1:RepS (cInt .i64) m a1 c1 p0)(r2:RepS C1 m a2 c2 p1)(i:qFw N p0 p1 p2=some r):Calls Tryz.prog 3 #[vS a1 p0 c1,.agg #[vS a2 p1 c2],vT p2] w fun e w'=>∃m',e= .returned (vB r)∧m.le m'∧St m' (O) w':=by
 unfold qFw at i;have q:=m.le_refl;refine W_cA Tryz.func3 rfl Tryz.ntmps3 ?_;refine W_sr (qAb rfl (qPn 4 25 1 (.agg #[vS a2 p1 c2]) g fun b1 w1 g=>(qAa 1 [] (WO_e (W_sr (qAa 2 [(24,.agg #[vS a1 p0 c1,vI 0])] (qAb rfl (qPn 25 28 24 (.agg #[vS a1 p0 c1,vI 0]) g fun b2 w2 g=>(qAa 1 [(7,vP b2 0)] (WO_e (qAu (W_sr (qAa 1 [(26,vP b1 0)] (qAb rfl (qAn 27 23 26 0 (vS a2 p1 c2) g.t.h (qAa 2 [(29,vB (decide ((p1.length:Int)>5)))] (WO_e ?_)))))))))))))))));have⟨o1,i,j1⟩:=qBc i;refine qCg .normal (fun L' w'=>∃a3 c3 m3,L'=[(2,vT p2),(4,vP b1 0),(7,vP b2 0)]∧m.le m3∧St m3 (kB b2 #[vS a1 p0 c1,vI 0] 28::kB b1 #[vS a3 o1 c3] 25::O) w'∧RepS (cInt .i64) m3 a1 c1 p0∧RepS C1 m3 a3 c3 o1) ?_ ?_
 ·have i:=j1;rintro _ w3 ⟨a3,c3,m3,rfl,q,g,r1,r3⟩;refine qAd (qAu (qAu (qEe [(8,fun w'=>Inv m3 w'∧Piece.holds m3 w' (kB b1 #[vS a3 o1 c3] 25)∧True)] kr g fun w5 _ g=> ?_)));have hmS1:=m3.le_refl;refine⟨⟨.inr ⟨Inv.anti g.inv hmS1,Piece.holds_anti g.t.h hmS1,trivial⟩,trivial⟩,?_⟩;refine qBb 0 34 (vP b2 0) (.head _) (qBb 1 35 (vP b2 0) (.head _) (qFc 25 4 4 38 0 (.agg #[vS a3 o1 c3]) (.head _) (fun _ h=>h.2.1) (qBb 7 41 (vI 0) (.head _) (qBn 2 kr (qDd 36 i (fun _ h=>qRe (p0:=(p0,0)) g r1 h) ?_)))));rintro y1 i _ w6 ⟨a5,c5,a6,c6,m4,rfl,e3,g,r5,r6⟩;refine⟨_,rfl,?_⟩;have hmS1:=Mem.le_trans hmS1 e3;refine⟨⟨.inr ⟨Inv.anti g.inv hmS1,Piece.holds_anti g.t.t.h hmS1,trivial⟩,trivial⟩,?_⟩;refine qBn 3 kr (qDd 37 i (fun _ h=>qTt (p0:=y1.1) g.f1 r5 r6 h) ?_);rintro y2 i _ w7 ⟨a7,c7,a8,c8,m5,rfl,e4,g,r7,r8⟩;refine⟨_,rfl,?_⟩;have hmS1:=Mem.le_trans hmS1 e4;refine⟨⟨.inr ⟨Inv.anti g.inv hmS1,Piece.holds_anti g.t.t.t.h hmS1,trivial⟩,trivial⟩,?_⟩;refine qBn 5 kr (qAp (d:=39) (t:=31) (e:=25) (len:=2) (parts:= #[(0,(.tmp 37)),(1,(.tmp 38))]) C9 (xs:=[y2.2,o1]) [vS a8 y2.2 c8,vS a3 o1 c3] kr rfl (fun _=>qAo kr _) rfl rfl g ⟨[vS a8 y2.2 c8],_,rfl,(qOz r8),⟨[vS a3 o1 c3],_,rfl,(qOz ((r3.mono e3).mono e4)),rfl⟩⟩ fun b3 m6 w8 e5 g r9=> ?_);have hmS1:=Mem.le_trans hmS1 e5
  refine⟨⟨.inr ⟨Inv.anti g.inv hmS1,Piece.holds_anti g.t.t.t.t.h hmS1,trivial⟩,trivial⟩,?_⟩;refine qBb 6 40 (vI (List.length ([y2.2,o1]):Int)) (.head _) (qCn kr ?_);have g:=g.f1.t.f2.t;refine qAd (qAy ?_);have⟨out1,i,j2⟩:=qBc i;refine qCg (.exit 0) (fun L' w'=>∃(o2:T6),∃a9 c9 m7,(.inl o2)=out1∧L'=[]∧m.le m7∧St m7 (kB b2 (V1 o2 a9 c9) 28::kB b1 #[vS a3 o1 c3] 25::kR (aP b3) ([y2.2,o1]) 2 25 1::O) w'∧RepS (cInt .i64) m7 a9 c9 o2.1∧RepS C1 m7 a3 c3 o1) ?_ ?_
  ·rintro _ w9 ⟨o2,a9,c9,m7,rfl,rfl,q,g,r10,r3⟩;have i:=j2;refine qBl (qAd (W_sr (qAl 148 i (fun _ h=>qSe g h) ?_)));rintro y14 i _ w48 ⟨m34,rfl,e23,g⟩;refine qAa 1 [(6,vB y14)] (qAv rfl ?_);have g:=g.f2.t;refine qAd (qBg ?_);obtain rfl:=sI i;exact X_rt [6] [vB y14] ⟨m34,rfl,q.t e23,g.t.t⟩
  intro K0_u2;refine qGd _ kr (qDj (fun k1 L' w'=>∃(s1:Td),∃a10 c10 m8,qAx (qGn N p2 o1 y2) k1 s1=some out1∧L'=[(2,vT p2),(7,vP b2 0),(39,vS (aP b3) ([y2.2,o1]) 2),(40,vI (List.length ([y2.2,o1]):Int)),(41,vI s1.1)]∧m.le m8∧St m8 (kB b2 (V1 s1.2 a10 c10) 28::kB b1 #[vS a3 o1 c3] 25::kR (aP b3) ([y2.2,o1]) 2 25 1::O) w'∧RepS C9 m8 (aP b3) 2 ([y2.2,o1])∧RepS (cInt .i64) m8 a10 c10 s1.2.1∧RepS C1 m8 a3 c3 o1) N ⟨(0,y2.1.1,y2.1.2),a7,c7,m6,i,rfl,((q.t e3).t e4).t e5,g.f2.f2,r9,r7.mono e5,((r3.mono e3).mono e4).mono e5⟩ ?_);rintro k1 _ w10 ⟨s1,a10,c10,m8,hL,rfl,q,g,r9,r11,r3⟩;rcases k1 with _|k1
  ·exact qBq hL
  ·obtain⟨qu2,i,hSu2,hBu2⟩:=qBr hL;clear hL;unfold qGn at i;refine W_sr (qAa 1 [(42,vB (decide (s1.1<(List.length ([y2.2,o1]):Int))))] (WO_e (qAu (W_if i ?_ ?_))))
   ·intro A i;refine qAq (qAd (qAu (qAy (W_sr (qAa 1 [(43,vI s1.1)] (qAb rfl (qFr 44 31 25 39 41 r9 i ?_)))))));rintro x1 i b4 f1 cs1 ⟨a11,c11,rfl,r12⟩ hq1;refine qEp 45 25 44 f1 (.agg #[vS a11 x1 c11]) g hq1 (qAb rfl (qCh 9 25 (.agg #[.slice none 0 0]) g fun b5 w11 g=>(qAa 1 [(8,vI s1.1)] (qAb rfl (qBi 25 9 45 (.agg #[vS a11 x1 c11]) g fun w12 g=>(WO_e (W_sr (qAa 1 [(10,vI 0)] (WO_e (qAy ?_))))))))));have⟨out2,i,j3⟩:=qBc i;refine qCg (.exit 2) (fun L' w'=>∃(o3:T6),∃a12 c12 m9,(.inl o3)=out2∧L'=[(2,vT p2),(7,vP b2 0),(39,vS (aP b3) ([y2.2,o1]) 2),(40,vI (List.length ([y2.2,o1]):Int)),(41,vI s1.1)]∧m.le m9∧St m9 (kB b5 #[vS a11 x1 c11] 25::kB b2 (V1 o3 a12 c12) 28::kB b1 #[vS a3 o1 c3] 25::kR (aP b3) ([y2.2,o1]) 2 25 1::O) w'∧RepS C9 m9 (aP b3) 2 ([y2.2,o1])∧RepS C1 m9 a11 c11 x1∧RepS (cInt .i64) m9 a12 c12 o3.1∧RepS C1 m9 a3 c3 o1) ?_ ?_
    ·rintro _ w13 ⟨o3,a12,c12,m9,rfl,rfl,q,g,r9,r12,r13,r3⟩;have i:=j3;refine qBl (qBp (qAd (qAr (qAa 2 [(41,vI (wr (s1.1+1)))] (qAv rfl ?_)))));obtain rfl:=sI i;have hL:=hSu2 _ rfl;exact xE (qCp k1 (jF _) ⟨(wr (s1.1+1),o3.1,o3.2),a12,c12,m9,hL,rfl,q,g.t.f2.f2.f2,r9,r13,r3⟩)
    intro K2_u3;refine qGd _ kr (qDj (fun k2 L' w'=>∃(s2:Td),∃a13 c13 m10,qAx (qDi N p2 s1 x1) k2 s2=some out2∧L'=[(2,vT p2),(7,vP b2 0),(8,vI s1.1),(9,vP b5 0),(10,vI s2.1),(39,vS (aP b3) ([y2.2,o1]) 2),(40,vI (List.length ([y2.2,o1]):Int)),(41,vI s1.1)]∧m.le m10∧St m10 (kB b5 #[vS a11 x1 c11] 25::kB b2 (V1 s2.2 a13 c13) 28::kB b1 #[vS a3 o1 c3] 25::kR (aP b3) ([y2.2,o1]) 2 25 1::O) w'∧RepS C9 m10 (aP b3) 2 ([y2.2,o1])∧RepS C1 m10 a11 c11 x1∧RepS (cInt .i64) m10 a13 c13 s2.2.1∧RepS C1 m10 a3 c3 o1) N ⟨(0,s1.2.1,s1.2.2),a10,c10,m8,i,rfl,q,g.f3.f3.f3.f3,r9,r12,r11,r3⟩ ?_);rintro k2 _ w14 ⟨s2,a13,c13,m10,hL,rfl,q,g,r9,r12,r14,r3⟩;rcases k2 with _|k2
    ·exact qBq hL
    ·obtain⟨qu3,i,hSu3,hBu3⟩:=qBr hL;clear hL;unfold qDi at i;refine qAu (W_sr (qAa 2 [(47,vB (decide (s2.1<8)))] (WO_e (W_if i ?_ ?_))))
     ·intro A i;refine qAq (qAd (qAu (qAy (W_sr (qAa 1 [(50,vP b2 0)] (qAb rfl (qAp (d:=51) (t:=33) (e:=9) (len:=4) (parts:= #[(0,(.const (vT be))),(1,(.const (vT bf))),(2,(.const (vT bg))),(3,(.const (vT b1j)))]) cStr (xs:=[be,bf,bg,b1j]) [vT be,vT bf,vT bg,vT b1j] kr rfl (fun _=>qAo kr _) rfl rfl g ⟨[vT be],_,rfl,rfl,⟨[vT bf],_,rfl,rfl,⟨[vT bg],_,rfl,rfl,⟨[vT b1j],_,rfl,rfl,rfl⟩⟩⟩⟩ fun b6 m11 w15 e6 g r15=>(qAl 52 i (fun _ h=>qBk (p0:=s2.2) g.f2 (r14.mono e6) r15 h) ?_))))))));rintro y3 i _ w16 ⟨a14,c14,m12,rfl,e7,g,r16⟩;refine qAa 1 [(53,.agg #[vT y3.2,vS none ([]:T2) 0,vS none ([]:T1n) 0])] (qAb rfl (qCh 11 36 (.agg #[vT eB,.slice none 0 0,.slice none 0 0]) g fun b7 w17 g=>(qAb rfl (qBi 36 11 53 (.agg #[vT y3.2,vS none ([]:T2) 0,vS none ([]:T1n) 0]) g fun w18 g=>(qAv rfl ?_)))));have g:=g.f2.t;refine qAd (qAu (W_sr (qAa 1 [(54,vP b2 0)] (qAl 55 i (fun _ h=>qCb (p0:=y3.1) g.f1 r16 h) ?_))));rintro y4 i _ w19 ⟨a15,c15,m13,rfl,e8,g,r17⟩;refine qAa 1 [(12,vI y4.2)] (WO_e (qAy ?_));have⟨out3,i,j4⟩:=qBc i
      refine qCg (.exit 4) (fun L' w'=>∃(o4:T2s),∃a16 c16 a17 c17 m14,o4=out3∧L'=[(2,vT p2),(7,vP b2 0),(8,vI s1.1),(9,vP b5 0),(10,vI s2.1),(11,vP b7 0),(39,vS (aP b3) ([y2.2,o1]) 2),(40,vI (List.length ([y2.2,o1]):Int)),(41,vI s1.1)]∧m.le m14∧St m14 (kB b2 #[vS a16 o4.1 c16,vI o4.2.1] 28::kB b7 #[vT y3.2,vS a17 o4.2.2 c17,vS none ([]:T1n) 0] 36::kB b5 #[vS a11 x1 c11] 25::kB b1 #[vS a3 o1 c3] 25::kR (aP b3) ([y2.2,o1]) 2 25 1::kR a17 o4.2.2 c17 9 1::O) w'∧RepS C9 m14 (aP b3) 2 ([y2.2,o1])∧RepS (cInt .i64) m14 a16 c16 o4.1∧RepS cStr m14 a17 c17 o4.2.2∧RepS C1 m14 a11 c11 x1∧RepS C1 m14 a3 c3 o1) ?_ ?_
      ·rintro _ w20 ⟨o4,a16,c16,a17,c17,m14,rfl,rfl,q,g,r9,r18,r19,r12,r3⟩;have i:=j4;refine qBl (qAd (W_sr (qAa 1 [(68,vP b2 0)] (qAb rfl (qAp (d:=69) (t:=33) (e:=9) (len:=6) (parts:= #[(0,(.const (vT bq))),(1,(.const (vT br))),(2,(.const (vT bs))),(3,(.const (vT bt))),(4,(.const (vT b23))),(5,(.const (vT b1u)))]) cStr (xs:=[bq,br,bs,bt,b23,b1u]) [vT bq,vT br,vT bs,vT bt,vT b23,vT b1u] kr rfl (fun _=>qAo kr _) rfl rfl g ⟨[vT bq],_,rfl,rfl,⟨[vT br],_,rfl,rfl,⟨[vT bs],_,rfl,rfl,⟨[vT bt],_,rfl,rfl,⟨[vT b23],_,rfl,rfl,⟨[vT b1u],_,rfl,rfl,rfl⟩⟩⟩⟩⟩⟩ fun b10 m20 w28 e13 g r26=>(qAl 70 i (fun _ h=>qBk (p0:=(o4.1,o4.2.1)) g.f1 (r18.mono e13) r26 h) ?_))))));rintro y6 i _ w29 ⟨a22,c22,m21,rfl,e14,g,r27⟩;refine qAa 1 [(13,vT y6.2)] (qAv rfl ?_);have g:=g.f1.t
       refine qAd (W_sr (qAa 1 [(71,vP b2 0)] (qAb rfl (qAp (d:=72) (t:=33) (e:=9) (len:=5) (parts:= #[(0,(.const (vT bk))),(1,(.const (vT bm))),(2,(.const (vT ba))),(3,(.const (vT bl))),(4,(.const (vT b23)))]) cStr (xs:=[bk,bm,ba,bl,b23]) [vT bk,vT bm,vT ba,vT bl,vT b23] kr rfl (fun _=>qAo kr _) rfl rfl g ⟨[vT bk],_,rfl,rfl,⟨[vT bm],_,rfl,rfl,⟨[vT ba],_,rfl,rfl,⟨[vT bl],_,rfl,rfl,⟨[vT b23],_,rfl,rfl,rfl⟩⟩⟩⟩⟩ fun b11 m22 w30 e15 g r28=>(qAl 73 i (fun _ h=>qBk (p0:=y6.1) g.f1 (r27.mono e15) r28 h) ?_)))));rintro y7 i _ w31 ⟨a23,c23,m23,rfl,e16,g,r29⟩;have r9:=(((r9.mono e13).mono e14).mono e15).mono e16;have r3:=(((r3.mono e13).mono e14).mono e15).mono e16;refine qAa 1 [(14,vT y7.2)] (qAv rfl ?_);have g:=g.f1.t;refine qAd (qAu (W_sr ?_));have⟨o5,i,J⟩:=qBc i
       refine qDz (j:=6) (fun L' w'=>∃m24,L'=[(2,vT p2),(7,vP b2 0),(8,vI s1.1),(9,vP b5 0),(10,vI s2.1),(11,vP b7 0),(13,vT y6.2),(14,vT y7.2),(39,vS (aP b3) ([y2.2,o1]) 2),(40,vI (List.length ([y2.2,o1]):Int)),(41,vI s1.1),(79,vB o5)]∧m.le m24∧St m24 (kB b2 (V1 y7.1 a23 c23) 28::kB b7 #[vT y3.2,vS a17 o4.2.2 c17,vS none ([]:T1n) 0] 36::kB b5 #[vS a11 x1 c11] 25::kB b1 #[vS a3 o1 c3] 25::kR (aP b3) ([y2.2,o1]) 2 25 1::kR a17 o4.2.2 c17 9 1::O) w'∧RepS C9 m24 (aP b3) 2 ([y2.2,o1])∧RepS (cInt .i64) m24 a23 c23 y7.1.1∧RepS cStr m24 a17 c17 o4.2.2∧RepS C1 m24 a11 c11 x1∧RepS C1 m24 a3 c3 o1) ?_ ?_
       ·have i:=J;rintro _ w32 ⟨m24,rfl,q,g,r9,r29,r19,r12,r3⟩;refine WO_e ?_;have⟨o6,i,j5⟩:=qBc i;refine qCg .normal (fun L' w'=>∃m25,L'=[(2,vT p2),(7,vP b2 0),(8,vI s1.1),(9,vP b5 0),(10,vI s2.1),(11,vP b7 0),(13,vT o6.1),(14,vT o6.2),(39,vS (aP b3) ([y2.2,o1]) 2),(40,vI (List.length ([y2.2,o1]):Int)),(41,vI s1.1)]∧m.le m25∧St m25 (kB b2 (V1 y7.1 a23 c23) 28::kB b7 #[vT y3.2,vS a17 o4.2.2 c17,vS none ([]:T1n) 0] 36::kB b5 #[vS a11 x1 c11] 25::kB b1 #[vS a3 o1 c3] 25::kR (aP b3) ([y2.2,o1]) 2 25 1::kR a17 o4.2.2 c17 9 1::O) w'∧RepS C9 m25 (aP b3) 2 ([y2.2,o1])∧RepS (cInt .i64) m25 a23 c23 y7.1.1∧RepS cStr m25 a17 c17 o4.2.2∧RepS C1 m25 a11 c11 x1∧RepS C1 m25 a3 c3 o1) ?_ ?_
        ·have i:=j5;rintro _ w33 ⟨m25,rfl,q,g,r9,r29,r19,r12,r3⟩;refine qAd (W_sr (qAb rfl (qAn 83 25 9 0 (.agg #[vS a11 x1 c11]) g.t.t.h (qAb rfl (qAn 84 36 11 0 (.agg #[vT y3.2,vS a17 o4.2.2 c17,vS none ([]:T1n) 0]) g.t.h (qAa 1 [(85,vT o6.1)] (qAl 86 i (fun _ h=>qSq g r12 r19 (RepS.nil _ _) h) ?_)))))));rintro y8 i _ w34 ⟨a24,c24,m26,rfl,e17,g,r30⟩;refine qAa 4 [(87,.agg (Vh y8.1)),(88,vS a24 y8.2.1 c24),(89,vI y8.2.2)] (qAb rfl (qCh 15 39 (.agg (Vg eB eB 0 eB 0 0)) g fun b12 w35 g=>(qAb rfl (qBi 39 15 87 (.agg (Vh y8.1)) g fun w36 g=>(qAa 2 [(16,vS a24 y8.2.1 c24),(17,vI y8.2.2)] (WO_e (W_sr (qAb rfl (qAn 91 25 9 0 (.agg #[vS a11 x1 c11]) g.t.t.t.t.h (qAb rfl (qAn 92 36 11 0 (.agg #[vT y3.2,vS a17 o4.2.2 c17,vS none ([]:T1n) 0]) g.t.t.t.h (qAa 1 [(93,vT o6.1)] (qAl 94 i (fun _ h=>qSy g (r12.mono e17) (r19.mono e17) (RepS.nil _ _) h) ?_)))))))))))));rintro y9 i _ w37 ⟨a25,c25,m27,rfl,e18,g,r31⟩;have q:=(q.t e17).t e18;have r9:=(r9.mono e17).mono e18;have r12:=(r12.mono e17).mono e18;have r19:=(r19.mono e17).mono e18;have r29:=(r29.mono e17).mono e18;have r3:=(r3.mono e17).mono e18
         refine qAa 4 [(95,.agg (Vh y9.1)),(96,vS a25 y9.2.1 c25),(97,vI y9.2.2)] (qAb rfl (qCh 18 39 (.agg (Vg eB eB 0 eB 0 0)) g fun b13 w38 g=>(qAb rfl (qBi 39 18 95 (.agg (Vh y9.1)) g fun w39 g=>(qAa 2 [(19,vS a25 y9.2.1 c25),(20,vI y9.2.2)] (WO_e (qAu (W_sr ?_))))))));have⟨o7,i,J⟩:=qBc i;refine qDz (j:=14) (fun L' w'=>∃m28,L'=[(2,vT p2),(7,vP b2 0),(8,vI s1.1),(9,vP b5 0),(10,vI s2.1),(14,vT o6.2),(15,vP b12 0),(18,vP b13 0),(39,vS (aP b3) ([y2.2,o1]) 2),(40,vI (List.length ([y2.2,o1]):Int)),(41,vI s1.1),(111,vB o7)]∧m.le m28∧St m28 (kB b13 (Vh y9.1) 39::kB b12 (Vh y8.1) 39::kB b2 (V1 y7.1 a23 c23) 28::kB b7 #[vT y3.2,vS a17 o4.2.2 c17,vS none ([]:T1n) 0] 36::kB b5 #[vS a11 x1 c11] 25::kB b1 #[vS a3 o1 c3] 25::kR a25 y9.2.1 c25 51 3::kR a24 y8.2.1 c24 51 3::kR (aP b3) ([y2.2,o1]) 2 25 1::kR a17 o4.2.2 c17 9 1::O) w'∧RepS C9 m28 (aP b3) 2 ([y2.2,o1])∧RepS (cInt .i64) m28 a23 c23 y7.1.1∧RepS cStr m28 a17 c17 o4.2.2∧RepS C1 m28 a11 c11 x1∧RepS C1 m28 a3 c3 o1) ?_ ?_
         ·have i:=J;rintro _ w40 ⟨m28,rfl,q,g,r9,r29,r19,r12,r3⟩;refine WO_e (W_if i ?_ ?_)
          ·intro A i;refine W_sr (qAa 1 [(6,vB false)] (qAv rfl ?_));have g:=g.f6.t.f6.t.f6.t;refine qAd (qBg (qAc (qAe (qAc ?_))));cases i;have ho:=hBu3 _ rfl;subst ho;have i:=j3;refine qAc (qAe (qAe (qAc ?_)));cases i;have ho:=hBu2 _ rfl;subst ho;have i:=j2;refine qAc (qAe (qAc ?_));cases i;exact X_rt [6] [vB false] ⟨m28,rfl,q,g.t.t.t.t.t.t.t⟩
          ·intro A i;refine qAq (qAd (W_sr (qAb rfl (qAn 113 25 9 0 (.agg #[vS a11 x1 c11]) g.t.t.t.t.h (qAa 1 [(114,vT o6.2)] (qAl 115 i (fun _ h=>qSz g r12 h) ?_))))));rintro y11 i _ w42 ⟨a26,c26,m30,rfl,e20,g,r32⟩;refine qAa 6 [(117,.agg (Vh y11.2.1)),(118,vS a26 y11.2.2.1 c26),(119,vI y11.2.2.2),(21,vI y11.1)] (qAb rfl (qBi 39 15 117 (.agg (Vh y11.2.1)) g.f2 fun w43 g=>(qAa 2 [(16,vS a26 y11.2.2.1 c26),(17,vI y11.2.2.2)] (qAv rfl ?_))));have g:=g.f7.t.f7.t;refine qAd (W_sr (qAb rfl (qAn 121 25 9 0 (.agg #[vS a11 x1 c11]) g.t.t.t.t.t.h (qAa 1 [(122,vT o6.2)] (qAl 123 i (fun _ h=>qSw g (r12.mono e20) h) ?_)))));rintro y12 i _ w44 ⟨a27,c27,m31,rfl,e21,g,r33⟩;have q:=(q.t e20).t e21;have r9:=(r9.mono e20).mono e21;have r12:=(r12.mono e20).mono e21;have r29:=(r29.mono e20).mono e21;have r19:=(r19.mono e20).mono e21;have r3:=(r3.mono e20).mono e21;refine qAa 6 [(125,.agg (Vh y12.2.1)),(126,vS a27 y12.2.2.1 c27),(127,vI y12.2.2.2),(22,vI y12.1)] (qAb rfl (qBi 39 18 125 (.agg (Vh y12.2.1)) g.f3 fun w45 g=>(qAa 2 [(19,vS a27 y12.2.2.1 c27),(20,vI y12.2.2.2)] (WO_e (W_sr ?_)))));have⟨o8,i,J⟩:=qBc i
           refine qDz (j:=19) (fun L' w'=>∃m32,L'=[(2,vT p2),(7,vP b2 0),(8,vI s1.1),(9,vP b5 0),(10,vI s2.1),(39,vS (aP b3) ([y2.2,o1]) 2),(40,vI (List.length ([y2.2,o1]):Int)),(41,vI s1.1),(146,vB o8)]∧m.le m32∧St m32 (kB b13 (Vh y12.2.1) 39::kB b12 (Vh y11.2.1) 39::kB b2 (V1 y7.1 a23 c23) 28::kB b7 #[vT y3.2,vS a17 o4.2.2 c17,vS none ([]:T1n) 0] 36::kB b5 #[vS a11 x1 c11] 25::kB b1 #[vS a3 o1 c3] 25::kR a27 y12.2.2.1 c27 51 3::kR a26 y11.2.2.1 c26 51 3::kR (aP b3) ([y2.2,o1]) 2 25 1::kR a17 o4.2.2 c17 9 1::O) w'∧RepS C9 m32 (aP b3) 2 ([y2.2,o1])∧RepS (cInt .i64) m32 a23 c23 y7.1.1∧RepS cStr m32 a17 c17 o4.2.2∧RepS C1 m32 a11 c11 x1∧RepS C1 m32 a3 c3 o1) ?_ ?_
           ·have i:=J;rintro _ w46 ⟨m32,rfl,q,g,r9,r29,r19,r12,r3⟩;refine WO_e (W_if i ?_ ?_)
            ·intro A i;refine W_sr (qAa 1 [(6,vB false)] (qAv rfl ?_));have g:=g.f6.t.f6.t.f6.t;refine qAd (qBg (qAe (qAc ?_)));cases i;have ho:=hBu3 _ rfl;subst ho;have i:=j3;refine qAc (qAe (qAe (qAc ?_)));cases i;have ho:=hBu2 _ rfl;subst ho;have i:=j2;refine qAc (qAe (qAc ?_));cases i;exact X_rt [6] [vB false] ⟨m32,rfl,q,g.t.t.t.t.t.t.t⟩
            ·intro A i;refine qAq (qBp (qAd (qAr (qAa 3 [(10,vI (wr (s2.1+1)))] (qAv rfl ?_)))));have g:=g.f6.t.f6.t;obtain rfl:=sI i;have hL:=hSu3 _ rfl;exact xE (qCp k2 (jF _) ⟨(wr (s2.1+1),y7.1.1,y7.1.2),a23,c23,m32,hL,rfl,q,g.t.t.f1.t.f4.t.f3.f3.f2.f3,r9,r12,r29,r3⟩)
           ·intro K;refine qAa 4 [(131,vB (y11.1 !=y12.1))] (qDt 131 i ?_ ?_)
            ·intro A i;refine qAa 15 [(146,vB true)] ?_;cases i;exact qBo _ kr (K _ _ ⟨m31,rfl,q,g.f9.f9.f5.f4.f9.f9.f9.f9.f9.f9,r9,r29,r19,r12,r3⟩)
            ·intro A i;refine qAb rfl (qAn 132 39 15 0 (.agg (Vh y11.2.1)) g.t.t.h (qAb rfl (qAn 133 39 18 0 (.agg (Vh y12.2.1)) g.h (qAb rfl (qZf (d:=134) (t:=39) (t2:=39) (x:=(.tmp 132)) (y:=(.tmp 133)) (xs:=(Vh y11.2.1)) (ys:=(Vh y12.2.1)) ((y11.2.1.1.toList==y12.2.1.1.toList)&&((y11.2.1.2.1.toList==y12.2.1.2.1.toList)&&((y11.2.1.2.2.1==y12.2.1.2.2.1)&&((y11.2.1.2.2.2.1.toList==y12.2.1.2.2.2.1.toList)&&((y11.2.1.2.2.2.2.1==y12.2.1.2.2.2.2.1)&&((y11.2.1.2.2.2.2.2==y12.2.1.2.2.2.2.2)&&true)))))) kr rfl (ev (.agg (Vh y11.2.1))) (ev (.agg (Vh y12.2.1))) kr kr kr (qAa 2 [(136,vB (!((y11.2.1.1.toList==y12.2.1.1.toList)&&((y11.2.1.2.1.toList==y12.2.1.2.1.toList)&&((y11.2.1.2.2.1==y12.2.1.2.2.1)&&((y11.2.1.2.2.2.1.toList==y12.2.1.2.2.2.1.toList)&&((y11.2.1.2.2.2.2.1==y12.2.1.2.2.2.2.1)&&((y11.2.1.2.2.2.2.2==y12.2.1.2.2.2.2.2)&&true))))))))] (qDt 136 i ?_ ?_)))))))
             ·intro A i;refine qAa 10 [(146,vB true)] ?_;cases i;exact qBo _ kr (K _ _ ⟨m31,rfl,q,g.f9.f9.f5.f4.f9.f9.f9.f9.f9.f9,r9,r29,r19,r12,r3⟩)
             ·intro A i;refine qAa 5 [(141,vB (y11.2.2.2 !=y12.2.2.2))] (qDt 141 i ?_ ?_)
              ·intro A i;refine qAa 5 [(146,vB true)] ?_;cases i;exact qBo _ kr (K _ _ ⟨m31,rfl,q,g.f9.f9.f5.f4.f9.f9.f9.f9.f9.f9,r9,r29,r19,r12,r3⟩)
              ·intro A i;refine qAa 2 [(142,vS a26 y11.2.2.1 c26),(143,vS a27 y12.2.2.1 c27)] (qAl 144 i (fun _ h=>qMi g (r32.mono e21) r33 h) ?_);rintro y13 i _ w47 ⟨m33,rfl,e22,g⟩;refine qAa 2 [(146,vB (!y13))] ?_;cases i;exact qBo _ kr (K _ _ ⟨m33,rfl,q.t e22,g.f9.f9.f5.f4.f9.f9.f9.f9.f9.f9,r9.mono e22,r29.mono e22,r19.mono e22,r12.mono e22,r3.mono e22⟩)
         ·intro K;refine qAb rfl (qAn 98 39 15 0 (.agg (Vh y8.1)) g.t.t.h (qAb rfl (qAn 99 39 18 0 (.agg (Vh y9.1)) g.h (qAb rfl (qZf (d:=100) (t:=39) (t2:=39) (x:=(.tmp 98)) (y:=(.tmp 99)) (xs:=(Vh y8.1)) (ys:=(Vh y9.1)) ((y8.1.1.toList==y9.1.1.toList)&&((y8.1.2.1.toList==y9.1.2.1.toList)&&((y8.1.2.2.1==y9.1.2.2.1)&&((y8.1.2.2.2.1.toList==y9.1.2.2.2.1.toList)&&((y8.1.2.2.2.2.1==y9.1.2.2.2.2.1)&&((y8.1.2.2.2.2.2==y9.1.2.2.2.2.2)&&true)))))) kr rfl (ev (.agg (Vh y8.1))) (ev (.agg (Vh y9.1))) kr kr kr (qAa 1 [(101,vB (!((y8.1.1.toList==y9.1.1.toList)&&((y8.1.2.1.toList==y9.1.2.1.toList)&&((y8.1.2.2.1==y9.1.2.2.1)&&((y8.1.2.2.2.1.toList==y9.1.2.2.2.1.toList)&&((y8.1.2.2.2.2.1==y9.1.2.2.2.2.1)&&((y8.1.2.2.2.2.2==y9.1.2.2.2.2.2)&&true))))))))] (qDt 101 i ?_ ?_)))))))
          ·intro A i;refine qAa 10 [(111,vB true)] ?_;cases i;exact qBo _ kr (K _ _ ⟨m27,rfl,q,g.f9.f9.f5.f4.f9.f9.f9.f9.f9.f9,r9,r29,r19,r12,r3⟩)
          ·intro A i;refine qAa 5 [(106,vB (y8.2.2 !=y9.2.2))] (qDt 106 i ?_ ?_)
           ·intro A i;refine qAa 5 [(111,vB true)] ?_;cases i;exact qBo _ kr (K _ _ ⟨m27,rfl,q,g.f9.f9.f5.f4.f9.f9.f9.f9.f9.f9,r9,r29,r19,r12,r3⟩)
           ·intro A i;refine qAa 2 [(107,vS a24 y8.2.1 c24),(108,vS a25 y9.2.1 c25)] (qAl 109 i (fun _ h=>qMi g (r30.mono e18) r31 h) ?_);rintro y10 i _ w41 ⟨m29,rfl,e19,g⟩;refine qAa 2 [(111,vB (!y10))] ?_;cases i;exact qBo _ kr (K _ _ ⟨m29,rfl,q.t e19,g.f9.f9.f5.f4.f9.f9.f9.f9.f9.f9,r9.mono e19,r29.mono e19,r19.mono e19,r12.mono e19,r3.mono e19⟩)
        ·intro Ku5;refine W_if i ?_ ?_
         ·intro A i;refine qAr (qAa 4 [(13,vT p2),(14,vT p2)] (qAv rfl ?_));cases i;exact xE (Ku5 _ _ ⟨m24,rfl,q,g.f5.f5.f5.f5.f5.f5,r9,r29,r19,r12,r3⟩)
         ·intro A i;refine qAq ?_;cases i;exact xE (Ku5 _ _ ⟨m24,rfl,q,g.f5.f5.f5.f5.f5.f5,r9,r29,r19,r12,r3⟩)
       ·intro K;refine qAa 3 [(76,vB (s2.1==7))] (qDt 76 i ?_ ?_)
        ·intro A i;refine qAa 3 [(79,vB (s1.1==0))] ?_;cases i;exact qBo _ kr (K _ _ ⟨m23,rfl,(((q.t e13).t e14).t e15).t e16,g.f5.f5.f5.f5.f5.f5,r9,r29,(((r19.mono e13).mono e14).mono e15).mono e16,(((r12.mono e13).mono e14).mono e15).mono e16,r3⟩)
        ·intro A i;refine qAa 3 [(79,vB false)] ?_;cases i;exact qBo _ kr (K _ _ ⟨m23,rfl,(((q.t e13).t e14).t e15).t e16,g.f5.f5.f5.f5.f5.f5,r9,r29,(((r19.mono e13).mono e14).mono e15).mono e16,(((r12.mono e13).mono e14).mono e15).mono e16,r3⟩)
      intro K4_u4;have g:=(g.nilroom 9 1).front5.front5.front5.front5.front5;refine qGd _ kr (qDj (fun k3 L' w'=>∃(s3:Int×T2s),∃a18 c18 a19 c19 m15,qAx (qEq N) k3 s3=some out3∧L'=[(2,vT p2),(7,vP b2 0),(8,vI s1.1),(9,vP b5 0),(10,vI s2.1),(11,vP b7 0),(12,vI s3.1),(39,vS (aP b3) ([y2.2,o1]) 2),(40,vI (List.length ([y2.2,o1]):Int)),(41,vI s1.1)]∧m.le m15∧St m15 (kB b2 #[vS a18 s3.2.1 c18,vI s3.2.2.1] 28::kB b7 #[vT y3.2,vS a19 s3.2.2.2 c19,vS none ([]:T1n) 0] 36::kB b5 #[vS a11 x1 c11] 25::kB b1 #[vS a3 o1 c3] 25::kR (aP b3) ([y2.2,o1]) 2 25 1::kR a19 s3.2.2.2 c19 9 1::O) w'∧RepS C9 m15 (aP b3) 2 ([y2.2,o1])∧RepS (cInt .i64) m15 a18 c18 s3.2.1∧RepS cStr m15 a19 c19 s3.2.2.2∧RepS C1 m15 a11 c11 x1∧RepS C1 m15 a3 c3 o1) N ⟨(y4.2,y4.1.1,y4.1.2,([]:T2)),a15,c15,none,0,m13,i,rfl,((q.t e6).t e7).t e8,g,((r9.mono e6).mono e7).mono e8,r17,(RepS.nil _ _),((r12.mono e6).mono e7).mono e8,((r3.mono e6).mono e7).mono e8⟩ ?_);rintro k3 _ w21 ⟨s3,a18,c18,a19,c19,m15,hL,rfl,q,g,r9,r20,r21,r12,r3⟩;rcases k3 with _|k3
      ·exact qBq hL
      ·obtain⟨qu4,i,hSu4,hBu4⟩:=qBr hL;clear hL;unfold qEq at i;refine qAu (W_sr (qAa 2 [(57,vB (decide (s3.1>0)))] (WO_e (W_if i ?_ ?_))))
       ·intro A i;refine qAq (qAd (qAu (qAy (qEe [(9,fun w'=>Inv m15 w'∧True),(8,fun w'=>Inv m15 w'∧Piece.holds m15 w' (kB b7 #[vT y3.2,vS a19 s3.2.2.2 c19,vS none ([]:T1n) 0] 36)∧True)] kr g fun w22 _ g=> ?_))));have hmS2:=m15.le_refl;refine⟨⟨iA g hmS2,⟨.inr ⟨Inv.anti g.inv hmS2,Piece.holds_anti g.t.h hmS2,trivial⟩,trivial⟩⟩,?_⟩;refine qBb 0 60 (vP b7 1) (.head _) (qFc 33 60 1 61 1 (vS a19 s3.2.2.2 c19) (.tail _ (.head _)) (fun _ h=>h.2.1) (qBb 2 62 (vP b2 0) (.head _) (qBn 3 kr (qAp (d:=63) (t:=33) (e:=9) (len:=4) (parts:= #[(0,(.const (vT be))),(1,(.const (vT bf))),(2,(.const (vT bg))),(3,(.const (vT b23)))]) cStr (xs:=[be,bf,bg,b23]) [vT be,vT bf,vT bg,vT b23] kr rfl (fun _=>qAo kr _) rfl rfl g ⟨[vT be],_,rfl,rfl,⟨[vT bf],_,rfl,rfl,⟨[vT bg],_,rfl,rfl,⟨[vT b23],_,rfl,rfl,rfl⟩⟩⟩⟩ fun b8 m16 w23 e9 g r22=> ?_))));have hmS2:=Mem.le_trans hmS2 e9;refine⟨⟨iA g hmS2,⟨.inr ⟨Inv.anti g.inv hmS2,Piece.holds_anti g.t.t.h hmS2,trivial⟩,trivial⟩⟩,?_⟩;refine qBn 4 kr (qDd 64 i (fun _ h=>qBk (p0:=(s3.2.1,s3.2.2.1)) g.f1 (r20.mono e9) r22 h) ?_);rintro y5 i _ w24 ⟨a20,c20,m17,rfl,e10,g,r23⟩;refine⟨_,rfl,?_⟩;have hmS2:=Mem.le_trans hmS2 e10;refine⟨⟨iA g hmS2,⟨.inr ⟨Inv.anti g.inv hmS2,Piece.holds_anti g.t.t.h hmS2,trivial⟩,trivial⟩⟩,?_⟩
        refine qBn 5 kr (qAp (d:=65) (t:=33) (e:=9) (len:=1) (parts:= #[(0,(.tmp 64))]) cStr (xs:=[y5.2]) [vT y5.2] kr rfl (fun _=>qAo kr _) rfl rfl g ⟨[vT y5.2],_,rfl,rfl,rfl⟩ fun b9 m18 w25 e11 g r24=> ?_);have hmS2:=Mem.le_trans hmS2 e11;refine⟨⟨iA g hmS2,⟨.inr ⟨Inv.anti g.inv hmS2,Piece.holds_anti g.t.t.t.h hmS2,trivial⟩,trivial⟩⟩,?_⟩;refine qBn 6 kr (qFb 66 33 33 9 16 61 65 g.f7 (.inl kr) (((r21.mono e9).mono e10).mono e11) r24.src i fun l2 i a21 c21 m19 w26 e12 g r25=> ?_);have hmS2:=Mem.le_trans hmS2 e12;refine⟨⟨iA g hmS2,⟨.inr ⟨Inv.anti g.inv hmS2,Piece.holds_anti g.t.t.t.t.h hmS2,trivial⟩,trivial⟩⟩,?_⟩;refine qBb 7 67 (vP b7 1) (.head _) (qBn 8 kr (qDy 33 67 66 1 (vS a21 l2 c21) #[vT y3.2,vS a21 l2 c21,vS none ([]:T1n) 0] g.f4 fun w27 g=>(⟨⟨iA g hmS2,⟨.inl rfl,trivial⟩⟩,?_⟩)));refine qCn kr ?_;have g:=g.f2.t.f3.t;refine qBp (qAd (qAr (qAa 3 [(12,vI (wr (s3.1-1)))] (qAv rfl ?_))));obtain rfl:=sI i;have hL:=hSu4 _ rfl;exact xE (qCp k3 (jF _) ⟨(wr (s3.1-1),y5.1.1,y5.1.2,l2),a20,c20,a21,c21,m19,hL,rfl,(((q.t e9).t e10).t e11).t e12,g.f1.f5.f5.f5.f4.f5,(((r9.mono e9).mono e10).mono e11).mono e12,(r23.mono e11).mono e12,r25,(((r12.mono e9).mono e10).mono e11).mono e12,(((r3.mono e9).mono e10).mono e11).mono e12⟩)
       ·intro A i;refine qDb (qAf ?_);cases i;have ho:=hBu4 _ rfl;have g:=g.f5.f5.f5.f5.f5.f5;refine qAf ?_;exact xE (K4_u4 _ _ ⟨s3.2,a18,c18,a19,c19,m15,ho,rfl,q,g,r9,r20,r21,r12,r3⟩)
     ·intro A i;refine qDb (qAf ?_);cases i;have ho:=hBu3 _ rfl;have g:=g.f3.f3.f3.f3;refine qAf ?_;exact xE (K2_u3 _ _ ⟨s2.2,a13,c13,m10,ho,rfl,q,g,r9,r12,r14,r3⟩)
   ·intro A i;refine qDb (qAf ?_);cases i;have ho:=hBu2 _ rfl;have g:=g.f2.f2.f2;refine qAf ?_;exact xE (K0_u2 _ _ ⟨s1.2,a10,c10,m8,ho,rfl,q,g,r11,r3⟩)
 ·intro Ku1;refine W_if i ?_ ?_
  ·intro A i;refine qAr (qAa 1 [(30,vP b1 0)] (qAb rfl (qAn 31 23 30 0 (vS a2 p1 c2) g.t.h ?_)));have⟨l1,d1,i⟩:=qBc i;refine qAb rfl (zEf (d:=32) (t:=23) (e:=101) (x:=(.tmp 31)) (lo:=none) (hi:=(some (.const (vI 5)))) C1 kr rfl (ev (vS a2 p1 c2)) kr r2 (.inl ⟨rfl,rfl⟩) (.inr ⟨_,_,rfl,(ev (vI 5))⟩) d1 ?_);intro a4 c4 r4;refine qAa 1 [(33,vP b1 0)] (qAb rfl (qBi 23 33 32 (vS a4 l1 c4) g.f1 fun w4 g=>(qAv rfl ?_)));cases i;exact xE (Ku1 _ _ ⟨a4,c4,m,rfl,q,g.f1,r1,r4⟩)
  ·intro A i;refine qAq ?_;cases i;exact xE (Ku1 _ _ ⟨a2,c2,m,rfl,q,g.f1.f1,r1,r2⟩)
end
end Go.Proofs.YtiblcebedkllpaaGreatDoor
section
namespace Go.Dc
theorem zCb{σ β:Type}{f:σ→Option (σ⊕β)}(st:Nat→σ)(k:Nat)(res:β)(step:∀i,i<k→f (st i)=some (.inl (st (i+1))))(stop:f (st k)=some (.inr res)){N:Nat}(hN:k<N):qAx f N (st 0)=some res:=by
 have key:∀d i M,i+d=k→d<M→qAx f M (st i)=some res:=by
  intro d
  induction d with
  |zero=>intro i M h hM;obtain⟨M',rfl⟩:∃M',M=M'+1:=⟨M-1,by omega⟩;simp only[gT] at h;subst h;simp[qAx,stop]
  |succ d ih=>
   intro i M h hM
   obtain⟨M',rfl⟩:∃M',M=M'+1:=⟨M-1,by omega⟩
   have:=ih (i+1) M' (by omega) (by omega)
   simp[qAx,step i (by omega),this]
 exact key k 0 N (by omega) hN
section
variable {ν:Type}
theorem zFo{l:List (Int×ν)}{k c:Int}{v:ν}(h:c≠k):mget (l.map fun p=>if k=p.1 then(k,v) else p) c=mget l c:=by
 induction l with
 |nil=>rfl
 |cons p l ih=>
  simp only[kC,mget]
  by_cases hk:k=p.1
  ·subst hk;rw[if_pos rfl,if_neg h,if_neg h,ih]
  ·rw[if_neg hk,ih]
theorem zFj{l:List (Int×ν)}{k:Int}{v:ν}(h:(mget l k).isSome=true):mget (l.map fun p=>if k=p.1 then(k,v) else p) k=some v:=by
 induction l with
 |nil=>cases h
 |cons p l ih=>
  simp only[kC,mget] at h ⊢
  by_cases hk:k=p.1
  ·subst hk;simp
  ·rw[if_neg hk] at h ⊢
   rw[if_neg hk]
   exact ih h
theorem zJc{l:List (Int×ν)}{k:Int}{v:ν}(h:mget l k=none)(c:Int):mget (mins l k v) c=if c=k then some v else mget l c:=by
 induction l with
 |nil=>rfl
 |cons p l ih=>
  simp only[mget] at h
  split at h
  ·cases h
  ·rename_i hk
   simp only[mins]
   split
   ·simp only[mget]
   ·simp only[mget,ih h]
    by_cases hc:c=k
    ·subst hc;simp[hk]
    ·simp[hc]
theorem zLs(l:List (Int×ν))(k:Int)(v:ν)(c:Int):mget (mset l k v) c=if c=k then some v else mget l c:=by
 unfold mset
 split
 ·rename_i h
  split
  ·rename_i hc;subst hc;exact zFj h
  ·rename_i hc;exact zFo hc
 ·rename_i h
  exact zJc (by simpa using h) c
def Srt(l:List (Int×ν)):Prop:=(l.map (·.1)).Pairwise (· < ·)
theorem Srt.nil:Srt ([]:List (Int×ν)):=List.Pairwise.nil
theorem Srt.mins{l:List (Int×ν)}{k:Int}{v:ν}(hs:Srt l)(h:mget l k=none):Srt (mins l k v):=by
 induction l with
 |nil=>simp[Srt,Go.Dc.mins]
 |cons p l ih=>
  have hs':=hs
  simp only[Srt,kC,k8] at hs
  simp only[mget] at h
  split at h
  ·cases h
  ·rename_i hk
   simp only[Go.Dc.mins]
   split
   ·rename_i hlt
    have hlt:k<p.1:=by simpa[KOrd.lt] using hlt
    refine k8.2 ⟨fun a ha=> ?_,hs'⟩
    simp only[kC,jO] at ha
    rcases ha with rfl|ha
    ·exact hlt
    ·exact Int.lt_trans hlt (hs.1 a ha)
   ·rename_i hlt
    have hlt:¬k<p.1:=by simpa[KOrd.lt] using hlt
    refine k8.2 ⟨fun a ha=> ?_,ih hs.2 h⟩
    obtain⟨q,hq,rfl⟩:=fK.1 ha
    rcases jO.1 ((zEc l k v).mem_iff.1 hq) with rfl|hq
    ·show p.1<k;omega
    ·exact hs.1 _ (kV hq)
theorem Srt.mset{l:List (Int×ν)}(hs:Srt l)(k:Int)(v:ν):Srt (mset l k v):=by
 unfold Go.Dc.mset
 split
 ·unfold Srt
  have:(l.map fun p=>if k=p.1 then(k,v) else p).map (·.1)=l.map (·.1):=by
   rw[List.map_map]
   refine List.map_congr_left fun p _=> ?_
   simp only[Function.comp_apply]
   split
   ·rename_i h;exact h
   ·rfl
  rw[this];exact hs
 ·rename_i h
  exact hs.mins (by simpa using h)
theorem Srt.out{l:List (Int×ν)}{c:Int}(h:∀a∈l.map (·.1),c<a):mget l c=none:=by
 rw[qYu];intro hm;exact Int.lt_irrefl _ (h c hm)
theorem Srt.ext:∀{l k:List (Int×ν)},Srt l→Srt k→(∀c,mget l c=mget k c)→l=k
 |[],[],_,_,_=>rfl
 |[],q::k,_,_,h=>by have:=h q.1;simp[mget] at this
 |p::l,[],_,_,h=>by have:=h p.1;simp[mget] at this
 |p::l,q::k,hl,hk,h=>by
  have hl':(∀a∈l.map (·.1),p.1<a)∧Srt l:=k8.1 hl
  have hk':(∀a∈k.map (·.1),q.1<a)∧Srt k:=k8.1 hk
  have h1:p.1=q.1:=by
   rcases Int.lt_trichotomy p.1 q.1 with hlt|he|hlt
   ·have:=h p.1
    rw[Srt.out (l:=q::k) (c:=p.1)] at this
    ·simp[mget] at this
    ·intro a ha
     rcases jO.1 ha with rfl|ha
     ·exact hlt
     ·exact Int.lt_trans hlt (hk'.1 a ha)
   ·exact he
   ·have:=h q.1
    rw[Srt.out (l:=p::l) (c:=q.1)] at this
    ·simp[mget] at this
    ·intro a ha
     rcases jO.1 ha with rfl|ha
     ·exact hlt
     ·exact Int.lt_trans hlt (hl'.1 a ha)
  have h2:p.2=q.2:=by have:=h p.1;simpa[mget,h1] using this
  have h3:l=k:=by
   refine Srt.ext hl'.2 hk'.2 fun c=> ?_
   by_cases hc:c=p.1
   ·rw[Srt.out (l:=l) (fun a ha=>hc▸hl'.1 a ha),Srt.out (l:=k) (fun a ha=>by rw[hc,h1];exact hk'.1 a ha)]
   ·have:=h c
    simpa[mget,hc,h1▸hc] using this
  rw[h3,Prod.ext h1 h2]
def qQf(v:ν)(m:List (Int×ν))(xs:List UInt8):List (Int×ν):=xs.foldl (fun m x=>mset m (x.toNat:Int) v) m
theorem zAe{v:ν}:∀{xs:List UInt8} {m:List (Int×ν)},Srt m→Srt (qQf v m xs)
 |[],_,h=>h
 |_::xs,_,h=>zAe (xs:=xs) (h.mset _ _)
theorem zAu{v:ν}(c:Int):∀(xs:List UInt8) (m:List (Int×ν)),mget (qQf v m xs) c=if xs.any (fun x=>decide ((x.toNat:Int)=c))=true then some v else mget m c
 |[],m=>by simp[qQf]
 |x::xs,m=>by
  have:=zAu (v:=v) c xs (mset m (x.toNat:Int) v)
  rw[show qQf v m (x::xs)=qQf v (mset m (x.toNat:Int) v) xs from rfl,this,zLs]
  by_cases h1:xs.any (fun x=>decide ((x.toNat:Int)=c))=true
  ·simp[h1]
  ·by_cases h2:(x.toNat:Int)=c
   ·subst h2;simp[h1]
   ·have h3:¬c=(x.toNat:Int):=fun e=>h2 e.symm
    simp[h1,h2,h3]
end
end Go.Dc
namespace Go.Proofs.YtiblcebedkllpaaGreatDoor
open Go Go.Dc
def allK:List (Int×ByteArray):=[(1,⟨#[97,98,99,100,101,102,103,104,105,106,107,108,109,110,111,112,113,114,115,116,117,118,119,120,121,122]⟩),(2,⟨#[48,49,50,51,52,53,54,55,56,57]⟩),(3,⟨#[95]⟩),(4,⟨#[46]⟩),(5,⟨#[9,10,13,32]⟩),(6,⟨#[35]⟩),(7,⟨#[34]⟩),(8,⟨#[59,44,40,41,43,45,42,47,37,60,61]⟩)]
def kdL:List (Int×Int):=[(9,5),(10,5),(13,5),(32,5),(34,7),(35,6),(37,8),(40,8),(41,8),(42,8),(43,8),(44,8),(45,8),(46,4),(47,8),(48,2),(49,2),(50,2),(51,2),(52,2),(53,2),(54,2),(55,2),(56,2),(57,2),(59,8),(60,8),(61,8),(95,3),(97,1),(98,1),(99,1),(100,1),(101,1),(102,1),(103,1),(104,1),(105,1),(106,1),(107,1),(108,1),(109,1),(110,1),(111,1),(112,1),(113,1),(114,1),(115,1),(116,1),(117,1),(118,1),(119,1),(120,1),(121,1),(122,1)]
def kdI(c:Int):Int:=(mget kdL c).getD 0
def inE(e:Int×ByteArray)(c:Int):Bool:=e.2.data.toList.any fun x=>decide ((x.toNat:Int)=c)
def layK(m:List (Int×Int))(k:List (Int×ByteArray)):List (Int×Int):=k.foldl (fun m e=>qQf e.1 m e.2.data.toList) m
theorem zHp:∀{k:List (Int×ByteArray)} {m:List (Int×Int)},Srt m→Srt (layK m k)
 |[],_,h=>h
 |_::k,_,h=>zHp (k:=k) (zAe h)
theorem zHe(c:Int):∀(k:List (Int×ByteArray)) (m:List (Int×Int)),(∀e∈k,inE e c=true→e.1=kdI c)→(∀v,mget m c=some v→v=kdI c)→
  mget (layK m k) c=if(k.any fun e=>inE e c)=true then some (kdI c) else mget m c
 |[],m,_,_=>by simp[layK]
 |e::k,m,h,hm=>by
  have hg:=zAu (v:=e.1) c e.2.data.toList m
  have:=zHe c k (qQf e.1 m e.2.data.toList) (fun e' he=>h e' (k0 _ he)) (fun v hv=>by
   rw[hg] at hv
   split at hv
   ·rename_i hi
    rw[←jG hv]
    exact h e (jU ..) hi
   ·exact hm v hv)
  rw[show layK m (e::k)=layK (qQf e.1 m e.2.data.toList) k from rfl,this,hg]
  by_cases h1:(k.any fun e=>inE e c)=true
  ·simp[h1]
  ·by_cases h2:inE e c=true
   ·have:=h e (jU ..) h2
    have h2':(e.2.data.toList.any fun x=>decide ((x.toNat:Int)=c))=true:=h2
    simp only[List.any_cons,h2,Bool.true_or,jH,h1,h2',this]
    simp
   ·have h2':(e.2.data.toList.any fun x=>decide ((x.toNat:Int)=c))=false:=by simpa[inE] using h2
    simp only[List.any_cons,h1,h2',Bool.or_false,jA,jE]
    simp[h2]
theorem zHc:(allK.all fun e=>e.2.data.toList.all fun x=>decide (e.1=kdI (x.toNat:Int)))=true∧(kdL.all fun p=>allK.any fun e=>inE e p.1)=true:=⟨by kernel_rfl,by kernel_rfl⟩
theorem kd_in{e:Int×ByteArray}{c:Int}(he:e∈allK)(h:inE e c=true):e.1=kdI c:=by
 have:=jR.1 zHc.1 e he
 obtain⟨x,hx,hc⟩:=gP.1 h
 have h2:=jR.1 this x hx
 have hc:(x.toNat:Int)=c:=by simpa using hc
 subst hc
 simpa using h2
theorem zOy(c:Int):mget kdL c=if(allK.any fun e=>inE e c)=true then some (kdI c) else none:=by
 cases h:mget kdL c with
 |none=>
  rw[if_neg]
  intro ha
  obtain⟨e,he,hi⟩:=gP.1 ha
  have h1:=kd_in he hi
  have h0:kdI c=0:=by simp[kdI,h]
  have:(allK.all fun e=>decide (e.1≠0))=true:=by kernel_rfl
  have:=jR.1 this e he
  simp[h1,h0] at this
 |some v=>
  have hm:(c,v)∈kdL:=(zBw (l:=kdL) (by
   have:decide ((kdL.map (·.1)).Nodup)=true:=by kernel_rfl
   simpa using this)).1 h
  have:=jR.1 zHc.2 _ hm
  rw[if_pos this]
  simp[kdI,h]
theorem zPd:Srt kdL:=by
 have:decide ((kdL.map (·.1)).Pairwise (· < ·))=true:=by kernel_rfl
 simpa[Srt] using this
theorem zLp{k:List (Int×ByteArray)}(h:k.Perm allK):layK [] k=kdL:=by
 refine Srt.ext (zHp Srt.nil) zPd fun c=> ?_
 rw[zHe c k [] (fun e he hi=>kd_in (h.mem_iff.1 he) hi) (fun v hv=>by cases hv),zOy]
 have:(k.any fun e=>inE e c)=(allK.any fun e=>inE e c):=by
  rw[jT,gP,gP]
  exact⟨fun⟨e,he,hi⟩=>⟨e,h.mem_iff.1 he,hi⟩,fun⟨e,he,hi⟩=>⟨e,h.mem_iff.2 he,hi⟩⟩
 rw[this]
 rfl
theorem zMf{N:Nat}{e:Int×ByteArray}(m:List (Int×Int))(he:e.2.size≤26)(hN:30<N):qGz N (some e) (some m)=some (.inl (some (qQf e.1 m e.2.data.toList))):=by
 have hsz:e.2.data.toList.length=e.2.size:=by simp
 have hb:qSs e.2=some e.2.data.toList:=by unfold qSs;rw[if_pos (by simp only[maxLen];omega)]
 simp only[qGz,hb,j0]
 have key:=zCb (f:=qLj N e e.2.data.toList) (fun i=>((i:Int),some (qQf e.1 m (e.2.data.toList.take i)))) e.2.data.toList.length (some (qQf e.1 m e.2.data.toList)) (fun i hi=> ?_) ?_ (N:=N) (by omega)
 ·simp only[Int.natCast_zero,List.take_zero] at key
  rw[show qQf e.1 m []=m from rfl] at key
  rw[key];rfl
 ·simp only[qLj]
  rw[if_pos (by simpa using hi),qEc hi]
  simp only[j0,qMc,kD]
  rw[wi64 (by omega) (by omega),kS hi]
  simp[qQf]
 ·simp only[qLj]
  rw[if_neg (by simp),fL]
theorem qZq{N:Nat}(hN:30<N):∀(k:List (Int×ByteArray)) (m:List (Int×Int)),(∀e∈k,e.2.size≤26)→qPu (qGz N) k (some m)=some (some (layK m k))
 |[],m,_=>by simp[qPu,qGz,layK]
 |e::k,m,h=>by
  have:=qZq hN k (qQf e.1 m e.2.data.toList) (fun e' he=>h e' (k0 _ he))
  simp only[qPu,zMf m (h e (jU ..)) hN,j0,this]
  rfl
theorem zCg{N:Nat}(hN:30<N):qMp N=some (some kdL):=by
 have h8:∀e∈allK,e.2.size≤26:=by
  have:(allK.all fun e=>decide (e.2.size≤26))=true:=by kernel_rfl
  intro e he
  simpa using jR.1 this e he
 have key:qUn (qGz N) allK (some [])=some (some kdL):=zDd fun k hk=>by
  rw[qZq hN k [] (fun e he=>h8 e (hk.mem_iff.1 he)),zLp hk]
 have h1:qMp N=(qUn (qGz N) allK (some [])).bind fun o1=>some o1:=by kernel_rfl
 rw[h1,key];rfl
end Go.Proofs.YtiblcebedkllpaaGreatDoor
end
namespace Go.Proofs.YtiblcebedkllpaaGreatDoor
section
open Go Go.Dc
theorem qCl(s:ByteArray):s.data.toList.length=s.size:=by simp
theorem qFh{s:ByteArray}{i:Nat}(h:i<s.data.toList.length):idxB s (i:Int)=some (s.data.toList[i]):=by
 have h':i<s.size:=by simpa using h
 rw[zCr h']
 simp[ByteArray.getElem_eq_getElem_data]
def tw(p:UInt8→Bool)(l:List UInt8)(a:Nat):Nat:=a+((l.drop a).takeWhile p).length
section
variable {p:UInt8→Bool} {l:List UInt8} {a:Nat}
theorem qRk(h:a≤l.length):a≤tw p l a∧tw p l a≤l.length:=by
 have:=(fH p (l:=l.drop a)).length_le
 simp only[fA] at this
 unfold tw;omega
theorem qSj(h:a<l.length)(hb:p l[a]=true):tw p l (a+1)=tw p l a:=by
 unfold tw
 rw[jI h,kT hb]
 simp only[jC];omega
theorem qSu(h:a<l.length)(hb:p l[a]=false):tw p l a=a:=by
 unfold tw
 rw[jI h,gC (by simp[hb])]
 simp
theorem zAr(h:l.length≤a):tw p l a=a:=by
 unfold tw
 rw[jN h];rfl
theorem zKw:∀(d a:Nat),a+d=l.length→∀h:tw p l a<l.length,p (l[tw p l a]'h)=false
 |0,a,hd,h=>by rw[zAr (by omega)] at h;omega
 |d+1,a,hd,h=>by
  have ha:a<l.length:=by omega
  cases hb:p l[a] with
  |true=>
   have e:=qSj ha hb
   have:=zKw d (a+1) (by omega) (by rw[e];exact h)
   simpa only[e] using this
  |false=>
   have e:=qSu ha hb
   simpa only[e] using hb
theorem qVs{β:Type}{f:Int→Option (Int⊕β)}(out:Nat→β)(go:∀i:Nat,∀h:i<l.length,p l[i]=true→f (i:Int)=some (.inl ((i:Int)+1)))
  (no:∀i:Nat,∀h:i<l.length,p l[i]=false→f (i:Int)=some (.inr (out i))) (en:f (l.length:Int)=some (.inr (out l.length))):
  ∀(d a N:Nat),a+d=l.length→d<N→qAx f N (a:Int)=some (out (tw p l a))
 |d,a,0,_,h=>by omega
 |0,a,N+1,hd,h=>by
  have:a=l.length:=by omega
  subst this
  rw[zAr (jV _)];simp[qAx,en]
 |d+1,a,N+1,hd,h=>by
  have ha:a<l.length:=by omega
  cases hb:p l[a] with
  |true=>
   have:=qVs out go no en d (a+1) N (by omega) (by omega)
   rw[qSj ha hb] at this
   simpa[qAx,go a ha hb] using this
  |false=>
   rw[qSu ha hb];simp[qAx,no a ha hb]
end
def kd(c:UInt8):Int:=kdI (c.toNat:Int)
def inK(ks:List Int)(c:UInt8):Bool:=ks.any fun k=>kd c==k
theorem zAa{N:Nat}{s:ByteArray}{ks:List Int}{i:Nat}(h:i<s.data.toList.length)(hk:ks.length≤10)(hN:10<N):qAx (qLb N s (some kdL) ks (i:Int)) N (false,0)=some (inK ks (s.data.toList[i])):=by
 have key:=zCb (f:=qLb N s (some kdL) ks (i:Int)) (fun j=>((ks.take j).any (fun k=>kd (s.data.toList[i])==k),(j:Int))) ks.length (inK ks (s.data.toList[i])) (fun j hj=> ?_) ?_ (N:=N) (by omega)
 ·simpa using key
 ·simp only[qLb]
  rw[if_pos (by simpa using hj),qEc hj,qFh h]
  simp only[j0]
  rw[wi64 (by omega) (by omega),kS hj,List.any_append]
  cases(ks.take j).any (fun k=>kd (s.data.toList[i])==k)
  ·simp[kd,kdI,qBe]
  ·simp
 ·simp only[qLb]
  rw[if_neg (by simp),fL]
  rfl
theorem qYh{N:Nat}{s:ByteArray}{ks:List Int}{i:Nat}(hi:i≤s.data.toList.length)(hl:s.data.toList.length<1000000)(hk:ks.length≤10)(hN:s.data.toList.length+10<N):
  qLk N s (i:Int) (some kdL) ks=some ((tw (inK ks) s.data.toList i:Nat):Int):=by
 have hs:=qCl s
 have key:=qVs (f:=qLe N s (some kdL) ks) (l:=s.data.toList) (p:=inK ks) (fun n=>(n:Int)) (fun j hj hb=>by
   simp only[qLe]
   rw[if_pos (by simp only[jB];omega),zAa hj hk (by omega),hb]
   simp only[j0]
   rw[wi64 (by omega) (by omega)]
   rfl) (fun j hj hb=>by
   simp only[qLe]
   rw[if_pos (by simp only[jB];omega),zAa hj hk (by omega),hb]
   rfl) (by
   simp only[qLe]
   rw[if_neg (by simp only[jB];omega)]) (s.data.toList.length-i) i N (by omega) (by omega)
 unfold qLk
 rw[key]
 rfl
end
section
open Go Go.Dc
theorem zKt(c:UInt8):(qBe (some kdL) (c.toNat:Int)).getD 0=kd c:=rfl
theorem qIf{l:List UInt8}{i:Nat}(h:i<l.length):l.getD i 0=l[i]:=by simp[kK,h]
theorem zGx{β:Type}{p:UInt8→Bool}{l:List UInt8}{a0:Nat}{f:Int→Option (Int⊕β)}(out:Nat→β)(go:∀i:Nat,∀h:i<l.length,p l[i]=true→f (i:Int)=some (.inl ((i:Int)+1)))
  (no:∀i:Nat,∀h:i<l.length,a0≤i→p l[i]=false→f (i:Int)=some (.inr (out i))) (en:f (l.length:Int)=some (.inr (out l.length))):
  ∀(d a N:Nat),a0≤a→a+d=l.length→d<N→qAx f N (a:Int)=some (out (tw p l a))
 |d,a,0,_,_,h=>by omega
 |0,a,N+1,_,hd,h=>by
  have:a=l.length:=by omega
  subst this
  rw[zAr (jV _)];simp[qAx,en]
 |d+1,a,N+1,h0,hd,h=>by
  have ha:a<l.length:=by omega
  cases hb:p l[a] with
  |true=>
   have:=zGx out go no en d (a+1) N (by omega) (by omega) (by omega)
   rw[qSj ha hb] at this
   simpa[qAx,go a ha hb] using this
  |false=>
   rw[qSu ha hb];simp[qAx,no a ha h0 hb]
def numS(n:Int)(c:UInt8):Int:=if 9007199254740993<10*n+((c.toNat:Int)-48) then 9007199254740993 else 10*n+((c.toNat:Int)-48)
def numL(ds:List UInt8):Int:=ds.foldl numS 0
def qTv(c:UInt8):Bool:=decide (32≤c.toNat)&&decide (c.toNat≤126)&&c !=34
def zEt:Int×ByteArray×Int×Int:=(0,⟨#[]⟩,0,0)
def qXa(l:List UInt8)(i:Nat):Nat:=if l.getD i 0=61∧l.getD (i+1) 0=61 then i+2 else i+1
def tokP(s:ByteArray)(i:Nat):(Int×ByteArray×Int×Int)×Int×Int:=
 if kd (s.data.toList.getD i 0)=1 then
  if tw (inK [1,2,3]) s.data.toList i-i>24 then(zEt,0,2) else((1,s.extract i (tw (inK [1,2,3]) s.data.toList i),0,0),((tw (inK [1,2,3]) s.data.toList i:Nat):Int),0)
 else if kd (s.data.toList.getD i 0)=2 then
  if numL ((s.data.toList.drop i).takeWhile (inK [2]))>9007199254740992 then(zEt,0,3) else((2,⟨#[]⟩,numL ((s.data.toList.drop i).takeWhile (inK [2])),0),((tw (inK [2]) s.data.toList i:Nat):Int),0)
 else if kd (s.data.toList.getD i 0)=7 then
  if s.data.toList.getD (tw qTv s.data.toList (i+1)) 0=34 then((3,s.extract (i+1) (tw qTv s.data.toList (i+1)),0,0),((tw qTv s.data.toList (i+1)+1:Nat):Int),0) else(zEt,0,9)
 else if kd (s.data.toList.getD i 0)=8 then
  ((4,s.extract i (qXa s.data.toList i),0,0),((qXa s.data.toList i:Nat):Int),0)
 else(zEt,0,9)
theorem zCo:∀c:UInt8,kd c=2→48≤c.toNat∧c.toNat≤57:=by
 have h:((List.range 256).all fun n=> !(decide (kd (UInt8.ofNat n)=2))||(decide (48≤n)&&decide (n≤57)))=true:=by kernel_rfl
 intro c hc
 have:=jR.1 h c.toNat (gQ.2 c.toNat_lt)
 simpa[hc] using this
theorem zBt{s:ByteArray}{p:UInt8→Bool}{i:Nat}:(s.extract i (tw p s.data.toList i)).data.toList=(s.data.toList.drop i).takeWhile p:=by
 simp only[ByteArray.data_extract,gF]
 have h:=List.prefix_iff_eq_take.1 (List.takeWhile_prefix p (l:=s.data.toList.drop i))
 rw[kW,show tw p s.data.toList i-i=((s.data.toList.drop i).takeWhile p).length by unfold tw;omega]
 exact h.symm
theorem qYk(l:List UInt8)(c:UInt8):numL (l++[c])=numS (numL l) c:=by simp[numL]
theorem zGw{p:UInt8→Bool}:∀{l:List UInt8} {c:UInt8},c∈l.takeWhile p→p c=true
 |[],_,h=>by simp at h
 |x::l,c,h=>by
  cases hx:p x with
  |true=>
   rw[kT hx] at h
   rcases jO.1 h with rfl|h
   ·exact hx
   ·exact zGw h
  |false=>rw[gC (by simp[hx])] at h;cases h
theorem zLw{N:Nat}{ds:List UInt8}(hd:∀c∈ds,kd c=2)(hl:ds.length<1000000)(hN:ds.length<N):qAx (qKi N ds) N (0,0)=some (numL ds):=by
 have hb:∀j,j≤ds.length→0≤numL (ds.take j)∧numL (ds.take j)≤9007199254740993:=by
  intro j
  induction j with
  |zero=>intro _;simp[numL]
  |succ j ih=>
   intro hj
   have:=ih (by omega)
   rw[kS (by omega)]
   have hc:=zCo _ (hd _ (kA (show j<ds.length by omega)))
   rw[qYk]
   unfold numS
   split<;>omega
 have key:=zCb (f:=qKi N ds) (fun j=>(numL (ds.take j),(j:Int))) ds.length (numL ds) (fun j hj=> ?_) ?_ (N:=N) (by omega)
 ·exact key
 ·have hc:=zCo _ (hd _ (kA hj))
  have h0:=hb j (by omega)
  simp only[qKi]
  rw[if_pos (by simpa using hj),qEc hj]
  simp only[j0]
  rw[wu8 (by omega) (by omega),wi64 (x:=10*numL (ds.take j)) (by omega) (by omega),wi64 (x:=((ds[j]).toNat:Int)-48) (by omega) (by omega),wi64 (x:=(j:Int)+1) (by omega) (by omega),wi64 (by omega) (by omega),kS hj,qYk]
  rfl
 ·simp only[qKi]
  rw[if_neg (by simp),fL]
theorem qNl{s:ByteArray}{i e:Nat}(h1:i≤e)(h2:e≤s.data.toList.length):subB s (i:Int) (e:Int)=some (s.extract i e):=by
 have:=qCl s
 rw[qSv (by omega) (by omega) (by omega)]
 simp
theorem zOg{N:Nat}{s:ByteArray}{i j:Nat}(hj:j<s.data.toList.length)(hl:s.data.toList.length<1000000)(hb:qTv (s.data.toList[j])=true):qIg N s (i:Int) (j:Int)=some (.inl ((j:Int)+1)):=by
 have hs:=qCl s
 simp only[qTv,jS,jB,gG,ne_eq] at hb
 obtain⟨⟨h1,h2⟩,h3⟩:=hb
 have h3':¬((s.data.toList[j]).toNat:Int)=34:=fun e=>h3 (UInt8.toNat_inj.1 (by show _=34;omega))
 simp only[qIg,qFh hj,j0]
 rw[if_pos (by simp only[jB];omega),if_pos (by simp only[jB];omega)]
 simp only[j0]
 rw[if_pos (by simp only[jB];omega),if_neg (by simpa using h3'),wi64 (by omega) (by omega)]
theorem zOk{N:Nat}{s:ByteArray}{i j:Nat}(hi:i<s.data.toList.length)(hj:j<s.data.toList.length)(hl:s.data.toList.length<1000000)(hij:i+1≤j)(hb:qTv (s.data.toList[j])=false):
  qIg N s (i:Int) (j:Int)=some (.inr (if s.data.toList.getD j 0=34 then(.inr ((3,s.extract (i+1) j,0,0),((j+1:Nat):Int),0)) else(.inl ()))):=by
 have hs:=qCl s
 simp only[qIg,qFh hj,j0,qIf hj]
 rw[if_pos (by simp only[jB];omega)]
 by_cases h34:s.data.toList[j]=34
 ·rw[h34]
  simp only[show((34:UInt8).toNat:Int)=34 from rfl]
  rw[wi64 (x:=(i:Int)+1) (by omega) (by omega),wi64 (by omega) (by omega),←kN,qNl hij (by omega)]
  rfl
 ·have h3':¬((s.data.toList[j]).toNat:Int)=34:=fun e=>h34 (UInt8.toNat_inj.1 (by show _=34;omega))
  rw[if_neg h34]
  simp only[qTv,Bool.and_eq_false_iff,decide_eq_false_iff_not,bne_eq_false_iff_eq,h34,or_false] at hb
  by_cases h1:32≤(s.data.toList[j]).toNat
  ·rw[if_pos (by simp only[jB];omega)]
   simp only[j0]
   rw[if_neg (by simp only[jB];omega)]
  ·rw[if_neg (by simp only[jB];omega)]
   simp
theorem qZg{s:ByteArray}{i:Nat}(h1:i≤s.data.toList.length):subB s (i:Int) (s.size:Int)=some (s.extract i s.data.toList.length):=by
 have hs:=qCl s
 rw[←qNl h1 (jV _),hs]
theorem qEg(x y:ByteArray):(x.toList==y.toList)=decide (x=y):=by
 rw[jT]
 simp only[jY,jB]
 constructor
 ·intro h
  rw[ByteArray.toList_eq,ByteArray.toList_eq] at h
  exact Go.WideShapes.bytes_inj h
 ·rintro rfl;rfl
theorem zJt{N:Nat}{s:ByteArray}{i:Nat}(hi:i<s.data.toList.length):qKp N (s.extract i s.data.toList.length) (⟨#[61,61]⟩:ByteArray)=some (decide (s.data.toList.getD i 0=61∧s.data.toList.getD (i+1) 0=61)):=by
 have hs:=qCl s
 have hsz:(s.extract i s.data.toList.length).size=s.data.toList.length-i:=by rw[ByteArray.size_extract];omega
 simp only[qKp,qGa,hsz,show(⟨#[61,61]⟩:ByteArray).size=2 from rfl]
 by_cases h:i+1<s.data.toList.length
 ·have hd:((s.extract i s.data.toList.length).extract 0 2).data.toList=[s.data.toList[i],s.data.toList[i+1]]:=by
   simp only[ByteArray.data_extract,gF,kW,jX]
   rw[List.take_take,jI hi,jI h]
   have:min (2-0) (s.data.toList.length-i)=2:=by omega
   rw[this];rfl
  have hsub:subB (s.extract i s.data.toList.length) 0 ((2:Nat):Int)=some ((s.extract i s.data.toList.length).extract 0 2):=by
   have:=qNl (s:=s.extract i s.data.toList.length) (i:=0) (e:=2) (by omega) (by rw[qCl,hsz];omega)
   simpa only[Int.natCast_zero] using this
  rw[if_pos (by simp only[jB];omega),hsub]
  simp only[j0,qEg]
  rw[qIf hi,qIf h]
  generalize (s.extract i s.data.toList.length).extract 0 2=X at hd
  refine congrArg some (decide_eq_decide.2 ?_)
  constructor
  ·intro e
   rw[e] at hd
   have hd':[(61:UInt8),61]=[s.data.toList[i],s.data.toList[i+1]]:=hd
   simp only[kE,and_true] at hd'
   exact⟨hd'.1.symm,hd'.2.symm⟩
  ·rintro⟨e1,e2⟩
   apply Go.WideShapes.bytes_inj
   rw[hd,e1,e2]
 ·rw[if_neg (by simp only[jB];omega)]
  have h0:s.data.toList.getD (i+1) 0=0:=by rw[kK,List.getElem?_eq_none (by omega)];rfl
  rw[h0]
  simp
theorem zNc{N:Nat}{s:ByteArray}{i:Nat}(hi:i<s.data.toList.length)(hl:s.data.toList.length<1000000)(hN:s.data.toList.length+20<N):qPs N s (i:Int) (some kdL)=some (tokP s i):=by
 have hs:=qCl s
 simp only[qPs,qFh hi,j0,zKt,tokP,qIf hi,jY]
 by_cases h1:kd (s.data.toList[i])=1
 ·simp only[h1,jH]
  have hb:=qRk (p:=inK [1,2,3]) (l:=s.data.toList) (a:=i) (by omega)
  rw[qYh (by omega) hl (by simp) (by omega)]
  simp only[j0]
  rw[wi64 (by omega) (by omega),qNl hb.1 hb.2]
  by_cases h:tw (inK [1,2,3]) s.data.toList i-i>24
  ·rw[if_pos (by simp only[jB];omega),if_pos h];rfl
  ·rw[if_neg (by simp only[jB];omega),if_neg h];rfl
 simp only[h1,jE]
 by_cases h2:kd (s.data.toList[i])=2
 ·simp only[h2,jH]
  have hb:=qRk (p:=inK [2]) (l:=s.data.toList) (a:=i) (by omega)
  have hx:=qCl (s.extract i (tw (inK [2]) s.data.toList i))
  have he:=zBt (s:=s) (p:=inK [2]) (i:=i)
  have hlen:((s.data.toList.drop i).takeWhile (inK [2])).length≤s.data.toList.length:=by
   have:=(fH (inK [2]) (l:=s.data.toList.drop i)).length_le
   simp only[fA] at this;omega
  rw[qYh (by omega) hl (by simp) (by omega)]
  simp only[j0]
  rw[qNl hb.1 hb.2]
  simp only[j0]
  have hbo:qSs (s.extract i (tw (inK [2]) s.data.toList i))=some ((s.data.toList.drop i).takeWhile (inK [2])):=by
   unfold qSs;rw[←he,if_pos];rw[←hx,he];simp only[maxLen];omega
  rw[hbo]
  simp only[j0]
  rw[zLw (fun c hc=> ?_) (by omega) (by omega)]
  ·simp only[j0,jB]
   split<;>rfl
  ·have:=zGw hc
   simpa[inK] using this
 simp only[h2,jE]
 by_cases h7:kd (s.data.toList[i])=7
 ·simp only[h7,jH]
  have key:=zGx (a0:=i+1) (f:=qIg N s (i:Int)) (l:=s.data.toList) (p:=qTv) (fun e=>if s.data.toList.getD e 0=34 then(.inr ((3,s.extract (i+1) e,0,0),((e+1:Nat):Int),0)) else(.inl ()))
   (fun j hj hb=>zOg hj hl hb) (fun j hj h0 hb=>zOk hi hj hl h0 hb) (by
    simp only[qIg]
    rw[if_neg (by simp only[jB];omega),if_neg (by simp)]
    rfl) (s.data.toList.length-(i+1)) (i+1) N (jV _) (by omega) (by omega)
  rw[wi64 (x:=(i:Int)+1) (by omega) (by omega),←kN,key]
  simp only[j0]
  split
  ·rename_i h;split at h<;>simp_all [zEt]
  ·rename_i h;split at h<;>simp_all
 simp only[h7,jE]
 by_cases h8:kd (s.data.toList[i])=8
 ·simp only[h8,jH]
  rw[qZg (by omega),wi64 (x:=(i:Int)+1) (by omega) (by omega)]
  simp only[j0]
  rw[zJt hi]
  simp only[j0,jB]
  by_cases h:s.data.toList.getD i 0=61∧s.data.toList.getD (i+1) 0=61
  ·have hlt:i+1<s.data.toList.length:=by
    rcases fC (i+1) s.data.toList.length with h'|h'
    ·exact h'
    ·have h0:s.data.toList.getD (i+1) 0=0:=by rw[kK,List.getElem?_eq_none h'];rfl
     rw[h0] at h;exact absurd h.2 (by decide)
   have hE:qXa s.data.toList i=i+2:=by rw[qXa,if_pos h]
   rw[if_pos h,wi64 (by omega) (by omega),hE]
   simp only[j0]
   rw[show((i:Int)+1+1)=((i+2:Nat):Int) by omega,qNl (by omega) (by omega)]
   rfl
  ·have hE:qXa s.data.toList i=i+1:=by rw[qXa,if_neg h]
   rw[if_neg h,hE]
   simp only[j0]
   rw[←kN,qNl (by omega) (by omega)]
   rfl
 simp only[h8,jE]
 rfl
end
section
open Go Go.Dc
theorem zNk{p:UInt8→Bool}{l:List UInt8}(h:∀c∈l,p c=true):tw p l 0=l.length:=by
 unfold tw
 have:l.takeWhile p=l:=by
  induction l with
  |nil=>rfl
  |cons c l ih=>rw[kT (h c (jU ..)),ih fun d hd=>h d (k0 _ hd)]
 simp[this]
end
section
open Go Go.Dc
abbrev Tok:=Int×ByteArray×Int×Int
theorem zHa{ks:List Int}{k:Int}{c:UInt8}(hk:k∈ks)(h:kd c=k):inK ks c=true:=by
 unfold inK;exact gP.2 ⟨k,hk,by simp[h]⟩
theorem qXv{p:UInt8→Bool}{l:List UInt8}{a:Nat}(h:a<l.length)(hp:p l[a]=true):a<tw p l a:=by
 rw[←qSj h hp];have:=(qRk (p:=p) (l:=l) (a:=a+1) (by omega)).1;omega
theorem qVc{l:List UInt8}{i:Nat}(h:l.getD i 0≠0):i<l.length:=by
 rcases fC i l.length with h'|h'
 ·exact h'
 ·exfalso;apply h;rw[kK,List.getElem?_eq_none h'];rfl
theorem zCl{s:ByteArray}{i:Nat}(hi:i<s.data.toList.length)(h:(tokP s i).2.2=0):∃e:Nat,(tokP s i).2.1=(e:Int)∧i<e∧e≤s.data.toList.length∧
  (((tokP s i).1.1=1∨(tokP s i).1.1=4)∧(tokP s i).1.2.1=s.extract i e∨(tokP s i).1.1=2∧(tokP s i).1.2.1=⟨#[]⟩∨(tokP s i).1.1=3∧(tokP s i).1.2.1.size+i<e):=by
 have hs:=qCl s
 unfold tokP at h ⊢
 rw[qIf hi] at h ⊢
 by_cases h1:kd (s.data.toList[i])=1
 ·rw[if_pos h1] at h ⊢
  split at h
  ·cases h
  ·rename_i h24
   rw[if_neg h24]
   have hb:=qRk (p:=inK [1,2,3]) (l:=s.data.toList) (a:=i) (by omega)
   exact⟨_,rfl,qXv hi (zHa (by simp) h1),hb.2,.inl ⟨.inl rfl,rfl⟩⟩
 rw[if_neg h1] at h ⊢
 by_cases h2:kd (s.data.toList[i])=2
 ·rw[if_pos h2] at h ⊢
  split at h
  ·cases h
  ·rename_i h24
   rw[if_neg h24]
   have hb:=qRk (p:=inK [2]) (l:=s.data.toList) (a:=i) (by omega)
   exact⟨_,rfl,qXv hi (zHa (by simp) h2),hb.2,.inr (.inl ⟨rfl,rfl⟩)⟩
 rw[if_neg h2] at h ⊢
 by_cases h7:kd (s.data.toList[i])=7
 ·rw[if_pos h7] at h ⊢
  split at h
  ·rename_i h24
   rw[if_pos h24]
   have hb:=qRk (p:=qTv) (l:=s.data.toList) (a:=i+1) (by omega)
   have hlt:tw qTv s.data.toList (i+1)<s.data.toList.length:=qVc (by rw[h24];decide)
   refine⟨_,rfl,by omega,by omega,.inr (.inr ⟨rfl,?_⟩)⟩
   simp only[ByteArray.size_extract]
   omega
  ·cases h
 rw[if_neg h7] at h ⊢
 by_cases h8:kd (s.data.toList[i])=8
 ·rw[if_pos h8] at h ⊢
  refine⟨_,rfl,?_,?_,.inl ⟨.inr rfl,rfl⟩⟩
  ·unfold qXa;split<;>omega
  ·unfold qXa
   split
   ·rename_i hh
    have:i+1<s.data.toList.length:=qVc (by rw[hh.2];decide)
    omega
   ·omega
 rw[if_neg h8] at h
 cases h
def qJi(c:UInt8):Bool:=c !=10
def tokG:Nat→ByteArray→Nat→(Int×Int)⊕List Tok
 |0,_,_=> .inr []
 |k+1,s,i=>
  if tw (inK [5]) s.data.toList i=s.data.toList.length then .inr [(5,⟨#[]⟩,0,(s.data.toList.length:Int))]
  else if kd (s.data.toList.getD (tw (inK [5]) s.data.toList i) 0)=6 then tokG k s (tw qJi s.data.toList (tw (inK [5]) s.data.toList i))
  else if(tokP s (tw (inK [5]) s.data.toList i)).2.2≠0 then .inl ((tw (inK [5]) s.data.toList i:Nat),(tokP s (tw (inK [5]) s.data.toList i)).2.2)
  else match tokG k s (tokP s (tw (inK [5]) s.data.toList i)).2.1.toNat with
   | .inl x=> .inl x
   | .inr r=> .inr (((tokP s (tw (inK [5]) s.data.toList i)).1.1,(tokP s (tw (inK [5]) s.data.toList i)).1.2.1,(tokP s (tw (inK [5]) s.data.toList i)).1.2.2.1,((tw (inK [5]) s.data.toList i:Nat):Int))::r)
def zBv(acc:List Tok):(Int×Int)⊕List Tok→List Tok×Int×Int
 | .inl x=>([],x.1,x.2)
 | .inr r=>(acc++r,0,0)
def qHy(s:ByteArray):List Tok×Int×Int:=if s.data.toList.length>16384 then([],0,2) else zBv [] (tokG (s.data.toList.length+1) s 0)
theorem zPb{s:ByteArray}{i:Nat}(hi:i≤s.data.toList.length):
  (if ixB (s.extract i s.data.toList.length) 10<0 then((s.data.toList.length-i:Nat):Int) else ixB (s.extract i s.data.toList.length) 10)=((tw qJi s.data.toList i-i:Nat):Int):=by
 have hs:=qCl s
 have hsz:(s.extract i s.data.toList.length).size=s.data.toList.length-i:=by rw[ByteArray.size_extract];omega
 have hb:=qRk (p:=qJi) (l:=s.data.toList) (a:=i) hi
 have hget:∀j,j<s.data.toList.length-i→(s.extract i s.data.toList.length)[j]! =s.data.toList.getD (i+j) 0:=by
  intro j hj
  have hj':i+j<s.data.toList.length:=by omega
  rw[qIf hj',getElem!_pos _ _ (by rw[hsz];exact hj),ByteArray.getElem_extract]
  simp[ByteArray.getElem_eq_getElem_data]
 have hin:∀d a,a+d=s.data.toList.length→∀j,a≤j→j<tw qJi s.data.toList a→s.data.toList.getD j 0≠10:=by
  intro d
  induction d with
  |zero=>intro a ha j h1 h2;rw[zAr (by omega)] at h2;omega
  |succ d ih=>
   intro a ha j h1 h2
   have hlt:a<s.data.toList.length:=by omega
   cases hc:qJi (s.data.toList[a]) with
   |true=>
    rw[←qSj hlt hc] at h2
    rcases Nat.eq_or_lt_of_le h1 with rfl|h1
    ·rw[qIf hlt];simpa[qJi] using hc
    ·exact ih (a+1) (by omega) j h1 h2
   |false=>rw[qSu hlt hc] at h2;omega
 have hin:=hin (s.data.toList.length-i) i (by omega)
 unfold ixB
 rw[hsz]
 cases hf:(List.range (s.data.toList.length-i)).find? (fun j=>(s.extract i s.data.toList.length)[j]! ==(10:Int).toNat.toUInt8) with
 |none=>
  rw[List.find?_eq_none] at hf
  simp only
  rw[if_pos (by omega)]
  have:¬tw qJi s.data.toList i<s.data.toList.length:=by
   intro hlt
   have h1:=zKw (p:=qJi) (l:=s.data.toList) (s.data.toList.length-i) i (by omega) hlt
   have h2:=hf (tw qJi s.data.toList i-i) (gQ.2 (by omega))
   rw[hget _ (by omega),show i+(tw qJi s.data.toList i-i)=tw qJi s.data.toList i by omega,qIf hlt] at h2
   simp only[qJi,bne_eq_false_iff_eq] at h1
   rw[h1] at h2
   exact h2 (by decide)
  omega
 |some k=>
  have h1:=List.find?_some hf
  have hk:k<s.data.toList.length-i:=gQ.1 (gE hf)
  simp only
  rw[if_neg (by omega)]
  rw[hget k hk] at h1
  have h1:s.data.toList.getD (i+k) 0=10:=by simpa using h1
  have h2:¬i+k<tw qJi s.data.toList i:=fun h=>hin (i+k) (by omega) h h1
  have h3:¬tw qJi s.data.toList i<i+k:=by
   intro hlt
   have hlt':tw qJi s.data.toList i<s.data.toList.length:=by omega
   have h4:=zKw (p:=qJi) (l:=s.data.toList) (s.data.toList.length-i) i (by omega) hlt'
   have h5:=List.not_of_lt_findIdx (xs:=List.range (s.data.toList.length-i)) (p:=fun j=>(s.extract i s.data.toList.length)[j]! ==(10:Int).toNat.toUInt8) (i:=tw qJi s.data.toList i-i)
   have h6:=(List.find?_range_eq_some.1 hf).2.2 (tw qJi s.data.toList i-i) (by omega)
   rw[hget _ (by omega),show i+(tw qJi s.data.toList i-i)=tw qJi s.data.toList i by omega,qIf hlt'] at h6
   simp only[qJi,bne_eq_false_iff_eq] at h4
   rw[h4] at h6
   simp at h6
  omega
end
section
open Go Go.Dc
theorem qUg{N:Nat}{s:ByteArray}(hl:s.data.toList.length≤16384)(hN:s.data.toList.length+40<N):∀(k M i:Nat) (acc:List Tok),i≤s.data.toList.length→s.data.toList.length<i+k→k≤M→acc.length≤i→
  qAx (qKq N s (some kdL)) M (acc,(i:Int))=some (zBv acc (tokG k s i))
 |0,_,i,_,h1,h2,_,_=>by omega
 |k+1,0,_,_,_,_,h3,_=>by omega
 |k+1,M+1,i,acc,h1,h2,h3,h4=>by
  have hs:=qCl s
  have hb:=qRk (p:=inK [5]) (l:=s.data.toList) (a:=i) h1
  simp only[qAx,tokG]
  have hstep:qKq N s (some kdL) (acc,(i:Int))=if tw (inK [5]) s.data.toList i=s.data.toList.length then some (.inr (acc++[(5,⟨#[]⟩,0,(s.data.toList.length:Int))],0,0))
    else if kd (s.data.toList.getD (tw (inK [5]) s.data.toList i) 0)=6 then some (.inl (acc,((tw qJi s.data.toList (tw (inK [5]) s.data.toList i):Nat):Int)))
    else if(tokP s (tw (inK [5]) s.data.toList i)).2.2≠0 then some (.inr ([],(tw (inK [5]) s.data.toList i:Nat),(tokP s (tw (inK [5]) s.data.toList i)).2.2))
    else some (.inl (acc++[((tokP s (tw (inK [5]) s.data.toList i)).1.1,(tokP s (tw (inK [5]) s.data.toList i)).1.2.1,(tokP s (tw (inK [5]) s.data.toList i)).1.2.2.1,((tw (inK [5]) s.data.toList i:Nat):Int))],(tokP s (tw (inK [5]) s.data.toList i)).2.1)):=by
   simp only[qKq]
   rw[qYh h1 (by omega) (by simp) (by omega)]
   simp only[j0]
   generalize hE:tw (inK [5]) s.data.toList i=e at hb ⊢
   by_cases he:e=s.data.toList.length
   ·rw[if_pos he,if_pos (by rw[jY];omega),qCa (by simp only[jC,jD];omega) (by omega),he]
    rfl
   ·have hlt:e<s.data.toList.length:=by omega
    rw[if_neg he,if_neg (by rw[jY];omega),qFh hlt]
    simp only[j0,zKt,jY,qIf hlt]
    by_cases h6:kd (s.data.toList[e])=6
    ·rw[if_pos h6,if_pos h6,qZg (by omega)]
     have hle:=zPb (s:=s) (i:=e) (by omega)
     have hb2:=qRk (p:=qJi) (l:=s.data.toList) (a:=e) (by omega)
     have hx:(if(decide (ixB (s.extract e s.data.toList.length) 10<0))=true then(some (IntKind.wrap .i64 ((ByteArray.size s:Int)-(e:Int)))) else(some (ixB (s.extract e s.data.toList.length) 10)):Option Int)=some ((tw qJi s.data.toList e-e:Nat):Int):=by
      rw[←hle,wi64 (by omega) (by omega)]
      by_cases hi:ixB (s.extract e s.data.toList.length) 10<0
      ·rw[if_pos (by simpa using hi),if_pos hi];congr 1;omega
      ·rw[if_neg (by simpa using hi),if_neg hi]
     simp only[j0,qMb,qDs]
     rw[hx]
     simp only[j0]
     rw[wi64 (by omega) (by omega)]
     congr 3;omega
    ·rw[if_neg h6,if_neg h6,zNc hlt (by omega) (by omega)]
     simp only[j0,gG]
     by_cases h0:(tokP s e).2.2≠0
     ·rw[if_pos h0,if_pos h0]
     ·rw[if_neg h0,if_neg h0,qCa (by simp only[jC,jD];omega) (by omega)]
      rfl
  rw[hstep]
  by_cases he:tw (inK [5]) s.data.toList i=s.data.toList.length
  ·rw[if_pos he,if_pos he];rfl
  rw[if_neg he,if_neg he]
  have hlt:tw (inK [5]) s.data.toList i<s.data.toList.length:=by omega
  by_cases h6:kd (s.data.toList.getD (tw (inK [5]) s.data.toList i) 0)=6
  ·rw[if_pos h6,if_pos h6]
   have hb2:=qRk (p:=qJi) (l:=s.data.toList) (a:=tw (inK [5]) s.data.toList i) (by omega)
   have hpos:=qXv (p:=qJi) hlt (by
    rw[qIf hlt] at h6
    simp only[qJi,gG,ne_eq]
    intro e;rw[e] at h6;exact absurd h6 (by decide))
   exact qUg hl hN k M _ acc hb2.2 (by omega) (by omega) (by omega)
  rw[if_neg h6,if_neg h6]
  by_cases h0:(tokP s (tw (inK [5]) s.data.toList i)).2.2≠0
  ·rw[if_pos h0,if_pos h0];rfl
  rw[if_neg h0,if_neg h0]
  obtain⟨e,he1,he2,he3,_⟩:=zCl hlt (by simpa using h0)
  rw[he1]
  simp only[j0,k9]
  rw[qUg hl hN k M e _ he3 (by omega) (by omega) (by simp;omega)]
  cases tokG k s e with
  |inl x=>rfl
  |inr r=>simp[zBv]
theorem zJw{N:Nat}{s:ByteArray}(hN:20000<N):qOl N s=some (qHy s):=by
 have hs:=qCl s
 unfold qOl qHy
 by_cases h:s.data.toList.length>16384
 ·rw[if_pos (by simp only[jB];omega),if_pos h]
 ·rw[if_neg (by simp only[jB];omega),if_neg h,zCg (by omega)]
  have:=qUg (N:=N) (s:=s) (by omega) (by omega) (s.data.toList.length+1) N 0 [] (by omega) (by omega) (by omega) (by simp)
  simp only[j0]
  rw[show((0:Nat):Int)=0 from rfl] at this
  rw[this]
  rfl
def endT(t:Tok):Int:=t.2.2.2+(t.2.1.size:Int)+(if t.1=2 then 1 else 0)
def zOq(s:ByteArray):Int→List Tok→Prop
 |_,[]=>True
 |e,t::r=>e≤t.2.2.2∧t.2.2.2+(t.2.1.size:Int)≤s.size∧(t.1=5↔r=[])∧(t.1=1∨t.1=4→s.extract t.2.2.2.toNat (t.2.2.2+(t.2.1.size:Int)).toNat=t.2.1∧0<t.2.1.size)∧zOq s (endT t) r
theorem qVz{s:ByteArray}:∀(k i:Nat) (e:Int) (r:List Tok),i≤s.data.toList.length→s.data.toList.length<i+k→e≤i→tokG k s i= .inr r→zOq s e r∧r≠[]∧r.length≤s.data.toList.length+1-i
 |0,i,e,r,h1,h2,h3,h4=>by omega
 |k+1,i,e,r,h1,h2,h3,h4=>by
  have hs:=qCl s
  have hb:=qRk (p:=inK [5]) (l:=s.data.toList) (a:=i) h1
  simp only[tokG] at h4
  generalize hE:tw (inK [5]) s.data.toList i=a at hb h4
  split at h4
  ·obtain rfl:=(Sum.inr.inj h4).symm
   refine⟨⟨by show e≤(s.data.toList.length:Int);omega,by show(s.data.toList.length:Int)+((0:Nat):Int)≤_;omega,by simp,fun h=>by simp at h,trivial⟩,by simp,by simp;omega⟩
  ·rename_i he
   have hlt:a<s.data.toList.length:=by omega
   split at h4
   ·rename_i h6
    have hb2:=qRk (p:=qJi) (l:=s.data.toList) (a:=a) (by omega)
    have hpos:=qXv (p:=qJi) hlt (by
     rw[qIf hlt] at h6
     simp only[qJi,gG,ne_eq]
     intro e;rw[e] at h6;exact absurd h6 (by decide))
    obtain⟨g1,g2,g3⟩:=qVz k _ e r hb2.2 (by omega) (by omega) h4
    exact⟨g1,g2,by omega⟩
   ·split at h4
    ·cases h4
    ·rename_i h0
     obtain⟨b,hb1,hb2,hb3,hk⟩:=zCl hlt (by simpa using h0)
     rw[hb1,k9] at h4
     generalize (tokP s a).1=t at h4 hk
     cases hG:tokG k s b with
     |inl x=>rw[hG] at h4;cases h4
     |inr q=>
      rw[hG] at h4
      obtain rfl:=(Sum.inr.inj h4).symm
      have hext:(s.extract a b).size=b-a:=by rw[ByteArray.size_extract];omega
      have hend:endT (t.1,t.2.1,t.2.2.1,(a:Int))≤b∧(a:Int)+(t.2.1.size:Int)≤b∧t.1≠5∧(t.1=1∨t.1=4→t.2.1=s.extract a b):=by
       rcases hk with ⟨hk1,hk2⟩|⟨hk1,hk2⟩|⟨hk1,hk2⟩
       ·refine⟨?_,?_,by omega,fun _=>hk2⟩
        ·simp only[endT,hk2,hext];rw[if_neg (by omega)];omega
        ·rw[hk2,hext];omega
       ·have:(⟨#[]⟩:ByteArray).size=0:=rfl
        refine⟨?_,?_,by omega,fun h=>by omega⟩
        ·simp only[endT,hk2,this];rw[if_pos hk1];omega
        ·rw[hk2,this];omega
       ·refine⟨?_,by omega,by omega,fun h=>by omega⟩
        simp only[endT];rw[if_neg (by omega)];omega
      obtain⟨g1,g2,g3⟩:=qVz k b (endT (t.1,t.2.1,t.2.2.1,(a:Int))) q hb3 (by omega) hend.1 hG
      refine⟨⟨by show e≤(a:Int);omega,?_,?_,?_,g1⟩,by simp,by simp only[jC];omega⟩
      ·show(a:Int)+(t.2.1.size:Int)≤_;omega
      ·exact⟨fun h=>absurd h hend.2.2.1,fun h=>absurd h g2⟩
      ·intro h
       have:=hend.2.2.2 h
       show s.extract (Int.toNat (a:Int)) ((a:Int)+(t.2.1.size:Int)).toNat=t.2.1∧0<t.2.1.size
       rw[this,hext,k9,show((a:Int)+((b-a:Nat):Int)).toNat=b by omega]
       exact⟨rfl,by omega⟩
theorem zBc{s:ByteArray}:∀(k i:Nat) (x:Int×Int),i≤s.data.toList.length→s.data.toList.length<i+k→tokG k s i= .inl x→0≤x.1∧x.1≤s.size∧x.2≠0
 |0,i,x,h1,h2,h4=>by omega
 |k+1,i,x,h1,h2,h4=>by
  have hs:=qCl s
  have hb:=qRk (p:=inK [5]) (l:=s.data.toList) (a:=i) h1
  simp only[tokG] at h4
  generalize hE:tw (inK [5]) s.data.toList i=a at hb h4
  split at h4
  ·cases h4
  ·rename_i he
   have hlt:a<s.data.toList.length:=by omega
   split at h4
   ·rename_i h6
    have hb2:=qRk (p:=qJi) (l:=s.data.toList) (a:=a) (by omega)
    have hpos:=qXv (p:=qJi) hlt (by
     rw[qIf hlt] at h6
     simp only[qJi,gG,ne_eq]
     intro e;rw[e] at h6;exact absurd h6 (by decide))
    exact zBc k _ x hb2.2 (by omega) h4
   ·split at h4
    ·rename_i h0
     obtain rfl:=Sum.inl.inj h4
     exact⟨by simp only;omega,by simp only;omega,h0⟩
    ·rename_i h0
     obtain⟨b,hb1,hb2,hb3,hk⟩:=zCl hlt (by simpa using h0)
     rw[hb1,k9] at h4
     cases hG:tokG k s b with
     |inl y=>rw[hG] at h4;obtain rfl:=Sum.inl.inj h4;exact zBc k b y hb3 (by omega) hG
     |inr q=>rw[hG] at h4;cases h4
end
section
open Go Go.Dc
theorem qWo{p:UInt8→Bool}(h:((List.range 256).all fun n=>p (UInt8.ofNat n))=true)(c:UInt8):p c=true:=by
 have:=jR.1 h c.toNat (gQ.2 c.toNat_lt)
 simpa using this
theorem qYj{N:Nat}(c:UInt8):qFy N (c.toNat:Int)=some (kd c==1):=by
 have h:=qWo (p:=fun c=>(decide (97≤c.toNat)&&decide (c.toNat≤122))==(kd c==1)) (by kernel_rfl) c
 rw[jY] at h
 rw[←h]
 unfold qFy
 by_cases h1:97≤c.toNat
 ·rw[if_pos (by simp only[jB];omega)]
  simp only[h1,decide_true,fM,j0]
  congr 1
  exact decide_eq_decide.2 (by omega)
 ·rw[if_neg (by simp only[jB];omega)]
  simp[h1]
theorem qVd{N:Nat}(c:UInt8):qFj N (c.toNat:Int)=some (inK [1,2,3] c):=by
 have h:=qWo (p:=fun c=>(kd c==1||(decide (48≤c.toNat)&&decide (c.toNat≤57)||decide (c.toNat=95)))==inK [1,2,3] c) (by kernel_rfl) c
 rw[jY] at h
 rw[←h]
 unfold qFj
 rw[qYj]
 simp only[j0]
 cases kd c==1
 ·have e95:((c.toNat:Int)==95)=decide (c.toNat=95):=by rw[jT,jY,jB];omega
  simp only[jA,jE,fN,e95]
  by_cases h1:48≤c.toNat
  ·by_cases h2:c.toNat≤57
   ·rw[if_pos (by simp only[jB];omega),if_pos (by simp only[jB];omega)];simp[h1,h2]
   ·rw[if_pos (by simp only[jB];omega),if_neg (by simp only[jB];omega)];simp[h2]
  ·rw[if_neg (by simp only[jB];omega)];simp[h1]
 ·rfl
theorem qZc(c:UInt8):kd c=2↔48≤c.toNat∧c.toNat≤57:=by
 have h:=qWo (p:=fun c=>(kd c==2)==(decide (48≤c.toNat)&&decide (c.toNat≤57))) (by kernel_rfl) c
 rw[jY,jT] at h
 simpa using h
theorem zEk(c:UInt8):kd c=7↔c=34:=by
 have h:=qWo (p:=fun c=>(kd c==7)==(c==34)) (by kernel_rfl) c
 rw[jY,jT] at h
 simpa using h
def signs:List UInt8:=[59,44,40,41,43,45,42,47,37,60,61]
theorem zHi(c:UInt8):kd c=8↔signs.contains c=true:=by
 have h:=qWo (p:=fun c=>(kd c==8)==signs.contains c) (by kernel_rfl) c
 rw[jY,jT] at h
 simpa using h
theorem zIx(c:UInt8):inK [5] c=true↔c.toNat=32∨c.toNat=9∨c.toNat=10∨c.toNat=13:=by
 have h:=qWo (p:=fun c=>inK [5] c==(decide (c.toNat=32)||(decide (c.toNat=9)||(decide (c.toNat=10)||decide (c.toNat=13))))) (by kernel_rfl) c
 rw[jY,jT] at h
 simpa using h
theorem zGm(c:UInt8):kd c=6↔c.toNat=35:=by
 have h:=qWo (p:=fun c=>(kd c==6)==decide (c.toNat=35)) (by kernel_rfl) c
 rw[jY,jT] at h
 simpa using h
def numR(n:Int)(c:UInt8):Int:=if n≤9007199254740992 then n*10+((c.toNat:Int)-48) else n
theorem zLq(l:List UInt8)(c:UInt8):(l++[c]).foldl numR 0=numR (l.foldl numR 0) c:=by simp
theorem zLd:∀(n:Nat) (ds:List UInt8),ds.length=n→(∀c∈ds,kd c=2)→0≤ds.foldl numR 0∧ds.foldl numR 0≤90071992547409930∧numL ds=if ds.foldl numR 0>9007199254740992 then 9007199254740993 else ds.foldl numR 0
 |0,ds,h,_=>by obtain rfl:=fF.1 h;simp[numL]
 |n+1,ds,h,hd=>by
  obtain⟨l,c,rfl⟩:∃l c,ds=l++[c]:=by
   rcases List.eq_nil_or_concat ds with e|⟨l,c,e⟩
   ·rw[e] at h;cases h
   ·exact⟨l,c,by simpa using e⟩
  obtain⟨h1,h2,h3⟩:=zLd n l (by simpa using h) (fun c hc=>hd c (kZ _ hc))
  have hc:=zCo c (hd c (by simp))
  rw[zLq,qYk]
  by_cases hu:l.foldl numR 0≤9007199254740992
  ·rw[if_neg (by omega)] at h3
   rw[h3]
   generalize l.foldl numR 0=u at h1 h2 hu
   have e1:numR u c=u*10+((c.toNat:Int)-48):=if_pos hu
   rw[e1]
   unfold numS
   refine⟨by omega,by omega,?_⟩
   by_cases h4:9007199254740993<10*u+((c.toNat:Int)-48)
   ·rw[if_pos h4,if_pos (by omega)]
   ·rw[if_neg h4]
    by_cases h5:u*10+((c.toNat:Int)-48)>9007199254740992
    ·rw[if_pos h5];omega
    ·rw[if_neg h5];omega
  ·rw[if_pos (by omega)] at h3
   rw[h3]
   generalize l.foldl numR 0=u at h1 h2 hu
   have e1:numR u c=u:=if_neg hu
   have e2:numS 9007199254740993 c=9007199254740993:=if_pos (by omega)
   rw[e1,e2,if_pos (by omega)]
   exact⟨h1,h2,rfl⟩
theorem inK2(c:UInt8):inK [2] c=decide (48≤c.toNat∧c.toNat≤57):=by
 rw[jT,jB,←qZc];simp[inK]
theorem qYp{N:Nat}{s:ByteArray}:∀(d i M:Nat) (n:Int),i+d=s.data.toList.length→s.data.toList.length<1000000→d<M→0≤n→n≤90071992547409930→
  qAx (qGj N s) M ((i:Int),n)=some (((tw (inK [2]) s.data.toList i:Nat):Int),((s.data.toList.drop i).takeWhile (inK [2])).foldl numR n)
 |d,i,0,n,_,_,h,_,_=>by omega
 |0,i,M+1,n,h1,hl,h2,h3,h4=>by
  have hs:=qCl s
  rw[zAr (by omega),jN (by omega)]
  simp only[qAx,qGj]
  rw[if_neg (by simp only[jB];omega)]
  rfl
 |d+1,i,M+1,n,h1,hl,h2,h3,h4=>by
  have hs:=qCl s
  have hi:i<s.data.toList.length:=by omega
  simp only[qAx,qGj]
  rw[if_pos (by simp only[jB];omega),qFh hi]
  simp only[j0]
  have hc:(if decide (((s.data.toList[i]).toNat:Int)≥48)=true then some (decide (((s.data.toList[i]).toNat:Int)≤57)) else some false)=some (inK [2] (s.data.toList[i])):=by
   rw[inK2]
   by_cases h48:48≤(s.data.toList[i]).toNat
   ·rw[if_pos (by simp only[jB];omega)];congr 1;exact decide_eq_decide.2 (by omega)
   ·rw[if_neg (by simp only[jB];omega)];congr 1;exact(jQ (by omega)).symm
  rw[hc]
  simp only[j0]
  rw[jI hi]
  cases hb:inK [2] (s.data.toList[i]) with
  |false=>
   rw[qSu hi hb,gC (by rw[hb];exact kQ)]
   rfl
  |true=>
   have hd:48≤(s.data.toList[i]).toNat∧(s.data.toList[i]).toNat≤57:=by rw[inK2] at hb;simpa using hb
   rw[←qSj hi hb,kT hb,kI,if_pos rfl]
   have hn:(if decide (n≤9007199254740992)=true then some (IntKind.wrap .i64 (IntKind.wrap .i64 (n*10)+IntKind.wrap .i64 (IntKind.wrap .u8 (((s.data.toList[i]).toNat:Int)-48)))) else some n)=some (numR n (s.data.toList[i])):=by
    unfold numR
    by_cases hn:n≤9007199254740992
    ·rw[if_pos (by simpa using hn),if_pos hn,wu8 (by omega) (by omega),wi64 (x:=n*10) (by omega) (by omega),wi64 (x:=((s.data.toList[i]).toNat:Int)-48) (by omega) (by omega),wi64 (by omega) (by omega)]
    ·rw[if_neg (by simpa using hn),if_neg hn]
   rw[hn]
   simp only[j0]
   rw[wi64 (by omega) (by omega),←kN]
   exact qYp d (i+1) M _ (by omega) hl (by omega) (by unfold numR;split<;>omega) (by unfold numR;split<;>omega)
theorem zHb(c:UInt8):(if decide ((c.toNat:Int)≥32)=true then(if decide ((c.toNat:Int)≤126)=true then some ((c.toNat:Int) !=34) else some false) else some false)=some (qTv c):=by
 unfold qTv
 by_cases h1:32≤c.toNat
 ·rw[if_pos (by simp only[jB];omega)]
  by_cases h2:c.toNat≤126
  ·rw[if_pos (by simp only[jB];omega)]
   simp only[h1,h2,decide_true,fM]
   congr 1
   rw[jT,gG,gG]
   exact⟨fun h e=>h (by rw[e];rfl),fun h e=>h (UInt8.toNat_inj.1 (by show _=34;omega))⟩
  ·rw[if_neg (by simp only[jB];omega)];simp[h2]
 ·rw[if_neg (by simp only[jB];omega)];simp[h1]
theorem zCx{N:Nat}{s:ByteArray}(d i M:Nat)(h1:i+d=s.data.toList.length)(hl:s.data.toList.length<1000000)(h2:d<M):qAx (qEd N s) M (i:Int)=some ((tw qTv s.data.toList i:Nat):Int):=by
 have hs:=qCl s
 refine qVs (f:=qEd N s) (l:=s.data.toList) (p:=qTv) (fun e=>(e:Int)) (fun j hj hb=> ?_) (fun j hj hb=> ?_) ?_ d i M h1 h2
 ·simp only[qEd]
  rw[if_pos (by simp only[jB];omega),qFh hj]
  simp only[j0,zHb,hb]
  rw[if_pos trivial,wi64 (by omega) (by omega)]
 ·simp only[qEd]
  rw[if_pos (by simp only[jB];omega),qFh hj]
  simp only[j0,zHb,hb]
  rfl
 ·simp only[qEd]
  rw[if_neg (by simp only[jB];omega)]
  rfl
theorem zNr{N:Nat}{s:ByteArray}{p1 s6:Int}:qHx N s p1 s6=if(decide (s6<(signs.length:Int)))=true then((idx signs s6).bind fun x12=>(idxB s p1).bind fun x13=>if((x13.toNat:Int)==(x12.toNat:Int))=true then((subB s p1 (IntKind.wrap .i64 (p1+1))).bind fun s7=>some (.inr (.inr (((4,s7,0,p1),IntKind.wrap .i64 (p1+1),0))))) else(some (.inl (IntKind.wrap .i64 (s6+1))))) else(some (.inr (.inl ()))):=rfl
theorem qWm{N:Nat}{s:ByteArray}{i:Nat}(hi:i<s.data.toList.length)(hl:s.data.toList.length<1000000):∀(d j M:Nat),j+d=signs.length→d<M→
  qAx (qHx N s (i:Int)) M (j:Int)=some (if(signs.drop j).contains (s.data.toList[i])=true then .inr ((4,s.extract i (i+1),0,(i:Int)),((i+1:Nat):Int),0) else .inl ())
 |d,j,0,_,h=>by omega
 |0,j,M+1,h1,h2=>by
  simp only[qAx,zNr]
  rw[if_neg (by simp only[jB];omega),jN (by omega)]
  rfl
 |d+1,j,M+1,h1,h2=>by
  have hj:j<signs.length:=by omega
  have hls:signs.length=11:=rfl
  simp only[qAx,zNr]
  rw[if_pos (by simp only[jB];omega),qEc hj,qFh hi,jI hj]
  simp only[j0,List.contains_cons]
  by_cases he:s.data.toList[i]=signs[j]
  ·rw[if_pos (by rw[he];exact kX _),wi64 (x:=(i:Int)+1) (by omega) (by omega),←kN,qNl (by omega) (by omega)]
   simp only[j0]
   rw[if_pos (by rw[he];simp)]
  ·have hne:¬((s.data.toList[i]).toNat:Int)=((signs[j]).toNat:Int):=fun h=>he (UInt8.toNat_inj.1 (by omega))
   have hne2:(s.data.toList[i]==signs[j])=false:=beq_eq_false_iff_ne.2 he
   rw[if_neg (by simpa using hne),wi64 (by omega) (by omega),←kN]
   simp only[j0,hne2,fN]
   exact qWm hi hl d (j+1) M (by omega) (by omega)
def refP(s:ByteArray)(i:Nat):(Int×ByteArray×Int×Int)×Int×Int:=
 if(tokP s i).2.2=0 then(((tokP s i).1.1,(tokP s i).1.2.1,(tokP s i).1.2.2.1,(i:Int)),(tokP s i).2.1,0) else tokP s i
theorem zFu{N:Nat}{s:ByteArray}{i:Nat}(hi:i<s.data.toList.length)(hl:s.data.toList.length<1000000)(hN:s.data.toList.length+20<N):qJp N s (i:Int)=some (refP s i):=by
 have hs:=qCl s
 simp only[qJp,qFh hi,j0,qYj,refP,tokP,qIf hi,jY]
 by_cases h1:kd (s.data.toList[i])=1
 ·simp only[h1,jH]
  have hb:=qRk (p:=inK [1,2,3]) (l:=s.data.toList) (a:=i) (by omega)
  have key:=qVs (f:=qEt N s) (l:=s.data.toList) (p:=inK [1,2,3]) (fun e=>(e:Int)) (fun j hj hb=>by
   simp only[qEt]
   rw[if_pos (by simp only[jB];omega),qFh hj]
   simp only[j0,qVd,hb]
   rw[if_pos trivial,wi64 (by omega) (by omega)]) (fun j hj hb=>by
   simp only[qEt]
   rw[if_pos (by simp only[jB];omega),qFh hj]
   simp only[j0,qVd,hb]
   rfl) (by
   simp only[qEt]
   rw[if_neg (by simp only[jB];omega)]
   rfl) (s.data.toList.length-i) i N (by omega) (by omega)
  rw[key]
  simp only[j0]
  rw[wi64 (by omega) (by omega),qNl hb.1 hb.2]
  by_cases h:tw (inK [1,2,3]) s.data.toList i-i>24
  ·rw[if_pos (by simp only[jB];omega),if_pos h];rfl
  ·rw[if_neg (by simp only[jB];omega),if_neg h];rfl
 simp only[h1,jE]
 by_cases h2:kd (s.data.toList[i])=2
 ·simp only[h2,jH]
  have hd:=(qZc _).1 h2
  rw[if_pos (by simp only[jB];omega)]
  simp only[j0]
  obtain⟨n1,n2,n3⟩:=zLd _ _ rfl (fun c (hc:c∈(s.data.toList.drop i).takeWhile (inK [2]))=>by simpa[inK] using zGw hc)
  rw[if_pos (by simp only[jB];omega),qYp (s.data.toList.length-i) i N 0 (by omega) hl (by omega) (by omega) (by omega),n3]
  simp only[j0,jB]
  generalize ((s.data.toList.drop i).takeWhile (inK [2])).foldl numR 0=u at n1 n2
  by_cases h4:u>9007199254740992
  ·simp[h4,zEt]
  ·simp[h4]
 simp only[h2,jE]
 have hnd:¬(48≤(s.data.toList[i]).toNat∧(s.data.toList[i]).toNat≤57):=fun h=>h2 ((qZc _).2 h)
 have hdig:(if decide (((s.data.toList[i]).toNat:Int)≥48)=true then some (decide (((s.data.toList[i]).toNat:Int)≤57)) else some false)=some false:=by
  by_cases h48:48≤(s.data.toList[i]).toNat
  ·rw[if_pos (by simp only[jB];omega)];congr 1;rw[decide_eq_false_iff_not];omega
  ·rw[if_neg (by simp only[jB];omega)]
 rw[hdig]
 simp only[j0,jA,jE]
 by_cases h7:kd (s.data.toList[i])=7
 ·have hc:s.data.toList[i]=34:=(zEk _).1 h7
  simp only[h7,jH]
  rw[if_pos (by rw[hc];rfl),wi64 (x:=(i:Int)+1) (by omega) (by omega),←kN]
  have hb:=qRk (p:=qTv) (l:=s.data.toList) (a:=i+1) (by omega)
  rw[zCx (s.data.toList.length-(i+1)) (i+1) N (by omega) hl (by omega)]
  simp only[j0]
  generalize tw qTv s.data.toList (i+1)=e at hb
  by_cases he:e=s.data.toList.length
  ·rw[if_pos (by omega)]
   have:¬s.data.toList.getD e 0=34:=fun h=>by have:=qVc (l:=s.data.toList) (i:=e) (by rw[h];decide);omega
   rw[if_neg this]
   rfl
  ·have hlt:e<s.data.toList.length:=by omega
   rw[if_neg (by omega),qFh hlt,qIf hlt]
   simp only[j0]
   by_cases h34:s.data.toList[e]=34
   ·rw[if_pos h34,if_neg (by rw[h34];decide),qNl hb.1 hb.2]
    simp only[j0,jH]
    rw[wi64 (by omega) (by omega),←kN]
   ·have h34':¬((s.data.toList[e]).toNat:Int)=34:=fun h=>h34 (UInt8.toNat_inj.1 (by show _=34;omega))
    rw[if_neg h34,if_pos (by simpa using h34')]
    simp[zEt]
 have h34':¬((s.data.toList[i]).toNat:Int)=34:=fun h=>h7 ((zEk _).2 (UInt8.toNat_inj.1 (by show _=34;omega)))
 simp only[h7,jE,h34']
 have ho:(if((s.data.toList[i]).toNat:Int)=61 then(if decide (IntKind.wrap .i64 ((i:Int)+1)<(s.size:Int))=true then((idxB s (IntKind.wrap .i64 ((i:Int)+1))).bind fun x11=>some ((x11.toNat:Int)==61)) else some false) else some false)=some (decide (s.data.toList.getD i 0=61∧s.data.toList.getD (i+1) 0=61)):=by
  rw[qIf hi]
  by_cases h61:s.data.toList[i]=61
  ·rw[if_pos (by rw[h61];rfl),wi64 (by omega) (by omega),←kN]
   by_cases hlt:i+1<s.data.toList.length
   ·rw[if_pos (by simp only[jB];omega),qFh hlt,qIf hlt]
    simp only[j0]
    congr 1
    rw[jT,jY,jB]
    exact⟨fun h=>⟨h61,UInt8.toNat_inj.1 (by show _=61;omega)⟩,fun h=>by rw[h.2];rfl⟩
   ·rw[if_neg (by simp only[jB];omega)]
    congr 1
    refine(jQ fun h=> ?_).symm
    have:=qVc (l:=s.data.toList) (i:=i+1) (by rw[h.2];decide)
    omega
  ·rw[if_neg (fun h=>h61 (UInt8.toNat_inj.1 (by show _=61;omega)))]
   congr 1
   exact(jQ fun h=>h61 h.1).symm
 rw[ho]
 simp only[j0,jB]
 by_cases h61:s.data.toList.getD i 0=61∧s.data.toList.getD (i+1) 0=61
 ·have hlt:i+1<s.data.toList.length:=qVc (by rw[h61.2];decide)
  have h8:kd (s.data.toList[i])=8:=by rw[←qIf hi,h61.1];kernel_rfl
  have hE:qXa s.data.toList i=i+2:=by rw[qXa,if_pos h61]
  have hx:s.extract i (i+2)=(⟨#[61,61]⟩:ByteArray):=by
   apply Go.WideShapes.bytes_inj
   simp only[ByteArray.data_extract,gF,kW]
   rw[jI hi,jI hlt,←qIf hi,←qIf hlt,h61.1,h61.2,show i+2-i=2 by omega]
   rfl
  simp only[h61,and_self,jH,h8,hE,hx]
  rw[wi64 (by omega) (by omega)]
  simp
 ·have hE:qXa s.data.toList i=i+1:=by rw[qXa,if_neg h61]
  have key:=qWm (N:=N) hi hl 11 0 N rfl (by omega)
  rw[show((0:Nat):Int)=0 from rfl] at key
  rw[if_neg h61,key]
  by_cases h8:kd (s.data.toList[i])=8
  ·have:=(zHi _).1 h8
   simp only[h8,jH,jX,this,j0,hE]
  ·have:¬signs.contains (s.data.toList[i])=true:=fun h=>h8 ((zHi _).2 h)
   simp only[h8,jE,jX,this,j0]
   simp[zEt]
end
section
open Go Go.Dc
def qOa:Nat→List UInt8→Nat→Nat
 |0,_,i=>i
 |k+1,l,i=>
  if tw (inK [5]) l i=l.length then l.length
  else if kd (l.getD (tw (inK [5]) l i) 0)=6 then qOa k l (tw qJi l (tw (inK [5]) l i))
  else tw (inK [5]) l i
theorem zHu{N:Nat}{s:ByteArray}{i:Nat}(hi:i≤s.data.toList.length)(hl:s.data.toList.length<1000000)(hN:s.data.toList.length+10<N):qAx (qEi N s) N (i:Int)=some ((tw qJi s.data.toList i:Nat):Int):=by
 have hs:=qCl s
 have hn:∀c:UInt8,((c.toNat:Int) !=10)=qJi c:=fun c=>by
  rw[jT,gG,qJi,gG]
  exact⟨fun h e=>h (by rw[e];rfl),fun h e=>h (UInt8.toNat_inj.1 (by show _=10;omega))⟩
 refine qVs (f:=qEi N s) (l:=s.data.toList) (p:=qJi) (fun e=>(e:Int)) (fun j hj hb=> ?_) (fun j hj hb=> ?_) ?_ (s.data.toList.length-i) i N (by omega) (by omega)
 ·simp only[qEi]
  rw[if_pos (by simp only[jB];omega),qFh hj]
  simp only[j0,hn,hb]
  rw[if_pos trivial,wi64 (by omega) (by omega)]
 ·simp only[qEi]
  rw[if_pos (by simp only[jB];omega),qFh hj]
  simp only[j0,hn,hb]
  rfl
 ·simp only[qEi]
  rw[if_neg (by simp only[jB];omega)]
  rfl
theorem zIh{s:ByteArray}{i:Nat}(hi:i<s.data.toList.length):((idxB s (i:Int)).bind fun x1=>if((x1.toNat:Int)==32)=true then(some true) else((idxB s (i:Int)).bind fun x2=>if((x2.toNat:Int)==9)=true then(some true) else((idxB s (i:Int)).bind fun x3=>if((x3.toNat:Int)==10)=true then(some true) else((idxB s (i:Int)).bind fun x4=>some ((x4.toNat:Int)==13)))))=some (inK [5] (s.data.toList[i])):=by
 simp only[qFh hi,j0,jY]
 generalize s.data.toList[i]=c
 have hb:=zIx c
 by_cases h1:(c.toNat:Int)=32
 ·rw[if_pos h1,hb.2 (by omega)]
 rw[if_neg h1]
 by_cases h2:(c.toNat:Int)=9
 ·rw[if_pos h2,hb.2 (by omega)]
 rw[if_neg h2]
 by_cases h3:(c.toNat:Int)=10
 ·rw[if_pos h3,hb.2 (by omega)]
 rw[if_neg h3]
 congr 1
 rw[jT,jY,hb]
 omega
theorem zIr{N:Nat}{s:ByteArray}{i:Nat}(hi:i<s.data.toList.length)(hl:s.data.toList.length<1000000)(hN:s.data.toList.length+10<N):
  qFn N s (i:Int)=some (if inK [5] (s.data.toList[i])=true then .inl (((i+1:Nat)):Int) else if kd (s.data.toList[i])=6 then .inl ((tw qJi s.data.toList i:Nat):Int) else .inr (.inr (i:Int))):=by
 have hs:=qCl s
 simp only[qFn]
 rw[if_pos (by simp only[jB];omega),zIh hi]
 simp only[j0]
 by_cases h5:inK [5] (s.data.toList[i])=true
 ·rw[if_pos h5,if_pos h5,wi64 (by omega) (by omega),←kN]
 ·rw[if_neg h5,if_neg h5,qFh hi]
  simp only[j0,jY]
  have hc:=zGm (s.data.toList[i])
  by_cases h6:kd (s.data.toList[i])=6
  ·rw[if_pos (by have:=hc.1 h6;omega),if_pos h6,zHu (by omega) hl hN]
   rfl
  ·rw[if_neg (fun h=>h6 (hc.2 (by omega))),if_neg h6]
theorem qXt{N:Nat}{s:ByteArray}(hl:s.data.toList.length<1000000)(hN:s.data.toList.length+10<N):∀(d i k M:Nat),i+d=s.data.toList.length→d<k→d<M→∃z,qAx (qFn N s) M (i:Int)=some z∧(z= .inl ((qOa k s.data.toList i:Nat):Int)∨z= .inr ((qOa k s.data.toList i:Nat):Int))
 |d,i,k,0,_,_,h=>by omega
 |d,i,0,M,_,h,_=>by omega
 |0,i,k+1,M+1,h1,h2,h3=>by
  have hs:=qCl s
  refine⟨.inl ((s.data.toList.length:Nat):Int),?_,.inl ?_⟩
  ·simp only[qAx,qFn]
   rw[if_neg (by simp only[jB];omega)]
   simp only[j0]
   congr 2;omega
  ·simp only[qOa]
   rw[zAr (by omega),if_pos (by omega)]
 |d+1,i,k+1,M+1,h1,h2,h3=>by
  have hs:=qCl s
  have hi:i<s.data.toList.length:=by omega
  simp only[qAx]
  rw[zIr hi hl hN]
  simp only[j0]
  cases h5:inK [5] (s.data.toList[i]) with
  |true=>
   rw[if_pos rfl]
   have:=qXt hl hN d (i+1) (k+1) M (by omega) (by omega) (by omega)
   simp only[qOa,qSj hi h5] at this ⊢
   exact this
  |false=>
   rw[if_neg kQ]
   by_cases h6:kd (s.data.toList[i])=6
   ·have hsk:qOa (k+1) s.data.toList i=qOa k s.data.toList (tw qJi s.data.toList i):=by
     simp only[qOa,qSu hi h5,qIf hi,h6,jH]
     rw[if_neg (by omega)]
    rw[hsk,if_pos h6]
    have hb2:=qRk (p:=qJi) (l:=s.data.toList) (a:=i) (by omega)
    have hpos:=qXv (p:=qJi) hi (by
     simp only[qJi,gG,ne_eq]
     intro e;rw[e] at h6;exact absurd h6 (by decide))
    exact qXt hl hN (s.data.toList.length-tw qJi s.data.toList i) _ k M (by omega) (by omega) (by omega)
   ·have hsk:qOa (k+1) s.data.toList i=i:=by
     simp only[qOa,qSu hi h5,qIf hi,h6,jE]
     rw[if_neg (by omega)]
    rw[hsk,if_neg h6]
    exact⟨_,rfl,.inr rfl⟩
theorem zLa{N:Nat}{s:ByteArray}{i k:Nat}(hi:i≤s.data.toList.length)(hl:s.data.toList.length<1000000)(hN:s.data.toList.length+10<N)(hk:s.data.toList.length<i+k):qIv N s (i:Int)=some ((qOa k s.data.toList i:Nat):Int):=by
 obtain⟨z,h1,h2⟩:=qXt hl hN (s.data.toList.length-i) i k N (by omega) (by omega) (by omega)
 unfold qIv
 rw[h1]
 rcases h2 with rfl|rfl<;>rfl
theorem zCu{s:ByteArray}:∀(k i:Nat),i≤s.data.toList.length→s.data.toList.length<i+k→i≤qOa k s.data.toList i∧qOa k s.data.toList i≤s.data.toList.length∧
  (qOa k s.data.toList i=s.data.toList.length→tokG k s i= .inr [(5,⟨#[]⟩,0,(s.data.toList.length:Int))])∧
  (qOa k s.data.toList i<s.data.toList.length→∃k',(∀b,qOa k s.data.toList i<b→s.data.toList.length<b+k')∧tokG k s i=
   if(tokP s (qOa k s.data.toList i)).2.2≠0 then .inl ((qOa k s.data.toList i:Nat),(tokP s (qOa k s.data.toList i)).2.2)
   else match tokG k' s (tokP s (qOa k s.data.toList i)).2.1.toNat with
    | .inl x=> .inl x
    | .inr r=> .inr (((tokP s (qOa k s.data.toList i)).1.1,(tokP s (qOa k s.data.toList i)).1.2.1,(tokP s (qOa k s.data.toList i)).1.2.2.1,((qOa k s.data.toList i:Nat):Int))::r))
 |0,i,h1,h2=>by omega
 |k+1,i,h1,h2=>by
  have hb:=qRk (p:=inK [5]) (l:=s.data.toList) (a:=i) h1
  simp only[qOa,tokG]
  by_cases he:tw (inK [5]) s.data.toList i=s.data.toList.length
  ·simp only[he,jH]
   exact⟨h1,jV _,fun _=>trivial,fun h=>absurd h (Nat.lt_irrefl _)⟩
  simp only[he,jE]
  have hlt:tw (inK [5]) s.data.toList i<s.data.toList.length:=by omega
  by_cases h6:kd (s.data.toList.getD (tw (inK [5]) s.data.toList i) 0)=6
  ·simp only[h6,jH]
   have hb2:=qRk (p:=qJi) (l:=s.data.toList) (a:=tw (inK [5]) s.data.toList i) (by omega)
   have hpos:=qXv (p:=qJi) hlt (by
    rw[qIf hlt] at h6
    simp only[qJi,gG,ne_eq]
    intro e;rw[e] at h6;exact absurd h6 (by decide))
   obtain⟨g1,g2,g3,g4⟩:=zCu k (tw qJi s.data.toList (tw (inK [5]) s.data.toList i)) hb2.2 (by omega)
   exact⟨by omega,g2,g3,g4⟩
  ·simp only[h6,jE]
   exact⟨hb.1,hb.2,fun h=>absurd h he,fun _=>⟨k,fun b hb'=>by omega,rfl⟩⟩
theorem qTz{N:Nat}{s:ByteArray}(hl:s.data.toList.length≤16384)(hN:s.data.toList.length+40<N):∀(d i k M:Nat) (acc:List Tok),i+d=s.data.toList.length→d<M→s.data.toList.length<i+k→acc.length≤i→
  ∃z,qAx (qHh N s) M (acc,((qOa k s.data.toList i:Nat):Int))=some z∧((∃o,z= .inl o∧o.length≤s.data.toList.length∧zBv acc (tokG k s i)=(o++[(5,⟨#[]⟩,0,(s.size:Int))],0,0))∨z= .inr (zBv acc (tokG k s i)))
 |d,i,k,0,acc,_,h,_,_=>by omega
 |d,i,k,M+1,acc,h1,h2,h3,h4=>by
  have hs:=qCl s
  obtain⟨g1,g2,g3,g4⟩:=zCu (s:=s) k i (by omega) h3
  generalize hA:qOa k s.data.toList i=a at g1 g2 g3 g4
  simp only[qAx,qHh]
  by_cases he:a=s.data.toList.length
  ·refine⟨.inl acc,?_,.inl ⟨acc,rfl,by omega,?_⟩⟩
   ·rw[if_neg (by simp only[jB];omega)]
    rfl
   ·rw[g3 he,←hs];rfl
  ·have hlt:a<s.data.toList.length:=by omega
   obtain⟨k',g5,g6⟩:=g4 hlt
   rw[if_pos (by simp only[jB];omega),zFu hlt (by omega) (by omega)]
   simp only[j0,refP]
   by_cases h0:(tokP s a).2.2=0
   ·obtain⟨e,he1,he2,he3,_⟩:=zCl hlt h0
    rw[if_pos h0]
    simp only[gW,jA,jE]
    rw[qCa (by simp only[jC,jD];omega) (by omega),he1]
    simp only[j0]
    rw[zLa (k:=k') he3 (by omega) (by omega) (g5 e he2)]
    simp only[j0]
    obtain⟨z,hz1,hz2⟩:=qTz hl hN (s.data.toList.length-e) e k' M (acc++[((tokP s a).1.1,(tokP s a).1.2.1,(tokP s a).1.2.2.1,(a:Int))]) (by omega) (by omega) (g5 e he2) (by simp;omega)
    have hj:zBv acc (tokG k s i)=zBv (acc++[((tokP s a).1.1,(tokP s a).1.2.1,(tokP s a).1.2.2.1,(a:Int))]) (tokG k' s e):=by
     rw[g6,if_neg (by simp[h0]),he1,k9]
     cases tokG k' s e with
     |inl x=>rfl
     |inr r=>simp[zBv]
    rw[hj]
    exact⟨z,hz1,hz2⟩
   ·rw[if_neg h0]
    have hb:((tokP s a).2.2 !=0)=true:=by simpa using h0
    simp only[hb,jH,j0]
    refine⟨_,rfl,.inr ?_⟩
    rw[g6,if_pos h0]
    rfl
theorem zCt{N:Nat}{s:ByteArray}(hN:20000<N):qJa N s=some (qHy s):=by
 have hs:=qCl s
 unfold qJa qHy
 by_cases h:s.data.toList.length>16384
 ·rw[if_pos (by simp only[jB];omega),if_pos h]
 ·rw[if_neg (by simp only[jB];omega),if_neg h]
  have h1:=zLa (N:=N) (s:=s) (i:=0) (k:=s.data.toList.length+1) (by omega) (by omega) (by omega) (by omega)
  rw[show((0:Nat):Int)=0 from rfl] at h1
  rw[h1]
  simp only[j0]
  obtain⟨z,hz1,hz2⟩:=qTz (N:=N) (s:=s) (by omega) (by omega) s.data.toList.length 0 (s.data.toList.length+1) N [] (by omega) (by omega) (by omega) (by simp)
  rw[hz1]
  rcases hz2 with ⟨o,rfl,ho,hj⟩|rfl
  ·simp only[j0]
   rw[qCa (by simp only[jC,jD];omega) (by omega),hj]
   rfl
  ·rfl
end
section
open Go Go.Dc
def qXb(s:ByteArray):Bool:=decide (1≤s.data.toList.length∧s.data.toList.length≤24∧kd (s.data.toList.getD 0 0)=1∧tw (inK [1,2,3]) s.data.toList 0=s.data.toList.length)
theorem qRm{s:ByteArray}(h:¬(1≤s.data.toList.length∧s.data.toList.length≤24∧kd (s.data.toList.getD 0 0)=1∧tw (inK [1,2,3]) s.data.toList 0=s.data.toList.length)):false=qXb s:=(jQ h).symm
theorem zKa{s:ByteArray}(h:1≤s.data.toList.length∧s.data.toList.length≤24∧kd (s.data.toList.getD 0 0)=1∧tw (inK [1,2,3]) s.data.toList 0=s.data.toList.length):true=qXb s:=(jM h).symm
theorem zKz{N:Nat}{s:ByteArray}(hN:100<N):qPk N s=some (qXb s):=by
 have hs:=qCl s
 simp only[qPk,zCg (show 30<N by omega),j0]
 by_cases h1:1≤s.data.toList.length
 ·by_cases h2:s.data.toList.length≤24
  ·rw[if_pos (by simp only[jB];omega),if_pos (by simp only[jB];omega)]
   have hi:=qFh (s:=s) (i:=0) (by omega)
   rw[show((0:Nat):Int)=0 from rfl] at hi
   rw[hi]
   simp only[j0,zKt,jY]
   have hsp:=qYh (N:=N) (s:=s) (ks:=[1,2,3]) (i:=0) (by omega) (by omega) (by simp) (by omega)
   rw[show((0:Nat):Int)=0 from rfl] at hsp
   by_cases h3:kd (s.data.toList[0])=1
   ·rw[if_pos h3,hsp]
    simp only[j0]
    congr 1
    rw[jT,jY,qXb,jB,qIf (by omega)]
    exact⟨fun h=>⟨h1,h2,h3,by omega⟩,fun h=>by have:=h.2.2.2;omega⟩
   ·rw[if_neg h3]
    refine congrArg some (qRm fun h=> ?_)
    rw[qIf (by omega)] at h
    exact h3 h.2.2.1
  ·rw[if_pos (by simp only[jB];omega),if_neg (by simp only[jB];omega)]
   exact congrArg some (qRm fun h=>h2 h.2.1)
 ·rw[if_neg (by simp only[jB];omega)]
  exact congrArg some (qRm fun h=>h1 h.1)
theorem zAq{N:Nat}{s:ByteArray}(hN:100<N):qHc N s=some (qXb s):=by
 have hs:=qCl s
 simp only[qHc]
 by_cases h1:1≤s.data.toList.length
 ·by_cases h2:s.data.toList.length≤24
  ·rw[if_neg (by simp only[jB];omega),if_neg (by simp only[jB];omega)]
   have hi:=qFh (s:=s) (i:=0) (by omega)
   rw[show((0:Nat):Int)=0 from rfl] at hi
   rw[hi]
   simp only[j0,qYj]
   by_cases h3:kd (s.data.toList[0])=1
   ·rw[h3,if_neg (by simp)]
    have key:=qVs (f:=qFl N s) (l:=s.data.toList) (p:=inK [1,2,3]) (fun e=>if e=s.data.toList.length then .inl () else .inr false) (fun j hj hb=>by
     simp only[qFl]
     rw[if_pos (by simp only[jB];omega),qFh hj]
     simp only[j0,qVd,hb]
     rw[wi64 (by omega) (by omega)]
     rfl) (fun j hj hb=>by
     simp only[qFl]
     rw[if_pos (by simp only[jB];omega),qFh hj]
     simp only[j0,qVd,hb]
     rw[if_neg (show ¬j=s.data.toList.length by omega)]
     rfl) (by
     simp only[qFl]
     rw[if_neg (by simp only[jB];omega)]
     simp) s.data.toList.length 0 N (by omega) (by omega)
    rw[show((0:Nat):Int)=0 from rfl] at key
    rw[key]
    simp only[j0]
    by_cases h4:tw (inK [1,2,3]) s.data.toList 0=s.data.toList.length
    ·rw[if_pos h4]
     exact congrArg some (zKa ⟨h1,h2,by rw[qIf (by omega)];exact h3,h4⟩)
    ·rw[if_neg h4]
     exact congrArg some (qRm fun h=>h4 h.2.2.2)
   ·rw[if_pos (by rw[Bool.not_eq_true',beq_eq_false_iff_ne];exact h3)]
    refine congrArg some (qRm fun h=> ?_)
    rw[qIf (by omega)] at h
    exact h3 h.2.2.1
  ·rw[if_neg (by simp only[jB];omega),if_pos (by simp only[jB];omega)]
   simp only[j0,jH]
   exact congrArg some (qRm fun h=>h2 h.2.1)
 ·rw[if_pos (by simp only[jB];omega)]
  simp only[j0,jH]
  exact congrArg some (qRm fun h=>h1 h.1)
end
section
open Go Go.Dc
def sp:List UInt8→List (List UInt8)
 |[]=>[[]]
 |c::l=>if c=47 then[]::sp l else match sp l with
  |[]=>[[c]]
  |p::q=>(c::p)::q
theorem zHy:∀l:List UInt8,sp l≠[]
 |[]=>by simp[sp]
 |c::l=>by
  simp only[sp]
  split
  ·simp
  ·split<;>simp
theorem zJz:∀l:List UInt8,(sp l).length=l.count 47+1
 |[]=>rfl
 |c::l=>by
  simp only[sp]
  split
  ·rename_i h;subst h;simp[zJz l]
  ·rename_i h
   have:=zJz l
   split
   ·rename_i e;exact absurd e (zHy l)
   ·rename_i e
    rw[e] at this
    simp only[jC] at this ⊢
    rw[List.count_cons_of_ne h,←this]
def qOr(c:UInt8):Bool:=c !=47
theorem zIz:∀l:List UInt8,sp l=if(l.takeWhile qOr).length=l.length then[l] else l.takeWhile qOr::sp (l.drop ((l.takeWhile qOr).length+1))
 |[]=>rfl
 |c::l=>by
  have ih:=zIz l
  by_cases h:c=47
  ·subst h
   rw[gC (by decide)]
   simp[sp]
  ·have hc:qOr c=true:=by simpa[qOr] using h
   rw[kT hc]
   simp only[sp,h,jE,ih,jC,Nat.add_right_cancel_iff,List.drop_succ_cons]
   by_cases he:(l.takeWhile qOr).length=l.length
   ·simp[he]
   ·simp[he]
def qZm:Nat→Nat→List UInt8→Option (Nat×Nat)
 |a,b,[]=>some (a,b)
 |a,b,c::l=>if c=47 then(if b=0 then none else qZm (a+1) 0 l) else if inK [1,2,3,4] c=true then(if b+1>24 then none else qZm a (b+1) l) else none
def partOk(p:List UInt8):Prop:=1≤p.length∧p.length≤24∧∀c∈p,inK [1,2,3,4] c=true
theorem qYe:∀(l:List UInt8) (a b:Nat),b≤24→((∃x y,qZm a b l=some (x,y)∧0<y∧x≤8)↔
  ∃p q,sp l=p::q∧1≤b+p.length∧b+p.length≤24∧(∀c∈p,inK [1,2,3,4] c=true)∧(∀r∈q,partOk r)∧a+q.length≤8)
 |[],a,b,hb=>by
  constructor
  ·rintro⟨x,y,h,h1,h2⟩
   simp only[qZm,jK,Prod.mk.injEq] at h
   exact⟨[],[],rfl,by simp;omega,by simpa using hb,by simp,by simp,by simp;omega⟩
  ·rintro⟨p,q,h,h1,h2,_,_,h3⟩
   simp only[sp,kE] at h
   obtain⟨rfl,rfl⟩:=h
   simp only[jD] at h1 h3
   exact⟨a,b,rfl,by omega,by omega⟩
 |c::l,a,b,hb=>by
  by_cases hc:c=47
  ·have hsp:sp (c::l)=[]::sp l:=by simp[sp,hc]
   rw[hsp]
   simp only[qZm,hc,jH]
   by_cases h0:b=0
   ·subst h0
    simp only[jH]
    constructor
    ·rintro⟨x,y,h,_⟩;cases h
    ·rintro⟨p,q,h,h1,_⟩
     simp only[kE] at h
     rw[←h.1] at h1;simp at h1
   ·rw[if_neg h0]
    rw[qYe l (a+1) 0 (by omega)]
    constructor
    ·rintro⟨p,q,h,h1,h2,h3,h4,h5⟩
     refine⟨[],sp l,rfl,by simp;omega,by simpa using hb,by simp,?_,by rw[h];simp only[jC];omega⟩
     intro r hr
     rw[h] at hr
     rcases jO.1 hr with rfl|hr
     ·exact⟨by omega,by omega,h3⟩
     ·exact h4 r hr
    ·rintro⟨p,q,h,h1,h2,h3,h4,h5⟩
     simp only[kE] at h
     obtain⟨rfl,rfl⟩:=h
     obtain⟨p,q,hpq⟩:∃p q,sp l=p::q:=by
      cases he:sp l with
      |nil=>exact absurd he (zHy l)
      |cons p q=>exact⟨p,q,rfl⟩
     rw[hpq] at h4 h5
     obtain⟨g1,g2,g3⟩:=h4 p (jU ..)
     exact⟨p,q,hpq,by omega,by omega,g3,fun r hr=>h4 r (k0 _ hr),by simp only[jC] at h5;omega⟩
  ·obtain⟨p0,q0,hpq⟩:∃p q,sp l=p::q:=by
    cases he:sp l with
    |nil=>exact absurd he (zHy l)
    |cons p q=>exact⟨p,q,rfl⟩
   have hsp:sp (c::l)=(c::p0)::q0:=by simp only[sp,hc,jE,hpq]
   rw[hsp]
   simp only[qZm,hc,jE]
   by_cases hk:inK [1,2,3,4] c=true
   ·rw[if_pos hk]
    by_cases h24:b+1>24
    ·rw[if_pos h24]
     constructor
     ·rintro⟨x,y,h,_⟩;cases h
     ·rintro⟨p,q,h,h1,h2,_⟩
      simp only[kE] at h
      rw[←h.1] at h2
      simp only[jC] at h2
      omega
    ·rw[if_neg h24,qYe l a (b+1) (by omega)]
     constructor
     ·rintro⟨p,q,h,h1,h2,h3,h4,h5⟩
      rw[hpq] at h
      simp only[kE] at h
      obtain⟨rfl,rfl⟩:=h
      refine⟨_,_,rfl,by simp only[jC];omega,by simp only[jC];omega,?_,h4,h5⟩
      intro d hd
      rcases jO.1 hd with rfl|hd
      ·exact hk
      ·exact h3 d hd
     ·rintro⟨p,q,h,h1,h2,h3,h4,h5⟩
      simp only[kE] at h
      obtain⟨rfl,rfl⟩:=h
      simp only[jC] at h1 h2
      exact⟨p0,q0,hpq,by omega,by omega,fun d hd=>h3 d (k0 _ hd),h4,h5⟩
   ·rw[if_neg hk]
    constructor
    ·rintro⟨x,y,h,_⟩;cases h
    ·rintro⟨p,q,h,h1,h2,h3,_⟩
     simp only[kE] at h
     rw[←h.1] at h3
     exact absurd (h3 c (jU ..)) hk
theorem inK4{N:Nat}(c:UInt8):((qFj N (c.toNat:Int)).bind fun y1=>if y1=true then(some true) else(some ((c.toNat:Int)==46)))=some (inK [1,2,3,4] c):=by
 have h:=qWo (p:=fun c=>(inK [1,2,3] c||decide (c.toNat=46))==inK [1,2,3,4] c) (by kernel_rfl) c
 rw[jY] at h
 rw[←h,qVd]
 simp only[j0]
 have e:((c.toNat:Int)==46)=decide (c.toNat=46):=by rw[jT,jY,jB];omega
 rw[e]
 cases inK [1,2,3] c<;>simp
theorem qTc{N:Nat}{s:ByteArray}(hl:s.data.toList.length<1000000):∀(d i M a b:Nat),i+d=s.data.toList.length→d<M→a≤i+1→b≤24→
  qAx (qGu N s) M ((a:Int),(b:Int),(i:Int))=some (match qZm a b (s.data.toList.drop i) with|some z=> .inl ((z.1:Int),(z.2:Int))|none=> .inr false)
 |d,i,0,_,_,_,h,_,_=>by omega
 |0,i,M+1,a,b,h1,h2,h3,h4=>by
  have hs:=qCl s
  simp only[qAx,qGu]
  rw[if_neg (by simp only[jB];omega),jN (by omega)]
  rfl
 |d+1,i,M+1,a,b,h1,h2,h3,h4=>by
  have hs:=qCl s
  have hi:i<s.data.toList.length:=by omega
  simp only[qAx,qGu]
  rw[if_pos (by simp only[jB];omega),jI hi,qFh hi]
  simp only[j0,inK4,jY,qZm]
  by_cases hc:s.data.toList[i]=47
  ·rw[if_pos (show((s.data.toList[i]).toNat:Int)=47 by rw[hc];rfl),if_pos hc]
   by_cases hb:b=0
   ·rw[if_pos (show(b:Int)=0 by omega),if_pos hb]
    rfl
   ·rw[if_neg (show ¬(b:Int)=0 by omega),if_neg hb,wi64 (x:=(a:Int)+1) (by omega) (by omega)]
    simp only[j0]
    rw[if_neg (by simp),wi64 (by omega) (by omega)]
    have:=qTc (N:=N) hl d (i+1) M (a+1) 0 (by omega) (by omega) (by omega) (by omega)
    exact this
  ·have hc':¬((s.data.toList[i]).toNat:Int)=47:=fun h=>hc (UInt8.toNat_inj.1 (by show _=47;omega))
   rw[if_neg hc',if_neg hc]
   by_cases hk:inK [1,2,3,4] (s.data.toList[i])=true
   ·rw[if_pos hk,if_pos hk,wi64 (x:=(b:Int)+1) (by omega) (by omega)]
    simp only[j0]
    by_cases h24:b+1>24
    ·rw[if_pos (by simp only[jB];omega),if_pos h24]
     rfl
    ·rw[if_neg (by simp only[jB];omega),if_neg h24,wi64 (by omega) (by omega)]
     have:=qTc (N:=N) hl d (i+1) M a (b+1) (by omega) (by omega) (by omega) (by omega)
     exact this
   ·rw[if_neg hk,if_neg hk]
    rfl
def qKv(l:List UInt8):Bool:=decide (l.length≤80∧(sp l).length≤8∧∀p∈sp l,1≤p.length∧p.length≤24∧∀c∈p,inK [1,2,3,4] c=true)
theorem zDm(l:List UInt8):qKv l=true↔l.length≤80∧∃x y,qZm 1 0 l=some (x,y)∧0<y∧x≤8:=by
 rw[qYe l 1 0 (by omega)]
 simp only[qKv,jB]
 obtain⟨p,q,hpq⟩:∃p q,sp l=p::q:=by
  cases he:sp l with
  |nil=>exact absurd he (zHy l)
  |cons p q=>exact⟨p,q,rfl⟩
 constructor
 ·rintro⟨h1,h2,h3⟩
  rw[hpq] at h2 h3
  obtain⟨g1,g2,g3⟩:=h3 p (jU ..)
  exact⟨h1,p,q,hpq,by omega,by omega,g3,fun r hr=>h3 r (k0 _ hr),by simp only[jC] at h2;omega⟩
 ·rintro⟨h1,p',q',h,h2,h3,h4,h5,h6⟩
  refine⟨h1,by rw[h];simp only[jC];omega,?_⟩
  intro r hr
  rw[h] at hr
  rcases jO.1 hr with rfl|hr
  ·exact⟨by omega,by omega,h4⟩
  ·exact h5 r hr
theorem qTm{N:Nat}{s:ByteArray}(hN:100<N):qEx N s=some (qKv s.data.toList):=by
 have hs:=qCl s
 simp only[qEx]
 by_cases h80:s.data.toList.length≤80
 ·rw[if_neg (by simp only[jB];omega)]
  have key:=qTc (N:=N) (s:=s) (by omega) s.data.toList.length 0 N 1 0 (by omega) (by omega) (by omega) (by omega)
  rw[show((0:Nat):Int)=0 from rfl,show((1:Nat):Int)=1 from rfl,jX] at key
  rw[key]
  have hp:=zDm s.data.toList
  cases hR:qZm 1 0 s.data.toList with
  |none=>
   simp only[j0]
   refine congrArg some ?_
   rw[jT,hp]
   constructor
   ·intro h;cases h
   ·rintro⟨_,x,y,h,_⟩;rw[hR] at h;cases h
  |some z=>
   obtain⟨x,y⟩:=z
   simp only[j0]
   by_cases hy:0<y
   ·rw[if_pos (by simp only[jB];omega)]
    simp only[j0]
    refine congrArg some ?_
    rw[jT,hp,jB]
    constructor
    ·intro h;exact⟨h80,x,y,hR,hy,by omega⟩
    ·rintro⟨_,x',y',h,_,h2⟩;rw[hR] at h;simp only[jK,Prod.mk.injEq] at h;omega
   ·rw[if_neg (by simp only[jB];omega)]
    simp only[j0]
    refine congrArg some ?_
    rw[jT,hp]
    constructor
    ·intro h;cases h
    ·rintro⟨_,x',y',h,h1,_⟩;rw[hR] at h;simp only[jK,Prod.mk.injEq] at h;omega
 ·rw[if_pos (by simp only[jB];omega)]
  refine congrArg some ?_
  rw[jT,zDm]
  exact⟨fun h=>(by cases h),fun h=>absurd h.1 h80⟩
end
section
open Go Go.Dc
theorem tw_is{p:UInt8→Bool}{l:List UInt8}{k:Nat}(hk:k<l.length)(h1:∀j,∀h:j<l.length,j<k→p l[j]=true)(h2:p l[k]=false):tw p l 0=k:=by
 have key:∀d j,j+d=k→tw p l j=k:=by
  intro d
  induction d with
  |zero=>
   intro j h
   have:j=k:=by omega
   subst this
   exact qSu hk h2
  |succ d ih=>intro j h;rw[←qSj (by omega) (h1 j (by omega) (by omega))];exact ih (j+1) (by omega)
 exact key k 0 (by omega)
theorem ix_eq(x:ByteArray):ixB x 47=if(x.data.toList.takeWhile qOr).length=x.data.toList.length then-1 else((x.data.toList.takeWhile qOr).length:Int):=by
 have hs:=qCl x
 have htw:tw qOr x.data.toList 0=(x.data.toList.takeWhile qOr).length:=by simp[tw]
 have hget:∀j,∀h:j<x.data.toList.length,x[j]! =x.data.toList[j]:=by
  intro j hj
  rw[getElem!_pos x j (by omega)]
  simp[ByteArray.getElem_eq_getElem_data]
 have h47:(47:Int).toNat.toUInt8=47:=rfl
 rw[←htw]
 unfold ixB
 rw[h47,←hs]
 cases hf:(List.range x.data.toList.length).find? (fun j=>x[j]! ==47) with
 |none=>
  rw[List.find?_eq_none] at hf
  simp only
  rw[if_pos]
  refine zNk fun c hc=> ?_
  obtain⟨j,hj,rfl⟩:=List.getElem_of_mem hc
  have:=hf j (gQ.2 hj)
  rw[hget j hj] at this
  simpa[qOr] using this
 |some k=>
  have h1:=List.find?_some hf
  have hk:k<x.data.toList.length:=gQ.1 (gE hf)
  rw[hget k hk] at h1
  have e:tw qOr x.data.toList 0=k:=by
   refine tw_is hk (fun j h hj=> ?_) (by simpa[qOr] using h1)
   have:=(List.find?_range_eq_some.1 hf).2.2 j hj
   rw[hget j h] at this
   simpa[qOr] using this
  simp only
  rw[e,if_neg (by omega)]
theorem zMi{N:Nat}(x:ByteArray):qMe N x (⟨#[47]⟩:ByteArray)=some (ixB x 47):=by
 have h1:idxB (⟨#[47]⟩:ByteArray) 0=some 47:=by kernel_rfl
 simp only[qMe,qHq,qDs,show(⟨#[47]⟩:ByteArray).size=1 from rfl,qEg]
 rw[if_neg (by decide)]
 simp only[j0,jB]
 by_cases h:(⟨#[47]⟩:ByteArray)=x
 ·have h0:ixB (⟨#[47]⟩:ByteArray) 47=0:=by kernel_rfl
  rw[if_pos h,←h,h0]
  rfl
 ·rw[if_neg h,if_pos (by decide),h1]
  rfl
theorem cnt_eq(x:ByteArray):cntB x 47=((x.data.toList.count 47:Nat):Int):=by
 unfold cntB
 rw[Go.Lib.foldl_data]
 have key:∀(l:List UInt8) (n:Int),l.foldl (fun n x=>if x==(47:Int).toNat.toUInt8 then n+1 else n) n=n+((l.count 47:Nat):Int):=by
  intro l
  induction l with
  |nil=>intro n;simp
  |cons c l ih=>
   intro n
   rw[kI,ih,List.count_cons]
   have h47:(47:Int).toNat.toUInt8=47:=rfl
   rw[h47]
   by_cases h:(c==47)=true
   ·simp only[h,jH];omega
   ·simp only[h,jA,jE];omega
 rw[key]
 omega
theorem zOx{α:Type}(l:List α)(k:Nat)(a b:α):(l++List.replicate (k+1) a).set l.length b=(l++[b])++List.replicate k a:=by
 rw[List.set_append_right _ _ (jV _)]
 simp[List.replicate_succ]
theorem zAs{N n:Nat}{s:ByteArray}(hn:n<1000000000)(hns:n≤s.size+1)(hs:s.size<1000000000):∀(r M:Nat) (x:ByteArray) (done:List ByteArray),(sp x.data.toList).length=r→done.length+r=n→r<M→x.size<1000000000→
  ∃y D,qAx (qJo N s (⟨#[47]⟩:ByteArray) 0 (n:Int)) M (x,(done.length:Int),done++List.replicate r (⟨#[]⟩:ByteArray))=some (y,((n-1:Nat):Int),D++[(⟨#[]⟩:ByteArray)])∧D.length=n-1∧D++[y]=done++(sp x.data.toList).map qRr
 |_,0,_,_,_,_,h,_=>by omega
 |0,_,x,_,h,_,_,_=>by exact absurd (fF.1 h) (zHy _)
 |r+1,M+1,x,done,h1,h2,h3,h4=>by
  have hxs:=qCl x
  have hmin:(if IntKind.wrap .i64 ((s.size:Int)+1)<(n:Int) then IntKind.wrap .i64 ((s.size:Int)+1) else(n:Int))=(n:Int):=by
   rw[wi64 (by omega) (by omega)];split<;>omega
  have hstep:=zIz x.data.toList
  simp only[qAx,qJo]
  rw[hmin,wi64 (x:=(n:Int)-1) (by omega) (by omega)]
  by_cases hlast:(x.data.toList.takeWhile qOr).length=x.data.toList.length
  ·rw[if_pos hlast] at hstep
   rw[hstep] at h1
   simp only[jC,jD] at h1
   have hr:r=0:=by omega
   subst hr
   rw[if_neg (by simp only[jB];omega)]
   refine⟨x,done,?_,by omega,?_⟩
   ·simp only[j0]
    rw[show(n-1:Nat)=done.length by omega]
    rfl
   ·rw[hstep];simp[qRr]
  ·rw[if_neg hlast] at hstep
   rw[hstep] at h1
   simp only[jC] at h1
   have hpos:0<(sp (x.data.toList.drop ((x.data.toList.takeWhile qOr).length+1))).length:=gL.2 (zHy _)
   have hle:(x.data.toList.takeWhile qOr).length≤x.data.toList.length:=(fH _).length_le
   have hix:=ix_eq x
   rw[if_neg hlast] at hix
   rw[if_pos (by simp only[jB];omega),zMi,hix]
   simp only[j0,show(⟨#[47]⟩:ByteArray).size=1 from rfl]
   have he:(x.data.toList.takeWhile qOr)=x.data.toList.take (x.data.toList.takeWhile qOr).length:=List.prefix_iff_eq_take.1 (List.takeWhile_prefix _)
   have hx1:x.extract 0 (x.data.toList.takeWhile qOr).length=qRr (x.data.toList.takeWhile qOr):=by
    apply Go.WideShapes.bytes_inj
    simp only[ByteArray.data_extract,gF,kW,qRr,jX,Nat.sub_zero]
    exact he.symm
   have hx2:(x.extract ((x.data.toList.takeWhile qOr).length+1) x.data.toList.length).data.toList=x.data.toList.drop ((x.data.toList.takeWhile qOr).length+1):=by
    simp only[ByteArray.data_extract,gF,kW]
    exact fG (by simp only[fA];omega)
   generalize hk:(x.data.toList.takeWhile qOr).length=k at*
   rw[if_neg (by simp only[jB];omega),wi64 (x:=(k:Int)+0) (by omega) (by omega),Int.add_zero]
   have hsub0:subB x 0 (k:Int)=some (x.extract 0 k):=by
    have:=qNl (s:=x) (i:=0) (e:=k) (by omega) (by omega)
    simpa only[Int.natCast_zero] using this
   rw[hsub0]
   simp only[j0]
   rw[qEc (by simp),wi64 (x:=(k:Int)+((1:Nat):Int)) (by omega) (by omega),show((k:Int)+((1:Nat):Int))=((k+1:Nat):Int) by omega,qZg (by omega)]
   simp only[j0,k9]
   rw[zOx,hx1,wi64 (by omega) (by omega)]
   have hxs2:=qCl (x.extract (k+1) x.data.toList.length)
   rw[hx2,fA] at hxs2
   obtain⟨y,D,g1,g2,g3⟩:=zAs (N:=N) hn hns hs r M (x.extract (k+1) x.data.toList.length) (done++[qRr (x.data.toList.takeWhile qOr)]) (by rw[hx2];omega) (by simp;omega) (by omega) (by omega)
   refine⟨y,D,?_,g2,?_⟩
   ·rw[←g1];simp
   ·rw[g3,hx2,hstep];simp
termination_by r=>r
theorem zMh{N:Nat}{s:ByteArray}(hl:s.size<100000000)(hN:2*s.size+1000<N):qNi N s (⟨#[47]⟩:ByteArray)=some ((sp s.data.toList).map qRr):=by
 have hs:=qCl s
 have hlen:=zJz s.data.toList
 have hc:s.data.toList.count 47≤s.data.toList.length:=List.count_le_length
 have h1:idxB (⟨#[47]⟩:ByteArray) 0=some 47:=by kernel_rfl
 have hcount:qNc N s (⟨#[47]⟩:ByteArray)=some ((s.data.toList.count 47:Nat):Int):=by
  simp only[qNc,show(⟨#[47]⟩:ByteArray).size=1 from rfl]
  rw[if_neg (by decide),if_pos (by decide),h1]
  simp only[j0]
  rw[←cnt_eq];rfl
 simp only[qNi,qMn,qEg,hcount,j0]
 rw[if_neg (by decide),if_neg (by decide),if_pos (by decide)]
 simp only[j0]
 rw[wi64 (x:=((s.data.toList.count 47:Nat):Int)+1) (by omega) (by omega),show((s.data.toList.count 47:Nat):Int)+1=(((sp s.data.toList).length:Nat):Int) by omega]
 generalize hn:(sp s.data.toList).length=n at*
 have hmin:(if IntKind.wrap .i64 ((s.size:Int)+1)<(n:Int) then IntKind.wrap .i64 ((s.size:Int)+1) else(n:Int))=(n:Int):=by
  rw[wi64 (by omega) (by omega)];split<;>omega
 rw[hmin]
 have hm:zFz 16 (⟨#[]⟩:ByteArray) (n:Int)=some (List.replicate n (⟨#[]⟩:ByteArray)):=by
  unfold zFz
  rw[if_pos (by simp only[maxLen];omega),k9]
 rw[hm]
 simp only[j0]
 obtain⟨y,D,g1,g2,g3⟩:=zAs (N:=N) (n:=n) (s:=s) (by omega) (by omega) (by omega) n N s [] hn (by simp) (by omega) (by omega)
 simp only[jD,kG] at g1 g3
 rw[show((0:Nat):Int)=0 from rfl] at g1
 rw[g1]
 simp only[j0]
 rw[qEc (by simp;omega)]
 simp only[j0,k9]
 have hset:(D++[(⟨#[]⟩:ByteArray)]).set (n-1) y=D++[y]:=by
  rw[←g2,List.set_append_right _ _ (jV _)];simp
 rw[hset,g3,wi64 (by omega) (by omega),show((n-1:Nat):Int)+1=(n:Int) by omega,zEq (by omega) (by omega) (by rw[gI,hn];omega)]
 simp only[j0,k9,Int.toNat_zero,jX]
 rw[fG (by rw[gI,hn];exact jV _)]
theorem zNp{p:UInt8→Bool}{l:List UInt8}:tw p l 0=l.length↔∀c∈l,p c=true:=by
 constructor
 ·intro h c hc
  have h1:(l.takeWhile p).length=l.length:=by simpa[tw] using h
  have h2:=(List.takeWhile_prefix p (l:=l)).eq_of_length h1
  rw[←h2] at hc
  exact zGw hc
 ·exact zNk
def zEy(x:ByteArray):Bool:=decide (1≤x.data.toList.length∧x.data.toList.length≤24∧∀c∈x.data.toList,inK [1,2,3,4] c=true)
theorem zEj(x:ByteArray):zEy x=true↔1≤x.data.toList.length∧x.data.toList.length≤24∧∀c∈x.data.toList,inK [1,2,3,4] c=true:=decide_eq_true_iff
theorem zPg{N:Nat}{x:ByteArray}(hN:100<N):(if(decide ((x.size:Int)<1))=true then(some true) else(if(decide ((x.size:Int)>24))=true then(some true) else((qLk N x 0 (some kdL) ([1,2,3,4])).bind fun y3=>some (y3 !=(x.size:Int)))))=some (!zEy x):=by
 have hs:=qCl x
 have hno:∀h:¬(1≤x.data.toList.length∧x.data.toList.length≤24∧∀c∈x.data.toList,inK [1,2,3,4] c=true),zEy x=false:=fun h=>jQ h
 by_cases h1:1≤x.data.toList.length
 ·rw[if_neg (by simp only[jB];omega)]
  by_cases h2:x.data.toList.length≤24
  ·rw[if_neg (by simp only[jB];omega)]
   have hsp:=qYh (N:=N) (s:=x) (ks:=[1,2,3,4]) (i:=0) (by omega) (by omega) (by simp) (by omega)
   rw[show((0:Nat):Int)=0 from rfl] at hsp
   rw[hsp]
   simp only[j0]
   refine congrArg some ?_
   by_cases h3:tw (inK [1,2,3,4]) x.data.toList 0=x.data.toList.length
   ·have:zEy x=true:=jM ⟨h1,h2,zNp.1 h3⟩
    rw[this,h3,hs]
    simp
   ·rw[hno fun h=>h3 (zNp.2 h.2.2)]
    simp only[jW,gG,ne_eq]
    omega
  ·rw[if_pos (by simp only[jB];omega),hno fun h=>h2 h.2.1]
   rfl
 ·rw[if_pos (by simp only[jB];omega),hno fun h=>h1 h.1]
  rfl
theorem zDv{N:Nat}{L:List ByteArray}(hL:L.length<1000)(hN:100<N):∀(d j M:Nat),j+d=L.length→d<M→qAx (qLz N L (some kdL)) M (j:Int)=some (if(L.drop j).all zEy=true then .inl () else .inr false)
 |d,j,0,_,h=>by omega
 |0,j,M+1,h1,h2=>by
  simp only[qAx,qLz]
  rw[if_neg (by simp only[jB];omega),jN (by omega)]
  rfl
 |d+1,j,M+1,h1,h2=>by
  have hj:j<L.length:=by omega
  simp only[qAx,qLz]
  rw[if_pos (by simp only[jB];omega),qEc hj]
  simp only[j0,zPg hN]
  rw[jI hj,List.all_cons]
  cases hp:zEy L[j] with
  |true=>
   rw[if_neg (by simp),wi64 (by omega) (by omega)]
   simp only[j0,fM]
   exact zDv hL hN d (j+1) M (by omega) (by omega)
  |false=>simp
theorem qXq{N:Nat}{s:ByteArray}(hl:s.size<100000000)(hN:2*s.size+1000<N):qJj N s=some (qKv s.data.toList):=by
 have hs:=qCl s
 have hno:∀h:¬(s.data.toList.length≤80∧(sp s.data.toList).length≤8∧∀p∈sp s.data.toList,1≤p.length∧p.length≤24∧∀c∈p,inK [1,2,3,4] c=true),qKv s.data.toList=false:=fun h=>jQ h
 simp only[qJj,zMh hl hN,j0,gI]
 by_cases h80:s.data.toList.length≤80
 ·rw[if_neg (by simp only[jB];omega)]
  by_cases h8:(sp s.data.toList).length≤8
  ·have e8:decide (((sp s.data.toList).length:Int)>8)=false:=jQ (by omega)
   simp only[j0,e8,jA,jE,zCg (show 30<N by omega)]
   have key:=zDv (N:=N) (L:=(sp s.data.toList).map qRr) (by rw[gI];omega) (by omega) _ 0 N (gD _) (by rw[gI];omega)
   rw[show((0:Nat):Int)=0 from rfl,jX] at key
   rw[key]
   simp only[j0]
   by_cases hp:((sp s.data.toList).map qRr).all zEy=true
   ·have:qKv s.data.toList=true:=jM ⟨h80,h8,fun p hp'=>by
     have:=(zEj _).1 (jR.1 hp (qRr p) (kV hp'))
     simpa[qRr] using this⟩
    rw[if_pos hp,this]
   ·rw[if_neg hp,hno fun h=>hp (jR.2 fun x hx=>by
     obtain⟨p,hp',rfl⟩:=fK.1 hx
     exact(zEj _).2 (by simpa[qRr] using h.2.2 p hp'))]
  ·have e8:decide (((sp s.data.toList).length:Int)>8)=true:=jM (by omega)
   simp only[j0,e8,jH]
   rw[hno fun h=>h8 h.2.1]
 ·rw[if_pos (by simp only[jB];omega)]
  simp only[j0,jH]
  rw[hno fun h=>h80 h.1]
end
section
open Go Go.Dc
def run{α τ β:Type}(step:τ→α→τ⊕β)(fin:τ→β):List α→τ→β
 |[],t=>fin t
 |x::l,t=>match step t x with
  | .inl t'=>run step fin l t'
  | .inr b=>b
theorem zEg{α τ σ β:Type}{L:List α}(enc:τ→Nat→σ){f:σ→Option (σ⊕β)}(step:τ→α→τ⊕β)(fin:τ→β)(I:Nat→τ→Prop)
  (hstep:∀t i,∀hi:i<L.length,I i t→f (enc t i)=some (match step t L[i] with| .inl t'=> .inl (enc t' (i+1))| .inr b=> .inr b))
  (hinv:∀t i,∀hi:i<L.length,∀t',I i t→step t L[i]= .inl t'→I (i+1) t')
  (hfin:∀t,I L.length t→f (enc t L.length)=some (.inr (fin t))):∀(d i M:Nat) (t:τ),i+d=L.length→d<M→I i t→qAx f M (enc t i)=some (run step fin (L.drop i) t)
 |_,_,0,_,_,h,_=>absurd h (kP _)
 |d,i,M+1,t,h1,h2,h3=>by
  cases d with
  |zero=>
   have hi:i=L.length:=by omega
   subst hi
   simp only[qAx,hfin t h3,j0,List.drop_length,run]
  |succ d=>
   have hi:i<L.length:=by omega
   have hd:L.drop i=L[i]::L.drop (i+1):=(fI hi).symm
   simp only[qAx,hstep t i hi h3,j0]
   rw[hd]
   simp only[run]
   cases hs:step t L[i] with
   |inl t'=>
    simp only
    exact zEg enc step fin I hstep hinv hfin d (i+1) M t' (by omega) (by omega) (hinv t i hi t' h3 hs)
   |inr b=>rfl
theorem qVl{α τ σ β:Type}{L:List α}(enc:τ→Nat→σ){f:σ→Option (σ⊕β)}(step:τ→α→τ⊕β)(fin:τ→β)(I:Nat→τ→Prop)
  (hstep:∀t i,∀hi:i<L.length,I i t→f (enc t i)=some (match step t L[i] with| .inl t'=> .inl (enc t' (i+1))| .inr b=> .inr b))
  (hinv:∀t i,∀hi:i<L.length,∀t',I i t→step t L[i]= .inl t'→I (i+1) t')
  (hfin:∀t,I L.length t→f (enc t L.length)=some (.inr (fin t))) {M:Nat} {t:τ} (hM:L.length<M) (h0:I 0 t):qAx f M (enc t 0)=some (run step fin L t):=by
 have:=zEg enc step fin I hstep hinv hfin L.length 0 M t (by omega) hM h0
 rw[jX] at this;exact this
theorem qXe{α τ β:Type}{step:τ→α→τ⊕β}{fin:τ→β}(g:τ→α→τ)(h:∀t x,step t x= .inl (g t x)):∀(l:List α) (t:τ),run step fin l t=fin (l.foldl g t)
 |[],_=>rfl
 |x::l,t=>by simp only[run,h,kI];exact qXe g h l _
theorem qTn{α:Type}{l:List α}{i:Nat}(h:i<l.length):l.drop i=l[i]::l.drop (i+1):=(fI h).symm
end
section
open Go Go.Dc
abbrev File:=ByteArray×ByteArray
def blt(a b:ByteArray):Bool:=Op.bytesLess a.toList b.toList
theorem toList_inj{a b:ByteArray}(h:a.toList=b.toList):a=b:=by
 have h1:(a.toList==b.toList)=true:=by rw[h];exact kX _
 rw[qEg] at h1
 exact kJ h1
theorem qYq:∀a:List UInt8,Op.bytesLess a a=false
 |[]=>rfl
 |x::a=>by simp[Op.bytesLess,qYq a]
theorem zAh:∀a b c:List UInt8,Op.bytesLess a b=true→Op.bytesLess b c=true→Op.bytesLess a c=true
 |_,_,[],_,h=>by simp[Op.bytesLess] at h
 |_,[],_::_,h,_=>by simp[Op.bytesLess] at h
 |[],_::_,_::_,_,_=>rfl
 |x::a,y::b,z::c,h1,h2=>by
  simp only[Op.bytesLess,Bool.or_eq_true,jB,jS,jY] at h1 h2 ⊢
  rcases h1 with h1|⟨rfl,h1⟩<;>rcases h2 with h2|⟨rfl,h2⟩
  ·exact .inl (UInt8.lt_trans h1 h2)
  ·exact .inl h1
  ·exact .inl h2
  ·exact .inr ⟨rfl,zAh a b c h1 h2⟩
theorem zAc:∀a b:List UInt8,Op.bytesLess a b=true∨a=b∨Op.bytesLess b a=true
 |[],[]=> .inr (.inl rfl)
 |[],_::_=> .inl rfl
 |_::_,[]=> .inr (.inr rfl)
 |x::a,y::b=>by
  simp only[Op.bytesLess,Bool.or_eq_true,jB,jS,jY,kE]
  rcases zAc a b with h|h|h
  ·rcases Nat.lt_trichotomy x.toNat y.toNat with g|g|g
   ·exact .inl (.inl (UInt8.lt_iff_toNat_lt.2 g))
   ·have g:=UInt8.toNat_inj.1 g;exact .inl (.inr ⟨g,h⟩)
   ·exact .inr (.inr (.inl (UInt8.lt_iff_toNat_lt.2 g)))
  ·rcases Nat.lt_trichotomy x.toNat y.toNat with g|g|g
   ·exact .inl (.inl (UInt8.lt_iff_toNat_lt.2 g))
   ·have g:=UInt8.toNat_inj.1 g;exact .inr (.inl ⟨g,h⟩)
   ·exact .inr (.inr (.inl (UInt8.lt_iff_toNat_lt.2 g)))
  ·rcases Nat.lt_trichotomy x.toNat y.toNat with g|g|g
   ·exact .inl (.inl (UInt8.lt_iff_toNat_lt.2 g))
   ·have g:=UInt8.toNat_inj.1 g;exact .inr (.inr (.inr ⟨g.symm,h⟩))
   ·exact .inr (.inr (.inl (UInt8.lt_iff_toNat_lt.2 g)))
theorem qNt(a:ByteArray):blt a a=false:=qYq _
theorem qQt{a b c:ByteArray}(h1:blt a b=true)(h2:blt b c=true):blt a c=true:=zAh _ _ _ h1 h2
theorem qVh(a b:ByteArray):blt a b=true∨a=b∨blt b a=true:=by
 rcases zAc a.toList b.toList with h|h|h
 ·exact .inl h
 ·exact .inr (.inl (toList_inj h))
 ·exact .inr (.inr h)
theorem zDg{a b:ByteArray}(h:blt a b=true):blt b a=false:=by
 cases h2:blt b a with
 |false=>rfl
 |true=>have:=qQt h h2;rw[qNt] at this;cases this
theorem zJq{a b:ByteArray}(h:blt a b=true):a≠b:=by rintro rfl;rw[qNt] at h;cases h
def Asc(L:List File):Prop:=L.Pairwise fun f g=>blt f.1 g.1=true
def fget:List File→ByteArray→Option ByteArray
 |[],_=>none
 |f::L,p=>if f.1=p then some f.2 else fget L p
def fput:List File→ByteArray→ByteArray→List File
 |[],p,b=>[(p,b)]
 |f::L,p,b=>if blt p f.1=true then(p,b)::f::L else if f.1=p then(p,b)::L else f::fput L p b
def fdel(L:List File)(p:ByteArray):List File:=L.filter fun f=>decide (f.1≠p)
theorem qQd{L:List File}{p:ByteArray}(h:∀f∈L,blt p f.1=true):fget L p=none:=by
 induction L with
 |nil=>rfl
 |cons f L ih=>
  have h1:=h f (jU ..)
  simp only[fget]
  rw[if_neg (fun e=>by rw[e,qNt] at h1;cases h1)]
  exact ih fun g hg=>h g (k0 _ hg)
theorem zGe{L:List File}(ha:Asc L){f:File}(h:f∈L):fget L f.1=some f.2:=by
 induction L with
 |nil=>cases h
 |cons g L ih=>
  have h2:=k8.1 ha
  rcases jO.1 h with rfl|h
  ·simp[fget]
  ·simp only[fget]
   rw[if_neg (zJq (h2.1 f h)),ih h2.2 h]
theorem Asc.ext:∀{L K:List File},Asc L→Asc K→(∀p,fget L p=fget K p)→L=K
 |[],[],_,_,_=>rfl
 |[],f::K,_,_,h=>by have:=h f.1;simp[fget] at this
 |f::L,[],_,_,h=>by have:=h f.1;simp[fget] at this
 |f::L,g::K,hL,hK,h=>by
  have hL':=k8.1 hL
  have hK':=k8.1 hK
  have e:f.1=g.1:=by
   rcases qVh f.1 g.1 with hl|hl|hl
   ·have h1:=h f.1
    rw[qQd (L:=g::K) (fun x hx=>by
     rcases jO.1 hx with rfl|hx
     ·exact hl
     ·exact qQt hl (hK'.1 x hx))] at h1
    simp[fget] at h1
   ·exact hl
   ·have h1:=h g.1
    rw[qQd (L:=f::L) (fun x hx=>by
     rcases jO.1 hx with rfl|hx
     ·exact hl
     ·exact qQt hl (hL'.1 x hx))] at h1
    simp[fget] at h1
  have e2:f.2=g.2:=by have:=h f.1;rw[e] at this;simpa[fget,e] using this
  have e3:f=g:=Prod.ext e e2
  subst e3
  congr 1
  refine Asc.ext hL'.2 hK'.2 fun p=> ?_
  by_cases hp:f.1=p
  ·subst hp
   rw[qQd hL'.1,qQd hK'.1]
  ·have:=h p
   simpa[fget,hp] using this
theorem qXj{L:List File}{p b:ByteArray}{f:File}(h:f∈fput L p b):f=(p,b)∨f∈L:=by
 induction L with
 |nil=>simp[fput] at h;exact .inl h
 |cons g L ih=>
  simp only[fput] at h
  split at h
  ·rcases jO.1 h with h|h
   ·exact .inl h
   ·exact .inr h
  ·split at h
   ·rcases jO.1 h with h|h
    ·exact .inl h
    ·exact .inr (k0 _ h)
   ·rcases jO.1 h with h|h
    ·exact .inr (h▸jU ..)
    ·rcases ih h with h|h
     ·exact .inl h
     ·exact .inr (k0 _ h)
theorem Asc.put{L:List File}(h:Asc L)(p b:ByteArray):Asc (fput L p b):=by
 induction L with
 |nil=>exact List.pairwise_singleton _ _
 |cons g L ih=>
  have h':=k8.1 h
  simp only[fput]
  split
  ·rename_i h1
   refine k8.2 ⟨fun x hx=> ?_,h⟩
   rcases jO.1 hx with rfl|hx
   ·exact h1
   ·exact qQt h1 (h'.1 x hx)
  ·rename_i h1
   split
   ·rename_i h2
    exact k8.2 ⟨fun x hx=>by have:=h'.1 x hx;rw[h2] at this;exact this,h'.2⟩
   ·rename_i h2
    refine k8.2 ⟨fun x hx=> ?_,ih h'.2⟩
    rcases qXj hx with rfl|hx
    ·rcases qVh g.1 p with h3|h3|h3
     ·exact h3
     ·exact absurd h3 h2
     ·exact absurd h3 h1
    ·exact h'.1 x hx
theorem Asc.del{L:List File}(h:Asc L)(p:ByteArray):Asc (fdel L p):=List.Pairwise.filter _ h
theorem qRh(L:List File)(p b:ByteArray):(fput L p b).length≤L.length+1:=by
 induction L with
 |nil=>simp[fput]
 |cons g L ih=>
  simp only[fput]
  split
  ·simp
  ·split
   ·simp
   ·simp only[jC];omega
def zNj(f:File):Prop:=qKv f.1.data.toList=true∧f.2.size≤16384
def WF(L:List File):Prop:=L.length≤64∧Asc L∧∀f∈L,zNj f
theorem WF.put{L:List File}(h:WF L){p b:ByteArray}(hp:qKv p.data.toList=true)(hb:b.size≤16384)(hl:(fput L p b).length≤64):WF (fput L p b):=
 ⟨hl,h.2.1.put p b,fun f hf=>by
  rcases qXj hf with rfl|hf
  ·exact⟨hp,hb⟩
  ·exact h.2.2 f hf⟩
theorem WF.del{L:List File}(h:WF L)(p:ByteArray):WF (fdel L p):=
 ⟨fD (List.length_filter_le _ _) h.1,h.2.1.del p,fun f hf=>h.2.2 f ((gU.1 hf).1)⟩
def zFy(q:Option ByteArray)(p:ByteArray):Bool:=match q with
 |some x=>blt p x
 |none=>false
def qVe:Option ByteArray→List File→Int
 |_,[]=>0
 |q,f::L=>
  if qKv f.1.data.toList=false then 6
  else if q=some f.1 then 10
  else if zFy q f.1=true then 6
  else if 16384<f.2.size then 2
  else qVe (some f.1) L
def qKx(L:List File):Int:=if 64<L.length then 2 else qVe none L
theorem zEn:∀{L:List File} {q:Option ByteArray},qVe q L=0↔Asc L∧(∀f∈L,zNj f)∧∀x,q=some x→∀f∈L,blt x f.1=true
 |[],q=>by simp[qVe,Asc]
 |f::L,q=>by
  have ih:=zEn (L:=L) (q:=some f.1)
  simp only[qVe]
  by_cases h1:qKv f.1.data.toList=false
  ·rw[if_pos h1]
   refine⟨fun h=>by omega,fun h=> ?_⟩
   have:=(h.2.1 f (jU ..)).1;rw[h1] at this;cases this
  rw[if_neg h1]
  have h1:qKv f.1.data.toList=true:=by simpa using h1
  by_cases h2:q=some f.1
  ·rw[if_pos h2]
   refine⟨fun h=>by omega,fun h=> ?_⟩
   have:=h.2.2 _ h2 f (jU ..);rw[qNt] at this;cases this
  rw[if_neg h2]
  by_cases h3:zFy q f.1=true
  ·rw[if_pos h3]
   refine⟨fun h=>by omega,fun h=> ?_⟩
   cases q with
   |none=>cases h3
   |some x=>have:=h.2.2 x rfl f (jU ..);rw[show zFy (some x) f.1=blt f.1 x from rfl,zDg this] at h3;cases h3
  rw[if_neg h3]
  by_cases h4:16384<f.2.size
  ·rw[if_pos h4]
   refine⟨fun h=>by omega,fun h=> ?_⟩
   have:=(h.2.1 f (jU ..)).2;omega
  rw[if_neg h4,ih]
  have hq:∀x,q=some x→blt x f.1=true:=fun x hx=>by
   subst hx
   rcases qVh x f.1 with g|g|g
   ·exact g
   ·exact absurd (by rw[g]) h2
   ·exact absurd g h3
  constructor
  ·rintro⟨a1,a2,a3⟩
   refine⟨k8.2 ⟨a3 f.1 rfl,a1⟩,fun g hg=> ?_,fun x hx g hg=> ?_⟩
   ·rcases jO.1 hg with rfl|hg
    ·exact⟨h1,by omega⟩
    ·exact a2 g hg
   ·rcases jO.1 hg with rfl|hg
    ·exact hq x hx
    ·exact qQt (hq x hx) (a3 f.1 rfl g hg)
  ·rintro⟨a1,a2,a3⟩
   have a1:=k8.1 a1
   exact⟨a1.2,fun g hg=>a2 g (k0 _ hg),fun x hx=>by cases hx;exact a1.1⟩
theorem qPt{L:List File}:qKx L=0↔WF L:=by
 unfold qKx WF
 by_cases h:64<L.length
 ·rw[if_pos h];exact⟨fun h=>by omega,fun g=>by omega⟩
 ·rw[if_neg h,zEn]
  exact⟨fun g=>⟨by omega,g.1,g.2.1⟩,fun g=>⟨g.2.1,g.2.2,fun x hx=>by cases hx⟩⟩
def resK(c:Int):Unit⊕Int:=if c=0 then .inl () else .inr c
def qAt(L:List File)(i:Nat):Option ByteArray:=if i=0 then none else(L[i-1]?).map (·.1)
theorem zAb{L:List File}{f:Int→Option (Int⊕(Unit⊕Int))}
  (step:∀i:Nat,∀h:i<L.length,f (i:Int)=if qKv L[i].1.data.toList=false then some (.inr (.inr 6)) else if qAt L i=some L[i].1 then some (.inr (.inr 10)) else if zFy (qAt L i) L[i].1=true then some (.inr (.inr 6)) else if 16384<L[i].2.size then some (.inr (.inr 2)) else some (.inl ((i:Int)+1)))
  (stop:f (L.length:Int)=some (.inr (.inl ()))):∀(d i M:Nat),i+d=L.length→d<M→qAx f M (i:Int)=some (resK (qVe (qAt L i) (L.drop i)))
 |_,_,0,_,h=>by omega
 |0,i,M+1,hd,_=>by
  have:i=L.length:=by omega
  subst this
  simp[qAx,stop,qVe,resK]
 |d+1,i,M+1,hd,hM=>by
  have hi:i<L.length:=by omega
  have ih:=zAb step stop d (i+1) M (by omega) (by omega)
  have e1:(i:Int)+1=((i+1:Nat):Int):=by omega
  have e2:qAt L (i+1)=some L[i].1:=by simp[qAt,hi]
  simp only[qAx,step i hi]
  rw[jI hi]
  simp only[qVe]
  by_cases h1:qKv L[i].1.data.toList=false
  ·rw[if_pos h1,if_pos h1];rfl
  rw[if_neg h1,if_neg h1]
  by_cases h2:qAt L i=some L[i].1
  ·rw[if_pos h2,if_pos h2];rfl
  rw[if_neg h2,if_neg h2]
  by_cases h3:zFy (qAt L i) L[i].1=true
  ·rw[if_pos h3,if_pos h3];rfl
  rw[if_neg h3,if_neg h3]
  by_cases h4:16384<L[i].2.size
  ·rw[if_pos h4,if_pos h4];rfl
  rw[if_neg h4,if_neg h4,e1]
  simp only[j0]
  rw[ih,e2]
theorem eqB(x y:ByteArray):(x.toList==y.toList)=decide (x=y):=qEg x y
theorem zHq{N:Nat}{L:List File}{P:ByteArray→Option Bool}{f:Int→Option (Int⊕(Unit⊕Int))}(hP:∀g∈L,P g.1=some (qKv g.1.data.toList))
  (hf:∀s1,f s1=if(decide (s1<(List.length L:Int)))=true then((idx L s1).bind fun x1=>(P x1.1).bind fun y1=>if(!y1)=true then(some (.inr (.inr (6)))) else((if(decide (s1>0))=true then((idx L (IntKind.wrap .i64 (s1-1))).bind fun x2=>some (x1.1.toList==x2.1.toList)) else(some false):Option (Bool)).bind fun o2=>if o2=true then(some (.inr (.inr (10)))) else((if(decide (s1>0))=true then((idx L (IntKind.wrap .i64 (s1-1))).bind fun x3=>some (Op.bytesLess x1.1.toList x3.1.toList)) else(some false):Option (Bool)).bind fun o3=>if o3=true then(some (.inr (.inr (6)))) else(if(decide ((ByteArray.size x1.2:Int)>16384))=true then(some (.inr (.inr (2)))) else(some (.inl (IntKind.wrap .i64 (s1+1)))))))) else(some (.inr (.inl ()))))
  (hN:100<N):(if(decide ((List.length L:Int)>64))=true then(some 2) else((qAx f N 0).bind fun out1=>(match out1 with| .inl _=>some 0| .inr z=>some z)):Option Int)=some (qKx L):=by
 unfold qKx
 by_cases h:64<L.length
 ·rw[if_pos h,if_pos (by simp only[jB];omega)]
 ·rw[if_neg h,if_neg (by simp only[jB];omega)]
  have key:=zAb (L:=L) (f:=f) (fun i hi=>by
   rw[hf,if_pos (by simp only[jB];omega),qEc hi]
   simp only[j0,hP _ (kA hi)]
   by_cases h1:qKv L[i].1.data.toList=false
   ·rw[if_pos (by rw[h1];rfl),if_pos h1]
   have h1':qKv L[i].1.data.toList=true:=by simpa using h1
   rw[if_neg (by rw[h1'];simp),if_neg h1]
   by_cases h0:0<i
   ·have hi1:i-1<L.length:=by omega
    have ew:IntKind.wrap .i64 ((i:Int)-1)=((i-1:Nat):Int):=by rw[wi64 (by omega) (by omega)];omega
    have eq:qAt L i=some (L[i-1]).1:=by simp[qAt,hi1];omega
    rw[ew,qEc hi1,eq]
    have ed:decide ((i:Int)>0)=true:=by simp only[jB];omega
    simp only[j0,eqB,ed,jH,jB,jK]
    by_cases h2:L[i].1=(L[i-1]).1
    ·rw[if_pos h2,if_pos h2.symm]
    rw[if_neg h2,if_neg (show ¬(L[i-1]).1=L[i].1 from fun e=>h2 e.symm)]
    have el:zFy (some (L[i-1]).1) L[i].1=Op.bytesLess L[i].1.toList (L[i-1]).1.toList:=rfl
    rw[el]
    by_cases h3:Op.bytesLess L[i].1.toList (L[i-1]).1.toList=true
    ·rw[if_pos h3,if_pos h3]
    rw[if_neg h3,if_neg h3]
    by_cases h4:16384<L[i].2.size
    ·rw[if_pos (by omega),if_pos h4]
    ·rw[if_neg (by omega),if_neg h4,wi64 (by omega) (by omega)]
   ·have h0:i=0:=by omega
    subst h0
    have ed:decide (((0:Nat):Int)>0)=false:=by decide
    have eq:qAt L 0=none:=rfl
    have el:zFy none (L[0]).1=false:=rfl
    simp only[ed,jA,jE,j0,eq,jB,reduceCtorEq,el]
    by_cases h4:16384<L[0].2.size
    ·rw[if_pos (by omega),if_pos h4]
    ·rw[if_neg (by omega),if_neg h4,wi64 (by omega) (by omega)]) (by rw[hf,if_neg (by simp)]) L.length 0 N (by omega) (by omega)
  rw[show((0:Nat):Int)=0 from rfl] at key
  rw[key,jX]
  have eq:qAt L 0=none:=rfl
  rw[eq]
  simp only[j0,resK]
  by_cases hc:qVe none L=0
  ·rw[if_pos hc,hc]
  ·rw[if_neg hc]
theorem zMz{N:Nat}{L:List File}(hP:∀g∈L,qJj N g.1=some (qKv g.1.data.toList))(hN:100<N):qOe N L=some (qKx L):=
 zHq (f:=qLy N L) (P:=qJj N) hP (fun _=>rfl) hN
theorem qRs{N:Nat}{L:List File}(hN:100<N):qGp N L=some (qKx L):=
 zHq (f:=qJu N L) (P:=qEx N) (fun _ _=>qTm hN) (fun _=>rfl) hN
end
section
open Go Go.Dc Go.Proofs
def qJl:ByteArray:=⟨#[]⟩
def zGl(o:Option ByteArray):ByteArray×Bool:=match o with
 |some b=>(b,true)
 |none=>(qJl,false)
def zMc(L:List File)(p:ByteArray):ByteArray×Bool:=if qKx L=0 then zGl (fget L p) else(qJl,false)
abbrev qPp(N:Nat)(L:List File):Prop:=∀g∈L,qJj N g.1=some (qKv g.1.data.toList)
theorem qWt{N:Nat}{L:List File}{p:ByteArray}(hl:L.length<1000000):∀(d i M:Nat),i+d=L.length→d<M→qAx (qGs N L p) M (i:Int)=some (match fget (L.drop i) p with|some b=> .inr (b,true)|none=> .inl ())
 |_,_,0,_,h=>by omega
 |0,i,M+1,hd,_=>by
  simp only[qAx,qGs]
  rw[if_neg (by simp only[jB];omega),jN (by omega)]
  rfl
 |d+1,i,M+1,hd,hM=>by
  have hi:i<L.length:=by omega
  simp only[qAx,qGs]
  rw[if_pos (by simp only[jB];omega),qEc hi,jI hi]
  simp only[j0,eqB,jB,fget]
  by_cases he:(L[i]).1=p
  ·rw[if_pos he,if_pos he];rfl
  ·rw[if_neg he,if_neg he,wi64 (by omega) (by omega)]
   have e1:(i:Int)+1=((i+1:Nat):Int):=by omega
   simp only[j0]
   rw[e1,qWt hl d (i+1) M (by omega) (by omega)]
theorem zAx{N:Nat}{L:List File}(p:ByteArray)(hN:100<N):qIr N L p=some (zMc L p):=by
 simp only[qIr,qRs hN,j0]
 unfold zMc
 by_cases hc:qKx L=0
 ·rw[if_neg (by simp[hc]),if_pos hc]
  have hw:=(qPt.1 hc).1
  have:=qWt (N:=N) (L:=L) (p:=p) (by omega) L.length 0 N (by omega) (by omega)
  rw[show((0:Nat):Int)=0 from rfl,jX] at this
  rw[this]
  cases fget L p<;>rfl
 ·rw[if_pos (by simpa using hc),if_neg hc];rfl
def qJd(s:ByteArray):Bool:=qKv s.data.toList&&decide (4<s.size)&&decide (s.extract (s.size-4) s.size=(⟨#[46,115,114,99]⟩:ByteArray))
theorem zFs{N:Nat}{s:ByteArray}(hp:qJj N s=some (qKv s.data.toList)):qKs N s=some (qJd s):=by
 simp only[qKs,hp,j0]
 unfold qJd
 cases hb:qKv s.data.toList with
 |false=>simp
 |true=>
  have h80:s.size≤80:=by
   have:s.data.toList.length≤80:=(kJ hb).1
   have e:=qCl s
   omega
  rw[if_pos rfl]
  by_cases h4:4<s.size
  ·rw[if_pos (by simp only[jB];omega)]
   have e4:ByteArray.size (⟨#[46,115,114,99]⟩:ByteArray)=4:=rfl
   simp only[qMd,qGb,e4]
   rw[if_pos (by simp only[jB];omega),show IntKind.wrap .i64 ((s.size:Int)-((4:Nat):Int))=((s.size-4:Nat):Int) by rw[wi64 (by omega) (by omega)];omega,qSv (by omega) (by omega) (by omega)]
   simp only[j0,k9,eqB,jM h4,fM]
  ·rw[if_neg (by simp only[jB];omega),jQ h4];rfl
theorem qZi{N:Nat}{s:ByteArray}(hN:100<N):qHu N s=some (qJd s):=by
 simp only[qHu,qTm hN,j0]
 unfold qJd
 cases hb:qKv s.data.toList with
 |false=>simp
 |true=>
  have h80:s.size≤80:=by
   have:s.data.toList.length≤80:=(kJ hb).1
   have e:=qCl s
   omega
  rw[if_pos rfl]
  by_cases h4:4<s.size
  ·rw[if_pos (by simp only[jB];omega),show IntKind.wrap .i64 ((s.size:Int)-4)=((s.size-4:Nat):Int) by rw[wi64 (by omega) (by omega)];omega,qSv (by omega) (by omega) (by omega)]
   simp only[j0,k9,eqB,jM h4,fM]
  ·rw[if_neg (by simp only[jB];omega),jQ h4];rfl
section
variable {κ ν:Type} [DecidableEq κ]
theorem zAl:∀(l:List (κ×ν)) (k:κ) (v:ν) (c:κ),mget (qRp l k v) c=if c=k then some v else mget l c
 |[],k,v,c=>by simp[qRp,mget]
 |p::l,k,v,c=>by
  simp only[qRp]
  by_cases h:k=p.1
  ·rw[if_pos h]
   simp only[mget]
   by_cases h2:c=k
   ·rw[if_pos h2,if_pos h2]
   ·rw[if_neg h2,if_neg h2,if_neg (by rw[←h];exact h2)]
  ·rw[if_neg h]
   simp only[mget]
   rw[zAl l k v c]
   by_cases h2:c=p.1
   ·rw[if_pos h2,if_neg (fun e=>h (by rw[←e,h2])),if_pos h2]
   ·rw[if_neg h2,if_neg h2]
theorem zIi[KOrd κ]{l:List (κ×ν)}(hn:(l.map (·.1)).Nodup)(k:κ)(v:ν)(c:κ):mget (mset l k v) c=if c=k then some v else mget l c:=by
 rw[←qYo (qQw (.refl l) hn k v) (qNs hn k v) c,zAl]
theorem zFw[KOrd κ]{l:List (κ×ν)}(hn:(l.map (·.1)).Nodup)(k:κ)(v:ν):((mset l k v).map (·.1)).Nodup:=
 ((qQw (.refl l) hn k v).map _).nodup_iff.1 (qNs hn k v)
end
end
section
open Go Go.Dc
instance decMemB(s:ByteArray)(l:List ByteArray):Decidable (s∈l):=@List.instDecidableMemOfLawfulBEq ByteArray instBEqOfDecidableEq inferInstance s l
abbrev Ex:=Int×Int×Int×ByteArray×List Int
abbrev Dl:=Int×ByteArray×List ByteArray×List Ex
abbrev Sr:=ByteArray×List ByteArray×List Dl
abbrev Flt:=Int×Int
abbrev Ps:=Nat×List Ex
abbrev PM(α:Type):=Flt⊕(Ps×α)
def tkAt(ts:List Tok)(i:Nat):Tok:=ts.getD i (5,⟨#[]⟩,0,0)
def qGy{α:Type}(t:Tok)(e:Int):Flt⊕α:= .inl (t.2.2.2,e)
def qCf{α β:Type}(x:Flt⊕α)(f:α→Flt⊕β):Flt⊕β:=
 match x with
 | .inl z=> .inl z
 | .inr a=>f a
def isC(ts:List Tok)(k:Int)(s:ByteArray)(i:Nat):Bool:=(tkAt ts i).1==k&&decide ((tkAt ts i).2.1=s)
def qFe(ts:List Tok)(s:ByteArray)(i:Nat):Flt⊕Nat:=if isC ts 4 s i then .inr (i+1) else qGy (tkAt ts i) 9
def qVy(ts:List Tok)(s:ByteArray)(i:Nat):Flt⊕Nat:=if isC ts 1 s i then .inr (i+1) else qGy (tkAt ts i) 9
def qNv(ts:List Tok)(k:Int)(i:Nat):Flt⊕(Nat×Tok):=if(tkAt ts i).1=k then .inr (i+1,tkAt ts i) else qGy (tkAt ts i) 9
def qUr:ByteArray:=⟨#[112,97,99,107,97,103,101]⟩
def qUd:ByteArray:=⟨#[105,109,112,111,114,116]⟩
def zKc:ByteArray:=⟨#[102,117,110,99]⟩
def zKl:ByteArray:=⟨#[116,101,115,116]⟩
def sGen:ByteArray:=⟨#[103,101,110]⟩
def sIf:ByteArray:=⟨#[105,102]⟩
def zJi:ByteArray:=⟨#[116,104,101,110]⟩
def zKh:ByteArray:=⟨#[101,108,115,101]⟩
def qTe:ByteArray:=⟨#[114,101,97,100]⟩
def qTd:ByteArray:=⟨#[115,105,122,101]⟩
def sHas:ByteArray:=⟨#[104,97,115]⟩
def sEnv:ByteArray:=⟨#[101,110,118]⟩
def qUj:ByteArray:=⟨#[102,108,105,112]⟩
def qQy:ByteArray:=⟨#[40]⟩
def qJb:ByteArray:=⟨#[41]⟩
def qOy:ByteArray:=⟨#[44]⟩
def qVi:ByteArray:=⟨#[59]⟩
def sEq:ByteArray:=⟨#[61]⟩
def zKd:ByteArray:=⟨#[45]⟩
def wordsR:List ByteArray:=[qUr,qUd,zKc,zKl,sGen,sIf,zJi,zKh,qTe,qTd,sHas,sEnv,qUj]
def resC(s:ByteArray):Bool:=decide (s∈wordsR)
def qNu(ts:List Tok)(i:Nat):Flt⊕(Nat×Tok):=qCf (qNv ts 1 i) fun p=>if resC p.2.2.1 then qGy p.2 9 else .inr p
def qPw(ts:List Tok)(i:Nat):Flt⊕(Nat×Tok):=qCf (qNv ts 3 i) fun p=>if qKv p.2.2.1.data.toList then .inr p else qGy p.2 9
def qWe(ts:List Tok)(i:Nat):Flt⊕(Nat×Tok):=qCf (qNv ts 3 i) fun p=>if qXb p.2.2.1 then .inr p else qGy p.2 9
def qMg(t:Tok)(x:Ex)(p:Ps):PM Nat:=if p.2.length=256 then qGy t 2 else .inr ((p.1,p.2++[x]),p.2.length)
def opsC:List (Int×ByteArray):=[(1,⟨#[43]⟩),(2,⟨#[45]⟩),(3,⟨#[42]⟩),(4,⟨#[47]⟩),(5,⟨#[37]⟩),(6,⟨#[60]⟩),(7,⟨#[61,61]⟩)]
def levP(op:Int):Nat:=if op=6∨op=7 then 1 else if op=1∨op=2 then 2 else 3
def isOp(ts:List Tok)(level:Nat)(i:Nat)(o:Int×ByteArray):Bool:=isC ts 4 o.2 i&&decide (levP o.1=level)
def opC(ts:List Tok)(level:Nat)(i:Nat):Int:=
 match opsC.find? (isOp ts level i) with
 |some o=>o.1
 |none=>0
section
variable (ts:List Tok) (params:List ByteArray) (E:Ps→PM Nat)
def zBj:Nat→List Int→Ps→PM (List Int)
 |0,_,p=>qGy (tkAt ts p.1) 9
 |n+1,l,p=>qCf (E p) fun q=>
  if isC ts 4 qOy q.1.1 then zBj n (l++[(q.2:Int)]) (q.1.1+1,q.1.2)
  else qCf (qFe ts qJb q.1.1) fun i=> .inr ((i,q.1.2),l++[(q.2:Int)])
def qMx(p:Ps):PM (List Int):=
 qCf (qFe ts qQy p.1) fun i=>if isC ts 4 qJb i then .inr ((i+1,p.2),[]) else zBj ts E (ts.length+1) [] (i,p.2)
def qMm(t:Tok)(p:Ps):PM Nat:=
 qCf (qFe ts qQy p.1) fun i=>
 qCf (if t.2.1=qTe then
   qCf (qPw ts i) fun a=>qCf (qFe ts qOy a.1) fun i=>qCf (E (i,p.2)) fun q=> .inr (q.1,((6,0,0,a.2.2.1,[(q.2:Int)]):Ex))
  else if t.2.1=qTd then qCf (qPw ts i) fun a=> .inr ((a.1,p.2),((7,0,0,a.2.2.1,[]):Ex))
  else if t.2.1=sHas then qCf (qPw ts i) fun a=> .inr ((a.1,p.2),((8,0,0,a.2.2.1,[]):Ex))
  else if t.2.1=sEnv then qCf (qWe ts i) fun a=> .inr ((a.1,p.2),((9,0,0,a.2.2.1,[]):Ex))
  else qCf (qNv ts 2 i) fun a=>if a.2.2.2.1≥64 then qGy a.2 9 else .inr ((a.1,p.2),((10,a.2.2.2.1,0,⟨#[]⟩,[]):Ex))) fun q=>
 qCf (qFe ts qJb q.1.1) fun i=>qMg t q.2 (i,q.1.2)
def qQl(p:Ps):PM Nat:=
 let t:=tkAt ts p.1
 if t.1=2 then qMg t (1,t.2.2.1,0,⟨#[]⟩,[]) (p.1+1,p.2)
 else if isC ts 4 zKd p.1 then qCf (qNv ts 2 (p.1+1)) fun a=>qMg t (1,IntKind.wrap .i64 (0-a.2.2.2.1),0,⟨#[]⟩,[]) (a.1,p.2)
 else if isC ts 4 qQy p.1 then qCf (E (p.1+1,p.2)) fun q=>qCf (qFe ts qJb q.1.1) fun i=> .inr ((i,q.1.2),q.2)
 else if t.1≠1 then qGy t 9
 else if t.2.1∈[qTe,qTd,sHas,sEnv,qUj] then qMm ts E t (p.1+1,p.2)
 else if resC t.2.1 then qGy t 9
 else if isC ts 4 qQy (p.1+1) then qCf (qMx ts E (p.1+1,p.2)) fun q=>qMg t (3,0,0,t.2.1,q.2) q.1
 else match params.findIdx? (fun x=>decide (x=t.2.1)) with
  |some i=>qMg t (2,(i:Int),0,⟨#[]⟩,[]) (p.1+1,p.2)
  |none=>qGy t 9
def qTr(level:Nat)(S:Ps→PM Nat):Nat→Nat→Ps→PM Nat
 |0,_,p=>qGy (tkAt ts p.1) 9
 |n+1,x,p=>
  if opC ts level p.1=0 then .inr (p,x)
  else qCf (S (p.1+1,p.2)) fun q=>qCf (qMg (tkAt ts p.1) (4,0,opC ts level p.1,⟨#[]⟩,[(x:Int),(q.2:Int)]) q.1) fun r=>
   if level=1 then .inr r else qTr level S n r.2 r.1
def qSo(level:Nat)(S:Ps→PM Nat)(p:Ps):PM Nat:=qCf (S p) fun q=>qTr ts level S (ts.length+1) q.2 q.1
def zKq:Ps→PM Nat:=qSo ts 3 (qQl ts params E)
def sumC:Ps→PM Nat:=qSo ts 2 (zKq ts params E)
def qUz:Ps→PM Nat:=qSo ts 1 (sumC ts params E)
end
def qHp(ts:List Tok)(params:List ByteArray):Nat→Ps→PM Nat
 |0,p=>qGy (tkAt ts p.1) 2
 |k+1,p=>
  if isC ts 1 sIf p.1 then
   qCf (qHp ts params k (p.1+1,p.2)) fun a=>qCf (qVy ts zJi a.1.1) fun i=>
   qCf (qHp ts params k (i,a.1.2)) fun b=>qCf (qVy ts zKh b.1.1) fun j=>
   qCf (qHp ts params k (j,b.1.2)) fun c=>qMg (tkAt ts p.1) (5,0,0,⟨#[]⟩,[(a.2:Int),(b.2:Int),(c.2:Int)]) c.1
  else qUz ts params (qHp ts params k) p
def qQs(ts:List Tok):Nat→List ByteArray→Nat→Flt⊕(Nat×List ByteArray)
 |0,_,i=>qGy (tkAt ts i) 9
 |n+1,l,i=>qCf (qNu ts i) fun a=>
  if l.length=8 then qGy a.2 2
  else if a.2.2.1∈l then qGy a.2 10
  else if isC ts 4 qOy a.1 then qQs ts n (l++[a.2.2.1]) (a.1+1)
  else qCf (qFe ts qJb a.1) fun j=> .inr (j,l++[a.2.2.1])
def qIw(ts:List Tok)(i:Nat):Flt⊕(Nat×List ByteArray):=
 qCf (qFe ts qQy i) fun j=>if isC ts 4 qJb j then .inr (j+1,[]) else qQs ts (ts.length+1) [] j
def qOb(s:ByteArray):Int:=if s=zKc then 1 else if s=zKl then 2 else if s=sGen then 3 else 0
def qSa(ts:List Tok)(before:List Dl)(i:Nat):Flt⊕(Nat×Dl):=
 let t:=tkAt ts i
 let k:=qOb t.2.1
 if t.1≠1∨k=0 then qGy t 9
 else if before.length=64 then qGy t 2
 else qCf (if k=3 then qPw ts (i+1) else qNu ts (i+1)) fun a=>
  if before.any (fun d=>d.1==k&&decide (d.2.1=a.2.2.1)) then qGy a.2 10
  else qCf (if k=1 then qIw ts a.1 else .inr (a.1,[])) fun b=>
   qCf (qFe ts sEq b.1) fun j=>qCf (qHp ts b.2 32 (j,[])) fun c=>
   qCf (qFe ts qVi c.1.1) fun m=> .inr (m,(k,a.2.2.1,b.2,c.1.2))
def qLq(ts:List Tok)(pkg:ByteArray):Nat→List ByteArray→Nat→Flt⊕(Nat×List ByteArray)
 |0,_,i=>qGy (tkAt ts i) 9
 |n+1,l,i=>
  if isC ts 1 qUd i then
   if l.length=8 then qGy (tkAt ts i) 2
   else qCf (qNu ts (i+1)) fun a=>
    if a.2.2.1=pkg∨a.2.2.1∈l then qGy a.2 10
    else qCf (qFe ts qVi a.1) fun j=>qLq ts pkg n (l++[a.2.2.1]) j
  else .inr (i,l)
def qUb(ts:List Tok):Nat→List Dl→Nat→Flt⊕List Dl
 |0,_,i=>qGy (tkAt ts i) 9
 |n+1,l,i=>if(tkAt ts i).1=5 then .inr l else qCf (qSa ts l i) fun a=>qUb ts n (l++[a.2]) a.1
def zBr(ts:List Tok):Flt⊕Sr:=
 qCf (qVy ts qUr 0) fun i=>qCf (qNu ts i) fun a=>qCf (qFe ts qVi a.1) fun j=>
 qCf (qLq ts a.2.2.1 (ts.length+1) [] j) fun b=>qCf (qUb ts (ts.length+1) [] b.1) fun l=> .inr (a.2.2.1,b.2,l)
def qWy:Sr:=(⟨#[]⟩,[],[])
def qKw(s:ByteArray):Sr×Int×Int:=
 if(qHy s).2.2≠0 then(qWy,(qHy s).2.1,(qHy s).2.2)
 else match zBr (qHy s).1 with
  | .inl z=>(qWy,z.1,z.2)
  | .inr f=>(f,0,0)
end
section
open Go Go.Dc
def OkT(ts:List Tok):Prop:=ts≠[]∧∀i,i<ts.length→((tkAt ts i).1=5↔i+1=ts.length)
theorem qDc{α β:Type}{x:Flt⊕α}{f:α→Flt⊕β}{b:β}(h:qCf x f= .inr b):∃a,x= .inr a∧f a= .inr b:=by
 cases x with
 |inl z=>cases h
 |inr a=>exact⟨a,rfl,h⟩
section
variable {ts:List Tok} {params:List ByteArray} {E S:Ps→PM Nat}
theorem OkT.next(h:OkT ts){i:Nat}(hi:i<ts.length)(hk:(tkAt ts i).1≠5):i+1<ts.length:=by
 have h3:¬i+1=ts.length:=fun e=>hk ((h.2 i hi).2 e)
 omega
theorem qXk{k:Int}{s:ByteArray}{i:Nat}(h:isC ts k s i=true):(tkAt ts i).1=k:=by
 simp only[isC,jS,jY] at h;exact h.1
theorem qFf(h:OkT ts){k:Int}{s:ByteArray}{i:Nat}(hi:i<ts.length)(hk:k≠5)(h1:isC ts k s i=true):i+1<ts.length:=h.next hi (by rw[qXk h1];exact hk)
theorem qFg(h:OkT ts){s:ByteArray}{i j:Nat}(hi:i<ts.length)(h1:qFe ts s i= .inr j):j=i+1∧j<ts.length∧isC ts 4 s i=true:=by
 unfold qFe at h1
 split at h1
 ·rename_i h2
  obtain rfl:=Sum.inr.inj h1
  exact⟨rfl,qFf h hi (by decide) h2,h2⟩
 ·cases h1
theorem qTk(h:OkT ts){s:ByteArray}{i j:Nat}(hi:i<ts.length)(h1:qVy ts s i= .inr j):j=i+1∧j<ts.length∧isC ts 1 s i=true:=by
 unfold qVy at h1
 split at h1
 ·rename_i h2
  obtain rfl:=Sum.inr.inj h1
  exact⟨rfl,qFf h hi (by decide) h2,h2⟩
 ·cases h1
theorem qPf(h:OkT ts){k:Int}(hk:k≠5){i:Nat}{a:Nat×Tok}(hi:i<ts.length)(h1:qNv ts k i= .inr a):a=(i+1,tkAt ts i)∧i+1<ts.length∧(tkAt ts i).1=k:=by
 unfold qNv at h1
 split at h1
 ·rename_i h2
  obtain rfl:=Sum.inr.inj h1
  exact⟨rfl,h.next hi (by rw[h2];exact hk),h2⟩
 ·cases h1
theorem qMl(h:OkT ts){i:Nat}{a:Nat×Tok}(hi:i<ts.length)(h1:qNu ts i= .inr a):a=(i+1,tkAt ts i)∧i+1<ts.length∧(tkAt ts i).1=1∧resC (tkAt ts i).2.1=false:=by
 obtain⟨b,hb,h2⟩:=qDc h1
 obtain⟨rfl,g1,g2⟩:=qPf h (by decide) hi hb
 split at h2
 ·cases h2
 ·rename_i g3
  obtain rfl:=Sum.inr.inj h2
  exact⟨rfl,g1,g2,by simpa using g3⟩
theorem qNa(h:OkT ts){i:Nat}{a:Nat×Tok}(hi:i<ts.length)(h1:qPw ts i= .inr a):a=(i+1,tkAt ts i)∧i+1<ts.length∧(tkAt ts i).1=3∧qKv (tkAt ts i).2.1.data.toList=true:=by
 obtain⟨b,hb,h2⟩:=qDc h1
 obtain⟨rfl,g1,g2⟩:=qPf h (by decide) hi hb
 split at h2
 ·rename_i g3
  obtain rfl:=Sum.inr.inj h2
  exact⟨rfl,g1,g2,g3⟩
 ·cases h2
theorem zDq(h:OkT ts){i:Nat}{a:Nat×Tok}(hi:i<ts.length)(h1:qWe ts i= .inr a):a=(i+1,tkAt ts i)∧i+1<ts.length∧(tkAt ts i).1=3∧qXb (tkAt ts i).2.1=true:=by
 obtain⟨b,hb,h2⟩:=qDc h1
 obtain⟨rfl,g1,g2⟩:=qPf h (by decide) hi hb
 split at h2
 ·rename_i g3
  obtain rfl:=Sum.inr.inj h2
  exact⟨rfl,g1,g2,g3⟩
 ·cases h2
theorem zMa{t:Tok}{x:Ex}{p q:Ps}{i:Nat}(h:qMg t x p= .inr (q,i)):q=(p.1,p.2++[x])∧i=p.2.length∧p.2.length≠256:=by
 unfold qMg at h
 split at h
 ·cases h
 ·rename_i h1
  obtain⟨rfl,rfl⟩:=Prod.mk.inj (Sum.inr.inj h)
  exact⟨rfl,rfl,h1⟩
def Fwd(ts:List Tok)(p q:Ps):Prop:=p.1<q.1∧q.1<ts.length∧p.2.length≤q.2.length∧q.2.length≤256
def Adv(ts:List Tok)(S:Ps→PM Nat):Prop:=∀(p q:Ps) (x:Nat),p.1<ts.length→p.2.length≤256→S p= .inr (q,x)→Fwd ts p q∧x<q.2.length
theorem qPc{t:Tok}{x:Ex}{p r q:Ps}{i:Nat}(hp:p.1<r.1)(hr:r.1<ts.length)(hl:p.2.length≤r.2.length)(h256:r.2.length≤256)(h:qMg t x r= .inr (q,i)):Fwd ts p q∧i<q.2.length:=by
 obtain⟨rfl,rfl,g⟩:=zMa h
 refine⟨⟨hp,hr,?_,?_⟩,?_⟩<;>simp only[jL,jC,jD]<;>omega
theorem qXm(h:OkT ts)(hE:Adv ts E):∀(n:Nat) (l:List Int) (p q:Ps) (x:List Int),p.1<ts.length→p.2.length≤256→zBj ts E n l p= .inr (q,x)→Fwd ts p q
 |0,_,_,_,_,_,_,h1=>by cases h1
 |n+1,l,p,q,x,hp,hb,h1=>by
  obtain⟨a,ha,h2⟩:=qDc (show qCf (E p) _=_ from h1)
  obtain⟨⟨f1,f2,f3,f4⟩,f5⟩:=hE p a.1 a.2 hp hb ha
  split at h2
  ·rename_i hc
   have g:=qFf h f2 (by decide) hc
   obtain⟨k1,k2,k3,k4⟩:=qXm h hE n _ (a.1.1+1,a.1.2) q x g f4 h2
   exact⟨by simp only at k1;omega,k2,by simp only at k3;omega,k4⟩
  ·obtain⟨j,hj,h3⟩:=qDc h2
   obtain⟨rfl,g1,-⟩:=qFg h f2 hj
   obtain⟨rfl,-⟩:=Prod.mk.inj (Sum.inr.inj h3)
   exact⟨by simp only;omega,g1,f3,f4⟩
theorem qTy(h:OkT ts)(hE:Adv ts E){p q:Ps}{x:List Int}(hp:p.1<ts.length)(hb:p.2.length≤256)(h1:qMx ts E p= .inr (q,x)):Fwd ts p q:=by
 obtain⟨i,hi,h2⟩:=qDc h1
 obtain⟨rfl,g1,-⟩:=qFg h hp hi
 split at h2
 ·rename_i hc
  obtain⟨rfl,-⟩:=Prod.mk.inj (Sum.inr.inj h2)
  exact⟨by simp only;omega,qFf h g1 (by decide) hc,jV _,hb⟩
 ·obtain⟨k1,k2,k3,k4⟩:=qXm h hE _ _ (p.1+1,p.2) q x g1 hb h2
  exact⟨by simp only at k1;omega,k2,k3,k4⟩
theorem zDa(h:OkT ts)(hE:Adv ts E){t:Tok}{p q:Ps}{x:Nat}(hp:p.1<ts.length)(hb:p.2.length≤256)(h1:qMm ts E t p= .inr (q,x)):Fwd ts p q∧x<q.2.length:=by
 obtain⟨i,hi,h2⟩:=qDc h1
 obtain⟨rfl,g1,-⟩:=qFg h hp hi
 obtain⟨a,ha,h3⟩:=qDc h2
 obtain⟨j,hj,h4⟩:=qDc h3
 have key:Fwd ts (p.1+1,p.2) a.1:=by
  split at ha
  ·obtain⟨b,hb1,hb2⟩:=qDc ha
   obtain⟨rfl,k1,-⟩:=qNa h g1 hb1
   obtain⟨c,hc1,hc2⟩:=qDc hb2
   obtain⟨rfl,k2,-⟩:=qFg h k1 hc1
   obtain⟨d,hd1,hd2⟩:=qDc hc2
   obtain⟨⟨f1,f2,f3,f4⟩,-⟩:=hE (p.1+1+1+1,p.2) d.1 d.2 k2 hb hd1
   obtain rfl:=Sum.inr.inj hd2
   exact⟨by simp only at f1 ⊢;omega,f2,f3,f4⟩
  ·split at ha
   ·obtain⟨b,hb1,hb2⟩:=qDc ha
    obtain⟨rfl,k1,-⟩:=qNa h g1 hb1
    obtain rfl:=Sum.inr.inj hb2
    exact⟨by simp only;omega,k1,jV _,hb⟩
   ·split at ha
    ·obtain⟨b,hb1,hb2⟩:=qDc ha
     obtain⟨rfl,k1,-⟩:=qNa h g1 hb1
     obtain rfl:=Sum.inr.inj hb2
     exact⟨by simp only;omega,k1,jV _,hb⟩
    ·split at ha
     ·obtain⟨b,hb1,hb2⟩:=qDc ha
      obtain⟨rfl,k1,-⟩:=zDq h g1 hb1
      obtain rfl:=Sum.inr.inj hb2
      exact⟨by simp only;omega,k1,jV _,hb⟩
     ·obtain⟨b,hb1,hb2⟩:=qDc ha
      obtain⟨rfl,k1,-⟩:=qPf h (by decide) g1 hb1
      split at hb2
      ·cases hb2
      ·obtain rfl:=Sum.inr.inj hb2
       exact⟨by simp only;omega,k1,jV _,hb⟩
 obtain⟨f1,f2,f3,f4⟩:=key
 obtain⟨rfl,g2,-⟩:=qFg h f2 hj
 exact qPc (r:=(a.1.1+1,a.1.2)) (by simp only at f1 ⊢;omega) g2 f3 f4 h4
theorem qUe(h:OkT ts)(hE:Adv ts E):Adv ts (qQl ts params E):=by
 intro p q x hp hb h1
 unfold qQl at h1
 dsimp only at h1
 split at h1
 ·rename_i hk
  exact qPc (r:=(p.1+1,p.2)) (by simp only;omega) (h.next hp (by rw[hk];decide)) (jV _) hb h1
 split at h1
 ·rename_i hc
  have g:=qFf h hp (by decide) hc
  obtain⟨a,ha,h2⟩:=qDc h1
  obtain⟨rfl,g1,-⟩:=qPf h (by decide) g ha
  exact qPc (r:=(p.1+1+1,p.2)) (by simp only;omega) g1 (jV _) hb h2
 split at h1
 ·rename_i hc
  have g:=qFf h hp (by decide) hc
  obtain⟨a,ha,h2⟩:=qDc h1
  obtain⟨⟨f1,f2,f3,f4⟩,f5⟩:=hE (p.1+1,p.2) a.1 a.2 g hb ha
  obtain⟨j,hj,h3⟩:=qDc h2
  obtain⟨rfl,g1,-⟩:=qFg h f2 hj
  obtain⟨rfl,rfl⟩:=Prod.mk.inj (Sum.inr.inj h3)
  exact⟨⟨by simp only at f1 ⊢;omega,g1,f3,f4⟩,f5⟩
 split at h1
 ·cases h1
 rename_i hk
 have g:=h.next hp (show(tkAt ts p.1).1≠5 by simp only[ne_eq,Decidable.not_not] at hk;rw[hk];decide)
 split at h1
 ·obtain⟨⟨f1,f2,f3,f4⟩,f5⟩:=zDa h hE (p:=(p.1+1,p.2)) g hb h1
  exact⟨⟨by simp only at f1;omega,f2,f3,f4⟩,f5⟩
 split at h1
 ·cases h1
 split at h1
 ·obtain⟨a,ha,h2⟩:=qDc h1
  obtain⟨f1,f2,f3,f4⟩:=qTy h hE (p:=(p.1+1,p.2)) g hb ha
  exact qPc (by simp only at f1;omega) f2 f3 f4 h2
 split at h1
 ·exact qPc (r:=(p.1+1,p.2)) (by simp only;omega) g (jV _) hb h1
 ·cases h1
theorem zDh(h:OkT ts){level:Nat}(hS:Adv ts S):∀(n x:Nat) (p q:Ps) (y:Nat),p.1<ts.length→p.2.length≤256→x<p.2.length→qTr ts level S n x p= .inr (q,y)→p.1≤q.1∧q.1<ts.length∧p.2.length≤q.2.length∧q.2.length≤256∧y<q.2.length
 |0,_,_,_,_,_,_,_,h1=>by cases h1
 |n+1,x,p,q,y,hp,hb,hx,h1=>by
  unfold qTr at h1
  split at h1
  ·obtain⟨rfl,rfl⟩:=Prod.mk.inj (Sum.inr.inj h1)
   exact⟨jV _,hp,jV _,hb,hx⟩
  ·rename_i hop
   have hk:(tkAt ts p.1).1≠5:=by
    intro hk
    apply hop
    unfold opC
    have:opsC.find? (isOp ts level p.1)=none:=by
     rw[List.find?_eq_none]
     intro o _ ho
     simp only[isOp,jS] at ho
     have:=qXk ho.1
     omega
    rw[this]
   have g:=h.next hp hk
   obtain⟨a,ha,h2⟩:=qDc h1
   obtain⟨⟨f1,f2,f3,f4⟩,f5⟩:=hS (p.1+1,p.2) a.1 a.2 g hb ha
   obtain⟨r,hr,h3⟩:=qDc h2
   obtain⟨⟨k1,k2,k3,k4⟩,k5⟩:=qPc (ts:=ts) (p:=p) (by simp only at f1;omega) f2 f3 f4 hr
   split at h3
   ·obtain⟨rfl,rfl⟩:=Prod.mk.inj (Sum.inr.inj h3)
    exact⟨by omega,k2,k3,k4,k5⟩
   ·obtain⟨j1,j2,j3,j4,j5⟩:=zDh h hS n _ _ q y k2 k4 k5 h3
    exact⟨by omega,j2,by omega,j4,j5⟩
theorem qNx(h:OkT ts){level:Nat}(hS:Adv ts S):Adv ts (qSo ts level S):=by
 intro p q x hp hb h1
 obtain⟨a,ha,h2⟩:=qDc h1
 obtain⟨⟨f1,f2,f3,f4⟩,f5⟩:=hS p a.1 a.2 hp hb ha
 obtain⟨j1,j2,j3,j4,j5⟩:=zDh h hS _ _ _ q x f2 f4 f5 h2
 exact⟨⟨by omega,j2,by omega,j4⟩,j5⟩
theorem qNe(h:OkT ts):∀k,Adv ts (qHp ts params k)
 |0=>fun _ _ _ _ _ h1=>by cases h1
 |k+1=>by
  intro p q x hp hb h1
  unfold qHp at h1
  split at h1
  ·rename_i hc
   have g:=qFf h hp (by decide) hc
   obtain⟨a,ha,h2⟩:=qDc h1
   obtain⟨⟨a1,a2,a3,a4⟩,-⟩:=qNe h k (p.1+1,p.2) a.1 a.2 g hb ha
   obtain⟨i,hi,h3⟩:=qDc h2
   obtain⟨rfl,g1,-⟩:=qTk h a2 hi
   obtain⟨b,hb1,h4⟩:=qDc h3
   obtain⟨⟨b1,b2,b3,b4⟩,-⟩:=qNe h k (a.1.1+1,a.1.2) b.1 b.2 g1 a4 hb1
   obtain⟨j,hj,h5⟩:=qDc h4
   obtain⟨rfl,g2,-⟩:=qTk h b2 hj
   obtain⟨c,hc1,h6⟩:=qDc h5
   obtain⟨⟨c1,c2,c3,c4⟩,-⟩:=qNe h k (b.1.1+1,b.1.2) c.1 c.2 g2 b4 hc1
   simp only at a1 a3 b1 b3 c1 c3
   exact qPc (by omega) c2 (by omega) c4 h6
  ·exact qNx h (qNx h (qNx h (qUe h (qNe h k)))) p q x hp hb h1
end
end
section
open Go Go.Dc
theorem zNl{ts:List Tok}{i:Nat}(hi:i<ts.length):idx ts (i:Int)=some (tkAt ts i):=by
 rw[qEc hi]
 simp[tkAt,kK,hi]
theorem qLp{i:Nat}(h:i<1000000):IntKind.wrap .i64 ((i:Int)+1)=((i+1:Nat):Int):=by rw[wi64 (by omega) (by omega)];omega
section
variable {N:Nat} {ts:List Tok} {pr:List ByteArray} {b:List Ex} {i:Nat}
theorem qMo(hi:i<ts.length):qCv N (ts,(i:Int),pr,b)=some ((ts,(i:Int),pr,b),tkAt ts i):=by
 simp only[qCv,zNl hi,j0]
theorem zIu(hi:i<ts.length)(k:Int)(s:ByteArray):qFs N (ts,(i:Int),pr,b) k s=some ((ts,(i:Int),pr,b),isC ts k s i):=by
 simp only[qFs,qMo hi,j0,qEg,isC]
 cases h:(tkAt ts i).1==k<;>simp[h]
theorem zFi(hi:i<ts.length)(hl:ts.length<1000000)(s:ByteArray):qHb N (ts,(i:Int),pr,b) s=some (Sum.map id (fun j:Nat=>(ts,(j:Int),pr,b)) (qVy ts s i)):=by
 simp only[qHb,zIu hi,qMo hi,j0,qCo,qVy]
 cases h:isC ts 1 s i
 ·simp[qGy]
 ·simp[qLp (show i<1000000 by omega)]
theorem qOq(hi:i<ts.length)(hl:ts.length<1000000)(s:ByteArray):qCj N (ts,(i:Int),pr,b) s=some (Sum.map id (fun j:Nat=>(ts,(j:Int),pr,b)) (qFe ts s i)):=by
 simp only[qCj,zIu hi,qMo hi,j0,qCo,qFe]
 cases h:isC ts 4 s i
 ·simp[qGy]
 ·simp[qLp (show i<1000000 by omega)]
theorem qQv(hi:i<ts.length)(hl:ts.length<1000000)(s:ByteArray):qDu N (ts,(i:Int),pr,b) s=some (if isC ts 4 s i then((ts,((i+1:Nat):Int),pr,b),true) else((ts,(i:Int),pr,b),false)):=by
 simp only[qDu,zIu hi,j0]
 cases h:isC ts 4 s i
 ·simp
 ·simp[qLp (show i<1000000 by omega)]
theorem qYt(hi:i<ts.length)(hl:ts.length<1000000){k:Int}(hk:k≠5):qEw N (ts,(i:Int),pr,b) k=some (Sum.map id (fun a:Nat×Tok=>((ts,(a.1:Int),pr,b),a.2)) (qNv ts k i)):=by
 simp only[qEw,qMo hi,j0,qCo,qNv]
 have h5:(k !=5)=true:=by simpa using hk
 by_cases h:(tkAt ts i).1=k
 ·have h1:((tkAt ts i).1 !=k)=false:=by simp[h]
  simp only[h1,h5,jA,jE,jH,j0,if_pos h,qLp (show i<1000000 by omega),jZ]
 ·have h1:((tkAt ts i).1 !=k)=true:=by simp[h]
  simp only[h1,jH,j0,if_neg h,qGy,Sum.map_inl,id]
theorem orS(a b:Bool):(if a=true then some a else some b)=some (a||b):=by
 cases a<;>simp
theorem someB(b:Bool):(if b=true then some true else some false)=some b:=by cases b<;>simp
theorem qYm(s:ByteArray):qKo N s=some (resC s):=by
 simp only[qKo,qEg,resC,wordsR,qUr,qUd,zKc,zKl,sGen,sIf,zJi,zKh,qTe,qTd,sHas,sEnv,qUj,jO,gN,or_false]
 simp only[orS,j0,someB,jK]
 simp only[Bool.decide_or]
theorem zBh(hi:i<ts.length)(hl:ts.length<1000000):qFa N (ts,(i:Int),pr,b)=some (Sum.map id (fun a:Nat×Tok=>((ts,(a.1:Int),pr,b),a.2)) (qNu ts i)):=by
 simp only[qFa,qYt hi hl (show(1:Int)≠5 by decide),j0,qCo,qNu]
 cases h:qNv ts 1 i with
 |inl z=>simp[qCf]
 |inr a=>
  simp only[jZ,qYm,j0,qCf]
  cases h2:resC a.2.2.1<;>simp[qGy]
theorem zBf(hi:i<ts.length)(hl:ts.length<1000000)(hN:300000<N)(ht:∀j,(tkAt ts j).2.1.size<100000):qEv N (ts,(i:Int),pr,b)=some (Sum.map id (fun a:Nat×Tok=>((ts,(a.1:Int),pr,b),a.2)) (qPw ts i)):=by
 simp only[qEv,qYt hi hl (show(3:Int)≠5 by decide),j0,qCo,qPw]
 cases h:qNv ts 3 i with
 |inl z=>simp[qCf]
 |inr a=>
  have h3:a.2=tkAt ts i:=by
   unfold qNv at h
   split at h
   ·rw[←Sum.inr.inj h]
   ·cases h
  have hs:=ht i
  rw[←h3] at hs
  simp only[jZ,qXq (N:=N) (s:=a.2.2.1) (by omega) (by omega),j0,qCf]
  cases h2:qKv a.2.2.1.data.toList<;>simp[qGy]
theorem qUl(t:Tok)(x:Ex)(hb:b.length≤256)(n:Nat):qDm N (ts,(n:Int),pr,b) t x=some (Sum.map id (fun q:Ps×Nat=>((ts,(q.1.1:Int),pr,q.1.2),(q.2:Int))) (qMg t x (n,b))):=by
 simp only[qDm,qCo,j0,qMg]
 by_cases h:b.length=256
 ·simp[h,qGy]
 ·have h1:((b.length:Int)==256)=false:=by simp;omega
  have hw:IntKind.wrap .i64 (((b.length+1:Nat):Int)-1)=(b.length:Int):=by rw[wi64 (by omega) (by omega)];omega
  simp only[h1,jA,jE,j0,if_neg h,jZ]
  rw[qCa (by simp only[jC,jD];omega) (by omega)]
  simp only[j0,jL,jC,jD,gD,hw]
end
end
section
open Go Go.Dc
theorem qZz{N:Nat}{s:ByteArray}{l:List ByteArray}(hl:l.length<1000000):∀(d i M:Nat),i+d=l.length→d<M→
  qAx (qDx N l s) M (i:Int)=some (match(l.drop i).findIdx? (fun x=>decide (x=s)) with|some j=> .inr (((i+j:Nat):Int))|none=> .inl ())
 |d,i,0,_,h=>by omega
 |0,i,M+1,h,_=>by
  have:l.drop i=[]:=jN (by omega)
  simp only[qAx,qDx,this,List.findIdx?_nil]
  rw[if_neg (by simp only[jB];omega)]
  rfl
 |d+1,i,M+1,h,hM=>by
  have hi:i<l.length:=by omega
  have ih:=qZz (N:=N) (s:=s) hl d (i+1) M (by omega) (by omega)
  simp only[qAx,qDx]
  rw[if_pos (by simp only[jB];omega),qEc hi,jI hi,List.findIdx?_cons]
  simp only[j0,qEg,jB]
  by_cases hs:l[i]=s
  ·rw[if_pos hs.symm,if_pos hs];simp
  ·rw[if_neg (fun e=>hs e.symm),if_neg hs]
   simp only[j0,qLp (show i<1000000 by omega),ih]
   cases(l.drop (i+1)).findIdx? (fun x=>decide (x=s)) with
   |none=>rfl
   |some j=>simp only[kD];congr 2;omega
theorem zHf{N:Nat}{s:ByteArray}{l:List ByteArray}(hl:l.length<1000000)(hN:l.length<N):
  qEl N l s=some (match l.findIdx? (fun x=>decide (x=s)) with|some j=>(j:Int)|none=> -1):=by
 have h:=qZz (N:=N) (s:=s) hl l.length 0 N (by omega) hN
 simp only[jX,gD] at h
 simp only[qEl]
 rw[show(0:Int)=((0:Nat):Int) from rfl,h]
 simp only[j0]
 cases l.findIdx? (fun x=>decide (x=s))<;>rfl
theorem zFt{s:ByteArray}{l:List ByteArray}:(l.findIdx? (fun x=>decide (x=s))).isSome=decide (s∈l):=by
 rw[List.findIdx?_isSome]
 rw[jT]
 simp only[gP,jB]
 exact⟨fun⟨x,h1,h2⟩=>h2▸h1,fun h=>⟨s,h,rfl⟩⟩
theorem qYn{N:Nat}{s:ByteArray}{l:List ByteArray}(hl:l.length<1000000)(hN:l.length<N):
  qDw N l s=some (decide (s∈l)):=by
 simp only[qDw,zHf hl hN,j0,←zFt]
 cases l.findIdx? (fun x=>decide (x=s)) with
 |none=>rfl
 |some j=>simp only[Option.isSome_some];rw[jM (show(j:Int)≥0 by omega)]
theorem zLk{α:Type}{g:α→Bool}{l k:List α}(hu:∀a∈l,∀b∈l,g a=true→g b=true→a=b)(hp:k.Perm l):k.find? g=l.find? g:=by
 cases h:l.find? g with
 |none=>
  rw[List.find?_eq_none] at h ⊢
  exact fun x hx=>h x (hp.mem_iff.1 hx)
 |some a=>
  have ha:=gE h
  have hg:=List.find?_some h
  cases h2:k.find? g with
  |none=>exact absurd hg (by simpa using List.find?_eq_none.1 h2 a (hp.mem_iff.2 ha))
  |some b=>rw[hu b (hp.mem_iff.1 (gE h2)) a ha (List.find?_some h2) hg]
theorem zMn:∀a∈opsC,∀b∈opsC,a.2=b.2→a=b:=by
 have h:(opsC.all fun a=>opsC.all fun b=> !(decide (a.2=b.2))||decide (a=b))=true:=by kernel_rfl
 intro a ha b hb e
 have:=jR.1 (jR.1 h a ha) b hb
 simpa[e] using this
section
variable {N:Nat} {ts:List Tok} {pr:List ByteArray} {b:List Ex} {i:Nat}
theorem zMb(op:Int):qMh N op=some ((levP op:Nat):Int):=by
 by_cases h1:op=6
 ·subst h1;rfl
 by_cases h2:op=7
 ·subst h2;rfl
 by_cases h3:op=1
 ·subst h3;rfl
 by_cases h4:op=2
 ·subst h4;rfl
 simp[qMh,levP,h1,h2,h3,h4]
theorem zKb(level:Nat){t:Tok}(ht:t=tkAt ts i):∀k:List (Int×ByteArray),qPu (qDk N (level:Int) ((ts,(i:Int),pr,b),t)) k ()=
  some (match k.find? (isOp ts level i) with|some o=> .inr ((ts,(i:Int),pr,b),o.1)|none=> .inl ())
 |[]=>rfl
 |o::k=>by
  have key:qDk N (level:Int) ((ts,(i:Int),pr,b),t) (some o) ()=some (if isOp ts level i o then .inr (.inr ((ts,(i:Int),pr,b),o.1)) else .inl ()):=by
   subst ht
   simp only[qDk,zMb,j0,qEg,isOp,isC]
   have hc:(((levP o.1:Nat):Int)==(level:Int))=decide (levP o.1=level):=by
    rw[jT];simp only[jY,jB];omega
   rw[hc]
   by_cases h1:(tkAt ts i).1=4<;>by_cases h2:(tkAt ts i).2.1=o.2<;>by_cases h3:levP o.1=level<;>simp[h1,h2,h3]
  simp only[qPu,key,j0,List.find?_cons]
  cases h:isOp ts level i o with
  |true=>rfl
  |false=>exact zKb level ht k
theorem zMt:qQa N=some (some opsC):=by kernel_rfl
theorem zGg(hi:i<ts.length)(level:Nat):qHt N (ts,(i:Int),pr,b) (level:Int)=some ((ts,(i:Int),pr,b),opC ts level i):=by
 simp only[qHt,qMo hi,zMt,j0,isQ,kD,Option.getD_some]
 have hu:∀a∈opsC,∀b∈opsC,isOp ts level i a=true→isOp ts level i b=true→a=b:=by
  intro a ha b hb h1 h2
  simp only[isOp,isC,jS,jB] at h1 h2
  exact zMn a ha b hb (h1.1.2.symm.trans h2.1.2)
 have key:=zDd (f:=qDk N (level:Int) ((ts,(i:Int),pr,b),tkAt ts i)) (l:=opsC) (s:=()) fun k hk=>by
  rw[zKb level rfl k,zLk hu hk]
 rw[key]
 unfold opC
 cases opsC.find? (isOp ts level i)<;>rfl
end
end
section
open Go Go.Dc
abbrev StT:=List Tok×Int×List ByteArray×List Ex
def stP(ts:List Tok)(pr:List ByteArray)(p:Ps):StT:=(ts,(p.1:Int),pr,p.2)
def outP(ts:List Tok)(pr:List ByteArray):PM Nat→Flt⊕(StT×Int):=Sum.map id fun q=>(stP ts pr q.1,(q.2:Int))
def outL(ts:List Tok)(pr:List ByteArray):PM (List Int)→Flt⊕(StT×List Int):=Sum.map id fun q=>(stP ts pr q.1,q.2)
section
variable {N:Nat} {ts:List Tok} {pr:List ByteArray} {E S:Ps→PM Nat} {d:Int}
variable {r1:StT→Tok→Int→Option (Flt⊕(StT×Int))} {r2:StT→Int→Option (Flt⊕(StT×List Int))} {r3:StT→Int→Option (Flt⊕(StT×Int))} {r4:StT→Int→Int→Option (Flt⊕(StT×Int))} {r5:StT→Int→Option (Flt⊕(StT×Int))}
theorem zEh(hok:OkT ts)(hl:ts.length<1000000)(hA:Adv ts E)(hE:∀p:Ps,p.1<ts.length→p.2.length≤256→r5 (stP ts pr p) (IntKind.wrap .i64 (d+1))=some (outP ts pr (E p))):
  ∀(n M:Nat) (l:List Int) (p:Ps),p.1<ts.length→p.2.length≤256→l.length≤p.1→ts.length<p.1+n→ts.length<p.1+M→
  ((qAx (qFx N r5 d) M (l,ts,(p.1:Int),pr,p.2)).bind fun out1=>(match out1 with| .inl o1=>(qCj N (o1.2.1,o1.2.2.1,o1.2.2.2.1,o1.2.2.2.2) (⟨#[41]⟩:ByteArray)).bind fun y7=>(match y7 with| .inl z3=>some (.inl z3)| .inr y8=>some (.inr ((y8.1,y8.2.1,y8.2.2.1,y8.2.2.2),o1.1)))| .inr (z)=>some z))=some (outL ts pr (zBj ts E n l p))
 |0,M,l,p,hp,_,_,h,_=>by omega
 |n+1,0,l,p,hp,_,_,_,h=>by omega
 |n+1,M+1,l,p,hp,hb,hll,hn,hM=>by
  have hEp:=hE p hp hb
  simp only[stP] at hEp
  simp only[qAx,qFx,zBj,hEp,j0]
  cases hq:E p with
  |inl z=>simp only[outP,Sum.map_inl,id,qCf,outL,j0]
  |inr q=>
   obtain⟨⟨f1,f2,f3,f4⟩,f5⟩:=hA p q.1 q.2 hp hb hq
   simp only[outP,jZ,qCf,stP]
   rw[qCa (by simp only[jC,jD];omega) (by omega)]
   simp only[j0,qQv f2 hl,qOy]
   rcases qEf (isC ts 4 ⟨#[44]⟩ q.1.1) with hc|hc
   ·have g:=qFf hok f2 (by decide) hc
    have ih:=zEh hok hl hA hE n M (l++[(q.2:Int)]) (q.1.1+1,q.1.2) g f4 (by simp only[jL,jC,jD];omega) (by simp only;omega) (by simp only;omega)
    simp only[hc,jH,k7,jA,jE,j0]
    exact ih
   ·simp only[hc,jA,jE,jW,jH,j0,qOq f2 hl,qJb]
    cases qFe ts ⟨#[41]⟩ q.1.1 with
    |inl z=>rfl
    |inr j=>rfl
theorem zFb(hok:OkT ts)(hl:ts.length<1000000)(hN:ts.length<N)(hA:Adv ts E)(hE:∀p:Ps,p.1<ts.length→p.2.length≤256→r5 (stP ts pr p) (IntKind.wrap .i64 (d+1))=some (outP ts pr (E p)))
  (p:Ps) (hp:p.1<ts.length) (hb:p.2.length≤256):qGl N r1 r2 r3 r4 r5 (stP ts pr p) d=some (outL ts pr (qMx ts E p)):=by
 simp only[qGl,stP,qOq hp hl,j0,qMx,qQy]
 cases h:qFe ts ⟨#[40]⟩ p.1 with
 |inl z=>rfl
 |inr i=>
  obtain⟨rfl,g,-⟩:=qFg hok hp h
  simp only[jZ,qCf,qQv g hl,j0,qJb]
  rcases qEf (isC ts 4 ⟨#[41]⟩ (p.1+1)) with hc|hc
  ·simp only[hc,jH];rfl
  ·simp only[hc,jA,jE]
   exact zEh hok hl hA hE (ts.length+1) N [] (p.1+1,p.2) g hb (by simp) (by simp only;omega) (by simp only;omega)
theorem zLi(hok:OkT ts)(hl:ts.length<1000000)(hN:300000<N)(ht:∀j,(tkAt ts j).2.1.size<100000)(hA:Adv ts E)(hE:∀p:Ps,p.1<ts.length→p.2.length≤256→r5 (stP ts pr p) (IntKind.wrap .i64 (d+1))=some (outP ts pr (E p)))
  (t:Tok) (p:Ps) (hp:p.1<ts.length) (hb:p.2.length≤256):qHd N r1 r2 r3 r4 r5 (stP ts pr p) t d=some (outP ts pr (qMm ts E t p)):=by
 have fin:∀(o1:Int×Int×ByteArray×List Int×StT) (q:Ps) (x:Ex),o1.2.2.2.2=stP ts pr q→x=(o1.1,o1.2.1,0,o1.2.2.1,o1.2.2.2.1)→q.1<ts.length→q.2.length≤256→
   ((qCj N (o1.2.2.2.2.1,o1.2.2.2.2.2.1,o1.2.2.2.2.2.2.1,o1.2.2.2.2.2.2.2) (⟨#[41]⟩:ByteArray)).bind fun y22=>(match y22 with| .inl z11=>some (.inl z11)| .inr y23=>(qDm N (y23.1,y23.2.1,y23.2.2.1,y23.2.2.2) (t.1,t.2.1,t.2.2.1,t.2.2.2) (o1.1,o1.2.1,0,o1.2.2.1,o1.2.2.2.1)).bind fun y24=>(match y24 with| .inl z12=>some (.inl z12)| .inr y25=>some (.inr ((y25.1.1,y25.1.2.1,y25.1.2.2.1,y25.1.2.2.2),y25.2)))))=
   some (outP ts pr (qCf (qFe ts qJb q.1) fun i=>qMg t x (i,q.2))):=by
  intro o1 q x ho hx hq hqb
  subst hx
  rw[ho]
  simp only[stP,qOq hq hl,j0,qJb]
  cases hj:qFe ts ⟨#[41]⟩ q.1 with
  |inl z=>rfl
  |inr j=>
   simp only[jZ,qCf,qUl _ _ hqb,j0]
   cases qMg t (o1.1,o1.2.1,0,o1.2.2.1,o1.2.2.2.1) (j,q.2)<;>rfl
 simp only[qHd,stP,qOq hp hl,j0,qMm,qQy]
 cases h:qFe ts ⟨#[40]⟩ p.1 with
 |inl z=>rfl
 |inr i=>
  obtain⟨rfl,g,-⟩:=qFg hok hp h
  simp only[jZ,qCf,qEg,jB]
  by_cases k1:t.2.1=qTe
  ·rw[if_pos (show t.2.1=(⟨#[114,101,97,100]⟩:ByteArray) from k1),if_pos k1]
   simp only[zBf g hl hN ht,j0]
   cases h1:qPw ts (p.1+1) with
   |inl z=>rfl
   |inr a=>
    obtain⟨rfl,g1,-⟩:=qNa hok g h1
    simp only[jZ,qOq g1 hl,j0,qOy]
    cases h2:qFe ts ⟨#[44]⟩ (p.1+1+1) with
    |inl z=>rfl
    |inr j=>
     obtain⟨rfl,g2,-⟩:=qFg hok g1 h2
     have hEp:=hE (p.1+1+1+1,p.2) g2 hb
     simp only[stP] at hEp
     simp only[jZ,hEp,j0]
     cases h3:E (p.1+1+1+1,p.2) with
     |inl z=>rfl
     |inr q=>
      obtain⟨⟨f1,f2,f3,f4⟩,f5⟩:=hA (p.1+1+1+1,p.2) q.1 q.2 g2 hb h3
      exact fin (6,0,(tkAt ts (p.1+1)).2.1,[(q.2:Int)],ts,(q.1.1:Int),pr,q.1.2) q.1 _ rfl rfl f2 f4
  rw[if_neg (show ¬t.2.1=(⟨#[114,101,97,100]⟩:ByteArray) from k1),if_neg k1]
  by_cases k2:t.2.1=qTd
  ·rw[if_pos (show t.2.1=(⟨#[115,105,122,101]⟩:ByteArray) from k2),if_pos k2]
   simp only[zBf g hl hN ht,j0]
   cases h1:qPw ts (p.1+1) with
   |inl z=>rfl
   |inr a=>
    obtain⟨rfl,g1,-⟩:=qNa hok g h1
    exact fin (7,0,(tkAt ts (p.1+1)).2.1,[],ts,((p.1+1+1:Nat):Int),pr,p.2) (p.1+1+1,p.2) _ rfl rfl g1 hb
  rw[if_neg (show ¬t.2.1=(⟨#[115,105,122,101]⟩:ByteArray) from k2),if_neg k2]
  by_cases k3:t.2.1=sHas
  ·rw[if_pos (show t.2.1=(⟨#[104,97,115]⟩:ByteArray) from k3),if_pos k3]
   simp only[zBf g hl hN ht,j0]
   cases h1:qPw ts (p.1+1) with
   |inl z=>rfl
   |inr a=>
    obtain⟨rfl,g1,-⟩:=qNa hok g h1
    exact fin (8,0,(tkAt ts (p.1+1)).2.1,[],ts,((p.1+1+1:Nat):Int),pr,p.2) (p.1+1+1,p.2) _ rfl rfl g1 hb
  rw[if_neg (show ¬t.2.1=(⟨#[104,97,115]⟩:ByteArray) from k3),if_neg k3]
  by_cases k4:t.2.1=sEnv
  ·rw[if_pos (show t.2.1=(⟨#[101,110,118]⟩:ByteArray) from k4),if_pos k4]
   simp only[qYt g hl (show(3:Int)≠5 by decide),j0,qWe]
   cases h1:qNv ts 3 (p.1+1) with
   |inl z=>rfl
   |inr a=>
    obtain⟨rfl,g1,-⟩:=qPf hok (by decide) g h1
    simp only[jZ,zKz (N:=N) (by omega),j0,qCf,qCo]
    cases h2:qXb (tkAt ts (p.1+1)).2.1 with
    |false=>rfl
    |true=>exact fin (9,0,(tkAt ts (p.1+1)).2.1,[],ts,((p.1+1+1:Nat):Int),pr,p.2) (p.1+1+1,p.2) _ rfl rfl g1 hb
  ·rw[if_neg (show ¬t.2.1=(⟨#[101,110,118]⟩:ByteArray) from k4),if_neg k4]
   simp only[qYt g hl (show(2:Int)≠5 by decide),j0]
   cases h1:qNv ts 2 (p.1+1) with
   |inl z=>rfl
   |inr a=>
    obtain⟨rfl,g1,-⟩:=qPf hok (by decide) g h1
    simp only[jZ,qCo,j0]
    by_cases h2:(tkAt ts (p.1+1)).2.2.1≥64
    ·simp only[if_pos h2,j0];rfl
    ·simp only[if_neg h2,j0]
     exact fin (10,(tkAt ts (p.1+1)).2.2.1,⟨#[]⟩,[],ts,((p.1+1+1:Nat):Int),pr,p.2) (p.1+1+1,p.2) _ rfl rfl g1 hb
end
end
section
open Go Go.Dc
section
variable {N:Nat} {ts:List Tok} {pr:List ByteArray} {E S:Ps→PM Nat} {d:Int}
variable {r1:StT→Tok→Int→Option (Flt⊕(StT×Int))} {r2:StT→Int→Option (Flt⊕(StT×List Int))} {r3:StT→Int→Option (Flt⊕(StT×Int))} {r4:StT→Int→Int→Option (Flt⊕(StT×Int))} {r5:StT→Int→Option (Flt⊕(StT×Int))}
theorem kw_mem(x:ByteArray):(decide (x=(⟨#[114,101,97,100]⟩:ByteArray))||(decide (x=(⟨#[115,105,122,101]⟩:ByteArray))||(decide (x=(⟨#[104,97,115]⟩:ByteArray))||(decide (x=(⟨#[101,110,118]⟩:ByteArray))||decide (x=(⟨#[102,108,105,112]⟩:ByteArray))))))=decide (x∈[qTe,qTd,sHas,sEnv,qUj]):=by
 simp only[qTe,qTd,sHas,sEnv,qUj,jO,gN,or_false,Bool.decide_or]
theorem zMy(hok:OkT ts)(hl:ts.length<1000000)(hpr:pr.length<1000)(hN:300000<N)(hA:Adv ts E)(hE:∀p:Ps,p.1<ts.length→p.2.length≤256→r5 (stP ts pr p) (IntKind.wrap .i64 (d+1))=some (outP ts pr (E p)))
  (h1:∀(t:Tok) (p:Ps),p.1<ts.length→p.2.length≤256→r1 (stP ts pr p) t d=some (outP ts pr (qMm ts E t p)))
  (h2:∀p:Ps,p.1<ts.length→p.2.length≤256→r2 (stP ts pr p) d=some (outL ts pr (qMx ts E p)))
  (p:Ps) (hp:p.1<ts.length) (hb:p.2.length≤256):qHv N r1 r2 r3 r4 r5 (stP ts pr p) d=some (outP ts pr (qQl ts pr E p)):=by
 have hw:=qLp (show p.1<1000000 by omega)
 simp only[qHv,stP,qMo hp,j0,qQl]
 by_cases k1:(tkAt ts p.1).1=2
 ·rw[if_pos (show((tkAt ts p.1).1==2)=true by simpa using k1),if_pos k1,hw]
  simp only[qUl _ _ hb,j0]
  cases qMg (tkAt ts p.1) (1,(tkAt ts p.1).2.2.1,0,⟨#[]⟩,[]) (p.1+1,p.2)<;>rfl
 rw[if_neg (show ¬((tkAt ts p.1).1==2)=true by simpa using k1),if_neg k1]
 simp only[qQv hp hl,j0]
 rcases qEf (isC ts 4 zKd p.1) with c1|c1
 ·have c1':isC ts 4 ⟨#[45]⟩ p.1=true:=c1
  have g:=qFf hok hp (by decide) c1
  simp only[c1,c1',jH,qYt g hl (show(2:Int)≠5 by decide),j0]
  cases h:qNv ts 2 (p.1+1) with
  |inl z=>rfl
  |inr a=>
   simp only[jZ,qCf,qUl _ _ hb,j0]
   cases qMg (tkAt ts p.1) (1,IntKind.wrap .i64 (0-a.2.2.2.1),0,⟨#[]⟩,[]) (a.1,p.2)<;>rfl
 have c1':isC ts 4 ⟨#[45]⟩ p.1=false:=c1
 simp only[c1,c1',jA,jE,qQv hp hl,j0]
 rcases qEf (isC ts 4 qQy p.1) with c2|c2
 ·have c2':isC ts 4 ⟨#[40]⟩ p.1=true:=c2
  have g:=qFf hok hp (by decide) c2
  have hEp:=hE (p.1+1,p.2) g hb
  simp only[stP] at hEp
  simp only[c2,c2',jH,hEp,j0]
  cases h:E (p.1+1,p.2) with
  |inl z=>rfl
  |inr q=>
   obtain⟨⟨f1,f2,f3,f4⟩,f5⟩:=hA (p.1+1,p.2) q.1 q.2 g hb h
   simp only[outP,jZ,qCf,stP,qOq f2 hl,j0,qJb]
   cases qFe ts ⟨#[41]⟩ q.1.1<;>rfl
 have c2':isC ts 4 ⟨#[40]⟩ p.1=false:=c2
 simp only[c2,c2',jA,jE,qCo,j0]
 by_cases k2:(tkAt ts p.1).1=1
 rotate_left
 ·rw[if_pos (show((tkAt ts p.1).1 !=1)=true by simpa using k2),if_pos k2];rfl
 rw[if_neg (show ¬((tkAt ts p.1).1 !=1)=true by simpa using k2),if_neg (show ¬(tkAt ts p.1).1≠1 by simpa using k2)]
 have g:=hok.next hp (show(tkAt ts p.1).1≠5 by rw[k2];decide)
 simp only[j0,qEg,orS,kw_mem,hw]
 by_cases k3:(tkAt ts p.1).2.1∈[qTe,qTd,sHas,sEnv,qUj]
 ·rw[if_pos (show decide ((tkAt ts p.1).2.1∈[qTe,qTd,sHas,sEnv,qUj])=true from jM k3),if_pos k3]
  have h1p:=h1 (tkAt ts p.1) (p.1+1,p.2) g hb
  simp only[stP] at h1p
  simp only[h1p,j0]
  cases qMm ts E (tkAt ts p.1) (p.1+1,p.2)<;>rfl
 rw[if_neg (show ¬decide ((tkAt ts p.1).2.1∈[qTe,qTd,sHas,sEnv,qUj])=true by simpa using k3),if_neg k3]
 simp only[qYm,j0]
 rcases qEf (resC (tkAt ts p.1).2.1) with c3|c3
 ·simp only[c3,jH,j0];rfl
 simp only[c3,jA,jE,j0,zIu g]
 rcases qEf (isC ts 4 qQy (p.1+1)) with c4|c4
 ·have c4':isC ts 4 ⟨#[40]⟩ (p.1+1)=true:=c4
  have h2p:=h2 (p.1+1,p.2) g hb
  simp only[stP] at h2p
  simp only[c4,c4',jH,h2p,j0]
  cases h:qMx ts E (p.1+1,p.2) with
  |inl z=>rfl
  |inr q=>
   obtain⟨f1,f2,f3,f4⟩:=qTy hok hA (p:=(p.1+1,p.2)) g hb h
   simp only[outL,jZ,qCf,stP,qUl _ _ f4,j0]
   cases qMg (tkAt ts p.1) (3,0,0,(tkAt ts p.1).2.1,q.2) (q.1.1,q.1.2)<;>rfl
 have c4':isC ts 4 ⟨#[40]⟩ (p.1+1)=false:=c4
 simp only[c4,c4',jA,jE,zHf (N:=N) (l:=pr) (s:=(tkAt ts p.1).2.1) (by omega) (by omega),j0]
 cases pr.findIdx? (fun x=>decide (x=(tkAt ts p.1).2.1)) with
 |none=>rfl
 |some j=>
  simp only[jB]
  rw[if_neg (by omega)]
  simp only[j0,qUl _ _ hb]
  cases qMg (tkAt ts p.1) (2,(j:Int),0,⟨#[]⟩,[]) (p.1+1,p.2)<;>rfl
theorem zNd(h3:∀p:Ps,p.1<ts.length→p.2.length≤256→r3 (stP ts pr p) d=some (outP ts pr (S p)))(p:Ps)(hp:p.1<ts.length)(hb:p.2.length≤256):
  qEs N r1 r2 r3 r4 r5 (stP ts pr p) 4 d=some (outP ts pr (S p)):=by
 have h3p:=h3 p hp hb
 simp only[stP] at h3p
 simp only[qEs,stP,h3p,j0]
 cases S p<;>rfl
theorem zCs(hok:OkT ts)(hl:ts.length<1000000)(hS:Adv ts S){L:Nat}(hL:L<4)(h4:∀p:Ps,p.1<ts.length→p.2.length≤256→r4 (stP ts pr p) ((L:Int)+1) d=some (outP ts pr (S p))):
  ∀(n M x:Nat) (p:Ps),p.1<ts.length→p.2.length≤256→x<p.2.length→ts.length<p.1+n→ts.length<p.1+M→
  qAx (qHi N r4 (L:Int) d) M ((x:Int),ts,(p.1:Int),pr,p.2)=some (outP ts pr (qTr ts L S n x p))
 |0,M,x,p,hp,_,_,h,_=>by omega
 |n+1,0,x,p,hp,_,_,_,h=>by omega
 |n+1,M+1,x,p,hp,hb,hx,hn,hM=>by
  have hw:=qLp (show p.1<1000000 by omega)
  have hwL:IntKind.wrap .i64 ((L:Int)+1)=(L:Int)+1:=wi64 (by omega) (by omega)
  simp only[qAx,qHi,qTr,zGg hp,j0]
  by_cases k1:opC ts L p.1=0
  ·rw[if_pos (show(opC ts L p.1==0)=true by simpa using k1),if_pos k1];rfl
  rw[if_neg (show ¬(opC ts L p.1==0)=true by simpa using k1),if_neg k1]
  have hk:(tkAt ts p.1).1≠5:=by
   intro hk
   apply k1
   unfold opC
   have:opsC.find? (isOp ts L p.1)=none:=by
    rw[List.find?_eq_none]
    intro o _ ho
    simp only[isOp,jS] at ho
    have:=qXk ho.1
    omega
   rw[this]
  have g:=hok.next hp hk
  have h4p:=h4 (p.1+1,p.2) g hb
  simp only[stP] at h4p
  simp only[qMo hp,j0,hw,hwL,h4p]
  cases h:S (p.1+1,p.2) with
  |inl z=>rfl
  |inr q=>
   obtain⟨⟨f1,f2,f3,f4⟩,f5⟩:=hS (p.1+1,p.2) q.1 q.2 g hb h
   simp only[outP,jZ,qCf,stP,qUl _ _ f4,j0]
   cases hn2:qMg (tkAt ts p.1) (4,0,opC ts L p.1,⟨#[]⟩,[(x:Int),(q.2:Int)]) (q.1.1,q.1.2) with
   |inl z=>rfl
   |inr r=>
    obtain⟨⟨k1,k2,k3,k4⟩,k5⟩:=qPc (ts:=ts) (p:=p) (r:=(q.1.1,q.1.2)) (by simp only at f1 ⊢;omega) f2 f3 f4 hn2
    simp only[jZ]
    by_cases k6:L=1
    ·subst k6
     rfl
    ·rw[if_neg (show ¬((L:Int)==1)=true by simp;omega),if_neg k6]
     simp only[j0]
     exact zCs hok hl hS hL h4 n M r.2 r.1 k2 k4 k5 (by omega) (by omega)
theorem zBp(hok:OkT ts)(hl:ts.length<1000000)(hN:1000001<N)(hS:Adv ts S){L:Nat}(hL:L<4)(h4:∀p:Ps,p.1<ts.length→p.2.length≤256→r4 (stP ts pr p) ((L:Int)+1) d=some (outP ts pr (S p)))
  (p:Ps) (hp:p.1<ts.length) (hb:p.2.length≤256):qEs N r1 r2 r3 r4 r5 (stP ts pr p) (L:Int) d=some (outP ts pr (qSo ts L S p)):=by
 have hwL:IntKind.wrap .i64 ((L:Int)+1)=(L:Int)+1:=wi64 (by omega) (by omega)
 have h4p:=h4 p hp hb
 simp only[stP] at h4p
 simp only[qEs,stP,qSo,hwL,h4p,j0]
 rw[if_neg (show ¬((L:Int)==4)=true by simp;omega)]
 cases h:S p with
 |inl z=>rfl
 |inr q=>
  obtain⟨⟨f1,f2,f3,f4⟩,f5⟩:=hS p q.1 q.2 hp hb h
  simp only[outP,jZ,qCf,stP]
  rw[zCs hok hl hS hL h4 (ts.length+1) N q.2 q.1 f2 f4 f5 (by omega) (by omega)]
  rfl
theorem expr_B{k:Nat}(hok:OkT ts)(hl:ts.length<1000000)(hd:d+k=32)(hk:k<33)(hA:Adv ts (qHp ts pr k))(hE:∀p:Ps,p.1<ts.length→p.2.length≤256→r5 (stP ts pr p) (IntKind.wrap .i64 (d+1))=some (outP ts pr (qHp ts pr k p)))
  (h4:∀p:Ps,p.1<ts.length→p.2.length≤256→r4 (stP ts pr p) 1 d=some (outP ts pr (qUz ts pr (qHp ts pr k) p)))
  (p:Ps) (hp:p.1<ts.length) (hb:p.2.length≤256):qFz N r1 r2 r3 r4 r5 (stP ts pr p) d=some (outP ts pr (qHp ts pr (k+1) p)):=by
 have hw:=qLp (show p.1<1000000 by omega)
 simp only[qFz,stP,qMo hp,j0,qHp]
 rw[if_neg (show ¬decide (d>32)=true by simp only[jB];omega)]
 simp only[j0,zIu hp]
 rcases qEf (isC ts 1 sIf p.1) with c1|c1
 rotate_left
 ·have c1':isC ts 1 ⟨#[105,102]⟩ p.1=false:=c1
  have h4p:=h4 p hp hb
  simp only[stP] at h4p
  simp only[c1,c1',jW,jH,jA,jE,h4p,j0]
  cases qUz ts pr (qHp ts pr k) p<;>rfl
 have c1':isC ts 1 ⟨#[105,102]⟩ p.1=true:=c1
 have g:=qFf hok hp (by decide) c1
 have hEa:=hE (p.1+1,p.2) g hb
 simp only[stP] at hEa
 simp only[c1,c1',k7,jH,jA,jE,hw,hEa,j0]
 cases ha:qHp ts pr k (p.1+1,p.2) with
 |inl z=>rfl
 |inr a=>
  obtain⟨⟨a1,a2,a3,a4⟩,a5⟩:=hA (p.1+1,p.2) a.1 a.2 g hb ha
  simp only[outP,jZ,qCf,stP,zFi a2 hl,j0,zJi]
  cases hi:qVy ts ⟨#[116,104,101,110]⟩ a.1.1 with
  |inl z=>rfl
  |inr i=>
   obtain⟨rfl,g1,-⟩:=qTk hok a2 hi
   have hEb:=hE (a.1.1+1,a.1.2) g1 a4
   simp only[stP] at hEb
   simp only[jZ,hEb,j0]
   cases hb1:qHp ts pr k (a.1.1+1,a.1.2) with
   |inl z=>rfl
   |inr b=>
    obtain⟨⟨b1,b2,b3,b4⟩,b5⟩:=hA (a.1.1+1,a.1.2) b.1 b.2 g1 a4 hb1
    simp only[outP,jZ,qCf,stP,zFi b2 hl,j0,zKh]
    cases hj:qVy ts ⟨#[101,108,115,101]⟩ b.1.1 with
    |inl z=>rfl
    |inr j=>
     obtain⟨rfl,g2,-⟩:=qTk hok b2 hj
     have hEc:=hE (b.1.1+1,b.1.2) g2 b4
     simp only[stP] at hEc
     simp only[jZ,hEc,j0]
     cases hc1:qHp ts pr k (b.1.1+1,b.1.2) with
     |inl z=>rfl
     |inr c=>
      obtain⟨⟨c1,c2,c3,c4⟩,c5⟩:=hA (b.1.1+1,b.1.2) c.1 c.2 g2 b4 hc1
      simp only[outP,jZ,qCf,stP,qUl _ _ c4,j0]
      cases qMg (tkAt ts p.1) (5,0,0,⟨#[]⟩,[(a.2:Int),(b.2:Int),(c.2:Int)]) (c.1.1,c.1.2)<;>rfl
theorem zOr(hd:d>32)(p:Ps)(hp:p.1<ts.length):qFz N r1 r2 r3 r4 r5 (stP ts pr p) d=some (outP ts pr (qHp ts pr 0 p)):=by
 simp only[qFz,stP,qMo hp,j0,qHp]
 rw[if_pos (show decide (d>32)=true by simpa using hd)]
 rfl
theorem zJf(hok:OkT ts)(hl:ts.length<1000000)(hpr:pr.length<1000)(hN:1000001<N)(ht:∀j,(tkAt ts j).2.1.size<100000):∀(k D:Nat),k≤32→7*k+1≤D→∀p:Ps,p.1<ts.length→p.2.length≤256→
  (qAh N D).2.2.2.2 (stP ts pr p) (33-(k:Int))=some (outP ts pr (qHp ts pr k p))
 |0,0,_,h,_,_,_=>by omega
 |0,D+1,_,_,p,hp,_=>by simp only[qAh];exact zOr (by omega) p hp
 |k+1,D,hk,hD,p,hp,hb=>by
  have hA:=qNe (ts:=ts) (params:=pr) hok k
  have hF:=qUe (params:=pr) hok hA
  have hT:Adv ts (zKq ts pr (qHp ts pr k)):=qNx hok hF
  have hS:Adv ts (sumC ts pr (qHp ts pr k)):=qNx hok hT
  have hE:∀D,7*k+1≤D→∀p:Ps,p.1<ts.length→p.2.length≤256→(qAh N D).2.2.2.2 (stP ts pr p) (IntKind.wrap .i64 (32-(k:Int)+1))=some (outP ts pr (qHp ts pr k p)):=by
   intro D hD p hp hb
   rw[wi64 (by omega) (by omega),show 32-(k:Int)+1=33-(k:Int) by omega]
   exact zJf hok hl hpr hN ht k D (by omega) hD p hp hb
  have h1:∀D,7*k+2≤D→∀(t:Tok) (p:Ps),p.1<ts.length→p.2.length≤256→(qAh N D).1 (stP ts pr p) t (32-(k:Int))=some (outP ts pr (qMm ts (qHp ts pr k) t p)):=by
   intro D hD t p hp hb
   obtain⟨D',rfl⟩:∃D',D=D'+1:=⟨D-1,by omega⟩
   simp only[qAh]
   exact zLi hok hl (by omega) ht hA (hE D' (by omega)) t p hp hb
  have h2:∀D,7*k+2≤D→∀p:Ps,p.1<ts.length→p.2.length≤256→(qAh N D).2.1 (stP ts pr p) (32-(k:Int))=some (outL ts pr (qMx ts (qHp ts pr k) p)):=by
   intro D hD p hp hb
   obtain⟨D',rfl⟩:∃D',D=D'+1:=⟨D-1,by omega⟩
   simp only[qAh]
   exact zFb hok hl (by omega) hA (hE D' (by omega)) p hp hb
  have h3:∀D,7*k+3≤D→∀p:Ps,p.1<ts.length→p.2.length≤256→(qAh N D).2.2.1 (stP ts pr p) (32-(k:Int))=some (outP ts pr (qQl ts pr (qHp ts pr k) p)):=by
   intro D hD p hp hb
   obtain⟨D',rfl⟩:∃D',D=D'+1:=⟨D-1,by omega⟩
   simp only[qAh]
   exact zMy hok hl hpr (by omega) hA (hE D' (by omega)) (h1 D' (by omega)) (h2 D' (by omega)) p hp hb
  have b4:∀D,7*k+4≤D→∀p:Ps,p.1<ts.length→p.2.length≤256→(qAh N D).2.2.2.1 (stP ts pr p) 4 (32-(k:Int))=some (outP ts pr (qQl ts pr (qHp ts pr k) p)):=by
   intro D hD p hp hb
   obtain⟨D',rfl⟩:∃D',D=D'+1:=⟨D-1,by omega⟩
   simp only[qAh]
   exact zNd (h3 D' (by omega)) p hp hb
  have b3:∀D,7*k+5≤D→∀p:Ps,p.1<ts.length→p.2.length≤256→(qAh N D).2.2.2.1 (stP ts pr p) 3 (32-(k:Int))=some (outP ts pr (zKq ts pr (qHp ts pr k) p)):=by
   intro D hD p hp hb
   obtain⟨D',rfl⟩:∃D',D=D'+1:=⟨D-1,by omega⟩
   simp only[qAh]
   exact zBp hok hl hN hF (L:=3) (by omega) (b4 D' (by omega)) p hp hb
  have b2:∀D,7*k+6≤D→∀p:Ps,p.1<ts.length→p.2.length≤256→(qAh N D).2.2.2.1 (stP ts pr p) 2 (32-(k:Int))=some (outP ts pr (sumC ts pr (qHp ts pr k) p)):=by
   intro D hD p hp hb
   obtain⟨D',rfl⟩:∃D',D=D'+1:=⟨D-1,by omega⟩
   simp only[qAh]
   exact zBp hok hl hN hT (L:=2) (by omega) (b3 D' (by omega)) p hp hb
  have b1:∀D,7*k+7≤D→∀p:Ps,p.1<ts.length→p.2.length≤256→(qAh N D).2.2.2.1 (stP ts pr p) 1 (32-(k:Int))=some (outP ts pr (qUz ts pr (qHp ts pr k) p)):=by
   intro D hD p hp hb
   obtain⟨D',rfl⟩:∃D',D=D'+1:=⟨D-1,by omega⟩
   simp only[qAh]
   exact zBp hok hl hN hS (L:=1) (by omega) (b2 D' (by omega)) p hp hb
  obtain⟨D',rfl⟩:∃D',D=D'+1:=⟨D-1,by omega⟩
  rw[show(33:Int)-((k+1:Nat):Int)=32-(k:Int) by omega]
  simp only[qAh]
  exact expr_B hok hl (by omega) (by omega) hA (hE D' (by omega)) (b1 D' (by omega)) p hp hb
theorem zOv(hok:OkT ts)(hl:ts.length<1000000)(hpr:pr.length<1000)(hN:1000001<N)(ht:∀j,(tkAt ts j).2.1.size<100000)(p:Ps)(hp:p.1<ts.length)(hb:p.2.length≤256):
  qNg N (ts,(p.1:Int),pr,p.2) 1=some (outP ts pr (qHp ts pr 32 p)):=by
 have:=zJf hok hl hpr hN ht 32 N (by omega) (by omega) p hp hb
 exact this
end
end
section
open Go Go.Dc
section
variable {N:Nat} {ts:List Tok} {pr:List ByteArray} {b:List Ex}
theorem qUi(h:OkT ts):∀(n:Nat) (l:List ByteArray) (i:Nat) (a:Nat×List ByteArray),i<ts.length→l.length≤8→qQs ts n l i= .inr a→i<a.1∧a.1<ts.length∧a.2.length≤8
 |0,_,_,_,_,_,h1=>by cases h1
 |n+1,l,i,a,hi,hl,h1=>by
  obtain⟨x,hx,h2⟩:=qDc (show qCf (qNu ts i) _=_ from h1)
  obtain⟨rfl,g1,-⟩:=qMl h hi hx
  split at h2
  ·cases h2
  rename_i k1
  split at h2
  ·cases h2
  split at h2
  ·rename_i k3
   have g2:=qFf h g1 (by decide) k3
   obtain⟨j1,j2,j3⟩:=qUi h n _ _ a g2 (by simp only[jL,jC,jD];omega) h2
   exact⟨by omega,j2,j3⟩
  ·obtain⟨j,hj,h3⟩:=qDc h2
   obtain⟨rfl,g2,-⟩:=qFg h g1 hj
   obtain rfl:=Sum.inr.inj h3
   exact⟨by simp only;omega,g2,by simp only[jL,jC,jD];omega⟩
theorem qSx(h:OkT ts){i:Nat}{a:Nat×List ByteArray}(hi:i<ts.length)(h1:qIw ts i= .inr a):i<a.1∧a.1<ts.length∧a.2.length≤8:=by
 obtain⟨j,hj,h2⟩:=qDc h1
 obtain⟨rfl,g,-⟩:=qFg h hi hj
 split at h2
 ·rename_i k
  obtain rfl:=Sum.inr.inj h2
  exact⟨by simp only;omega,qFf h g (by decide) k,by simp⟩
 ·obtain⟨j1,j2,j3⟩:=qUi h _ _ _ a g (by simp) h2
  exact⟨by omega,j2,j3⟩
theorem qYg(hok:OkT ts)(hl:ts.length<1000000)(hN:1000000<N):∀(n M:Nat) (l:List ByteArray) (i:Nat),i<ts.length→l.length≤8→ts.length<i+n→ts.length<i+M→
  ((qAx (qFq N) M (l,ts,(i:Int),pr,b)).bind fun out1=>(match out1 with| .inl o1=>(qCj N (o1.2.1,o1.2.2.1,o1.2.2.2.1,o1.2.2.2.2) (⟨#[41]⟩:ByteArray)).bind fun y12=>(match y12 with| .inl z5=>some (.inl z5)| .inr y13=>some (.inr ((y13.1,y13.2.1,y13.2.2.1,y13.2.2.2),o1.1)))| .inr (z)=>some z))=some (Sum.map id (fun a:Nat×List ByteArray=>((ts,(a.1:Int),pr,b),a.2)) (qQs ts n l i))
 |0,M,l,i,hi,_,h,_=>by omega
 |n+1,0,l,i,hi,_,_,h=>by omega
 |n+1,M+1,l,i,hi,hll,hn,hM=>by
  simp only[qAx,qFq,qQs,zBh hi hl,j0]
  cases hx:qNu ts i with
  |inl z=>rfl
  |inr x=>
   obtain⟨rfl,g1,-⟩:=qMl hok hi hx
   simp only[jZ,qCf,qCo,j0]
   by_cases k1:l.length=8
   ·rw[if_pos (show((l.length:Int)==8)=true by simp;omega),if_pos k1];rfl
   rw[if_neg (show ¬((l.length:Int)==8)=true by simp;omega),if_neg k1]
   simp only[j0,qYn (N:=N) (l:=l) (s:=(tkAt ts i).2.1) (by omega) (by omega)]
   by_cases k2:(tkAt ts i).2.1∈l
   ·rw[if_pos (jM k2),if_pos k2];rfl
   rw[if_neg (show ¬decide ((tkAt ts i).2.1∈l)=true by simpa using k2),if_neg k2]
   simp only[j0]
   rw[qCa (by simp only[jC,jD];omega) (by omega)]
   simp only[j0,qQv g1 hl,qOy]
   rcases qEf (isC ts 4 ⟨#[44]⟩ (i+1)) with hc|hc
   ·have g:=qFf hok g1 (by decide) hc
    simp only[hc,jH,k7,jA,jE,j0]
    exact qYg hok hl hN n M _ (i+1+1) g (by simp only[jL,jC,jD];omega) (by omega) (by omega)
   ·simp only[hc,jA,jE,jW,jH,j0,qOq g1 hl,qJb]
    cases qFe ts ⟨#[41]⟩ (i+1)<;>rfl
theorem zBy(hok:OkT ts)(hl:ts.length<1000000)(hN:1000000<N){i:Nat}(hi:i<ts.length):
  qFd N (ts,(i:Int),pr,b)=some (Sum.map id (fun a:Nat×List ByteArray=>((ts,(a.1:Int),pr,b),a.2)) (qIw ts i)):=by
 simp only[qFd,qOq hi hl,j0,qIw,qQy]
 cases h:qFe ts ⟨#[40]⟩ i with
 |inl z=>rfl
 |inr j=>
  obtain⟨rfl,g,-⟩:=qFg hok hi h
  simp only[jZ,qCf,qQv g hl,j0,qJb]
  rcases qEf (isC ts 4 ⟨#[41]⟩ (i+1)) with hc|hc
  ·simp only[hc,jH];rfl
  ·simp only[hc,jA,jE]
   exact qYg hok hl hN (ts.length+1) N [] (i+1) g (by simp) (by omega) (by omega)
def zGn:List (ByteArray×Int):=[(⟨#[102,117,110,99]⟩,1),(⟨#[103,101,110]⟩,3),(⟨#[116,101,115,116]⟩,2)]
theorem zMv:((qMc (some []:Option (List (ByteArray×Int))) (⟨#[102,117,110,99]⟩:ByteArray) 1).bind fun mp1=>(qMc mp1 (⟨#[116,101,115,116]⟩:ByteArray) 2).bind fun mp2=>qMc mp2 (⟨#[103,101,110]⟩:ByteArray) 3)=some (some zGn):=by kernel_rfl
theorem zHn(s:ByteArray):((qBe (some zGn) s).getD 0)=qOb s:=by
 simp only[qBe,zGn,j0,mget,qOb,zKc,zKl,sGen]
 by_cases h1:s=⟨#[102,117,110,99]⟩
 ·simp[h1]
 by_cases h2:s=⟨#[116,101,115,116]⟩
 ·subst h2;rfl
 by_cases h3:s=⟨#[103,101,110]⟩
 ·subst h3;rfl
 simp[h1,h2,h3]
theorem qZv{before:List Dl}{y1:StT×Tok}{o4:List Tok×Int×List ByteArray×List Ex×Int×ByteArray×Int×Int}(hl:before.length≤64):∀(d i M:Nat),i+d=before.length→d<M→
  ((qAx (qGq N before (some zGn) y1 o4) M (i:Int)).bind fun out1=>(match out1 with| .inl o6=>some (-1)| .inr (z)=>some z):Option Int)=some (match(before.drop i).findIdx? (fun d=>d.1==qOb y1.2.2.1&&decide (d.2.1=o4.2.2.2.2.2.1)) with|some j=>((i+j:Nat):Int)|none=> -1)
 |d,i,0,_,h=>by omega
 |0,i,M+1,h,_=>by
  have:before.drop i=[]:=jN (by omega)
  simp only[qAx,qGq,this,List.findIdx?_nil]
  rw[if_neg (by simp only[jB];omega)]
  rfl
 |d+1,i,M+1,h,hM=>by
  have hi:i<before.length:=by omega
  have ih:=qZv (y1:=y1) (o4:=o4) hl d (i+1) M (by omega) (by omega)
  simp only[qAx,qGq]
  rw[if_pos (by simp only[jB];omega),qEc hi,jI hi,List.findIdx?_cons]
  simp only[j0,qEg,zHn]
  by_cases k1:(before[i].1==qOb y1.2.2.1)=true
  ·by_cases k2:before[i].2.1=o4.2.2.2.2.2.1
   ·simp[k1,k2]
   ·simp only[k1,k2,jH,decide_false,j0,jA,jE,qLp (show i<1000000 by omega),Bool.and_false]
    rw[ih]
    cases(before.drop (i+1)).findIdx? (fun d=>d.1==qOb y1.2.2.1&&decide (d.2.1=o4.2.2.2.2.2.1)) with
    |none=>rfl
    |some j=>simp only[kD];rw[show i+1+j=i+(j+1) by omega]
  ·simp only[k1,jA,jE,j0,qLp (show i<1000000 by omega),Bool.false_and]
   rw[ih]
   cases(before.drop (i+1)).findIdx? (fun d=>d.1==qOb y1.2.2.1&&decide (d.2.1=o4.2.2.2.2.2.1)) with
   |none=>rfl
   |some j=>simp only[kD];rw[show i+1+j=i+(j+1) by omega]
theorem qUo(h:OkT ts){before:List Dl}{i:Nat}{a:Nat×Dl}(hi:i<ts.length)(h1:qSa ts before i= .inr a):i<a.1∧a.1<ts.length∧before.length≠64:=by
 unfold qSa at h1
 dsimp only at h1
 split at h1
 ·cases h1
 rename_i k1
 split at h1
 ·cases h1
 rename_i k2
 have g:=h.next hi (show(tkAt ts i).1≠5 by intro e;apply k1;left;rw[e];decide)
 obtain⟨x,hx,h2⟩:=qDc h1
 have gx:x.1=i+1+1∧x.1<ts.length:=by
  split at hx
  ·obtain⟨rfl,g1,-⟩:=qNa h g hx;exact⟨rfl,g1⟩
  ·obtain⟨rfl,g1,-⟩:=qMl h g hx;exact⟨rfl,g1⟩
 split at h2
 ·cases h2
 obtain⟨y,hy,h3⟩:=qDc h2
 have gy:x.1≤y.1∧y.1<ts.length:=by
  split at hy
  ·obtain⟨g1,g2,-⟩:=qSx h gx.2 hy;exact⟨by omega,g2⟩
  ·obtain rfl:=Sum.inr.inj hy;exact⟨jV _,gx.2⟩
 obtain⟨j,hj,h4⟩:=qDc h3
 obtain⟨rfl,g3,-⟩:=qFg h gy.2 hj
 obtain⟨c,hc,h5⟩:=qDc h4
 obtain⟨⟨f1,f2,f3,f4⟩,-⟩:=qNe h 32 (y.1+1,[]) c.1 c.2 g3 (by simp) hc
 obtain⟨m,hm,h6⟩:=qDc h5
 obtain⟨rfl,g4,-⟩:=qFg h f2 hm
 obtain rfl:=Sum.inr.inj h6
 exact⟨by simp only at f1 ⊢;omega,g4,k2⟩
theorem zOj{before:List Dl}{f:Dl→Bool}:(decide ((match before.findIdx? f with|some j=>((0+j:Nat):Int)|none=> -1)≥0))=before.any f:=by
 have:=List.findIdx?_isSome (xs:=before) (p:=f)
 rw[←this]
 cases before.findIdx? f with
 |none=>rfl
 |some j=>simp only[Option.isSome_some];exact jM (by omega)
end
end
section
open Go Go.Dc
section
variable {N:Nat} {ts:List Tok} {pr:List ByteArray} {b:List Ex}
theorem zOt(hok:OkT ts)(hl:ts.length<1000000)(hN:1000001<N)(ht:∀j,(tkAt ts j).2.1.size<100000){before:List Dl}(hb:before.length≤64){i:Nat}(hi:i<ts.length):
  qKa N (ts,(i:Int),pr,b) before=some (Sum.map id (fun a:Nat×Dl=>((ts,(a.1:Int),a.2.2.2.1,a.2.2.2.2),a.2)) (qSa ts before i)):=by
 have hw:=qLp (show i<1000000 by omega)
 unfold qKa
 obtain⟨mp1,hm1,hm⟩:=jJ.1 zMv
 obtain⟨mp2,hm2,hm3⟩:=jJ.1 hm
 rw[hm1];simp only[j0]
 rw[hm2];simp only[j0]
 rw[hm3];simp only[j0,qMo hi,zHn,qCo,qSa]
 by_cases k1:(tkAt ts i).1≠1∨qOb (tkAt ts i).2.1=0
 ·rw[if_pos k1]
  have:((if((tkAt ts i).1 !=1)=true then some true else some (qOb (tkAt ts i).2.1==0)):Option Bool)=some true:=by
   rcases k1 with h|h
   ·simp[h]
   ·simp[h]
  rw[this];rfl
 rw[if_neg k1]
 have k1a:(tkAt ts i).1=1:=by
  apply Decidable.byContradiction
  intro h;exact k1 (.inl h)
 have k1b:¬qOb (tkAt ts i).2.1=0:=fun h=>k1 (.inr h)
 have:((if((tkAt ts i).1 !=1)=true then some true else some (qOb (tkAt ts i).2.1==0)):Option Bool)=some false:=by simp[k1a,k1b]
 rw[this]
 simp only[j0,jA,jE]
 by_cases k2:before.length=64
 ·rw[if_pos (show((before.length:Int)==64)=true by simp;omega),if_pos k2];rfl
 rw[if_neg (show ¬((before.length:Int)==64)=true by simp;omega),if_neg k2]
 have g:=hok.next hi (show(tkAt ts i).1≠5 by rw[k1a];decide)
 simp only[j0,hw]
 have hx:(if(qOb (tkAt ts i).2.1==3)=true then((qEv N (ts,((i+1:Nat):Int),pr,b)).bind fun y6=>(match y6 with| .inl z3=>some (.inr (.inl z3))| .inr y7=>some (.inl (y7.1.1,y7.1.2.1,y7.1.2.2.1,y7.1.2.2.2,y7.2.1,y7.2.2.1,y7.2.2.2.1,y7.2.2.2.2)))) else((qFa N (ts,((i+1:Nat):Int),pr,b)).bind fun y8=>(match y8 with| .inl z4=>some (.inr (.inl z4))| .inr y9=>some (.inl (y9.1.1,y9.1.2.1,y9.1.2.2.1,y9.1.2.2.2,y9.2.1,y9.2.2.1,y9.2.2.2.1,y9.2.2.2.2)))):Option ((List Tok×Int×List ByteArray×List Ex×Int×ByteArray×Int×Int)⊕(Flt⊕(StT×Dl))))=
   some (match(if qOb (tkAt ts i).2.1=3 then qPw ts (i+1) else qNu ts (i+1)) with| .inl z=> .inr (.inl z)| .inr a=> .inl (ts,(a.1:Int),pr,b,a.2.1,a.2.2.1,a.2.2.2.1,a.2.2.2.2)):=by
  by_cases k3:qOb (tkAt ts i).2.1=3
  ·rw[if_pos (show(qOb (tkAt ts i).2.1==3)=true by simpa using k3),if_pos k3,zBf g hl (by omega) ht]
   cases qPw ts (i+1)<;>rfl
  ·rw[if_neg (show ¬(qOb (tkAt ts i).2.1==3)=true by simpa using k3),if_neg k3,zBh g hl]
   cases qNu ts (i+1)<;>rfl
 refine Eq.trans (congrArg (fun z=>Option.bind z _) hx) ?_
 simp only[j0]
 cases hX:(if qOb (tkAt ts i).2.1=3 then qPw ts (i+1) else qNu ts (i+1)) with
 |inl z=>rfl
 |inr x=>
  have gx:x.1=i+1+1∧x.1<ts.length:=by
   split at hX
   ·obtain⟨rfl,g1,-⟩:=qNa hok g hX;exact⟨rfl,g1⟩
   ·obtain⟨rfl,g1,-⟩:=qMl hok g hX;exact⟨rfl,g1⟩
  simp only[qCf]
  have hT:=qZv (N:=N) (before:=before) (y1:=((ts,(i:Int),pr,b),tkAt ts i)) (o4:=(ts,(x.1:Int),pr,b,x.2.1,x.2.2.1,x.2.2.2.1,x.2.2.2.2)) hb before.length 0 N (by omega) (by omega)
  simp only[jX] at hT
  refine Eq.trans (congrArg (fun z=>Option.bind z _) hT) ?_
  simp only[j0,zOj]
  rcases qEf (before.any fun d=>d.1==qOb (tkAt ts i).2.1&&decide (d.2.1=x.2.2.1)) with k4|k4
  ·simp only[k4,jH];rfl
  simp only[k4,jA,jE,j0]
  have hp:(if(qOb (tkAt ts i).2.1==1)=true then((qFd N (ts,(x.1:Int),pr,b)).bind fun y12=>(match y12 with| .inl z6=>some (.inr (.inl z6))| .inr y13=>some (.inl (y13.2,y13.1.1,y13.1.2.1,y13.1.2.2.1,y13.1.2.2.2)))) else(some (.inl (([]:List (ByteArray)),ts,(x.1:Int),pr,b))):Option ((List ByteArray×StT)⊕(Flt⊕(StT×Dl))))=
    some (match(if qOb (tkAt ts i).2.1=1 then qIw ts x.1 else .inr (x.1,[])) with| .inl z=> .inr (.inl z)| .inr a=> .inl (a.2,ts,(a.1:Int),pr,b)):=by
   by_cases k5:qOb (tkAt ts i).2.1=1
   ·rw[if_pos (show(qOb (tkAt ts i).2.1==1)=true by simpa using k5),if_pos k5,zBy hok hl (by omega) gx.2]
    cases qIw ts x.1<;>rfl
   ·rw[if_neg (show ¬(qOb (tkAt ts i).2.1==1)=true by simpa using k5),if_neg k5]
  refine Eq.trans (congrArg (fun z=>Option.bind z _) hp) ?_
  simp only[j0]
  cases hY:(if qOb (tkAt ts i).2.1=1 then qIw ts x.1 else .inr (x.1,[]):Flt⊕(Nat×List ByteArray)) with
  |inl z=>rfl
  |inr y=>
   have gy:x.1≤y.1∧y.1<ts.length∧y.2.length≤8:=by
    split at hY
    ·obtain⟨g1,g2,g3⟩:=qSx hok gx.2 hY;exact⟨by omega,g2,g3⟩
    ·obtain rfl:=Sum.inr.inj hY;exact⟨jV _,gx.2,by simp⟩
   simp only[qOq gy.2.1 hl,j0,sEq]
   cases hj:qFe ts ⟨#[61]⟩ y.1 with
   |inl z=>rfl
   |inr j=>
    obtain⟨rfl,g3,-⟩:=qFg hok gy.2.1 hj
    have he:=zOv (N:=N) (pr:=y.2) hok hl (by omega) hN ht (y.1+1,[]) g3 (by simp)
    simp only at he
    simp only[jZ,he,j0]
    cases hc:qHp ts y.2 32 (y.1+1,[]) with
    |inl z=>rfl
    |inr c=>
     obtain⟨⟨f1,f2,f3,f4⟩,-⟩:=qNe hok 32 (y.1+1,[]) c.1 c.2 g3 (by simp) hc
     simp only[outP,jZ,stP,qOq f2 hl,j0,qVi]
     cases qFe ts ⟨#[59]⟩ c.1.1<;>rfl
theorem qWu(hok:OkT ts)(hl:ts.length<1000000)(hN:1000000<N){y4:StT×Tok}:∀(n M:Nat) (l:List ByteArray) (i:Nat),i<ts.length→l.length≤8→ts.length<i+n→ts.length<i+M→
  qAx (qIj N y4) M (ts,(i:Int),pr,b,l)=some (match qLq ts y4.2.2.1 n l i with| .inl z=> .inr (.inl z)| .inr a=> .inl (ts,(a.1:Int),pr,b,a.2))
 |0,M,l,i,hi,_,h,_=>by omega
 |n+1,0,l,i,hi,_,_,h=>by omega
 |n+1,M+1,l,i,hi,hll,hn,hM=>by
  have hw:=qLp (show i<1000000 by omega)
  simp only[qAx,qIj,qLq,zIu hi,j0,qUd]
  rcases qEf (isC ts 1 ⟨#[105,109,112,111,114,116]⟩ i) with k1|k1
  rotate_left
  ·simp only[k1,jA,jE,j0]
  have g:=qFf hok hi (by decide) k1
  simp only[k1,jH]
  by_cases k2:l.length=8
  ·rw[if_pos (show((l.length:Int)==8)=true by simp;omega),if_pos k2]
   simp only[qMo hi,j0,qCo];rfl
  rw[if_neg (show ¬((l.length:Int)==8)=true by simp;omega),if_neg k2]
  simp only[j0,hw,zBh g hl]
  cases hx:qNu ts (i+1) with
  |inl z=>rfl
  |inr x=>
   obtain⟨rfl,g1,-⟩:=qMl hok g hx
   simp only[jZ,qCf,qCo,j0,qEg,qYn (N:=N) (l:=l) (s:=(tkAt ts (i+1)).2.1) (by omega) (by omega)]
   by_cases k3:(tkAt ts (i+1)).2.1=y4.2.2.1∨(tkAt ts (i+1)).2.1∈l
   ·rw[if_pos k3]
    have:((if decide ((tkAt ts (i+1)).2.1=y4.2.2.1)=true then some true else some (decide ((tkAt ts (i+1)).2.1∈l))):Option Bool)=some true:=by
     rcases k3 with h|h
     ·rw[if_pos (jM h)]
     ·rw[jM h];split<;>rfl
    rw[this];rfl
   rw[if_neg k3]
   have:((if decide ((tkAt ts (i+1)).2.1=y4.2.2.1)=true then some true else some (decide ((tkAt ts (i+1)).2.1∈l))):Option Bool)=some false:=by
    rw[if_neg (by simp only[jB];exact fun h=>k3 (.inl h)),jQ (fun h=>k3 (.inr h))]
   rw[this]
   simp only[j0,jA,jE]
   rw[qCa (by simp only[jC,jD];omega) (by omega)]
   simp only[j0,qOq g1 hl,qVi]
   cases hj:qFe ts ⟨#[59]⟩ (i+1+1) with
   |inl z=>rfl
   |inr j=>
    obtain⟨rfl,g2,-⟩:=qFg hok g1 hj
    exact qWu hok hl hN n M _ (i+1+1+1) g2 (by simp only[jL,jC,jD];omega) (by omega) (by omega)
theorem qQg(h:OkT ts){pkg:ByteArray}:∀(n:Nat) (l:List ByteArray) (i:Nat) (a:Nat×List ByteArray),i<ts.length→l.length≤8→qLq ts pkg n l i= .inr a→i≤a.1∧a.1<ts.length∧a.2.length≤8
 |0,_,_,_,_,_,h1=>by cases h1
 |n+1,l,i,a,hi,hl,h1=>by
  unfold qLq at h1
  split at h1
  ·rename_i k
   have g:=qFf h hi (by decide) k
   split at h1
   ·cases h1
   rename_i k2
   obtain⟨x,hx,h2⟩:=qDc h1
   obtain⟨rfl,g1,-⟩:=qMl h g hx
   split at h2
   ·cases h2
   obtain⟨j,hj,h3⟩:=qDc h2
   obtain⟨rfl,g2,-⟩:=qFg h g1 hj
   obtain⟨j1,j2,j3⟩:=qQg h n _ _ a g2 (by simp only[jL,jC,jD];omega) h3
   exact⟨by omega,j2,j3⟩
  ·obtain rfl:=Sum.inr.inj h1
   exact⟨jV _,hi,hl⟩
theorem qZp(hok:OkT ts)(hl:ts.length<1000000)(hN:1000001<N)(ht:∀j,(tkAt ts j).2.1.size<100000):∀(n M:Nat) (l:List Dl) (i:Nat) (pr:List ByteArray) (b:List Ex),i<ts.length→l.length≤64→ts.length<i+n→ts.length<i+M→
  match qUb ts n l i with
  | .inl z=>qAx (qEj N) M (ts,(i:Int),pr,b,l)=some (.inr (.inl z))
  | .inr a=>∃i' pr' b',qAx (qEj N) M (ts,(i:Int),pr,b,l)=some (.inl (ts,i',pr',b',a))
 |0,M,l,i,_,_,hi,_,h,_=>by omega
 |n+1,0,l,i,_,_,hi,_,_,h=>by omega
 |n+1,M+1,l,i,pr,b,hi,hll,hn,hM=>by
  have e1:qAx (qEj N) (M+1) (ts,(i:Int),pr,b,l)=(if(tkAt ts i).1=5 then some (.inl (ts,(i:Int),pr,b,l)) else
    match qSa ts l i with
    | .inl z=>some (.inr (.inl z))
    | .inr a=>qAx (qEj N) M (ts,(a.1:Int),a.2.2.2.1,a.2.2.2.2,l++[a.2])):=by
   simp only[qAx,qEj,qMo hi,j0,zOt hok hl hN ht hll hi]
   by_cases k1:(tkAt ts i).1=5
   ·rw[if_neg (show ¬((tkAt ts i).1 !=5)=true by simpa using k1),if_pos k1];rfl
   ·rw[if_pos (show((tkAt ts i).1 !=5)=true by simpa using k1),if_neg k1]
    cases hd:qSa ts l i with
    |inl z=>rfl
    |inr a=>
     obtain⟨g1,g2,g3⟩:=qUo hok hi hd
     simp only[jZ]
     rw[qCa (by simp only[jC,jD];omega) (by omega)]
     rfl
  rw[e1]
  simp only[qUb]
  by_cases k1:(tkAt ts i).1=5
  ·simp only[if_pos k1];exact⟨_,_,_,rfl⟩
  ·simp only[if_neg k1]
   cases hd:qSa ts l i with
   |inl z=>rfl
   |inr a=>
    obtain⟨g1,g2,g3⟩:=qUo hok hi hd
    exact qZp hok hl hN ht n M (l++[a.2]) a.1 _ _ g2 (by simp only[jL,jC,jD];omega) (by omega) (by omega)
theorem zOc(hok:OkT ts)(hl:ts.length<1000000)(hN:1000001<N)(ht:∀j,(tkAt ts j).2.1.size<100000):
  match zBr ts with
  | .inl z=>qIs N (ts,0,pr,b)=some (.inl z)
  | .inr f=>∃i' pr' b',qIs N (ts,0,pr,b)=some (.inr ((ts,i',pr',b'),f)):=by
 have h0:0<ts.length:=gL.2 hok.1
 simp only[qIs,zBr]
 rw[show(0:Int)=((0:Nat):Int) from rfl]
 simp only[zFi h0 hl,j0,qUr]
 cases h1:qVy ts ⟨#[112,97,99,107,97,103,101]⟩ 0 with
 |inl z=>rfl
 |inr i=>
  obtain⟨rfl,g1,-⟩:=qTk hok h0 h1
  simp only[jZ,qCf,zBh g1 hl,j0]
  cases h2:qNu ts (0+1) with
  |inl z=>rfl
  |inr x=>
   obtain⟨rfl,g2,-⟩:=qMl hok g1 h2
   simp only[jZ,qOq g2 hl,j0,qVi]
   cases h3:qFe ts ⟨#[59]⟩ (0+1+1) with
   |inl z=>rfl
   |inr j=>
    obtain⟨rfl,g3,-⟩:=qFg hok g2 h3
    simp only[jZ,qWu hok hl (by omega:1000000<N) (ts.length+1) N [] (0+1+1+1) g3 (by simp) (by omega) (by omega),j0]
    cases h4:qLq ts (tkAt ts (0+1)).2.1 (ts.length+1) [] (0+1+1+1) with
    |inl z=>rfl
    |inr y=>
     obtain⟨k1,k2,k3⟩:=qQg hok _ _ _ y g3 (by simp) h4
     have hd:=qZp (N:=N) hok hl hN ht (ts.length+1) N [] y.1 pr b k2 (by simp) (by omega) (by omega)
     simp only[]
     cases h5:qUb ts (ts.length+1) [] y.1 with
     |inl z=>
      rw[h5] at hd
      simp only[hd,j0]
     |inr l=>
      rw[h5] at hd
      obtain⟨i',pr',b',hd⟩:=hd
      refine⟨i',pr',b',?_⟩
      simp only[hd,j0]
end
theorem zHm{s:ByteArray}:∀(l:List Tok) (e:Int),0≤e→zOq s e l→∀i,i<l.length→((tkAt l i).1=5↔i+1=l.length)∧((tkAt l i).2.1.size:Int)≤s.size∧0≤(tkAt l i).2.2.2
 |[],_,_,_,i,hi=>by simp at hi
 |t::r,e,he,h,i,hi=>by
  obtain⟨h1,h2,h3,h4,h5⟩:=h
  have hend:0≤endT t:=by unfold endT;split<;>omega
  cases i with
  |zero=>
   refine⟨?_,?_,?_⟩
   ·show t.1=5↔0+1=r.length+1
    rw[h3,←fF];omega
   ·show((t.2.1.size:Nat):Int)≤s.size
    omega
   ·show 0≤t.2.2.2
    omega
  |succ i=>
   have:=zHm r _ hend h5 i (by simpa using hi)
   have e:tkAt (t::r) (i+1)=tkAt r i:=by simp[tkAt]
   rw[e,jC]
   exact⟨⟨fun h=>by have:=this.1.1 h;omega,fun h=>this.1.2 (by omega)⟩,this.2⟩
theorem qWc{s:ByteArray}(h:(qHy s).2.2=0):OkT (qHy s).1∧(qHy s).1.length≤16385∧∀j,(tkAt (qHy s).1 j).2.1.size<100000:=by
 unfold qHy at h ⊢
 split at h
 ·simp at h
 rename_i hs
 rw[if_neg hs]
 cases hG:tokG (s.data.toList.length+1) s 0 with
 |inl x=>
  obtain⟨_,_,h3⟩:=zBc _ 0 x (by omega) (by omega) hG
  rw[hG] at h
  exact absurd h h3
 |inr r=>
  obtain⟨g1,g2,g3⟩:=qVz _ 0 0 r (by omega) (by omega) (by omega) hG
  simp only[zBv,kG]
  have hc:=zHm r 0 (by omega) g1
  refine⟨⟨g2,fun i hi=>(hc i hi).1⟩,by omega,fun j=> ?_⟩
  rcases fC j r.length with hj|hj
  ·have:=(hc j hj).2.1
   have hs2:=qCl s
   omega
  ·have e:tkAt r j=(5,⟨#[]⟩,0,0):=by simp[tkAt,kK,List.getElem?_eq_none hj]
   rw[e];decide
theorem zLv{N:Nat}(s:ByteArray)(hN:1000001<N):qOj N s=some (qKw s):=by
 simp only[qOj,zJw (N:=N) (by omega),j0,qKw]
 by_cases h:(qHy s).2.2=0
 ·rw[if_neg (show ¬((qHy s).2.2 !=0)=true by simpa using h),if_neg (show ¬(qHy s).2.2≠0 by simpa using h)]
  obtain⟨h1,h2,h3⟩:=qWc h
  have hf:=zOc (N:=N) (pr:=[]) (b:=[]) h1 (by omega) hN h3
  cases hF:zBr (qHy s).1 with
  |inl z=>
   rw[hF] at hf
   simp only[hf,j0];rfl
  |inr f=>
   rw[hF] at hf
   obtain⟨i',pr',b',hf⟩:=hf
   simp only[hf,j0]
 ·rw[if_pos (show((qHy s).2.2 !=0)=true by simpa using h),if_pos h];rfl
end
section
open Go Go.Dc
abbrev RT:=List Tok×Int×Int×Int×List ByteArray×List Ex×List Int
def gR(ts:List Tok)(pr:List ByteArray)(p:Ps):RT:=(ts,(p.1:Int),0,0,pr,p.2,[])
def bR(ts:List Tok)(z:Flt)(i:Nat)(pr:List ByteArray)(b:List Ex):RT:=(ts,(i:Int),z.1,z.2,pr,b,[])
section
variable {N:Nat} {ts:List Tok} {pr:List ByteArray} {b:List Ex} {i:Nat} {z:Flt}
theorem rnow{st:Int×Int×List ByteArray×List Ex×List Int}(hi:i<ts.length):qAk N (ts,(i:Int),st.1,st.2.1,st.2.2.1,st.2.2.2.1,st.2.2.2.2)=some ((ts,(i:Int),st.1,st.2.1,st.2.2.1,st.2.2.2.1,st.2.2.2.2),tkAt ts i):=by
 simp only[qAk,zNl hi,j0]
theorem qKj(p:Ps)(hi:p.1<ts.length):qAk N (gR ts pr p)=some (gR ts pr p,tkAt ts p.1):=rnow (st:=(0,0,pr,p.2,[])) hi
theorem qQe(hi:i<ts.length):qAk N (bR ts z i pr b)=some (bR ts z i pr b,tkAt ts i):=rnow (st:=(z.1,z.2,pr,b,[])) hi
theorem qMq(p:Ps)(hi:p.1<ts.length)(hl:ts.length<1000000)(s:ByteArray):qBs N (gR ts pr p) s=some (if isC ts 1 s p.1 then(gR ts pr (p.1+1,p.2),true) else(gR ts pr p,false)):=by
 have h0:qAk N (ts,(p.1:Int),0,0,pr,p.2,[])=some ((ts,(p.1:Int),0,0,pr,p.2,[]),tkAt ts p.1):=qKj p hi
 simp only[qBs,gR,h0,j0,qEg,isC,kX,jH]
 by_cases h1:(tkAt ts p.1).1=1<;>by_cases h2:(tkAt ts p.1).2.1=s<;>simp[h1,h2,qLp (show p.1<1000000 by omega)]
theorem zGb(hz:z.2≠0)(s:ByteArray):qBs N (bR ts z i pr b) s=some (bR ts z i pr b,false):=by
 simp[qBs,bR,hz]
theorem qLn(p:Ps)(hi:p.1<ts.length)(hl:ts.length<1000000)(s:ByteArray):qBt N (gR ts pr p) s=some (if isC ts 4 s p.1 then(gR ts pr (p.1+1,p.2),true) else(gR ts pr p,false)):=by
 have h0:qAk N (ts,(p.1:Int),0,0,pr,p.2,[])=some ((ts,(p.1:Int),0,0,pr,p.2,[]),tkAt ts p.1):=qKj p hi
 simp only[qBt,gR,h0,j0,qEg,isC,kX,jH]
 by_cases h1:(tkAt ts p.1).1=4<;>by_cases h2:(tkAt ts p.1).2.1=s<;>simp[h1,h2,qLp (show p.1<1000000 by omega)]
theorem zBq(hz:z.2≠0)(s:ByteArray):qBt N (bR ts z i pr b) s=some (bR ts z i pr b,false):=by
 simp[qBt,bR,hz]
theorem qLa(p:Ps)(a e:Int):qAm N (gR ts pr p) a e=some (bR ts (a,e) p.1 pr p.2):=by
 simp[qAm,gR,bR]
theorem qOd(hz:z.2≠0)(a e:Int):qAm N (bR ts z i pr b) a e=some (bR ts z i pr b):=by
 simp[qAm,bR,hz]
theorem qNz(p:Ps)(hi:p.1<ts.length)(hl:ts.length<1000000)(s:ByteArray):qAi N (gR ts pr p) s=some (match qFe ts s p.1 with| .inl z=>bR ts z p.1 pr p.2| .inr j=>gR ts pr (j,p.2)):=by
 have h1:=qLn (N:=N) (pr:=pr) p hi hl s
 have h2:=qKj (N:=N) (pr:=pr) p hi
 have h3:=qLa (N:=N) (ts:=ts) (pr:=pr) p (tkAt ts p.1).2.2.2 9
 simp only[gR] at h1 h2 h3
 simp only[qAi,gR,h1,j0,qFe]
 rcases qEf (isC ts 4 s p.1) with h|h
 ·simp only[h,jH,k7,jA,jE]
 ·simp only[h,jH,jW,jA,jE,h2,j0,h3,qGy]
theorem qNh(hz:z.2≠0)(hi:i<ts.length)(s:ByteArray):qAi N (bR ts z i pr b) s=some (bR ts z i pr b):=by
 have h1:=zBq (N:=N) (ts:=ts) (i:=i) (pr:=pr) (b:=b) hz s
 have h2:=qQe (N:=N) (ts:=ts) (i:=i) (pr:=pr) (b:=b) (z:=z) hi
 have h3:=qOd (N:=N) (ts:=ts) (i:=i) (pr:=pr) (b:=b) hz (tkAt ts i).2.2.2 9
 simp only[bR] at h1 h2 h3
 simp only[qAi,bR,h1,j0,jW,jH,h2,h3]
theorem zEu{s:ByteArray}:∀(d k M:Nat),k+d=wordsR.length→d<M→qAx (qEb N s) M (k:Int)=some (if s∈wordsR.drop k then .inr true else .inl ())
 |d,k,0,_,h=>by omega
 |0,k,M+1,h,_=>by
  have:wordsR.drop k=[]:=jN (by omega)
  simp only[qAx,qEb,this]
  rw[if_neg (by simp only[jB];have:wordsR.length=13:=rfl;simp only[jC,jD];omega)]
  rfl
 |d+1,k,M+1,h,hM=>by
  have hk:k<wordsR.length:=by omega
  have ih:=zEu (s:=s) d (k+1) M (by omega) (by omega)
  simp only[qAx]
  have e:qEb N s (k:Int)=some (if s=wordsR[k] then .inr (.inr true) else .inl (((k+1:Nat):Int))):=by
   have h13:wordsR.length=13:=rfl
   have hx:idx ([(⟨#[112,97,99,107,97,103,101]⟩:ByteArray),(⟨#[105,109,112,111,114,116]⟩:ByteArray),(⟨#[102,117,110,99]⟩:ByteArray),(⟨#[116,101,115,116]⟩:ByteArray),(⟨#[103,101,110]⟩:ByteArray),(⟨#[105,102]⟩:ByteArray),(⟨#[116,104,101,110]⟩:ByteArray),(⟨#[101,108,115,101]⟩:ByteArray),(⟨#[114,101,97,100]⟩:ByteArray),(⟨#[115,105,122,101]⟩:ByteArray),(⟨#[104,97,115]⟩:ByteArray),(⟨#[101,110,118]⟩:ByteArray),(⟨#[102,108,105,112]⟩:ByteArray)]) (k:Int)=some wordsR[k]:=qEc (l:=wordsR) hk
   simp only[qEb]
   rw[if_pos (by simp only[jB,jC,jD];omega),hx]
   simp only[j0,qEg,jB,qLp (show k<1000000 by omega)]
   split<;>rfl
  rw[e,jI hk]
  simp only[j0,jO]
  by_cases hs:s=wordsR[k]
  ·rw[if_pos hs,if_pos (.inl hs)]
  ·rw[if_neg hs]
   simp only[ih]
   by_cases h2:s∈wordsR.drop (k+1)
   ·rw[if_pos h2,if_pos (.inr h2)]
   ·rw[if_neg h2,if_neg (fun h=>h.elim hs h2)]
theorem rres(hN:100<N)(s:ByteArray):qHr N s=some (resC s):=by
 have h:=zEu (N:=N) (s:=s) 13 0 N rfl (by omega)
 simp only[jX] at h
 simp only[qHr]
 rw[show(0:Int)=((0:Nat):Int) from rfl,h]
 simp only[resC,j0]
 by_cases h2:s∈wordsR
 ·rw[if_pos h2,jM h2]
 ·rw[if_neg h2,jQ h2]
theorem qVn(p:Ps)(hi:p.1<ts.length)(hl:ts.length<1000000)(hN:100<N):qBj N (gR ts pr p)=some (match qNu ts p.1 with| .inl z=>(bR ts z p.1 pr p.2,⟨#[]⟩)| .inr a=>(gR ts pr (a.1,p.2),a.2.2.1)):=by
 have h2:=qKj (N:=N) (pr:=pr) p hi
 have h3:=qLa (N:=N) (ts:=ts) (pr:=pr) p (tkAt ts p.1).2.2.2 9
 simp only[gR] at h2 h3
 simp only[qBj,gR,h2,j0,rres hN,qNu,qNv,gW,jA,jE]
 by_cases k1:(tkAt ts p.1).1=1
 ·have k1':((tkAt ts p.1).1 !=1)=false:=by simp[k1]
  simp only[k1',jA,jE,j0,if_pos k1,qCf]
  rcases qEf (resC (tkAt ts p.1).2.1) with k2|k2
  ·simp only[k2,jH,h3,j0,qGy]
  ·simp only[k2,jA,jE,qLp (show p.1<1000000 by omega)]
 ·have k1':((tkAt ts p.1).1 !=1)=true:=by simp[k1]
  simp only[k1',jH,j0,if_neg k1,qCf,h3,qGy]
theorem zBu(hz:z.2≠0)(hi:i<ts.length):qBj N (bR ts z i pr b)=some (bR ts z i pr b,⟨#[]⟩):=by
 have h2:=qQe (N:=N) (ts:=ts) (i:=i) (pr:=pr) (b:=b) (z:=z) hi
 have h3:=qOd (N:=N) (ts:=ts) (i:=i) (pr:=pr) (b:=b) hz (tkAt ts i).2.2.2 9
 have hz':(z.2 !=0)=true:=by simpa using hz
 simp only[bR] at h2 h3
 simp only[qBj,bR,h2,j0,hz',jH,h3]
theorem qZh(p:Ps)(hi:p.1<ts.length)(hl:ts.length<1000000):qCs N (gR ts pr p)=some (match qNv ts 2 p.1 with| .inl z=>(bR ts z p.1 pr p.2,0)| .inr a=>(gR ts pr (a.1,p.2),a.2.2.2.1)):=by
 have h2:=qKj (N:=N) (pr:=pr) p hi
 have h3:=qLa (N:=N) (ts:=ts) (pr:=pr) p (tkAt ts p.1).2.2.2 9
 simp only[gR] at h2 h3
 simp only[qCs,gR,h2,j0,qNv,gW,jA,jE]
 by_cases k1:(tkAt ts p.1).1=2
 ·have k1':((tkAt ts p.1).1 !=2)=false:=by simp[k1]
  simp only[k1',jA,jE,if_pos k1,qLp (show p.1<1000000 by omega)]
 ·have k1':((tkAt ts p.1).1 !=2)=true:=by simp[k1]
  simp only[k1',jH,if_neg k1,h3,j0,qGy]
theorem zLe(hz:z.2≠0)(hi:i<ts.length):qCs N (bR ts z i pr b)=some (bR ts z i pr b,0):=by
 have h2:=qQe (N:=N) (ts:=ts) (i:=i) (pr:=pr) (b:=b) (z:=z) hi
 have h3:=qOd (N:=N) (ts:=ts) (i:=i) (pr:=pr) (b:=b) hz (tkAt ts i).2.2.2 9
 have hz':(z.2 !=0)=true:=by simpa using hz
 simp only[bR] at h2 h3
 simp only[qCs,bR,h2,j0,hz',jH,h3]
theorem zJn(t:Tok)(x:Ex)(p:Ps)(hb:p.2.length≤256):∃v,qAs N (gR ts pr p) x t.2.2.2=some (match qMg t x p with| .inl z=>(bR ts z p.1 pr p.2,v)| .inr q=>(gR ts pr q.1,(q.2:Int))):=by
 refine⟨IntKind.wrap .i64 ((p.2.length:Int)-1),?_⟩
 have h3:=qLa (N:=N) (ts:=ts) (pr:=pr) p t.2.2.2 2
 simp only[gR] at h3
 simp only[qAs,gR,kX,jH,j0,qMg]
 by_cases k1:p.2.length=256
 ·have k1':((p.2.length:Int)==256)=true:=by simp;omega
  simp only[k1',jH,h3,j0,bR]
  simp[k1,qGy]
 ·have k1':((p.2.length:Int)==256)=false:=by simp;omega
  have hw:IntKind.wrap .i64 (((p.2.length+1:Nat):Int)-1)=(p.2.length:Int):=by rw[wi64 (by omega) (by omega)];omega
  simp only[k1',jA,jE,j0,if_neg k1,kX,jH]
  rw[qCa (by simp only[jC,jD];omega) (by omega)]
  simp only[j0,jL,jC,jD,gD,hw]
theorem zJl(hz:z.2≠0)(x:Ex)(a:Int):∃v,qAs N (bR ts z i pr b) x a=some (bR ts z i pr b,v):=by
 refine⟨IntKind.wrap .i64 ((b.length:Int)-1),?_⟩
 have hz':(z.2==0)=false:=by simpa using hz
 simp only[qAs,bR,hz',jA,jE,j0]
end
end
section
open Go Go.Dc
section
variable {N:Nat} {ts:List Tok} {pr:List ByteArray} {b:List Ex} {i:Nat} {z:Flt}
theorem zFf(p:Ps)(hi:p.1<ts.length)(hl:ts.length<1000000)(hN:100<N)(pth:Bool):qBx N (gR ts pr p) pth=some (match(if pth=true then qPw ts p.1 else qWe ts p.1) with| .inl z=>(bR ts z p.1 pr p.2,⟨#[]⟩)| .inr a=>(gR ts pr (a.1,p.2),a.2.2.1)):=by
 have h2:=qKj (N:=N) (pr:=pr) p hi
 have h3:=qLa (N:=N) (ts:=ts) (pr:=pr) p (tkAt ts p.1).2.2.2 9
 simp only[gR] at h2 h3
 simp only[qBx,gR,h2,j0,qTm hN,zAq hN,qPw,qWe,qNv,gW,jA,jE]
 by_cases k1:(tkAt ts p.1).1=3
 ·have k1':((tkAt ts p.1).1 !=3)=false:=by simp[k1]
  simp only[k1',jA,jE,j0,if_pos k1,qCf]
  cases pth with
  |true=>
   simp only[jH,k7,jA,jE]
   rcases qEf (qKv (tkAt ts p.1).2.1.data.toList) with k2|k2
   ·simp only[k2,k7,jA,jE,j0,jH,qLp (show p.1<1000000 by omega)]
   ·simp only[k2,jW,jA,jE,j0,jH,h3,qGy]
  |false=>
   simp only[jH,jW,jA,jE]
   rcases qEf (qXb (tkAt ts p.1).2.1) with k2|k2
   ·simp only[k2,k7,jA,jE,j0,jH,qLp (show p.1<1000000 by omega)]
   ·simp only[k2,jW,jA,jE,j0,jH,h3,qGy]
 ·have k1':((tkAt ts p.1).1 !=3)=true:=by simp[k1]
  simp only[k1',jH,j0,if_neg k1,qCf,h3,qGy]
  cases pth<;>rfl
theorem zFl(hz:z.2≠0)(hi:i<ts.length)(pth:Bool):qBx N (bR ts z i pr b) pth=some (bR ts z i pr b,⟨#[]⟩):=by
 have h2:=qQe (N:=N) (ts:=ts) (i:=i) (pr:=pr) (b:=b) (z:=z) hi
 have h3:=qOd (N:=N) (ts:=ts) (i:=i) (pr:=pr) (b:=b) hz (tkAt ts i).2.2.2 9
 have hz':(z.2 !=0)=true:=by simpa using hz
 simp only[bR] at h2 h3
 simp only[qBx,bR,h2,j0,hz',jH,h3]
theorem zDj{s:ByteArray}{l:List ByteArray}(hl:l.length<1000000):∀(d i M:Nat),i+d=l.length→d<M→
  qAx (qHk N l s) M (i:Int)=some (if s∈l.drop i then .inr true else .inl ())
 |d,i,0,_,h=>by omega
 |0,i,M+1,h,_=>by
  have:l.drop i=[]:=jN (by omega)
  simp only[qAx,qHk,this]
  rw[if_neg (by simp only[jB];omega)]
  rfl
 |d+1,i,M+1,h,hM=>by
  have hi:i<l.length:=by omega
  have ih:=zDj (s:=s) hl d (i+1) M (by omega) (by omega)
  simp only[qAx,qHk]
  rw[if_pos (by simp only[jB];omega),qEc hi,jI hi]
  simp only[j0,qEg,jB,jO]
  by_cases hs:l[i]=s
  ·rw[if_pos hs,if_pos (.inl hs.symm)];rfl
  ·rw[if_neg hs]
   simp only[j0,qLp (show i<1000000 by omega),ih]
   by_cases h2:s∈l.drop (i+1)
   ·rw[if_pos h2,if_pos (.inr h2)]
   ·rw[if_neg h2,if_neg (fun h=>h.elim (fun e=>hs e.symm) h2)]
theorem rhas{s:ByteArray}{l:List ByteArray}(hl:l.length<1000000)(hN:l.length<N):qDg N l s=some (decide (s∈l)):=by
 have h:=zDj (N:=N) (s:=s) hl l.length 0 N (by omega) hN
 simp only[jX] at h
 simp only[qDg]
 rw[show(0:Int)=((0:Nat):Int) from rfl,h]
 simp only[j0]
 by_cases h2:s∈l
 ·rw[if_pos h2,jM h2]
 ·rw[if_neg h2,jQ h2]
theorem andS(a b:Bool):(if a=true then some b else some false)=some (a&&b):=by cases a<;>rfl
theorem qYa{s:ByteArray}{k:Int}{f:Sr}(hl:f.2.2.length<1000000):∀(d i M:Nat),i+d=f.2.2.length→d<M→
  qAx (qGk N f k s) M (i:Int)=some (if(f.2.2.drop i).any (fun d=>d.1==k&&decide (d.2.1=s))=true then .inr true else .inl ())
 |d,i,0,_,h=>by omega
 |0,i,M+1,h,_=>by
  have:f.2.2.drop i=[]:=jN (by omega)
  simp only[qAx,qGk,this]
  rw[if_neg (by simp only[jB];omega)]
  rfl
 |d+1,i,M+1,h,hM=>by
  have hi:i<f.2.2.length:=by omega
  have ih:=qYa (s:=s) (k:=k) hl d (i+1) M (by omega) (by omega)
  simp only[qAx,qGk]
  rw[if_pos (by simp only[jB];omega),qEc hi,jI hi,List.any_cons]
  simp only[j0,qEg,qLp (show i<1000000 by omega),andS]
  rcases qEf (f.2.2[i].1==k&&decide (f.2.2[i].2.1=s)) with h1|h1
  ·simp only[h1,jH,j0,Bool.true_or]
  ·simp only[h1,jA,jE,j0,ih,fN]
theorem rtaken{s:ByteArray}{k:Int}{f:Sr}(hl:f.2.2.length<1000000)(hN:f.2.2.length<N):qFp N f k s=some (f.2.2.any fun d=>d.1==k&&decide (d.2.1=s)):=by
 have h:=qYa (N:=N) (s:=s) (k:=k) hl f.2.2.length 0 N (by omega) hN
 simp only[jX] at h
 simp only[qFp]
 rw[show(0:Int)=((0:Nat):Int) from rfl,h]
 simp only[j0]
 rcases qEf (f.2.2.any fun d=>d.1==k&&decide (d.2.1=s)) with h2|h2
 ·rw[if_pos h2,h2]
 ·rw[if_neg (by rw[h2];decide),h2]
theorem op_3:opC ts 3 i=if isC ts 4 ⟨#[42]⟩ i=true then 3 else if isC ts 4 ⟨#[47]⟩ i=true then 4 else if isC ts 4 ⟨#[37]⟩ i=true then 5 else 0:=by
 unfold opC opsC
 simp only[List.find?,isOp,levP]
 rcases qEf (isC ts 4 ⟨#[42]⟩ i) with h1|h1<;>rcases qEf (isC ts 4 ⟨#[47]⟩ i) with h2|h2<;>rcases qEf (isC ts 4 ⟨#[37]⟩ i) with h3|h3<;>simp[h1,h2,h3]
theorem op_2:opC ts 2 i=if isC ts 4 ⟨#[43]⟩ i=true then 1 else if isC ts 4 ⟨#[45]⟩ i=true then 2 else 0:=by
 unfold opC opsC
 simp only[List.find?,isOp,levP]
 rcases qEf (isC ts 4 ⟨#[43]⟩ i) with h1|h1<;>rcases qEf (isC ts 4 ⟨#[45]⟩ i) with h2|h2<;>simp[h1,h2]
theorem op_1:opC ts 1 i=if isC ts 4 ⟨#[60]⟩ i=true then 6 else if isC ts 4 ⟨#[61,61]⟩ i=true then 7 else 0:=by
 unfold opC opsC
 simp only[List.find?,isOp,levP]
 rcases qEf (isC ts 4 ⟨#[60]⟩ i) with h1|h1<;>rcases qEf (isC ts 4 ⟨#[61,61]⟩ i) with h2|h2<;>simp[h1,h2]
theorem qVp{α:Type}{t:Tok}{e:Int}(he:e≠0)(h:(qGy t e:Flt⊕α)= .inl z):z.2≠0:=by
 obtain rfl:=Sum.inl.inj h;exact he
theorem qMr{s:ByteArray}(h:qFe ts s i= .inl z):z.2≠0:=by
 unfold qFe at h;split at h
 ·cases h
 ·exact qVp (by decide) h
theorem qYv{k:Int}(h:qNv ts k i= .inl z):z.2≠0:=by
 unfold qNv at h;split at h
 ·cases h
 ·exact qVp (by decide) h
theorem zFg{α β:Type}{x:Flt⊕α}{f:α→Flt⊕β}(h:qCf x f= .inl z):x= .inl z∨∃a,x= .inr a∧f a= .inl z:=by
 cases x with
 |inl y=>obtain rfl:=Sum.inl.inj h;exact .inl rfl
 |inr a=>exact .inr ⟨a,rfl,h⟩
theorem zCp(h:qNu ts i= .inl z):z.2≠0:=by
 rcases zFg h with h|⟨a,_,h⟩
 ·exact qYv h
 ·split at h
  ·exact qVp (by decide) h
  ·cases h
theorem zBm(h:qPw ts i= .inl z):z.2≠0:=by
 rcases zFg h with h|⟨a,_,h⟩
 ·exact qYv h
 ·split at h
  ·cases h
  ·exact qVp (by decide) h
theorem zLz(h:qWe ts i= .inl z):z.2≠0:=by
 rcases zFg h with h|⟨a,_,h⟩
 ·exact qYv h
 ·split at h
  ·cases h
  ·exact qVp (by decide) h
theorem zFe{t:Tok}{x:Ex}{p:Ps}(h:qMg t x p= .inl z):z.2≠0:=by
 unfold qMg at h;split at h
 ·exact qVp (by decide) h
 ·cases h
end
end
section
open Go Go.Dc
def Bad(ts:List Tok)(z:Flt)(st:RT):Prop:=z.2≠0∧∃(i:Nat) (pr:List ByteArray) (b:List Ex),i<ts.length∧st=bR ts z i pr b
def relR(ts:List Tok)(pr:List ByteArray)(r:PM Nat)(o:RT×Int):Prop:=
 match r with
 | .inl z=>Bad ts z o.1
 | .inr q=>o=(gR ts pr q.1,(q.2:Int))
section
variable {N:Nat} {ts:List Tok} {pr:List ByteArray} {E S:Ps→PM Nat} {d:Int}
variable {r1 r2 r3 r4:RT→Int→Option (RT×Int)}
theorem qNy{z:Flt}{i:Nat}{pr':List ByteArray}{b:List Ex}{v:Int}(hz:z.2≠0)(hi:i<ts.length):relR ts pr (.inl z) (bR ts z i pr' b,v):=⟨hz,i,pr',b,hi,rfl⟩
theorem qRj(t:Tok)(x:Ex)(p:Ps)(hp:p.1<ts.length)(hb:p.2.length≤256):∃o,qAs N (gR ts pr p) x t.2.2.2=some o∧relR ts pr (qMg t x p) o:=by
 obtain⟨v,h⟩:=zJn (N:=N) (ts:=ts) (pr:=pr) t x p hb
 cases hn:qMg t x p with
 |inl z=>rw[hn] at h;exact⟨_,h,qNy (zFe hn) hp⟩
 |inr q=>rw[hn] at h;exact⟨_,h,rfl⟩
theorem qTj{z:Flt}{i:Nat}{pr':List ByteArray}{b:List Ex}(hz:z.2≠0)(hi:i<ts.length)(x:Ex)(a:Int):∃o,qAs N (bR ts z i pr' b) x a=some o∧relR ts pr (.inl z) o:=by
 obtain⟨v,h⟩:=zJl (N:=N) (ts:=ts) (pr:=pr') (b:=b) (i:=i) hz x a
 exact⟨_,h,qNy hz hi⟩
theorem qXn(t:Tok)(x:Ex)(p:Ps)(hok:OkT ts)(hl:ts.length<1000000)(hp:p.1<ts.length)(hb:p.2.length≤256):∃o,
  ((qAi N (gR ts pr p) (⟨#[41]⟩:ByteArray)).bind fun y=>qAs N y x t.2.2.2)=some o∧relR ts pr (qCf (qFe ts qJb p.1) fun i=>qMg t x (i,p.2)) o:=by
 have e:=qNz (N:=N) (pr:=pr) p hp hl ⟨#[41]⟩
 simp only[e,j0,qJb]
 cases h:qFe ts ⟨#[41]⟩ p.1 with
 |inl z=>exact qTj (qMr h) hp x _
 |inr j=>
  obtain⟨rfl,g,-⟩:=qFg hok hp h
  exact qRj t x (p.1+1,p.2) g hb
theorem qPv{z:Flt}{i:Nat}{pr':List ByteArray}{b:List Ex}(hz:z.2≠0)(hi:i<ts.length)(x:Ex)(a:Int):∃o,
  ((qAi N (bR ts z i pr' b) (⟨#[41]⟩:ByteArray)).bind fun y=>qAs N y x a)=some o∧relR ts pr (.inl z) o:=by
 simp only[qNh hz hi,j0]
 exact qTj hz hi x a
variable (hEg:∀p:Ps,p.1<ts.length→p.2.length≤256→∃o,r4 (gR ts pr p) (IntKind.wrap .i64 (d+1))=some o∧relR ts pr (E p) o)
variable (hEb:∀(z:Flt) (i:Nat) (pr':List ByteArray) (b:List Ex),z.2≠0→i<ts.length→∃v,r4 (bR ts z i pr' b) (IntKind.wrap .i64 (d+1))=some (bR ts z i pr' b,v))
def zGs(ts:List Tok)(E:Ps→PM Nat)(n:Nat)(l:List Int)(p:Ps):PM (List Int):=
 if isC ts 4 qOy p.1 then zBj ts E n l (p.1+1,p.2) else qCf (qFe ts qJb p.1) fun i=> .inr ((i,p.2),l)
theorem qXl(n:Nat)(l:List Int)(p:Ps):zBj ts E (n+1) l p=qCf (E p) fun q=>zGs ts E n (l++[(q.2:Int)]) q.1:=rfl
def relL(ts:List Tok)(pr:List ByteArray)(r:PM (List Int))(o:List Int×RT):Prop:=
 match r with
 | .inl z=>Bad ts z o.2
 | .inr q=>o=(q.2,gR ts pr q.1)
theorem qYy{z:Flt}{i:Nat}{pr':List ByteArray}{b:List Ex}(hz:z.2≠0)(M:Nat)(l:List Int):qAx (qCq N r4 d) (M+1) (l,bR ts z i pr' b)=some (l,bR ts z i pr' b):=by
 have hz':(z.2==0)=false:=by simpa using hz
 simp only[qAx,qCq,bR,hz',jA,jE,j0]
include hEg hEb in
theorem qZy(hok:OkT ts)(hl:ts.length<1000000)(hA:Adv ts E):∀(n M:Nat) (l:List Int) (p:Ps),l≠[]→p.1<ts.length→p.2.length≤256→l.length≤p.1→ts.length<p.1+n→ts.length+2<p.1+M→
  ∃o,qAx (qCq N r4 d) M (l,gR ts pr p)=some o∧relL ts pr (zGs ts E n l p) o
 |0,M,l,p,_,hp,_,_,h,_=>by omega
 |n+1,0,l,p,_,hp,_,_,_,h=>by omega
 |n+1,M+1,l,p,hne,hp,hb,hll,hn,hM=>by
  have hs:=qLn (N:=N) (pr:=pr) p hp hl ⟨#[41]⟩
  have hpos:decide ((l.length:Int)>0)=true:=by
   have:=gL.2 hne
   exact jM (by omega)
  have g0:((gR ts pr p).2.2.2.1==0)=true:=rfl
  simp only[qAx,qCq,Prod.eta,g0,jH,hs,j0]
  rcases qEf (isC ts 4 ⟨#[41]⟩ p.1) with c1|c1
  ·simp only[c1,jH,k7,jA,jE]
   refine⟨_,rfl,?_⟩
   have c2:isC ts 4 qOy p.1=false:=by
    simp only[isC,jS,jB] at c1
    simp[isC,c1.2,qOy]
   have c3:qFe ts qJb p.1= .inr (p.1+1):=by simp[qFe,qJb,c1]
   simp only[zGs,c2,jA,jE,c3,qCf]
   rfl
  ·simp only[c1,jA,jE,jW,jH,hpos,Prod.eta,qNz p hp hl,j0]
   have hcc:isC ts 4 qOy p.1=isC ts 4 ⟨#[44]⟩ p.1:=rfl
   simp only[zGs,hcc,qFe]
   rcases qEf (isC ts 4 ⟨#[44]⟩ p.1) with c2|c2
   ·have g:=qFf hok hp (by decide) c2
    simp only[c2,jH]
    obtain⟨o,ho,hr⟩:=hEg (p.1+1,p.2) g hb
    simp only[ho,j0]
    cases hE:E (p.1+1,p.2) with
    |inl z=>
     rw[hE] at hr
     obtain⟨hz,i,pr',b,hi,ho1⟩:=hr
     rw[qCa (by simp only[jC,jD];omega) (by omega)]
     simp only[j0,ho1]
     cases M with
     |zero=>omega
     |succ M=>
      refine⟨_,qYy hz M _,?_⟩
      rw[qXl,hE]
      exact⟨hz,i,pr',b,hi,rfl⟩
    |inr q=>
     rw[hE] at hr
     obtain⟨⟨f1,f2,f3,f4⟩,f5⟩:=hA (p.1+1,p.2) q.1 q.2 g hb hE
     simp only at f1
     rw[qCa (by simp only[jC,jD];omega) (by omega)]
     have hr':o=(gR ts pr q.1,(q.2:Int)):=hr
     simp only[j0,hr']
     rw[qXl,hE]
     exact qZy hok hl hA n M (l++[(q.2:Int)]) q.1 (by simp) f2 f4 (by simp only[jL,jC,jD];omega) (by omega) (by omega)
   ·simp only[c2,jA,jE]
    have c3:isC ts 4 qJb p.1=false:=c1
    simp only[c3,jA,jE,qGy,qCf]
    obtain⟨v,hv⟩:=hEb ((tkAt ts p.1).2.2.2,9) p.1 pr p.2 (show(9:Int)≠0 by decide) hp
    simp only[hv,j0]
    rw[qCa (by simp only[jC,jD];omega) (by omega)]
    simp only[j0]
    cases M with
    |zero=>omega
    |succ M=>exact⟨_,qYy (z:=((tkAt ts p.1).2.2.2,9)) (show(9:Int)≠0 by decide) M _,show(9:Int)≠0 by decide,p.1,pr,p.2,hp,rfl⟩
include hEg hEb in
theorem rargs(hok:OkT ts)(hl:ts.length<1000000)(hN:1000002<N)(hA:Adv ts E)(p:Ps)(hp:p.1<ts.length)(hb:p.2.length≤256):
  ∃o,qAx (qCq N r4 d) N ([],gR ts pr p)=some o∧relL ts pr (if isC ts 4 qJb p.1 then .inr ((p.1+1,p.2),[]) else zBj ts E (ts.length+1) [] p) o:=by
 obtain⟨M,rfl⟩:∃M,N=M+1:=⟨N-1,by omega⟩
 have hs:=qLn (N:=M+1) (pr:=pr) p hp hl ⟨#[41]⟩
 have g0:((gR ts pr p).2.2.2.1==0)=true:=rfl
 have hnil:decide ((([]:List Int).length:Int)>0)=false:=rfl
 simp only[qAx,qCq,Prod.eta,g0,jH,hs,j0,qJb]
 rcases qEf (isC ts 4 ⟨#[41]⟩ p.1) with c1|c1
 ·simp only[c1,jH,k7,jA,jE]
  exact⟨_,rfl,rfl⟩
 ·simp only[c1,jA,jE,jW,jH,hnil,Prod.eta,j0]
  obtain⟨o,ho,hr⟩:=hEg p hp hb
  simp only[ho,j0]
  cases hE:E p with
  |inl z=>
   rw[hE] at hr
   obtain⟨hz,i,pr',b,hi,ho1⟩:=hr
   rw[qCa (by simp) (by omega)]
   simp only[j0,ho1]
   cases M with
   |zero=>omega
   |succ M=>
    refine⟨_,qYy hz M _,?_⟩
    rw[qXl,hE]
    exact⟨hz,i,pr',b,hi,rfl⟩
  |inr q=>
   rw[hE] at hr
   obtain⟨⟨f1,f2,f3,f4⟩,f5⟩:=hA p q.1 q.2 hp hb hE
   rw[qCa (by simp) (by omega)]
   have hr':o=(gR ts pr q.1,(q.2:Int)):=hr
   simp only[j0,hr']
   rw[qXl,hE]
   exact qZy hEg hEb hok hl hA ts.length M ([]++[(q.2:Int)]) q.1 (by simp) f2 f4 (by simp only[jL,jC,jD];omega) (by omega) (by omega)
end
end
section
open Go Go.Dc
section
variable {N:Nat} {ts:List Tok} {pr:List ByteArray} {E S:Ps→PM Nat} {d:Int}
variable {r1 r2 r3 r4:RT→Int→Option (RT×Int)}
theorem zHg{y1:RT×Tok}{y31:RT×ByteArray}{p:Ps}(hpr:pr.length<1000):∀(k i M:Nat),i+k=pr.length→k<M→
  qAx (qCr N y1 y31 (gR ts pr p,false)) M (i:Int)=(match(pr.drop i).findIdx? (fun x=>decide (x=y31.2)) with
   |some j=>(qAs N (gR ts pr p) (2,((i+j:Nat):Int),0,⟨#[]⟩,[]) y1.2.2.2.2).bind fun y=>some (.inr y)
   |none=>some (.inl ()))
 |k,i,0,_,h=>by omega
 |0,i,M+1,h,_=>by
  have:pr.drop i=[]:=jN (by omega)
  have c:decide ((i:Int)<((gR ts pr p).2.2.2.2.1.length:Int))=false:=jQ (by simp only[gR];omega)
  simp only[qAx,qCr,this,List.findIdx?_nil,c,jA,jE,j0]
 |k+1,i,M+1,h,hM=>by
  have hi:i<pr.length:=by omega
  have ih:=zHg (y1:=y1) (y31:=y31) (p:=p) hpr k (i+1) M (by omega) (by omega)
  have c:decide ((i:Int)<((gR ts pr p).2.2.2.2.1.length:Int))=true:=jM (by simp only[gR];omega)
  have x:idx (gR ts pr p).2.2.2.2.1 (i:Int)=some pr[i]:=qEc hi
  have g0:((gR ts pr p).2.2.2.1==0)=true:=rfl
  rw[jI hi,List.findIdx?_cons]
  simp only[qAx,qCr,g0,Prod.eta,c,x,jH,j0,qEg,jB]
  by_cases hs:pr[i]=y31.2
  ·simp only[if_pos hs,jH,j0,gT]
   cases qAs N (gR ts pr p) (2,(i:Int),0,⟨#[]⟩,[]) y1.2.2.2.2<;>rfl
  ·simp only[if_neg hs,j0,jA,jE,qLp (show i<1000000 by omega),ih]
   cases(pr.drop (i+1)).findIdx? (fun x=>decide (x=y31.2)) with
   |none=>rfl
   |some j=>simp only[kD];rw[show i+1+j=i+(j+1) by omega]
theorem zCc{y1:RT×Tok}{y31:RT×ByteArray}{z:Flt}{j:Nat}{pr':List ByteArray}{b:List Ex}(hz:z.2≠0)(hpr:pr'.length<1000):∀(k i M:Nat),i+k=pr'.length→k<M→
  qAx (qCr N y1 y31 (bR ts z j pr' b,false)) M (i:Int)=some (.inl ())
 |k,i,0,_,h=>by omega
 |0,i,M+1,h,_=>by
  have c:decide ((i:Int)<((bR ts z j pr' b).2.2.2.2.1.length:Int))=false:=jQ (by simp only[bR];omega)
  simp only[qAx,qCr,c,jA,jE,j0]
 |k+1,i,M+1,h,hM=>by
  have hi:i<pr'.length:=by omega
  have ih:=zCc (y1:=y1) (y31:=y31) (j:=j) (b:=b) hz hpr k (i+1) M (by omega) (by omega)
  have c:decide ((i:Int)<((bR ts z j pr' b).2.2.2.2.1.length:Int))=true:=jM (by simp only[bR];omega)
  have x:idx (bR ts z j pr' b).2.2.2.2.1 (i:Int)=some pr'[i]:=qEc hi
  have g0:((bR ts z j pr' b).2.2.2.1==0)=false:=by simpa[bR] using hz
  simp only[qAx,qCr,g0,Prod.eta,c,x,jH,j0,qEg,jB]
  have:((if pr'[i]=y31.2 then some false else some false):Option Bool)=some false:=by split<;>rfl
  simp only[this,j0,jA,jE,qLp (show i<1000000 by omega),ih]
variable (hEg:∀p:Ps,p.1<ts.length→p.2.length≤256→∃o,r4 (gR ts pr p) (IntKind.wrap .i64 (d+1))=some o∧relR ts pr (E p) o)
variable (hEb:∀(z:Flt) (i:Nat) (pr':List ByteArray) (b:List Ex),z.2≠0→i<ts.length→∃v,r4 (bR ts z i pr' b) (IntKind.wrap .i64 (d+1))=some (bR ts z i pr' b,v))
include hEg hEb in
theorem zOw(hok:OkT ts)(hl:ts.length<1000000)(hN:100<N)(hA:Adv ts E)(t:Tok)(p:Ps)(hp:p.1<ts.length)(hb:p.2.length≤256):∃o,
  ((qAi N (gR ts pr p) (⟨#[40]⟩:ByteArray)).bind fun y11=>(qBx N y11 true).bind fun y12=>(qAi N y12.1 (⟨#[44]⟩:ByteArray)).bind fun y13=>(r4 y13 (IntKind.wrap .i64 (d+1))).bind fun y14=>(qAi N y14.1 (⟨#[41]⟩:ByteArray)).bind fun y15=>qAs N y15 (6,0,0,y12.2,[y14.2]) t.2.2.2)=some o∧
  relR ts pr (qCf (qFe ts qQy p.1) fun i=>qCf (qCf (qPw ts i) fun a=>qCf (qFe ts qOy a.1) fun i=>qCf (E (i,p.2)) fun q=>(.inr (q.1,((6,0,0,a.2.2.1,[(q.2:Int)]):Ex)):Flt⊕(Ps×Ex))) fun q=>qCf (qFe ts qJb q.1.1) fun i=>qMg t q.2 (i,q.1.2)) o:=by
 have bad:∀{z:Flt} {i:Nat} {pr':List ByteArray} {b:List Ex} (x:ByteArray),z.2≠0→i<ts.length→∃o,((r4 (bR ts z i pr' b) (IntKind.wrap .i64 (d+1))).bind fun y14=>(qAi N y14.1 (⟨#[41]⟩:ByteArray)).bind fun y15=>qAs N y15 (6,0,0,x,[y14.2]) t.2.2.2)=some o∧relR ts pr (.inl z) o:=by
  intro z i pr' b x hz hi
  obtain⟨v,hv⟩:=hEb z i pr' b hz hi
  simp only[hv,j0]
  exact qPv hz hi _ _
 simp only[qNz p hp hl,j0,qQy]
 cases h1:qFe ts ⟨#[40]⟩ p.1 with
 |inl z=>
  simp only[zFl (qMr h1) hp,qNh (qMr h1) hp,j0]
  exact bad _ (qMr h1) hp
 |inr i=>
  obtain⟨rfl,g1,-⟩:=qFg hok hp h1
  simp only[zFf (p.1+1,p.2) g1 hl hN,j0,jH,qCf]
  cases h2:qPw ts (p.1+1) with
  |inl z=>
   simp only[qNh (zBm h2) g1,j0]
   exact bad _ (zBm h2) g1
  |inr a=>
   obtain⟨rfl,g2,-⟩:=qNa hok g1 h2
   simp only[qNz (p.1+1+1,p.2) g2 hl,j0,qOy]
   cases h3:qFe ts ⟨#[44]⟩ (p.1+1+1) with
   |inl z=>exact bad _ (qMr h3) g2
   |inr j=>
    obtain⟨rfl,g3,-⟩:=qFg hok g2 h3
    obtain⟨o,ho,hr⟩:=hEg (p.1+1+1+1,p.2) g3 hb
    simp only[ho,j0]
    cases h4:E (p.1+1+1+1,p.2) with
    |inl z=>
     rw[h4] at hr
     obtain⟨hz,i,pr',b,hi,ho1⟩:=hr
     simp only[ho1]
     exact qPv hz hi _ _
    |inr q=>
     rw[h4] at hr
     obtain⟨⟨f1,f2,f3,f4⟩,f5⟩:=hA (p.1+1+1+1,p.2) q.1 q.2 g3 hb h4
     have hr':o=(gR ts pr q.1,(q.2:Int)):=hr
     simp only[hr']
     exact qXn t _ q.1 hok hl f2 f4
theorem zJo(hok:OkT ts)(hl:ts.length<1000000)(hN:100<N)(k:Int)(pth:Bool)(t:Tok)(p:Ps)(hp:p.1<ts.length)(hb:p.2.length≤256):∃o,
  ((qAi N (gR ts pr p) (⟨#[40]⟩:ByteArray)).bind fun y20=>(qBx N y20 pth).bind fun y21=>(qAi N y21.1 (⟨#[41]⟩:ByteArray)).bind fun y22=>qAs N y22 (k,0,0,y21.2,[]) t.2.2.2)=some o∧
  relR ts pr (qCf (qFe ts qQy p.1) fun i=>qCf (qCf (if pth=true then qPw ts i else qWe ts i) fun a=>(.inr ((a.1,p.2),((k,0,0,a.2.2.1,[]):Ex)):Flt⊕(Ps×Ex))) fun q=>qCf (qFe ts qJb q.1.1) fun i=>qMg t q.2 (i,q.1.2)) o:=by
 simp only[qNz p hp hl,j0,qQy]
 cases h1:qFe ts ⟨#[40]⟩ p.1 with
 |inl z=>
  simp only[zFl (qMr h1) hp,j0]
  exact qPv (qMr h1) hp _ _
 |inr i=>
  obtain⟨rfl,g1,-⟩:=qFg hok hp h1
  simp only[zFf (p.1+1,p.2) g1 hl hN,j0,qCf]
  cases h2:(if pth=true then qPw ts (p.1+1) else qWe ts (p.1+1)) with
  |inl z=>
   have hz:z.2≠0:=by
    split at h2
    ·exact zBm h2
    ·exact zLz h2
   exact qPv hz g1 _ _
  |inr a=>
   have g2:a=(p.1+1+1,tkAt ts (p.1+1))∧p.1+1+1<ts.length:=by
    split at h2
    ·obtain⟨e,g2,-⟩:=qNa hok g1 h2;exact⟨e,g2⟩
    ·obtain⟨e,g2,-⟩:=zDq hok g1 h2;exact⟨e,g2⟩
   obtain⟨rfl,g2⟩:=g2
   exact qXn t _ (p.1+1+1,p.2) hok hl g2 hb
theorem zNz(hok:OkT ts)(hl:ts.length<1000000)(t:Tok)(p:Ps)(hp:p.1<ts.length)(hb:p.2.length≤256):∃o,
  ((qAi N (gR ts pr p) (⟨#[40]⟩:ByteArray)).bind fun y25=>(qAk N y25).bind fun y26=>(qCs N y26.1).bind fun y27=>(if(decide (y27.2≥64))=true then((qAm N y27.1 y26.2.2.2.2 9).bind fun y28=>some y28) else(some y27.1):Option RT).bind fun o3=>(qAi N o3 (⟨#[41]⟩:ByteArray)).bind fun y29=>qAs N y29 (10,y27.2,0,⟨#[]⟩,[]) t.2.2.2)=some o∧
  relR ts pr (qCf (qFe ts qQy p.1) fun i=>qCf (qCf (qNv ts 2 i) fun a=>if a.2.2.2.1≥64 then qGy a.2 9 else(.inr ((a.1,p.2),((10,a.2.2.2.1,0,⟨#[]⟩,[]):Ex)):Flt⊕(Ps×Ex))) fun q=>qCf (qFe ts qJb q.1.1) fun i=>qMg t q.2 (i,q.1.2)) o:=by
 have h64:¬decide ((0:Int)≥64)=true:=by decide
 simp only[qNz p hp hl,j0,qQy]
 cases h1:qFe ts ⟨#[40]⟩ p.1 with
 |inl z=>
  simp only[qQe hp,zLe (qMr h1) hp,j0,if_neg h64]
  exact qPv (qMr h1) hp _ _
 |inr i=>
  obtain⟨rfl,g1,-⟩:=qFg hok hp h1
  simp only[qKj (p.1+1,p.2) g1,qZh (p.1+1,p.2) g1 hl,j0,qCf]
  cases h2:qNv ts 2 (p.1+1) with
  |inl z=>
   simp only[if_neg h64,j0]
   exact qPv (qYv h2) g1 _ _
  |inr a=>
   obtain⟨rfl,g2,-⟩:=qPf hok (by decide) g1 h2
   by_cases k:(tkAt ts (p.1+1)).2.2.1≥64
   ·simp only[if_pos k,jB,jH,qLa,j0]
    exact qPv (show(9:Int)≠0 by decide) g2 _ _
   ·simp only[if_neg k,jB,j0]
    exact qXn t _ (p.1+1+1,p.2) hok hl g2 hb
end
end
section
open Go Go.Dc
section
variable {N:Nat} {ts:List Tok} {pr:List ByteArray} {E S:Ps→PM Nat} {d:Int}
variable {r1 r2 r3 r4:RT→Int→Option (RT×Int)}
theorem zGo{s:ByteArray}{i:Nat}(h:(tkAt ts i).1=1):isC ts 1 s i=decide ((tkAt ts i).2.1=s):=by simp[isC,h]
theorem zNm{k:Int}{s:ByteArray}{i:Nat}(h:(tkAt ts i).1≠k):isC ts k s i=false:=by simp[isC,h]
theorem obs{α:Type}(x:Option α):(x.bind fun y=>some y)=x:=by cases x<;>rfl
theorem zKr{z:Flt}{i:Nat}{pr':List ByteArray}{b:List Ex}(hz:z.2≠0)(hi:i<ts.length):qDh N r1 r2 r3 r4 (bR ts z i pr' b) d=some (bR ts z i pr' b,0):=by
 have g0:((bR ts z i pr' b).2.2.2.1 !=0)=true:=by simpa[bR] using hz
 simp only[qDh,Prod.eta,qQe hi,j0,g0,jH]
variable (hEg:∀p:Ps,p.1<ts.length→p.2.length≤256→∃o,r4 (gR ts pr p) (IntKind.wrap .i64 (d+1))=some o∧relR ts pr (E p) o)
variable (hEb:∀(z:Flt) (i:Nat) (pr':List ByteArray) (b:List Ex),z.2≠0→i<ts.length→∃v,r4 (bR ts z i pr' b) (IntKind.wrap .i64 (d+1))=some (bR ts z i pr' b,v))
include hEg hEb in
theorem zOf(hok:OkT ts)(hl:ts.length<1000000)(hpr:pr.length<1000)(hN:1000002<N)(hA:Adv ts E)(p:Ps)(hp:p.1<ts.length)(hb:p.2.length≤256):
  ∃o,qDh N r1 r2 r3 r4 (gR ts pr p) d=some o∧relR ts pr (qQl ts pr E p) o:=by
 have g0:((gR ts pr p).2.2.2.1 !=0)=false:=rfl
 simp only[qDh,Prod.eta,qKj p hp,j0,g0,jA,jE]
 unfold qQl
 dsimp only
 by_cases k1:(tkAt ts p.1).1=2
 ·have k1':((tkAt ts p.1).1==2)=true:=by simpa using k1
  have g:=hok.next hp (show(tkAt ts p.1).1≠5 by rw[k1];decide)
  rw[if_pos k1]
  simp only[k1',jH,qZh p hp hl,qNv,if_pos k1,j0]
  obtain⟨o,ho,hr⟩:=qRj (N:=N) (pr:=pr) (tkAt ts p.1) (1,(tkAt ts p.1).2.2.1,0,⟨#[]⟩,[]) (p.1+1,p.2) g hb
  simp only[ho,j0]
  exact⟨_,rfl,hr⟩
 have k1':((tkAt ts p.1).1==2)=false:=by simpa using k1
 rw[if_neg k1]
 simp only[k1',jA,jE,qLn p hp hl,j0]
 rcases qEf (isC ts 4 zKd p.1) with c1|c1
 ·have c1':isC ts 4 ⟨#[45]⟩ p.1=true:=c1
  have g:=qFf hok hp (by decide) c1
  simp only[c1,c1',jH,qZh (p.1+1,p.2) g hl,j0]
  cases h:qNv ts 2 (p.1+1) with
  |inl z=>
   obtain⟨o,ho,hr⟩:=qTj (N:=N) (pr:=pr) (pr':=pr) (b:=p.2) (qYv h) g (1,IntKind.wrap .i64 (0-0),0,⟨#[]⟩,[]) (tkAt ts p.1).2.2.2
   simp only[ho,j0]
   exact⟨_,rfl,hr⟩
  |inr a=>
   obtain⟨rfl,g2,-⟩:=qPf hok (by decide) g h
   obtain⟨o,ho,hr⟩:=qRj (N:=N) (pr:=pr) (tkAt ts p.1) (1,IntKind.wrap .i64 (0-(tkAt ts (p.1+1)).2.2.1),0,⟨#[]⟩,[]) (p.1+1+1,p.2) g2 hb
   simp only[ho,j0,qCf]
   exact⟨_,rfl,hr⟩
 have c1':isC ts 4 ⟨#[45]⟩ p.1=false:=c1
 simp only[c1,c1',jA,jE,qLn p hp hl,j0]
 rcases qEf (isC ts 4 qQy p.1) with c2|c2
 ·have c2':isC ts 4 ⟨#[40]⟩ p.1=true:=c2
  have g:=qFf hok hp (by decide) c2
  obtain⟨o,ho,hr⟩:=hEg (p.1+1,p.2) g hb
  simp only[c2,c2',jH,ho,j0]
  cases h:E (p.1+1,p.2) with
  |inl z=>
   rw[h] at hr
   obtain⟨hz,i,pr',b,hi,ho1⟩:=hr
   simp only[ho1,qNh hz hi,j0,qCf]
   exact⟨_,rfl,qNy hz hi⟩
  |inr q=>
   rw[h] at hr
   obtain⟨⟨f1,f2,f3,f4⟩,f5⟩:=hA (p.1+1,p.2) q.1 q.2 g hb h
   have hr':o=(gR ts pr q.1,(q.2:Int)):=hr
   simp only[hr',qNz q.1 f2 hl,j0,qCf,qJb]
   cases hj:qFe ts ⟨#[41]⟩ q.1.1 with
   |inl z=>exact⟨_,rfl,qNy (qMr hj) f2⟩
   |inr j=>exact⟨_,rfl,rfl⟩
 have c2':isC ts 4 ⟨#[40]⟩ p.1=false:=c2
 simp only[c2,c2',jA,jE,qMq p hp hl,j0]
 by_cases k2:(tkAt ts p.1).1=1
 rotate_left
 ·-- no name
  rw[if_pos k2]
  have n:∀s,isC ts 1 s p.1=false:=fun s=>zNm k2
  have hname:qNu ts p.1= .inl ((tkAt ts p.1).2.2.2,9):=by simp[qNu,qNv,k2,qCf,qGy]
  simp only[n,jA,jE,qMq p hp hl,j0,qVn p hp hl (by omega:100<N),hname]
  have hz:(((tkAt ts p.1).2.2.2,(9:Int)):Flt).2≠0:=show(9:Int)≠0 by decide
  have hp0:=zCc (N:=N) (ts:=ts) (y1:=(gR ts pr p,tkAt ts p.1)) (y31:=(bR ts ((tkAt ts p.1).2.2.2,9) p.1 pr p.2,(⟨#[]⟩:ByteArray))) (j:=p.1) (pr':=pr) (b:=p.2) hz hpr pr.length 0 N (by omega) (by omega)
  rw[show((0:Nat):Int)=0 from rfl] at hp0
  simp only[zBq hz,j0,jW,jH,hp0,qOd hz]
  exact⟨_,rfl,qNy hz hp⟩
 rw[if_neg (show ¬(tkAt ts p.1).1≠1 by simpa using k2)]
 have g:=hok.next hp (show(tkAt ts p.1).1≠5 by rw[k2];decide)
 have n:∀s,isC ts 1 s p.1=decide ((tkAt ts p.1).2.1=s):=fun s=>zGo k2
 simp only[n,qMq p hp hl,j0]
 by_cases w1:(tkAt ts p.1).2.1=qTe
 ·rw[if_pos (show(tkAt ts p.1).2.1∈[qTe,qTd,sHas,sEnv,qUj] by rw[w1];simp)]
  have w1':decide ((tkAt ts p.1).2.1=(⟨#[114,101,97,100]⟩:ByteArray))=true:=jM w1
  simp only[w1',jH]
  obtain⟨o,ho,hr⟩:=zOw (N:=N) hEg hEb hok hl (by omega) hA (tkAt ts p.1) (p.1+1,p.2) g hb
  refine⟨o,Eq.trans ?_ ho,?_⟩
  ·simp only[obs]
  ·simp only[qMm,if_pos w1]
   exact hr
 have w1':decide ((tkAt ts p.1).2.1=(⟨#[114,101,97,100]⟩:ByteArray))=false:=jQ w1
 simp only[w1',jA,jE,qMq p hp hl,j0,n]
 by_cases w2:(tkAt ts p.1).2.1=qTd
 ·rw[if_pos (show(tkAt ts p.1).2.1∈[qTe,qTd,sHas,sEnv,qUj] by rw[w2];simp)]
  have w2':decide ((tkAt ts p.1).2.1=(⟨#[115,105,122,101]⟩:ByteArray))=true:=jM w2
  have wx:((tkAt ts p.1).2.1.toList==(⟨#[104,97,115]⟩:ByteArray).toList)=false:=by rw[qEg,w2];decide
  have wy:((tkAt ts p.1).2.1.toList==(⟨#[101,110,118]⟩:ByteArray).toList)=false:=by rw[qEg,w2];decide
  simp only[w2',jH,j0,wx,wy,jA,jE]
  obtain⟨o,ho,hr⟩:=zJo (N:=N) (pr:=pr) hok hl (by omega) 7 true (tkAt ts p.1) (p.1+1,p.2) g hb
  refine⟨o,Eq.trans ?_ ho,?_⟩
  ·simp only[obs];rfl
  ·simp only[qMm,if_neg w1,if_pos w2]
   exact hr
 have w2':decide ((tkAt ts p.1).2.1=(⟨#[115,105,122,101]⟩:ByteArray))=false:=jQ w2
 simp only[w2',jA,jE,qMq p hp hl,j0,n]
 by_cases w3:(tkAt ts p.1).2.1=sHas
 ·rw[if_pos (show(tkAt ts p.1).2.1∈[qTe,qTd,sHas,sEnv,qUj] by rw[w3];simp)]
  have w3':decide ((tkAt ts p.1).2.1=(⟨#[104,97,115]⟩:ByteArray))=true:=jM w3
  have wx:((tkAt ts p.1).2.1.toList==(⟨#[104,97,115]⟩:ByteArray).toList)=true:=by rw[qEg,w3']
  simp only[w3',jH,j0,wx]
  obtain⟨o,ho,hr⟩:=zJo (N:=N) (pr:=pr) hok hl (by omega) 8 true (tkAt ts p.1) (p.1+1,p.2) g hb
  refine⟨o,Eq.trans ?_ ho,?_⟩
  ·simp only[obs];rfl
  ·simp only[qMm,if_neg w1,if_neg w2,if_pos w3]
   exact hr
 have w3':decide ((tkAt ts p.1).2.1=(⟨#[104,97,115]⟩:ByteArray))=false:=jQ w3
 simp only[w3',jA,jE,qMq p hp hl,j0,n]
 by_cases w4:(tkAt ts p.1).2.1=sEnv
 ·rw[if_pos (show(tkAt ts p.1).2.1∈[qTe,qTd,sHas,sEnv,qUj] by rw[w4];simp)]
  have w4':decide ((tkAt ts p.1).2.1=(⟨#[101,110,118]⟩:ByteArray))=true:=jM w4
  have wx:((tkAt ts p.1).2.1.toList==(⟨#[104,97,115]⟩:ByteArray).toList)=false:=by rw[qEg,w4];decide
  have wy:((tkAt ts p.1).2.1.toList==(⟨#[101,110,118]⟩:ByteArray).toList)=true:=by rw[qEg,w4']
  simp only[w4',jH,j0,wx,wy,jA,jE]
  obtain⟨o,ho,hr⟩:=zJo (N:=N) (pr:=pr) hok hl (by omega) 9 false (tkAt ts p.1) (p.1+1,p.2) g hb
  refine⟨o,Eq.trans ?_ ho,?_⟩
  ·simp only[obs];rfl
  ·simp only[qMm,if_neg w1,if_neg w2,if_neg w3,if_pos w4]
   exact hr
 have w4':decide ((tkAt ts p.1).2.1=(⟨#[101,110,118]⟩:ByteArray))=false:=jQ w4
 simp only[w4',jA,jE,qMq p hp hl,j0,n]
 by_cases w5:(tkAt ts p.1).2.1=qUj
 ·rw[if_pos (show(tkAt ts p.1).2.1∈[qTe,qTd,sHas,sEnv,qUj] by rw[w5];simp)]
  have w5':decide ((tkAt ts p.1).2.1=(⟨#[102,108,105,112]⟩:ByteArray))=true:=jM w5
  simp only[w5',jH]
  obtain⟨o,ho,hr⟩:=zNz (N:=N) (pr:=pr) hok hl (tkAt ts p.1) (p.1+1,p.2) g hb
  refine⟨o,Eq.trans ?_ ho,?_⟩
  ·simp only[obs]
  ·simp only[qMm,if_neg w1,if_neg w2,if_neg w3,if_neg w4]
   exact hr
 have w5':decide ((tkAt ts p.1).2.1=(⟨#[102,108,105,112]⟩:ByteArray))=false:=jQ w5
 rw[if_neg (show ¬(tkAt ts p.1).2.1∈[qTe,qTd,sHas,sEnv,qUj] by simp[w1,w2,w3,w4,w5])]
 simp only[w5',jA,jE,qVn p hp hl (by omega:100<N),j0,qNu,qNv,if_pos k2,qCf]
 rcases qEf (resC (tkAt ts p.1).2.1) with c3|c3
 ·simp only[c3,jH,qGy]
  have hz:(((tkAt ts p.1).2.2.2,(9:Int)):Flt).2≠0:=show(9:Int)≠0 by decide
  have hp0:=zCc (N:=N) (ts:=ts) (y1:=(gR ts pr p,tkAt ts p.1)) (y31:=(bR ts ((tkAt ts p.1).2.2.2,9) p.1 pr p.2,(⟨#[]⟩:ByteArray))) (j:=p.1) (pr':=pr) (b:=p.2) hz hpr pr.length 0 N (by omega) (by omega)
  rw[show((0:Nat):Int)=0 from rfl] at hp0
  simp only[zBq hz,j0,jW,jH,hp0,qOd hz]
  exact⟨_,rfl,qNy hz hp⟩
 simp only[c3,jA,jE,qLn (p.1+1,p.2) g hl,j0]
 rcases qEf (isC ts 4 qQy (p.1+1)) with c4|c4
 ·have c4':isC ts 4 ⟨#[40]⟩ (p.1+1)=true:=c4
  have g2:=qFf hok g (by decide) c4
  simp only[c4,c4',jH,k7,jA,jE]
  have hs:qFe ts qQy (p.1+1)= .inr (p.1+1+1):=by simp[qFe,c4]
  simp only[qMx,hs,qCf]
  obtain⟨o,ho,hr⟩:=rargs (N:=N) hEg hEb hok hl (by omega) hA (p.1+1+1,p.2) g2 hb
  simp only[ho,j0]
  cases ha:(if isC ts 4 qJb (p.1+1+1)=true then .inr ((p.1+1+1+1,p.2),[]) else zBj ts E (ts.length+1) [] (p.1+1+1,p.2):PM (List Int)) with
  |inl z=>
   rw[ha] at hr
   obtain⟨hz,i,pr',b,hi,ho1⟩:=hr
   simp only[ho1]
   obtain⟨o2,ho2,hr2⟩:=qTj (N:=N) (pr:=pr) (pr':=pr') (b:=b) hz hi (3,0,0,(tkAt ts p.1).2.1,o.1) (tkAt ts p.1).2.2.2
   simp only[ho2,j0]
   exact⟨_,rfl,hr2⟩
  |inr q=>
   rw[ha] at hr
   have hr':o=(q.2,gR ts pr q.1):=hr
   have hq:q.1.1<ts.length∧q.1.2.length≤256:=by
    split at ha
    ·rename_i hc
     obtain rfl:=Sum.inr.inj ha
     exact⟨qFf hok g2 (by decide) hc,hb⟩
    ·obtain⟨f1,f2,f3,f4⟩:=qXm hok hA _ _ (p.1+1+1,p.2) q.1 q.2 g2 hb ha
     exact⟨f2,f4⟩
   simp only[hr']
   obtain⟨o2,ho2,hr2⟩:=qRj (N:=N) (pr:=pr) (tkAt ts p.1) (3,0,0,(tkAt ts p.1).2.1,q.2) q.1 hq.1 hq.2
   simp only[ho2,j0]
   exact⟨_,rfl,hr2⟩
 have c4':isC ts 4 ⟨#[40]⟩ (p.1+1)=false:=c4
 simp only[c4,c4',jA,jE,jW,jH]
 have hp0:=zHg (N:=N) (ts:=ts) (pr:=pr) (y1:=(gR ts pr p,tkAt ts p.1)) (y31:=(gR ts pr (p.1+1,p.2),(tkAt ts p.1).2.1)) (p:=(p.1+1,p.2)) hpr pr.length 0 N (by omega) (by omega)
 rw[show((0:Nat):Int)=0 from rfl] at hp0
 simp only[hp0,jX,gD]
 cases hi:pr.findIdx? (fun x=>decide (x=(tkAt ts p.1).2.1)) with
 |none=>
  simp only[j0,qLa]
  exact⟨_,rfl,qNy (show(9:Int)≠0 by decide) g⟩
 |some j=>
  obtain⟨o2,ho2,hr2⟩:=qRj (N:=N) (pr:=pr) (tkAt ts p.1) (2,(j:Int),0,⟨#[]⟩,[]) (p.1+1,p.2) g hb
  simp only[ho2,j0]
  exact⟨_,rfl,hr2⟩
end
end
end Go.Proofs.YtiblcebedkllpaaGreatDoor
