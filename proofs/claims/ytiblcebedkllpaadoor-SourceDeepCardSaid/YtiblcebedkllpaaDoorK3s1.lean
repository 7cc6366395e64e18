/- No condition but those of each theorem. -/
import Derived.Test.YtiblcebedkllpaaDoorProg
import Derived.WalkKit
import Derived.Deep.LoopGhost
import Derived.KernelRfl
import Derived.OrdersHeld
import Derived.OrdersIn
import Derived.LoopNIn
import Derived.Sort.LoopGhostIn
import Derived.Laws.AppendOwn
import Derived.RangeFuncLeaves
import Derived.RangeFuncRecord
import Derived.MapKept
import Derived.Maps.RangeRun
import Derived.ChangeKeysEq
import Derived.HandedShaped
import Derived.ChangeStays
import Derived.ChangeSame
import Derived.OpenShut
import Derived.WideShapes
import Derived.JoinedOf
import Derived.ReadAgain
import Derived.ChangeAt
import Derived.RowKit
import Derived.Lib.Overlaps
import Derived.WalkSmall
import Derived.Recover
import Derived.Lib.Builder
import Derived.Lib.UnsafeStr
import Derived.Lib.Bytealg
import Derived.Test.YtiblcebedkllpaaDoorK2s1
namespace Go.Proofs.YtiblcebedkllpaaDoor
section
open Go Go.Dc
set_option maxHeartbeats 4000000
set_option maxRecDepth 100000
variable {N c1 c2:Nat} {m:Mem} {O:List Piece} {w:World} {a1 a2:Option Addr}
def qHy(N:Nat)(p0:T17)(s1:Int):Tn:=
 if(decide (s1<(List.length p0.2.1:Int)))=true then((idx p0.2.1 s1).bind fun x1=>(qBz N x1).bind fun y2=>if(!y2)=true then(some (.inr (.inr (false)))) else(some (.inl (IntKind.wrap .i64 (s1+1))))) else(some (.inr (.inl ())))
def qEv(N:Nat)(p0:T17)(s2:Int):Tn:=
 if(decide (s2<(List.length p0.2.2:Int)))=true then((idx p0.2.2 s2).bind fun x2=>(qFe N x2).bind fun y3=>if(!y3)=true then(some (.inr (.inr (false)))) else(some (.inl (IntKind.wrap .i64 (s2+1))))) else(some (.inr (.inl ())))
def qHf(N:Nat)(p0:T17):T8:=
 (qBz N p0.1).bind fun y1=>if(!y1)=true then(some false) else((qBe (qHy N p0) N 0).bind fun out1=>(match out1 with| .inl o1=>(qBe (qEv N p0) N 0).bind fun out2=>(match out2 with| .inl o2=>some true| .inr (z)=>some z)| .inr (z)=>some z))
theorem qNm{p0:T17}{r:Bool}(g:St m (O) w)(r1:RepS cStr m a1 c1 p0.2.1)(r2:RepS C4 m a2 c2 p0.2.2)(i:qHf N p0=some r):Calls Tryd.prog 64 #[.agg (V9 p0 a1 c1 a2 c2)] w fun e w'=>∃m',e= .returned (vB r)∧m.le m'∧St m' (O) w':=by
 unfold qHf at i;have q:=m.le_refl;refine W_cA Tryd.func64 rfl Tryd.ntmps64 ?_;refine W_sr (qAa rfl (qIp 1 45 0 (.agg (V9 p0 a1 c1 a2 c2)) g fun b1 m1 w1 e1 g hb1=>(qAf 1 [] (qAo (W_sr (qAb 1 [(7,vP b1 0)] (qEx 8 9 7 0 (vT p0.1) g hb1 (qAx 9 i (fun _ h=>qGb g h) ?_))))))));rintro y1 i _ w2 ⟨m2,rfl,e2,g⟩;refine qAf 1 [(10,vB (!y1))] (W_if i ?_ ?_)
 ·intro A i;refine W_sr (qAf 1 [(2,vB false)] (qAu (qAe ?_)));cases i;exact X_rt [2] [vB false] ⟨m2,rfl,(q.t e1).t e2,g⟩
 ·intro A i;refine qAm (qAi (qAo (W_sr (qAb 1 [(11,vP b1 1)] (qAa rfl (qAq (d:=12) (t:=31) (x:=(.tmp 11)) (vS a1 p0.2.1 c1) kr rfl (ev (vP b1 1)) g ((hb1.mono e2).drop 1) kr (qAf 2 [(13,vI (p0.2.1.length:Int)),(14,vI 0)] (qAs ?_))))))));have⟨out1,i,j1⟩:=qAp i;refine qCl (.exit 0) (fun L' w'=>∃(o1:Unit),∃m3,(.inl o1)=out1∧L'=[(1,vP b1 0)]∧m.le m3∧St m3 (O) w'∧MRow m3 b1 0 [vT p0.1,vS a1 p0.2.1 c1,vS a2 p0.2.2 c2]∧P4 m3 a1 c1 a2 c2 p0.2) ?_ ?_
  ·rintro _ w3 ⟨o1,m3,rfl,rfl,q,g,hb1,r1,r2⟩;have i:=j1;refine qBh (qAi (qAo (W_sr (qAb 1 [(22,vP b1 2)] (qAa rfl (qAq (d:=23) (t:=43) (x:=(.tmp 22)) (vS a2 p0.2.2 c2) kr rfl (ev (vP b1 2)) g (hb1.drop 2) kr (qAf 2 [(24,vI (p0.2.2.length:Int)),(25,vI 0)] (qAs ?_))))))));have⟨out2,i,j2⟩:=qAp i;refine qCl (.exit 2) (fun L' w'=>∃(o2:Unit),∃m6,(.inl o2)=out2∧L'=[]∧m.le m6∧St m6 (O) w') ?_ ?_
   ·rintro _ w6 ⟨o2,m6,rfl,rfl,q,g⟩;have i:=j2;refine qBh (qAi (W_sr (qAf 1 [(2,vB true)] (qAu ?_))));cases i;exact X_rt [2] [vB true] ⟨m6,rfl,q,g⟩
   intro K2_u2;refine qFv _ kr (qEa (fun k2 L' w'=>∃(s2:Int),∃m7,qBe (qEv N p0) k2 s2=some out2∧L'=[(23,vS a2 p0.2.2 c2),(24,vI (p0.2.2.length:Int)),(25,vI s2)]∧m.le m7∧St m7 (O) w'∧RepS C4 m7 a2 c2 p0.2.2) N ⟨0,m3,i,rfl,q,g,r2⟩ ?_);rintro k2 _ w7 ⟨s2,m7,hL,rfl,q,g,r2⟩;rcases k2 with _|k2
   ·exact qBi hL
   ·obtain⟨qu2,i,hSu2,hBu2⟩:=qBj hL;clear hL;unfold qEv at i;refine W_sr (qAf 1 [(26,vB (decide (s2<(p0.2.2.length:Int))))] (qAo (W_if i ?_ ?_)))
    ·intro A i;refine qAm (qAi (qAo (qAs (W_sr (qAa rfl (qDg 27 43 85 23 25 r2 i ?_))))));rintro x2 i b3 f2 cs2 ⟨_,_,rfl,rfl,⟨_,_,rfl,rfl,⟨_,_,rfl,⟨a3,c3,rfl,r3⟩,⟨a4,c4,rfl,r4⟩⟩⟩⟩ hq2;refine qEx 28 85 27 f2 (.agg (V7 x2 a3 c3 a4 c4)) g hq2 (qAa rfl (qDo 6 85 (.agg #[vI 0,vT eB,v3,v3]) g fun b4 w8 g=>(qAa rfl (qBy 85 6 28 (.agg (V7 x2 a3 c3 a4 c4)) g fun w9 g=>(WO_e (W_sr (qAa rfl (qBg 29 85 6 0 (.agg (V7 x2 a3 c3 a4 c4)) g.h (qAx 30 i (fun _ h=>qMm g r3 r4 h) ?_)))))))));rintro y3 i _ w10 ⟨m8,rfl,e4,g⟩;refine qAf 1 [(31,vB (!y3))] (W_if i ?_ ?_)
     ·intro A i;refine W_sr (qAf 1 [(2,vB false)] (qAu (qAg (qAe ?_))));cases i;have ho:=hBu2 _ rfl;subst ho;have i:=j2;refine qAe (qAg (qAe ?_));cases i;exact X_rt [2] [vB false] ⟨m8,rfl,q.t e4,g.t⟩
     ·intro A i;refine qAm (qBb (qAi (qAl (qAb 2 [(25,vI (wr (s2+1)))] (qAr rfl ?_)))));obtain rfl:=sI i;have hL:=hSu2 _ rfl;exact xE (qCg k2 (jB _) ⟨wr (s2+1),m8,hL,rfl,q.t e4,g.t,r2.mono e4⟩)
    ·intro A i;refine qDz (qAk ?_);cases i;have ho:=hBu2 _ rfl;refine qAk ?_;exact xE (K2_u2 _ _ ⟨(),m7,ho,rfl,q,g⟩)
  intro K0_u1;refine qFv _ kr (qEa (fun k1 L' w'=>∃(s1:Int),∃m4,qBe (qHy N p0) k1 s1=some out1∧L'=[(1,vP b1 0),(12,vS a1 p0.2.1 c1),(13,vI (p0.2.1.length:Int)),(14,vI s1)]∧m.le m4∧St m4 (O) w'∧MRow m4 b1 0 [vT p0.1,vS a1 p0.2.1 c1,vS a2 p0.2.2 c2]∧P4 m4 a1 c1 a2 c2 p0.2) N ⟨0,m2,i,rfl,(q.t e1).t e2,g,hb1.mono e2,(r1.mono e1).mono e2,(r2.mono e1).mono e2⟩ ?_);rintro k1 _ w4 ⟨s1,m4,hL,rfl,q,g,hb1,r1,r2⟩;rcases k1 with _|k1
  ·exact qBi hL
  ·obtain⟨qu1,i,hSu1,hBu1⟩:=qBj hL;clear hL;unfold qHy at i;refine W_sr (qAf 1 [(15,vB (decide (s1<(p0.2.1.length:Int))))] (qAo (W_if i ?_ ?_)))
   ·intro A i;refine qAm (qAi (qAo (qAs (W_sr (qAa rfl (qDg 16 31 9 12 14 r1 i ?_))))));rintro x1 i b2 f1 cs1 rfl hq1;refine qEx 17 9 16 f1 (vT x1) g hq1 (qAf 1 [(4,vT x1)] (W_sr (qAb 1 [(18,vT x1)] (qAx 19 i (fun _ h=>qGb g h) ?_))));rintro y2 i _ w5 ⟨m5,rfl,e3,g⟩;refine qAf 1 [(20,vB (!y2))] (W_if i ?_ ?_)
    ·intro A i;refine W_sr (qAf 1 [(2,vB false)] (qAu (qAg (qAe ?_))));cases i;have ho:=hBu1 _ rfl;subst ho;have i:=j1;refine qAe (qAg (qAe ?_));cases i;exact X_rt [2] [vB false] ⟨m5,rfl,q.t e3,g⟩
    ·intro A i;refine qAm (qBb (qAi (qAl (qAb 2 [(14,vI (wr (s1+1)))] (qAr rfl ?_)))));obtain rfl:=sI i;have hL:=hSu1 _ rfl;exact xE (qCg k1 (jB _) ⟨wr (s1+1),m5,hL,rfl,q.t e3,g,hb1.mono e3,r1.mono e3,r2.mono e3⟩)
   ·intro A i;refine qDz (qAk ?_);cases i;have ho:=hBu1 _ rfl;refine qAk ?_;exact xE (K0_u1 _ _ ⟨(),m4,ho,rfl,q,g,hb1,r1,r2⟩)
def qFq(N:Nat)(p0:Tc)(s1:Int):Tn:=
 if(decide (s1<(List.length p0:Int)))=true then((idx p0 s1).bind fun x1=>(subS p0 0 s1).bind fun l1=>(qBl N l1 x1).bind fun y1=>if y1=true then(some (.inr (.inr (true)))) else(some (.inl (IntKind.wrap .i64 (s1+1))))) else(some (.inr (.inl ())))
def qFh(N:Nat)(p0:Tc):T8:=
 (qBe (qFq N p0) N 0).bind fun out1=>(match out1 with| .inl o1=>some false| .inr (z)=>some z)
theorem qHm{p0:Tc}{r:Bool}(g:St m (O) w)(r1:RepS cStr m a1 c1 p0)(i:qFh N p0=some r):Calls Tryd.prog 90 #[vS a1 p0 c1] w fun e w'=>∃m',e= .returned (vB r)∧m.le m'∧St m' (O) w':=by
 unfold qFh at i;have q:=m.le_refl;refine W_cA Tryd.func90 rfl Tryd.ntmps90 ?_;refine W_sr (qAf 1 [] (qAo (W_sr (qAf 3 [(5,vS a1 p0 c1),(6,vI (p0.length:Int)),(7,vI 0)] (qAs ?_)))));have⟨out1,i,j1⟩:=qAp i;refine qCl (.exit 0) (fun L' w'=>∃(o1:Unit),∃m1,(.inl o1)=out1∧L'=[]∧m.le m1∧St m1 (O) w') ?_ ?_
 ·rintro _ w1 ⟨o1,m1,rfl,rfl,q,g⟩;have i:=j1;refine qBh (qAi (W_sr (qAf 1 [(2,vB false)] (qAu ?_))));cases i;exact X_rt [2] [vB false] ⟨m1,rfl,q,g⟩
 intro K0_u1;refine qFv _ kr (qEa (fun k1 L' w'=>∃(s1:Int),∃m2,qBe (qFq N p0) k1 s1=some out1∧L'=[(0,vS a1 p0 c1),(5,vS a1 p0 c1),(6,vI (p0.length:Int)),(7,vI s1)]∧m.le m2∧St m2 (O) w'∧RepS cStr m2 a1 c1 p0) N ⟨0,m,i,rfl,q,g,r1⟩ ?_);rintro k1 _ w2 ⟨s1,m2,hL,rfl,q,g,r1⟩;rcases k1 with _|k1
 ·exact qBi hL
 ·obtain⟨qu1,i,hSu1,hBu1⟩:=qBj hL;clear hL;unfold qFq at i;refine W_sr (qAf 1 [(8,vB (decide (s1<(p0.length:Int))))] (qAo (W_if i ?_ ?_)))
  ·intro A i;refine qAm (qAi (qAo (qAs (W_sr (qAb 1 [(9,vI s1)] (qAa rfl (qDg 10 31 9 5 7 r1 i ?_)))))));rintro x1 i b1 f1 cs1 rfl hq1;refine qEx 11 9 10 f1 (vT x1) g hq1 (qAf 2 [(3,vI s1),(4,vT x1)] (W_sr (qAb 2 [(12,vS a1 p0 c1),(13,vI s1)] ?_)));have⟨l1,d2,i⟩:=qAp i;refine qAa rfl (qRm (d:=14) (t:=31) (e:=9) (x:=(.tmp 12)) (lo:=none) (hi:=(some (.tmp 13))) cStr kr rfl (ev (vS a1 p0 c1)) kr r1 (.inl ⟨rfl,rfl⟩) (.inr ⟨_,_,rfl,(ev (vI s1))⟩) d2 ?_);intro a2 c2 r2;refine qAb 1 [(15,vT x1)] (qAx 16 i (fun _ h=>qCm g r2 h) ?_);rintro y1 i _ w3 ⟨m3,rfl,e1,g⟩;refine WO_e (W_if i ?_ ?_)
   ·intro A i;refine W_sr (qAf 1 [(2,vB true)] (qAu (qAg (qAe ?_))));cases i;have ho:=hBu1 _ rfl;subst ho;have i:=j1;refine qAe (qAg (qAe ?_));cases i;exact X_rt [2] [vB true] ⟨m3,rfl,q.t e1,g⟩
   ·intro A i;refine qAm (qBb (qAi (qAl (qAb 2 [(7,vI (wr (s1+1)))] (qAr rfl ?_)))));obtain rfl:=sI i;have hL:=hSu1 _ rfl;exact xE (qCg k1 (jB _) ⟨wr (s1+1),m3,hL,rfl,q.t e1,g,r1.mono e1⟩)
  ·intro A i;refine qDz (qAk ?_);cases i;have ho:=hBu1 _ rfl;refine qAk ?_;exact xE (K0_u1 _ _ ⟨(),m2,ho,rfl,q,g⟩)
def qCo(N:Nat)(p0:T6)(p1:T2)(s1:Int):Option (Int⊕Unit⊕Int):=
 if(decide (s1<(List.length p0:Int)))=true then((idx p0 s1).bind fun x1=>if((p1.1==x1.1)&&((p1.2.toList==x1.2.toList)&&true))=true then(some (.inr (.inr (s1)))) else(some (.inl (IntKind.wrap .i64 (s1+1))))) else(some (.inr (.inl ())))
def qDb(N:Nat)(p0:T6)(p1:T2):T9:=
 (qBe (qCo N p0 p1) N 0).bind fun out1=>(match out1 with| .inl o1=>some (-1)| .inr (z)=>some z)
theorem qGe{p0:T6}{p1:T2}{r:Int}(g:St m (O) w)(r1:RepS C5 m a1 c1 p0)(i:qDb N p0 p1=some r):Calls Tryd.prog 123 #[vS a1 p0 c1,.agg (Va p1)] w fun e w'=>∃m',e= .returned (vI r)∧m.le m'∧St m' (O) w':=by
 unfold qDb at i;have q:=m.le_refl;refine W_cA Tryd.func123 rfl Tryd.ntmps123 ?_;refine W_sr (qAa rfl (qIp 3 149 1 (.agg (Va p1)) g fun b1 m1 w1 e1 g hb1=>(qAf 1 [] (qAo (W_sr (qAf 3 [(7,vI (p0.length:Int)),(8,vI 0)] (qAs ?_)))))));have⟨out1,i,j1⟩:=qAp i;refine qCl (.exit 0) (fun L' w'=>∃(o1:Unit),∃m2,(.inl o1)=out1∧L'=[]∧m.le m2∧St m2 (O) w') ?_ ?_
 ·rintro _ w2 ⟨o1,m2,rfl,rfl,q,g⟩;have i:=j1;refine qBh (qAi (W_sr (qAf 1 [(4,vI (-1))] (qAu ?_))));cases i;exact X_rt [4] [vI (-1)] ⟨m2,rfl,q,g⟩
 intro K0_u1;refine qFv _ kr (qEa (fun k1 L' w'=>∃(s1:Int),∃m3,qBe (qCo N p0 p1) k1 s1=some out1∧L'=[(0,vS a1 p0 c1),(3,vP b1 0),(7,vI (p0.length:Int)),(8,vI s1)]∧m.le m3∧St m3 (O) w'∧RepS C5 m3 a1 c1 p0∧MRow m3 b1 0 [vI p1.1,vT p1.2]) N ⟨0,m1,i,rfl,q.t e1,g,r1.mono e1,hb1⟩ ?_);rintro k1 _ w3 ⟨s1,m3,hL,rfl,q,g,r1,hb1⟩;rcases k1 with _|k1
 ·exact qBi hL
 ·obtain⟨qu1,i,hSu1,hBu1⟩:=qBj hL;clear hL;unfold qCo at i;refine W_sr (qAf 1 [(9,vB (decide (s1<(p0.length:Int))))] (qAo (W_if i ?_ ?_)))
  ·intro A i;refine qAm (qAi (qAo (qAs (W_sr (qAf 2 [(5,vI s1)] (qAo (qFt [(6,fun w'=>Inv m3 w'∧True)] kr g fun w4 _ g=> ?_)))))));have hmS1:=m3.le_refl;refine tA g hmS1 ?_;refine qNx 149 3 0 11 0 (.agg (Va p1)) (.head _) (fun _ h=>h.1) hb1 (qBf 1 12 (vS a1 p0 c1) (.head _) (qBf 2 13 (vI s1) (.head _) ?_));have⟨x1,d1,i⟩:=qAp i;refine qMj (t:=146) (e:=149) (x:=(.tmp 12)) (y:=(.tmp 13)) 3 14 C5 kr rfl kr (.head _) (qEl (qFu (qEl (qEl (qFu (qEl qMc)))))) (ev (vS a1 p0 c1)) (ev (vI s1)) kr r1 d1 ?_;rintro b2 f1 cs1 ⟨_,_,rfl,rfl,rfl⟩ hq1;refine qNx 149 14 4 15 f1 (.agg (Va x1)) (.head _) (fun _ h=>h.1) hq1 (qDf 5 kr (qVv (d:=16) (t:=149) (t2:=149) (x:=(.tmp 11)) (y:=(.tmp 15)) (xs:=(Va p1)) (ys:=(Va x1)) ((p1.1==x1.1)&&((p1.2.toList==x1.2.toList)&&true)) kr rfl (ev (.agg (Va p1))) (ev (.agg (Va x1))) kr kr kr (tA g hmS1 (qEj kr (qAi (W_if i ?_ ?_))))))
   ·intro A i;refine W_sr (qAf 2 [(4,vI s1)] (qAu (qAg (qAe ?_))));obtain rfl:=sI i;have ho:=hBu1 _ rfl;subst ho;have i:=j1;refine qAe (qAg (qAe ?_));obtain rfl:=sI i;exact X_rt [4] [vI s1] ⟨m3,rfl,q,g⟩
   ·intro A i;refine qAm (qBb (qAi (qAl (qAb 2 [(8,vI (wr (s1+1)))] (qAr rfl ?_)))));obtain rfl:=sI i;have hL:=hSu1 _ rfl;exact xE (qCg k1 (jB _) ⟨wr (s1+1),m3,hL,rfl,q,g,r1,hb1⟩)
  ·intro A i;refine qDz (qAk ?_);cases i;have ho:=hBu1 _ rfl;refine qAk ?_;exact xE (K0_u1 _ _ ⟨(),m3,ho,rfl,q,g⟩)
def qCq(N:Nat)(p0:T6)(p1:T2):T8:=
 (qDb N p0 p1).bind fun y1=>some (decide (y1≥0))
theorem qFm{p0:T6}{p1:T2}{r:Bool}(g:St m (O) w)(r1:RepS C5 m a1 c1 p0)(i:qCq N p0 p1=some r):Calls Tryd.prog 113 #[vS a1 p0 c1,.agg (Va p1)] w fun e w'=>∃m',e= .returned (vB r)∧m.le m'∧St m' (O) w':=by
 unfold qCq at i;have q:=m.le_refl;refine W_cA Tryd.func113 rfl Tryd.ntmps113 ?_;refine W_sr (qAa rfl (qIp 3 149 1 (.agg (Va p1)) g fun b1 m1 w1 e1 g hb1=>(qAf 1 [] (W_sr (qAb 1 [(5,vS a1 p0 c1)] (qEx 6 149 3 0 (.agg (Va p1)) g hb1 (qAx 7 i (fun _ h=>qGe g (r1.mono e1) h) ?_)))))));rintro y1 i _ w2 ⟨m2,rfl,e2,g⟩;refine qAf 2 [(4,vB (decide (y1≥0)))] (qAu ?_);obtain rfl:=sI i;exact X_rt [4] [vB (decide (y1≥0))] ⟨m2,rfl,(q.t e1).t e2,g⟩
def qEp(N:Nat)(p0:T6)(s1:Int):Tn:=
 if(decide (s1<(List.length p0:Int)))=true then((idx p0 s1).bind fun x1=>(subS p0 0 s1).bind fun l1=>(qCq N l1 x1).bind fun y1=>if y1=true then(some (.inr (.inr (true)))) else(some (.inl (IntKind.wrap .i64 (s1+1))))) else(some (.inr (.inl ())))
def qFg(N:Nat)(p0:T6):T8:=
 (qBe (qEp N p0) N 0).bind fun out1=>(match out1 with| .inl o1=>some false| .inr (z)=>some z)
theorem qIs{p0:T6}{r:Bool}(g:St m (O) w)(r1:RepS C5 m a1 c1 p0)(i:qFg N p0=some r):Calls Tryd.prog 91 #[vS a1 p0 c1] w fun e w'=>∃m',e= .returned (vB r)∧m.le m'∧St m' (O) w':=by
 unfold qFg at i;have q:=m.le_refl;refine W_cA Tryd.func91 rfl Tryd.ntmps91 ?_;refine W_sr (qAf 1 [] (qAo (W_sr (qAf 3 [(5,vS a1 p0 c1),(6,vI (p0.length:Int)),(7,vI 0)] (qAs ?_)))));have⟨out1,i,j1⟩:=qAp i;refine qCl (.exit 0) (fun L' w'=>∃(o1:Unit),∃m1,(.inl o1)=out1∧L'=[]∧m.le m1∧St m1 (O) w') ?_ ?_
 ·rintro _ w1 ⟨o1,m1,rfl,rfl,q,g⟩;have i:=j1;refine qBh (qAi (W_sr (qAf 1 [(2,vB false)] (qAu ?_))));cases i;exact X_rt [2] [vB false] ⟨m1,rfl,q,g⟩
 intro K0_u1;refine qFv _ kr (qEa (fun k1 L' w'=>∃(s1:Int),∃m2,qBe (qEp N p0) k1 s1=some out1∧L'=[(0,vS a1 p0 c1),(5,vS a1 p0 c1),(6,vI (p0.length:Int)),(7,vI s1)]∧m.le m2∧St m2 (O) w'∧RepS C5 m2 a1 c1 p0) N ⟨0,m,i,rfl,q,g,r1⟩ ?_);rintro k1 _ w2 ⟨s1,m2,hL,rfl,q,g,r1⟩;rcases k1 with _|k1
 ·exact qBi hL
 ·obtain⟨qu1,i,hSu1,hBu1⟩:=qBj hL;clear hL;unfold qEp at i;refine W_sr (qAf 1 [(8,vB (decide (s1<(p0.length:Int))))] (qAo (W_if i ?_ ?_)))
  ·intro A i;refine qAm (qAi (qAo (qAs (W_sr (qAb 1 [(9,vI s1)] (qAa rfl (qDg 10 146 149 5 7 r1 i ?_)))))));rintro x1 i b1 f1 cs1 ⟨_,_,rfl,rfl,rfl⟩ hq1;refine qEx 11 149 10 f1 (.agg (Va x1)) g hq1 (qAa rfl (qDo 4 149 (.agg #[vI 0,vT eB]) g fun b2 w3 g=>(qAb 1 [(3,vI s1)] (qAa rfl (qBy 149 4 11 (.agg (Va x1)) g fun w4 g=>(WO_e (qAo (qFt [(5,fun w'=>Inv m2 w'∧Piece.holds m2 w' (kB b2 (Va x1) 149)∧True)] kr g fun w5 _ g=> ?_))))))));have hmS1:=m2.le_refl;refine⟨⟨.inr ⟨Inv.anti g.inv hmS1,Piece.holds_anti g.h hmS1,trivial⟩,trivial⟩,?_⟩;refine qBf 0 12 (vS a1 p0 c1) (.head _) (qBf 1 13 (vI s1) (.head _) ?_);have⟨l1,d2,i⟩:=qAp i;refine qXt (t:=146) (e:=149) (x:=(.tmp 12)) (lo:=none) (hi:=(some (.tmp 13))) 2 14 C5 kr rfl kr (.head _) (qEl (qFu (qEl (qEl (qFu (qEl qMc)))))) (ev (vS a1 p0 c1)) kr r1 (.inl ⟨rfl,rfl⟩) (.inr ⟨_,_,rfl,(ev (vI s1))⟩) d2 ?_;intro a2 c2 r2;refine qGw 149 4 3 15 0 (.agg (Va x1)) (.head _) (fun _ h=>h.2.1) (qDf 4 kr (qNb 16 i (fun _ h=>qFm g r2 h) ?_));rintro y1 i _ w6 ⟨m3,rfl,e1,g⟩;refine⟨_,rfl,?_⟩;have hmS1:=Mem.le_trans hmS1 e1;refine⟨⟨.inr ⟨Inv.anti g.inv hmS1,Piece.holds_anti g.h hmS1,trivial⟩,trivial⟩,?_⟩;refine qEj kr ?_;refine qAi (W_if i ?_ ?_)
   ·intro A i;refine W_sr (qAf 1 [(2,vB true)] (qAu (qAg (qAe ?_))));cases i;have ho:=hBu1 _ rfl;subst ho;have i:=j1;refine qAe (qAg (qAe ?_));cases i;exact X_rt [2] [vB true] ⟨m3,rfl,q.t e1,g.t⟩
   ·intro A i;refine qAm (qBb (qAi (qAl (qAb 2 [(7,vI (wr (s1+1)))] (qAr rfl ?_)))));obtain rfl:=sI i;have hL:=hSu1 _ rfl;exact xE (qCg k1 (jB _) ⟨wr (s1+1),m3,hL,rfl,q.t e1,g.t,r1.mono e1⟩)
  ·intro A i;refine qDz (qAk ?_);cases i;have ho:=hBu1 _ rfl;refine qAk ?_;exact xE (K0_u1 _ _ ⟨(),m2,ho,rfl,q,g⟩)
def qIq(N:Nat)(p0:T17)(s1:T6×Int):Option (T6×Int⊕T6⊕Bool):=
 if(decide (s1.2<(List.length p0.2.2:Int)))=true then((idx p0.2.2 s1.2).bind fun x1=>(qFh N x1.2.2.1).bind fun y1=>if y1=true then(some (.inr (.inr (true)))) else((qCy 24 s1.1 ([(x1.1,x1.2.1)])).bind fun l1=>some (.inl (l1,IntKind.wrap .i64 (s1.2+1))))) else(some (.inr (.inl s1.1)))
def qLi(N:Nat)(p0:T17):T8:=
 (qBe (qIq N p0) N (([]:T6),0)).bind fun out1=>(match out1 with| .inl o1=>((qBl N p0.2.1 p0.1).bind fun y2=>if y2=true then(some true) else((qFh N p0.2.1).bind fun y3=>if y3=true then(some true) else((qFg N o1).bind fun y4=>some y4)):T8).bind fun o2=>some o2| .inr (z)=>some z)
theorem qOk{p0:T17}{r:Bool}(g:St m (O) w)(r1:RepS cStr m a1 c1 p0.2.1)(r2:RepS C4 m a2 c2 p0.2.2)(i:qLi N p0=some r):Calls Tryd.prog 65 #[.agg (V9 p0 a1 c1 a2 c2)] w fun e w'=>∃m',e= .returned (vB r)∧m.le m'∧St m' (O) w':=by
 unfold qLi at i;have q:=m.le_refl;refine W_cA Tryd.func65 rfl Tryd.ntmps65 ?_;refine W_sr (qAa rfl (qIp 1 45 0 (.agg (V9 p0 a1 c1 a2 c2)) g fun b1 m1 w1 e1 g hb1=>(qAf 1 [] (W_sr (qAf 1 [(3,vS none ([]:T6) 0)] (qAo (W_sr (qAb 1 [(6,vP b1 2)] (qAa rfl (qAq (d:=7) (t:=43) (x:=(.tmp 6)) (vS a2 p0.2.2 c2) kr rfl (ev (vP b1 2)) g (hb1.drop 2) kr (qAf 2 [(8,vI (p0.2.2.length:Int)),(9,vI 0)] (qAs ?_))))))))))));have⟨out1,i,j1⟩:=qAp i;refine qCl (.exit 0) (fun L' w'=>∃(o1:T6),∃a3 c3 m2,(.inl o1)=out1∧L'=[(1,vP b1 0),(3,vS a3 o1 c3)]∧m.le m2∧St m2 (kR a3 o1 c3 149 2::O) w'∧MRow m2 b1 0 [vT p0.1,vS a1 p0.2.1 c1,vS a2 p0.2.2 c2]∧RepS cStr m2 a1 c1 p0.2.1∧RepS C4 m2 a2 c2 p0.2.2∧RepS C5 m2 a3 c3 o1) ?_ ?_
 ·rintro _ w2 ⟨o1,a3,c3,m2,rfl,rfl,q,g,hb1,r1,r2,r3⟩;have i:=j1;refine qBh (qAi (W_sr ?_));have⟨o2,i,J⟩:=qAp i;refine qEo (j:=15) (fun L' w'=>∃m7,L'=[(2,vB o2)]∧m.le m7∧St m7 (kR a3 o1 c3 149 2::O) w') ?_ ?_
  ·have i:=J;rintro _ w9 ⟨m7,rfl,q,g⟩;refine WO_e (qAu ?_);obtain rfl:=sI i;exact X_rt [2] [vB o2] ⟨m7,rfl,q,g.t⟩
  ·intro K;refine qAb 1 [(25,vP b1 1)] (qAa rfl (qAq (d:=26) (t:=31) (x:=(.tmp 25)) (vS a1 p0.2.1 c1) kr rfl (ev (vP b1 1)) g (hb1.drop 1) kr (qAb 1 [(27,vP b1 0)] (qEx 28 9 27 0 (vT p0.1) g hb1 (qAx 29 i (fun _ h=>qCm g r1 h) ?_)))));rintro y2 i _ w10 ⟨m8,rfl,e5,g⟩;have q:=q.t e5;refine qAb 1 [(30,vB y2)] (qDc 30 i ?_ ?_)
   ·intro A i;refine qAb 9 [(2,vB true)] ?_;cases i;exact qAw _ kr (K _ _ ⟨m8,rfl,q,g⟩)
   ·intro A i;refine qAb 1 [(31,vP b1 1)] (qAa rfl (qAq (d:=32) (t:=31) (x:=(.tmp 31)) (vS a1 p0.2.1 c1) kr rfl (ev (vP b1 1)) g ((hb1.mono e5).drop 1) kr (qAx 33 i (fun _ h=>qHm g (r1.mono e5) h) ?_)));rintro y3 i _ w11 ⟨m9,rfl,e6,g⟩;refine qAb 2 [(35,vB y3)] (qDc 35 i ?_ ?_)
    ·intro A i;refine qAb 4 [(2,vB true)] ?_;cases i;exact qAw _ kr (K _ _ ⟨m9,rfl,q.t e6,g⟩)
    ·intro A i;refine qAb 1 [(36,vS a3 o1 c3)] (qAx 37 i (fun _ h=>qIs g ((r3.mono e5).mono e6) h) ?_);rintro y4 i _ w12 ⟨m10,rfl,e7,g⟩;refine qAb 2 [(2,vB y4)] ?_;cases i;exact qAw _ kr (K _ _ ⟨m10,rfl,(q.t e6).t e7,g⟩)
 intro K0_u1;refine qFv _ kr (qEa (fun k1 L' w'=>∃(s1:T6×Int),∃a4 c4 m3,qBe (qIq N p0) k1 s1=some out1∧L'=[(1,vP b1 0),(3,vS a4 s1.1 c4),(7,vS a2 p0.2.2 c2),(8,vI (p0.2.2.length:Int)),(9,vI s1.2)]∧m.le m3∧St m3 (kR a4 s1.1 c4 149 2::O) w'∧MRow m3 b1 0 [vT p0.1,vS a1 p0.2.1 c1,vS a2 p0.2.2 c2]∧RepS cStr m3 a1 c1 p0.2.1∧RepS C4 m3 a2 c2 p0.2.2∧RepS C5 m3 a4 c4 s1.1) N ⟨(([]:T6),0),none,0,m1,i,rfl,q.t e1,(g.nilroom 149 2),hb1,r1.mono e1,r2.mono e1,(RepS.nil _ _)⟩ ?_);rintro k1 _ w3 ⟨s1,a4,c4,m3,hL,rfl,q,g,hb1,r1,r2,r4⟩;rcases k1 with _|k1
 ·exact qBi hL
 ·obtain⟨qu1,i,hSu1,hBu1⟩:=qBj hL;clear hL;unfold qIq at i;refine W_sr (qAf 1 [(10,vB (decide (s1.2<(p0.2.2.length:Int))))] (qAo (W_if i ?_ ?_)))
  ·intro A i;refine qAm (qAi (qAo (qAs (W_sr (qAa rfl (qDg 11 43 85 7 9 r2 i ?_))))));rintro x1 i b2 f1 cs1 ⟨_,_,rfl,rfl,⟨_,_,rfl,rfl,⟨_,_,rfl,⟨a5,c5,rfl,r5⟩,⟨a6,c6,rfl,r6⟩⟩⟩⟩ hq1;refine qEx 12 85 11 f1 (.agg (V7 x1 a5 c5 a6 c6)) g hq1 (qAa rfl (qDo 5 85 (.agg #[vI 0,vT eB,v3,v3]) g fun b3 w4 g=>(qAa rfl (qBy 85 5 12 (.agg (V7 x1 a5 c5 a6 c6)) g fun w5 g=>(WO_e (qAo (W_sr (qEk 1 14 31 13 2 (vS a5 x1.2.2.1 c5) g.h (qAx 15 i (fun _ h=>qHm g r5 h) ?_)))))))));rintro y1 i _ w6 ⟨m4,rfl,e2,g⟩;refine WO_e (W_if i ?_ ?_)
   ·intro A i;refine W_sr (qAb 1 [(2,vB true)] (qAr rfl ?_));have g:=g.f1.t;refine qAi (qAu (qAe (qAg (qAe ?_))));cases i;have ho:=hBu1 _ rfl;subst ho;have i:=j1;refine qAe (qAg (qAe ?_));cases i;exact X_rt [2] [vB true] ⟨m4,rfl,q.t e2,g.t⟩
   ·intro A i;refine qAm (qAi (qAl (qAb 2 [(16,vS a4 s1.1 c4),(17,vP b3 0)] (qAa rfl (qBg 18 3 17 0 (vI x1.1) g.h (qEk 1 20 9 19 1 (vT x1.2.1) g.h (qAb 1 [(21,.agg #[vI x1.1,vT x1.2.1])] (qAa rfl (qBa (d:=22) (t:=146) (e:=149) (len:=1) (parts:= #[(0,(.tmp 21))]) C5 (xs:=[(x1.1,x1.2.1)]) [vI x1.1,vT x1.2.1] kr rfl (fun _=>qBc kr _) rfl rfl g ⟨[vI x1.1,vT x1.2.1],_,rfl,⟨_,_,rfl,rfl,rfl⟩,rfl⟩ fun b4 m5 w7 e3 g r7=>(qAa rfl (qDw 23 146 146 149 24 16 22 g.f2 (.inl kr) ((r4.mono e2).mono e3) r7.src i fun l1 i a7 c7 m6 w8 e4 g r8=>(qAb 1 [(3,vS a7 l1 c7)] (qAr rfl ?_)))))))))))));have g:=g.f1.t;refine qBb (qAi (qAl (qAb 2 [(9,vI (wr (s1.2+1)))] (qAr rfl ?_))));obtain rfl:=sI i;have hL:=hSu1 _ rfl;exact xE (qCg k1 (jB _) ⟨(l1,wr (s1.2+1)),a7,c7,m6,hL,rfl,((q.t e2).t e3).t e4,g.f1.t,((hb1.mono e2).mono e3).mono e4,((r1.mono e2).mono e3).mono e4,((r2.mono e2).mono e3).mono e4,r8⟩)
  ·intro A i;refine qDz (qAk ?_);cases i;have ho:=hBu1 _ rfl;refine qAk ?_;exact xE (K0_u1 _ _ ⟨s1.1,a4,c4,m3,ho,rfl,q,g,hb1,r1,r2,r4⟩)
def qJk(N:Nat)(x1:T11)(s2:T1b)(x5:Td)(s3:T1b):Option (T1b⊕T7):=
 if(decide (s3.1<(List.length x5.2.2.2.2:Int)))=true then(((idx x5.2.2.2.2 s3.1).bind fun x6=>(idx s3.2 s2.1).bind fun x7=>(idx s3.2 x6).bind fun x8=>(idx x1.2.2.2 s2.1).bind fun x9=>if(x9.1 !=4)=true then((idx (List.set s3.2 (Int.toNat x6) x7) x6).bind fun x10=>(idx (List.set s3.2 (Int.toNat x6) x7) x6).bind fun x11=>some (List.set (List.set s3.2 (Int.toNat x6) x7) (Int.toNat x6) (IntKind.wrap .i64 (x10+1)))) else(some (List.set s3.2 (Int.toNat x6) x7)):Option T7).bind fun o7=>some (.inl (IntKind.wrap .i64 (s3.1+1),o7))) else(some (.inr s3.2))
def qJi(N:Nat)(x1:T11)(s2:T1b):Option (T1b⊕T7⊕Bool):=
 if(decide (s2.1≥0))=true then((idx s2.2 s2.1).bind fun x2=>(if(x2==0)=true then((idx s2.2 s2.1).bind fun x3=>some (List.set s2.2 (Int.toNat s2.1) 1)) else(some s2.2):Option T7).bind fun o5=>(idx o5 s2.1).bind fun x4=>if(decide (x4>32))=true then(some (.inr (.inr (true)))) else((idx x1.2.2.2 s2.1).bind fun x5=>(qBe (qJk N x1 s2 x5) N (0,o5)).bind fun o6=>some (.inl (IntKind.wrap .i64 (s2.1-1),o6)))) else(some (.inr (.inl s2.2)))
def qJh(N:Nat)(p0:T17)(s1:Int):Tn:=
 if(decide (s1<(List.length p0.2.2:Int)))=true then((idx p0.2.2 s1).bind fun x1=>(if(decide ((List.length x1.2.2.1:Int)>8))=true then(some true) else(some (decide ((List.length x1.2.2.2:Int)>256))):T8).bind fun o3=>if o3=true then(some (.inr (.inr (true)))) else((qQd 8 0 (List.length x1.2.2.2:Int)).bind fun l1=>(qBe (qJi N x1) N (IntKind.wrap .i64 ((List.length x1.2.2.2:Int)-1),l1)).bind fun out2=>(match out2 with| .inl o4=>some (.inl (IntKind.wrap .i64 (s1+1)))| .inr (z)=>some (.inr (.inr (z)))))) else(some (.inr (.inl ())))
def qLu(N:Nat)(p0:T17):T8:=
 (if(decide ((List.length p0.2.1:Int)>8))=true then(some true) else(some (decide ((List.length p0.2.2:Int)>64))):T8).bind fun o1=>if o1=true then(some true) else((qBe (qJh N p0) N 0).bind fun out1=>(match out1 with| .inl o2=>some false| .inr (z)=>some z))
theorem qPb{p0:T17}{r:Bool}(g:St m (O) w)(r1:RepS cStr m a1 c1 p0.2.1)(r2:RepS C4 m a2 c2 p0.2.2)(i:qLu N p0=some r):Calls Tryd.prog 66 #[.agg (V9 p0 a1 c1 a2 c2)] w fun e w'=>∃m',e= .returned (vB r)∧m.le m'∧St m' (O) w':=by
 unfold qLu at i;have q:=m.le_refl;refine W_cA Tryd.func66 rfl Tryd.ntmps66 ?_;refine W_sr (qAa rfl (qIp 1 45 0 (.agg (V9 p0 a1 c1 a2 c2)) g fun b1 m1 w1 e1 g hb1=>(qAf 1 [] (qAo (W_sr ?_)))));have⟨o1,i,J⟩:=qAp i;refine qEo (j:=10) (fun L' w'=>∃m2,L'=[(1,vP b1 0),(18,vB o1)]∧m.le m2∧St m2 (O) w'∧MRow m2 b1 0 [vT p0.1,vS a1 p0.2.1 c1,vS a2 p0.2.2 c2]∧P4 m2 a1 c1 a2 c2 p0.2) ?_ ?_
 ·have i:=J;rintro _ w2 ⟨m2,rfl,q,g,hb1,r1,r2⟩;refine WO_e (W_if i ?_ ?_)
  ·intro A i;refine W_sr (qAf 1 [(2,vB true)] (qAu (qAe ?_)));cases i;exact X_rt [2] [vB true] ⟨m2,rfl,q,g⟩
  ·intro A i;refine qAm (qAi (qAo (W_sr (qAb 1 [(19,vP b1 2)] (qAa rfl (qAq (d:=20) (t:=43) (x:=(.tmp 19)) (vS a2 p0.2.2 c2) kr rfl (ev (vP b1 2)) g (hb1.drop 2) kr (qAf 2 [(21,vI (p0.2.2.length:Int)),(22,vI 0)] (qAs ?_))))))));have⟨out1,i,j1⟩:=qAp i;refine qCl (.exit 0) (fun L' w'=>∃(o2:Unit),∃m3,(.inl o2)=out1∧L'=[]∧m.le m3∧St m3 (O) w') ?_ ?_
   ·rintro _ w3 ⟨o2,m3,rfl,rfl,q,g⟩;have i:=j1;refine qBh (qAi (W_sr (qAf 1 [(2,vB false)] (qAu ?_))));cases i;exact X_rt [2] [vB false] ⟨m3,rfl,q,g⟩
   intro K0_u1;refine qFv _ kr (qEa (fun k1 L' w'=>∃(s1:Int),∃m4,qBe (qJh N p0) k1 s1=some out1∧L'=[(20,vS a2 p0.2.2 c2),(21,vI (p0.2.2.length:Int)),(22,vI s1)]∧m.le m4∧St m4 (O) w'∧RepS C4 m4 a2 c2 p0.2.2) N ⟨0,m2,i,rfl,q,g,r2⟩ ?_);rintro k1 _ w4 ⟨s1,m4,hL,rfl,q,g,r2⟩;rcases k1 with _|k1
   ·exact qBi hL
   ·obtain⟨qu1,i,hSu1,hBu1⟩:=qBj hL;clear hL;unfold qJh at i;refine W_sr (qAf 1 [(23,vB (decide (s1<(p0.2.2.length:Int))))] (qAo (W_if i ?_ ?_)))
    ·intro A i;refine qAm (qAi (qAo (qAs (W_sr (qAa rfl (qDg 24 43 85 20 22 r2 i ?_))))));rintro x1 i b2 f1 cs1 ⟨_,_,rfl,rfl,⟨_,_,rfl,rfl,⟨_,_,rfl,⟨a3,c3,rfl,r3⟩,⟨a4,c4,rfl,r4⟩⟩⟩⟩ hq1;refine qEx 25 85 24 f1 (.agg (V7 x1 a3 c3 a4 c4)) g hq1 (qAa rfl (qDo 4 85 (.agg #[vI 0,vT eB,v3,v3]) g fun b3 w5 g=>(qAa rfl (qBy 85 4 25 (.agg (V7 x1 a3 c3 a4 c4)) g fun w6 g=>(WO_e (qAo (W_sr ?_)))))));have⟨o3,i,J⟩:=qAp i;refine qEo (j:=10) (fun L' w'=>∃m5,L'=[(4,vP b3 0),(20,vS a2 p0.2.2 c2),(21,vI (p0.2.2.length:Int)),(22,vI s1),(35,vB o3)]∧m.le m5∧St m5 (kB b3 (V7 x1 a3 c3 a4 c4) 85::O) w'∧RepS C4 m5 a2 c2 p0.2.2∧RepS cStr m5 a3 c3 x1.2.2.1∧RepS C3 m5 a4 c4 x1.2.2.2) ?_ ?_
     ·have i:=J;rintro _ w7 ⟨m5,rfl,q,g,r2,r3,r4⟩;refine WO_e (W_if i ?_ ?_)
      ·intro A i;refine W_sr (qAf 1 [(2,vB true)] (qAu (qAe (qAg (qAe ?_)))));cases i;have ho:=hBu1 _ rfl;subst ho;have i:=j1;refine qAe (qAg (qAe ?_));cases i;exact X_rt [2] [vB true] ⟨m5,rfl,q,g.t⟩
      ·intro A i;refine qAm (qAi (W_sr (qEk 1 37 78 36 3 (vS a4 x1.2.2.2 c4) g.h (qAb 1 [(38,vI (x1.2.2.2.length:Int))] ?_))));have⟨l1,d2,i⟩:=qAp i;refine qAa rfl (qMf (d:=39) (t:=22) (e:=3) (by_:=8) (x:=(.tmp 38)) (y:=(.tmp 38)) (fun x:Int=>Value.int .i64 x) kr rfl (ev (vI (x1.2.2.2.length:Int))) (ev (vI (x1.2.2.2.length:Int))) kr kr rfl g d2 fun b4 w8 hn1 g=>(qAf 1 [(5,.slice (aP b4) (Int.toNat (x1.2.2.2.length:Int)) (Int.toNat (x1.2.2.2.length:Int)))] (W_sr (qEk 1 41 78 40 3 (vS a4 x1.2.2.2 c4) g.t.h (qAf 3 [(6,vI (wr ((x1.2.2.2.length:Int)-1)))] (qAs ?_))))));have⟨out2,i,j2⟩:=qAp i;refine qCl (.exit 2) (fun L' w'=>∃(o4:T7),∃m6,(.inl o4)=out2∧L'=[(20,vS a2 p0.2.2 c2),(21,vI (p0.2.2.length:Int)),(22,vI s1)]∧m.le m6∧St m6 (kB b3 (V7 x1 a3 c3 a4 c4) 85:: .blk b4 (.cells (qEb (fun x:Int=>Value.int .i64 x) o4 []) 3 (0,0))::O) w'∧RepS C4 m6 a2 c2 p0.2.2∧RepS cStr m6 a3 c3 x1.2.2.1∧RepS C3 m6 a4 c4 x1.2.2.2∧List.length o4=(Int.toNat (x1.2.2.2.length:Int))) ?_ ?_
       ·rintro _ w9 ⟨o4,m6,rfl,rfl,q,g,r2,r3,r4,hn2⟩;have i:=j2;refine qBh (qBb (qAi (qAl (qAb 2 [(22,vI (wr (s1+1)))] (qAr rfl ?_)))));obtain rfl:=sI i;have hL:=hSu1 _ rfl;exact xE (qCg k1 (jB _) ⟨wr (s1+1),m6,hL,rfl,q,g.t.t,r2⟩)
       intro K2_u2;refine qFv _ kr (qEa (fun k2 L' w'=>∃(s2:T1b),∃m7,qBe (qJi N x1) k2 s2=some out2∧L'=[(4,vP b3 0),(5,.slice (aP b4) (Int.toNat (x1.2.2.2.length:Int)) (Int.toNat (x1.2.2.2.length:Int))),(6,vI s2.1),(20,vS a2 p0.2.2 c2),(21,vI (p0.2.2.length:Int)),(22,vI s1)]∧m.le m7∧St m7 (kB b3 (V7 x1 a3 c3 a4 c4) 85:: .blk b4 (.cells (qEb (fun x:Int=>Value.int .i64 x) s2.2 []) 3 (0,0))::O) w'∧RepS C4 m7 a2 c2 p0.2.2∧RepS cStr m7 a3 c3 x1.2.2.1∧RepS C3 m7 a4 c4 x1.2.2.2∧List.length s2.2=(Int.toNat (x1.2.2.2.length:Int))) N ⟨(wr ((x1.2.2.2.length:Int)-1),l1),m5,i,rfl,q,g.f1,r2,r3,r4,hn1⟩ ?_);rintro k2 _ w10 ⟨s2,m7,hL,rfl,q,g,r2,r3,r4,hn3⟩;rcases k2 with _|k2
       ·exact qBi hL
       ·obtain⟨qu2,i,hSu2,hBu2⟩:=qBj hL;clear hL;unfold qJi at i;refine qAo (W_sr (qAf 2 [(45,vB (decide (s2.1≥0)))] (W_if i ?_ ?_)))
        ·intro A i;refine qAm (qAi (qAo (qAs (qAo (W_sr (qAb 2 [(48,.slice (aP b4) (Int.toNat (x1.2.2.2.length:Int)) (Int.toNat (x1.2.2.2.length:Int))),(49,vI s2.1)] ?_))))));have⟨x2,d3,i⟩:=qAp i;refine qAa rfl (qCz (d:=50) (t:=22) (e:=3) (x:=(.tmp 48)) (y:=(.tmp 49)) kr rfl (ev (.slice (aP b4) (Int.toNat (x1.2.2.2.length:Int)) (Int.toNat (x1.2.2.2.length:Int)))) (ev (vI s2.1)) kr hn3 d3 (qAa rfl (qGv (d:=51) (t:=3) (x:=(.tmp 50)) kr rfl (ev (.pointer (some ⟨b4,Int.toNat s2.1,none⟩))) g.t.h d3 kr (qAf 1 [(52,vB (x2==0))] ?_))));have⟨o5,i,j3⟩:=qAp i;refine qCl .normal (fun L' w'=>∃m8,L'=[(4,vP b3 0),(5,.slice (aP b4) (Int.toNat (x1.2.2.2.length:Int)) (Int.toNat (x1.2.2.2.length:Int))),(6,vI s2.1),(20,vS a2 p0.2.2 c2),(21,vI (p0.2.2.length:Int)),(22,vI s1)]∧m.le m8∧St m8 (kB b3 (V7 x1 a3 c3 a4 c4) 85:: .blk b4 (.cells (qEb (fun x:Int=>Value.int .i64 x) o5 []) 3 (0,0))::O) w'∧RepS C4 m8 a2 c2 p0.2.2∧RepS cStr m8 a3 c3 x1.2.2.1∧RepS C3 m8 a4 c4 x1.2.2.2∧List.length o5=(Int.toNat (x1.2.2.2.length:Int))) ?_ ?_
         ·have i:=j3;rintro _ w11 ⟨m8,rfl,q,g,r2,r3,r4,hn4⟩;refine qAi (qAo (W_sr (qAb 2 [(56,.slice (aP b4) (Int.toNat (x1.2.2.2.length:Int)) (Int.toNat (x1.2.2.2.length:Int))),(57,vI s2.1)] ?_)));have⟨x4,d5,i⟩:=qAp i;refine qAa rfl (qCz (d:=58) (t:=22) (e:=3) (x:=(.tmp 56)) (y:=(.tmp 57)) kr rfl (ev (.slice (aP b4) (Int.toNat (x1.2.2.2.length:Int)) (Int.toNat (x1.2.2.2.length:Int)))) (ev (vI s2.1)) kr hn4 d5 (qAa rfl (qGv (d:=59) (t:=3) (x:=(.tmp 58)) kr rfl (ev (.pointer (some ⟨b4,Int.toNat s2.1,none⟩))) g.t.h d5 kr (qAf 1 [(60,vB (decide (x4>32)))] (W_if i ?_ ?_)))))
          ·intro A i;refine W_sr (qAf 1 [(2,vB true)] (qAu (qAe (qAg (qAe ?_)))));cases i;have ho:=hBu2 _ rfl;subst ho;have i:=j2;refine qAe (qAg (qAg (qAe ?_)));cases i;have ho:=hBu1 _ rfl;subst ho;have i:=j1;refine qAe (qAg (qAe ?_));cases i;exact X_rt [2] [vB true] ⟨m8,rfl,q,g.t.t⟩
          ·intro A i;refine qAm (qAi (W_sr (qEk 1 62 78 61 3 (vS a4 x1.2.2.2 c4) g.h (qAb 1 [(63,vI s2.1)] (qAa rfl (qDg 64 78 87 62 63 r4 i ?_))))));rintro x5 i b5 f2 cs2 ⟨_,_,rfl,rfl,⟨_,_,rfl,rfl,⟨_,_,rfl,rfl,⟨_,_,rfl,rfl,⟨a5,c5,rfl,r5⟩⟩⟩⟩⟩ hq2;refine qAb 1 [(65,.pointer (some ⟨b5,f2+4,none⟩))] (qAa rfl (qAq (d:=66) (t:=22) (x:=(.tmp 65)) (vS a5 x5.2.2.2.2 c5) kr rfl (ev (.pointer (some ⟨b5,f2+4,none⟩))) g (hq2.drop 4) kr (qAf 2 [(67,vI (x5.2.2.2.2.length:Int)),(68,vI 0)] (qAs ?_))));have⟨out3,i,j4⟩:=qAp i;refine qCl (.exit 4) (fun L' w'=>∃(o6:T7),∃m9,o6=out3∧L'=[(4,vP b3 0),(5,.slice (aP b4) (Int.toNat (x1.2.2.2.length:Int)) (Int.toNat (x1.2.2.2.length:Int))),(6,vI s2.1),(20,vS a2 p0.2.2 c2),(21,vI (p0.2.2.length:Int)),(22,vI s1)]∧m.le m9∧St m9 (kB b3 (V7 x1 a3 c3 a4 c4) 85:: .blk b4 (.cells (qEb (fun x:Int=>Value.int .i64 x) o6 []) 3 (0,0))::O) w'∧RepS C4 m9 a2 c2 p0.2.2∧RepS cStr m9 a3 c3 x1.2.2.1∧RepS C3 m9 a4 c4 x1.2.2.2∧List.length o6=(Int.toNat (x1.2.2.2.length:Int))) ?_ ?_
           ·rintro _ w13 ⟨o6,m9,rfl,rfl,q,g,r2,r3,r4,hn6⟩;have i:=j4;refine qBh (qBb (qAi (qAl (qAb 3 [(6,vI (wr (s2.1-1)))] (qAr rfl ?_)))));obtain rfl:=sI i;have hL:=hSu2 _ rfl;exact xE (qCg k2 (jB _) ⟨(wr (s2.1-1),o6),m9,hL,rfl,q,g.f1.f1,r2,r3,r4,hn6⟩)
           intro K4_u4;refine qFv _ kr (qEa (fun k3 L' w'=>∃(s3:T1b),∃m10,qBe (qJk N x1 s2 x5) k3 s3=some out3∧L'=[(4,vP b3 0),(5,.slice (aP b4) (Int.toNat (x1.2.2.2.length:Int)) (Int.toNat (x1.2.2.2.length:Int))),(6,vI s2.1),(20,vS a2 p0.2.2 c2),(21,vI (p0.2.2.length:Int)),(22,vI s1),(66,vS a5 x5.2.2.2.2 c5),(67,vI (x5.2.2.2.2.length:Int)),(68,vI s3.1)]∧m.le m10∧St m10 (kB b3 (V7 x1 a3 c3 a4 c4) 85:: .blk b4 (.cells (qEb (fun x:Int=>Value.int .i64 x) s3.2 []) 3 (0,0))::O) w'∧RepS C4 m10 a2 c2 p0.2.2∧RepS (cInt .i64) m10 a5 c5 x5.2.2.2.2∧RepS cStr m10 a3 c3 x1.2.2.1∧RepS C3 m10 a4 c4 x1.2.2.2∧List.length s3.2=(Int.toNat (x1.2.2.2.length:Int))) N ⟨(0,o5),m8,i,rfl,q,g.f1.f1,r2,r5,r3,r4,hn4⟩ ?_);rintro k3 _ w14 ⟨s3,m10,hL,rfl,q,g,r2,r5,r3,r4,hn7⟩;rcases k3 with _|k3
           ·exact qBi hL
           ·obtain⟨qu4,i,hSu4,hBu4⟩:=qBj hL;clear hL;unfold qJk at i;refine W_sr (qAf 1 [(69,vB (decide (s3.1<(x5.2.2.2.2.length:Int))))] (qAo (W_if i ?_ ?_)))
            ·intro A i;refine qAm (qAi (qAo ?_));have⟨o7,i,j5⟩:=qAp i;refine qCl .normal (fun L' w'=>∃m11,L'=[(4,vP b3 0),(5,.slice (aP b4) (Int.toNat (x1.2.2.2.length:Int)) (Int.toNat (x1.2.2.2.length:Int))),(6,vI s2.1),(20,vS a2 p0.2.2 c2),(21,vI (p0.2.2.length:Int)),(22,vI s1),(66,vS a5 x5.2.2.2.2 c5),(67,vI (x5.2.2.2.2.length:Int)),(68,vI s3.1)]∧m.le m11∧St m11 (kB b3 (V7 x1 a3 c3 a4 c4) 85:: .blk b4 (.cells (qEb (fun x:Int=>Value.int .i64 x) o7 []) 3 (0,0))::O) w'∧RepS C4 m11 a2 c2 p0.2.2∧RepS (cInt .i64) m11 a5 c5 x5.2.2.2.2∧RepS cStr m11 a3 c3 x1.2.2.1∧RepS C3 m11 a4 c4 x1.2.2.2∧List.length o7=(Int.toNat (x1.2.2.2.length:Int))) ?_ ?_
             ·have i:=j5;rintro _ w15 ⟨m11,rfl,q,g,r2,r5,r3,r4,hn8⟩;refine qAi (qAl (qAb 2 [(68,vI (wr (s3.1+1)))] (qAr rfl ?_)));obtain rfl:=sI i;have hL:=hSu4 _ rfl;exact xE (qCg k3 (jB _) ⟨(wr (s3.1+1),o7),m11,hL,rfl,q,g.f1.f1,r2,r5,r3,r4,hn8⟩)
             ·intro Ku5;refine qAs (W_sr (qAa rfl (qDg 70 22 3 66 68 r5 i ?_)));rintro x6 i b6 f3 cs3 rfl hq3;refine qEx 71 3 70 f3 (vI x6) g hq3 (qAf 1 [(8,vI x6)] (W_sr (qAb 4 [(72,.slice (aP b4) (Int.toNat (x1.2.2.2.length:Int)) (Int.toNat (x1.2.2.2.length:Int))),(73,vI x6),(74,.slice (aP b4) (Int.toNat (x1.2.2.2.length:Int)) (Int.toNat (x1.2.2.2.length:Int))),(75,vI s2.1)] ?_)));have⟨x7,d8,i⟩:=qAp i;refine qAa rfl (qCz (d:=76) (t:=22) (e:=3) (x:=(.tmp 74)) (y:=(.tmp 75)) kr rfl (ev (.slice (aP b4) (Int.toNat (x1.2.2.2.length:Int)) (Int.toNat (x1.2.2.2.length:Int)))) (ev (vI s2.1)) kr hn7 d8 (qAa rfl (qGv (d:=77) (t:=3) (x:=(.tmp 76)) kr rfl (ev (.pointer (some ⟨b4,Int.toNat s2.1,none⟩))) g.t.h d8 kr ?_)));have⟨x8,d9,i⟩:=qAp i;refine qAa rfl (qCz (d:=78) (t:=22) (e:=3) (x:=(.tmp 72)) (y:=(.tmp 73)) kr rfl (ev (.slice (aP b4) (Int.toNat (x1.2.2.2.length:Int)) (Int.toNat (x1.2.2.2.length:Int)))) (ev (vI x6)) kr hn7 d9 (qAa rfl (qFy (f:=(fun x:Int=>Value.int .i64 x)) (u:=x7) (t:=3) (x:=(.tmp 78)) (y:=(.tmp 77)) kr (ev (.pointer (some ⟨b4,Int.toNat x6,none⟩))) (ev (vI x7)) g.f1 d9 rfl kr fun w16 g=> ?_)));have hn9:List.length (List.set s3.2 (Int.toNat x6) x7)=(Int.toNat (x1.2.2.2.length:Int)):=qLy hn7 _ _
              refine WO_e (W_sr (qEk 1 80 78 79 3 (vS a4 x1.2.2.2 c4) g.t.h (qAb 1 [(81,vI s2.1)] (qAa rfl (qDg 82 78 87 80 81 r4 i ?_)))));rintro x9 i b7 f4 cs4 ⟨_,_,rfl,rfl,⟨_,_,rfl,rfl,⟨_,_,rfl,rfl,⟨_,_,rfl,rfl,⟨a6,c6,rfl,r6⟩⟩⟩⟩⟩ hq4;refine qAb 1 [(83,vP b7 f4)] (qEx 84 3 83 f4 (vI x9.1) g hq4 (qAf 1 [(85,vB (x9.1 !=4))] (W_if i ?_ ?_)))
              ·intro A i;refine qAl (qAb 2 [(86,.slice (aP b4) (Int.toNat (x1.2.2.2.length:Int)) (Int.toNat (x1.2.2.2.length:Int))),(87,vI x6)] ?_);have⟨x10,d11,i⟩:=qAp i;refine qAa rfl (qCz (d:=88) (t:=22) (e:=3) (x:=(.tmp 86)) (y:=(.tmp 87)) kr rfl (ev (.slice (aP b4) (Int.toNat (x1.2.2.2.length:Int)) (Int.toNat (x1.2.2.2.length:Int)))) (ev (vI x6)) kr hn9 d11 (qAa rfl (qGv (d:=89) (t:=3) (x:=(.tmp 88)) kr rfl (ev (.pointer (some ⟨b4,Int.toNat x6,none⟩))) g.h d11 kr (qAb 1 [(90,vI (wr (x10+1)))] ?_))));have⟨x11,d12,i⟩:=qAp i;refine qAa rfl (qCz (d:=91) (t:=22) (e:=3) (x:=(.tmp 86)) (y:=(.tmp 87)) kr rfl (ev (.slice (aP b4) (Int.toNat (x1.2.2.2.length:Int)) (Int.toNat (x1.2.2.2.length:Int)))) (ev (vI x6)) kr hn9 d12 (qAa rfl (qFy (f:=(fun x:Int=>Value.int .i64 x)) (u:=wr (x10+1)) (t:=3) (x:=(.tmp 91)) (y:=(.tmp 90)) kr (ev (.pointer (some ⟨b4,Int.toNat x6,none⟩))) (ev (vI (wr (x10+1)))) g d12 rfl kr fun w17 g=> ?_)));have hn10:List.length (List.set (List.set s3.2 (Int.toNat x6) x7) (Int.toNat x6) (wr (x10+1)))=(Int.toNat (x1.2.2.2.length:Int)):=qLy hn9 _ _;refine qAr rfl (qBb ?_);cases i;exact xE (Ku5 _ _ ⟨m10,rfl,q,g.f1,r2,r5,r3,r4,hn10⟩)
              ·intro A i;refine qAm (qBb ?_);cases i;exact xE (Ku5 _ _ ⟨m10,rfl,q,g.f1,r2,r5,r3,r4,hn9⟩)
            ·intro A i;refine qDz (qAk ?_);cases i;have ho:=hBu4 _ rfl;have g:=g.f1.f1;refine qAk ?_;exact xE (K4_u4 _ _ ⟨s3.2,m10,ho,rfl,q,g,r2,r3,r4,hn7⟩)
         ·intro Ku3;refine W_if i ?_ ?_
          ·intro A i;refine qAl (qAb 2 [(53,.slice (aP b4) (Int.toNat (x1.2.2.2.length:Int)) (Int.toNat (x1.2.2.2.length:Int))),(54,vI s2.1)] ?_);have⟨x3,d4,i⟩:=qAp i;refine qAa rfl (qCz (d:=55) (t:=22) (e:=3) (x:=(.tmp 53)) (y:=(.tmp 54)) kr rfl (ev (.slice (aP b4) (Int.toNat (x1.2.2.2.length:Int)) (Int.toNat (x1.2.2.2.length:Int)))) (ev (vI s2.1)) kr hn3 d4 (qAa rfl (qFy (f:=(fun x:Int=>Value.int .i64 x)) (u:=1) (t:=3) (x:=(.tmp 55)) (y:=(.const (vI 1))) kr (ev (.pointer (some ⟨b4,Int.toNat s2.1,none⟩))) (ev (vI 1)) g.f1 d4 rfl kr fun w12 g=> ?_)));have hn5:List.length (List.set s2.2 (Int.toNat s2.1) 1)=(Int.toNat (x1.2.2.2.length:Int)):=qLy hn3 _ _;refine qAr rfl ?_;cases i;exact xE (Ku3 _ _ ⟨m7,rfl,q,g.f1,r2,r3,r4,hn5⟩)
          ·intro A i;refine qAm ?_;cases i;exact xE (Ku3 _ _ ⟨m7,rfl,q,g.f1.f1,r2,r3,r4,hn3⟩)
        ·intro A i;refine qDz (qAk ?_);cases i;have ho:=hBu2 _ rfl;have g:=g.f1.f1;refine qAk ?_;exact xE (K2_u2 _ _ ⟨s2.2,m7,ho,rfl,q,g,r2,r3,r4,hn3⟩)
     ·intro K;refine qEk 1 27 31 26 2 (vS a3 x1.2.2.1 c3) g.h (qAb 3 [(30,vB (decide ((x1.2.2.1.length:Int)>8)))] (qDc 30 i ?_ ?_))
      ·intro A i;refine qAb 5 [(35,vB true)] ?_;cases i;exact qAw _ kr (K _ _ ⟨m4,rfl,q,g,r2,r3,r4⟩)
      ·intro A i;refine qEk 1 32 78 31 3 (vS a4 x1.2.2.2 c4) g.h (qAb 3 [(35,vB (decide ((x1.2.2.2.length:Int)>256)))] ?_);cases i;exact qAw _ kr (K _ _ ⟨m4,rfl,q,g,r2,r3,r4⟩)
    ·intro A i;refine qDz (qAk ?_);cases i;have ho:=hBu1 _ rfl;refine qAk ?_;exact xE (K0_u1 _ _ ⟨(),m4,ho,rfl,q,g⟩)
 ·intro K;refine qAb 1 [(9,vP b1 1)] (qAa rfl (qAq (d:=10) (t:=31) (x:=(.tmp 9)) (vS a1 p0.2.1 c1) kr rfl (ev (vP b1 1)) g (hb1.drop 1) kr (qAb 3 [(13,vB (decide ((p0.2.1.length:Int)>8)))] (qDc 13 i ?_ ?_))))
  ·intro A i;refine qAb 5 [(18,vB true)] ?_;cases i;exact qAw _ kr (K _ _ ⟨m1,rfl,q.t e1,g,hb1,r1.mono e1,r2.mono e1⟩)
  ·intro A i;refine qAb 1 [(14,vP b1 2)] (qAa rfl (qAq (d:=15) (t:=43) (x:=(.tmp 14)) (vS a2 p0.2.2 c2) kr rfl (ev (vP b1 2)) g (hb1.drop 2) kr (qAb 3 [(18,vB (decide ((p0.2.2.length:Int)>64)))] ?_)));cases i;exact qAw _ kr (K _ _ ⟨m1,rfl,q.t e1,g,hb1,r1.mono e1,r2.mono e1⟩)
def qGd(N:Nat)(p0:T17):T9:=
 (qHf N p0).bind fun y1=>if(!y1)=true then(some 9) else((qLi N p0).bind fun y2=>if y2=true then(some 10) else((qLu N p0).bind fun y3=>if y3=true then(some 2) else(some 0)))
theorem qLh{p0:T17}{r:Int}(g:St m (O) w)(r1:RepS cStr m a1 c1 p0.2.1)(r2:RepS C4 m a2 c2 p0.2.2)(i:qGd N p0=some r):Calls Tryd.prog 34 #[.agg (V9 p0 a1 c1 a2 c2)] w fun e w'=>∃m',e= .returned (vI r)∧m.le m'∧St m' (O) w':=by
 unfold qGd at i;have q:=m.le_refl;refine W_cA Tryd.func34 rfl Tryd.ntmps34 ?_;refine W_sr (qAa rfl (qIp 1 45 0 (.agg (V9 p0 a1 c1 a2 c2)) g fun b1 m1 w1 e1 g hb1=> ?_));have r1:=r1.mono e1;have r2:=r2.mono e1;refine qAf 1 [] (qAo (qAs (W_sr (qEx 4 45 1 0 (.agg (V9 p0 a1 c1 a2 c2)) g hb1 (qAx 5 i (fun _ h=>qNm g r1 r2 h) ?_)))));rintro y1 i _ w2 ⟨m2,rfl,e2,g⟩;refine qAf 2 [(3,vB (!y1))] (W_if i ?_ ?_)
 ·intro A i;refine W_sr (qAf 1 [(2,vI 9)] (qAu (qAg (qAe ?_))));cases i;exact X_rt [2] [vI 9] ⟨m2,rfl,(q.t e1).t e2,g⟩
 ·intro A i;refine W_sr (qEx 8 45 1 0 (.agg (V9 p0 a1 c1 a2 c2)) g (hb1.mono e2) (qAx 9 i (fun _ h=>qOk g (r1.mono e2) (r2.mono e2) h) ?_));rintro y2 i _ w3 ⟨m3,rfl,e3,g⟩;have q:=((q.t e1).t e2).t e3;refine qAf 1 [(7,vB y2)] (W_if i ?_ ?_)
  ·intro A i;refine W_sr (qAf 1 [(2,vI 10)] (qAu (qAg (qAe ?_))));cases i;exact X_rt [2] [vI 10] ⟨m3,rfl,q,g⟩
  ·intro A i;refine W_sr (qEx 11 45 1 0 (.agg (V9 p0 a1 c1 a2 c2)) g ((hb1.mono e2).mono e3) (qAx 12 i (fun _ h=>qPb g ((r1.mono e2).mono e3) ((r2.mono e2).mono e3) h) ?_));rintro y3 i _ w4 ⟨m4,rfl,e4,g⟩;refine qAf 1 [(10,vB y3)] (W_if i ?_ ?_)
   ·intro A i;refine W_sr (qAf 1 [(2,vI 2)] (qAu (qAg (qAe ?_))));cases i;exact X_rt [2] [vI 2] ⟨m4,rfl,q.t e4,g⟩
   ·intro A i;refine qAm (qBb (qAi (W_sr (qAf 1 [(2,vI 0)] (qAu ?_)))));cases i;exact X_rt [2] [vI 0] ⟨m4,rfl,q.t e4,g⟩
theorem bcc_true{b:Nat}{R:List Value}{e:Nat}(g:St m (.blk b (.cells ⟨vP b 0::R⟩ e (0,0))::O) w):
  Calls Tryd.prog 85 #[vP b 0] w fun ex w'=>∃m':Mem,ex= .returned (.tuple #[])∧m.le m'∧St m' (.blk b (.cells ⟨vP b 0::R⟩ e (0,0))::O) w':=by
 have q:=m.le_refl;refine qTh Tryd.func85 rfl Tryd.ntmps85 [(0,vP b 0)] kr rfl ?_;refine W_sr (qLg 3 [(4,vP b 0)] kr kr (qAa rfl (qHs (d:=5) (t:=113) (x:=(.tmp 4)) (vP b 0) kr rfl (ev (vP b 0)) g.h kr (qLg 1 [(6,vB false)] kr kr (qWr rfl (qKs false kr (fun h=>Bool.noConfusion h) fun _=>(W_sr (qLg 3 [(16,vP b 0)] kr kr (qAa rfl (qHs (d:=17) (t:=113) (x:=(.tmp 16)) (vP b 0) kr rfl (ev (vP b 0)) g.h kr (qLg 1 [(18,vP b 0)] kr kr (qAa rfl (qTm (d:=19) (t:=113) (t2:=113) (r:=116) (x:=(.tmp 17)) (y:=(.tmp 18)) (a:=⟨b,0,none⟩) kr rfl (ev (vP b 0)) (ev (vP b 0)) kr kr (qWr rfl (qKs false kr (fun h=>Bool.noConfusion h) fun _=>(qAm (qIu [] [] rfl ResAll.nil ?_)))))))))))))))));exact⟨m,rfl,q,g⟩
theorem qVt{b:Nat}{R:List Value}{e:Nat}(hl:liesAt Tryd.prog Tryd.prog.depth e ((⟨.pointer none::R⟩:Array Value).size/Tryd.prog.cellsOf e) 0 116 1=true)(g:St m (.blk b (.cells ⟨.pointer none::R⟩ e (0,0))::O) w):
  Calls Tryd.prog 85 #[vP b 0] w fun ex w'=>∃m':Mem,ex= .returned (.tuple #[])∧m.le m'∧St m' (.blk b (.cells ⟨vP b 0::R⟩ e (0,0))::O) w':=by
 have q:=m.le_refl;refine qTh Tryd.func85 rfl Tryd.ntmps85 [(0,vP b 0)] kr rfl ?_;refine W_sr (qLg 3 [(4,vP b 0)] kr kr (qAa rfl (qHs (d:=5) (t:=113) (x:=(.tmp 4)) (.pointer none) kr rfl (ev (vP b 0)) g.h kr (qLg 1 [(6,vB true)] kr kr (qWr rfl (qKs true kr (fun _=> ?_) (fun h=>Bool.noConfusion h)))))));refine qAl (qLg 2 [(7,vP b 0),(8,vP b 0)] kr kr (qAa rfl (qRn (d:=9) (src:=113) (dst:=157) (t:=116) (x:=(.tmp 8)) kr rfl (ev (vP b 0)) g.h kr kr kr (by simp) (qAa rfl (qRs (d:=10) (f:=106) (ts:= #[157]) (x:=(.tmp 9)) (v:=vP b 0) kr rfl (ev (vP b 0)) Tryd.func106 kr kr (qAa rfl (qOy (d:=11) (src:=157) (dst:=113) (u:=116) (x:=(.tmp 10)) kr rfl (ev (vP b 0)) g.h kr kr kr hl (qLg 2 [(13,vP b 0)] kr kr (qAa rfl (qOd (t:=113) (x:=(.tmp 13)) (y:=(.tmp 11)) (v:=vP b 0) (c':=⟨vP b 0::R⟩) kr (ev (vP b 0)) (ev (vP b 0)) g kr kr ?_))))))))));clear g;intro w1 g;refine qAr rfl (qIu [] [] rfl ResAll.nil ?_);exact⟨m,rfl,q,g⟩
theorem qAt{b:Nat}{c0:Option Addr}{R:List Value}{e:Nat}(A:(c0=none∧liesAt Tryd.prog Tryd.prog.depth e ((⟨.pointer none::R⟩:Array Value).size/Tryd.prog.cellsOf e) 0 116 1=true)∨c0=some ⟨b,0,none⟩)(g:St m (.blk b (.cells ⟨.pointer c0::R⟩ e (0,0))::O) w):
  Calls Tryd.prog 85 #[vP b 0] w fun ex w'=>∃m':Mem,ex= .returned (.tuple #[])∧m.le m'∧St m' (.blk b (.cells ⟨vP b 0::R⟩ e (0,0))::O) w':=by
 rcases A with ⟨rfl,hl⟩|rfl
 ·exact qVt hl g
 ·exact bcc_true g
def qJc(N:Nat)(p0:Td):T9:=
 if(p0.1==5)=true then(some 0) else(if(p0.1==4)=true then((qFn N p0.2.2.1).bind fun y1=>some y1) else(some 4))
theorem qLb{p0:Td}{r:Int}(g:St m (O) w)(r1:RepS (cInt .i64) m a1 c1 p0.2.2.2.2)(i:qJc N p0=some r):Calls Tryd.prog 107 #[.agg (V5 p0 a1 c1)] w fun e w'=>∃m',e= .returned (vI r)∧m.le m'∧St m' (O) w':=by
 unfold qJc at i;have q:=m.le_refl;refine W_cA Tryd.func107 rfl Tryd.ntmps107 ?_;refine W_sr (qAa rfl (qIp 1 87 0 (.agg (V5 p0 a1 c1)) g fun b1 m1 w1 e1 g hb1=> ?_));have q:=q.t e1;refine qAf 1 [] (qAo (W_sr (qAb 1 [(3,vP b1 0)] (qEx 4 3 3 0 (vI p0.1) g hb1 (WO_e (qAs (W_sr (qAf 2 [(5,vB (p0.1==5))] (W_if i ?_ ?_)))))))))
 ·intro A i;refine W_sr (qAf 1 [(2,vI 0)] (qAu (qAg (qAe ?_))));cases i;exact X_rt [2] [vI 0] ⟨m1,rfl,q,g⟩
 ·intro A i;refine W_sr (qAf 2 [(7,vB (p0.1==4))] (W_if i ?_ ?_))
  ·intro A i;refine W_sr (qAb 1 [(9,vP b1 2)] (qAa rfl (qAq (d:=10) (t:=3) (x:=(.tmp 9)) (vI p0.2.2.1) kr rfl (ev (vP b1 2)) g (hb1.drop 2) kr (qAx 11 i (fun _ h=>qJn g h) ?_))));rintro y1 i _ w2 ⟨m2,rfl,e2,g⟩;refine qAf 1 [(2,vI y1)] (qAu (qAg (qAe ?_)));obtain rfl:=sI i;exact X_rt [2] [vI y1] ⟨m2,rfl,q.t e2,g⟩
  ·intro A i;refine qAm (qBb (qAi (W_sr (qAf 1 [(2,vI 4)] (qAu ?_)))));cases i;exact X_rt [2] [vI 4] ⟨m1,rfl,q,g⟩
def qFr(N:Nat)(p0:Int):Option T1:=
 if(decide (p0<10))=true then((subB (⟨#[48,49,50,51,52,53,54,55,56,57,97,98,99,100,101,102,103,104,105,106,107,108,109,110,111,112,113,114,115,116,117,118,119,120,121,122]⟩:ByteArray) p0 (IntKind.wrap .i64 (p0+1))).bind fun s1=>some s1) else((subB (⟨#[48,48,48,49,48,50,48,51,48,52,48,53,48,54,48,55,48,56,48,57,49,48,49,49,49,50,49,51,49,52,49,53,49,54,49,55,49,56,49,57,50,48,50,49,50,50,50,51,50,52,50,53,50,54,50,55,50,56,50,57,51,48,51,49,51,50,51,51,51,52,51,53,51,54,51,55,51,56,51,57,52,48,52,49,52,50,52,51,52,52,52,53,52,54,52,55,52,56,52,57,53,48,53,49,53,50,53,51,53,52,53,53,53,54,53,55,53,56,53,57,54,48,54,49,54,50,54,51,54,52,54,53,54,54,54,55,54,56,54,57,55,48,55,49,55,50,55,51,55,52,55,53,55,54,55,55,55,56,55,57,56,48,56,49,56,50,56,51,56,52,56,53,56,54,56,55,56,56,56,57,57,48,57,49,57,50,57,51,57,52,57,53,57,54,57,55,57,56,57,57]⟩:ByteArray) (IntKind.wrap .i64 (p0*2)) (IntKind.wrap .i64 ((IntKind.wrap .i64 (p0*2))+2))).bind fun s2=>some s2)
theorem qJj{p0:Int}{r:ByteArray}(g:St m (O) w)(i:qFr N p0=some r):Calls Tryd.prog 132 #[vI p0] w fun e w'=>∃m',e= .returned (vT r)∧m.le m'∧St m' (O) w':=by
 unfold qFr at i;have q:=m.le_refl;refine W_cA Tryd.func132 rfl Tryd.ntmps132 ?_;refine W_sr (qAf 1 [] (qAo (W_sr (qAf 2 [(4,vB (decide (p0<10)))] (W_if i ?_ ?_)))))
 ·intro A i;refine W_sr (qAb 3 [(5,vI p0),(7,vI (wr (p0+1)))] ?_);have⟨s1,d1,i⟩:=qAp i;refine qAa rfl (qDs (d:=8) (t:=9) (x:=(.const (vT bw))) (lo:=(some (.tmp 5))) (hi:=(some (.tmp 7))) kr rfl (ev (vT bw)) kr (.inr ⟨_,_,rfl,(ev (vI p0))⟩) (.inr ⟨_,_,rfl,(ev (vI (wr (p0+1))))⟩) d1 (qAf 1 [(2,vT s1)] (qAu (qAe ?_))));obtain rfl:=sI i;exact X_rt [2] [vT s1] ⟨m,rfl,q,g⟩
 ·intro A i;refine qAm (qAi (W_sr (qAb 5 [(10,vI (wr (p0*2))),(13,vI (wr ((wr (p0*2))+2)))] ?_)));have⟨s2,d2,i⟩:=qAp i;refine qAa rfl (qDs (d:=14) (t:=9) (x:=(.const (vT bx))) (lo:=(some (.tmp 10))) (hi:=(some (.tmp 13))) kr rfl (ev (vT bx)) kr (.inr ⟨_,_,rfl,(ev (vI (wr (p0*2))))⟩) (.inr ⟨_,_,rfl,(ev (vI (wr ((wr (p0*2))+2))))⟩) d2 (qAf 1 [(2,vT s2)] (qAu ?_)));obtain rfl:=sI i;exact X_rt [2] [vT s2] ⟨m,rfl,q,g⟩
def qEu(N:Nat)(p0:Int)(p1:Int):Option T1:=
 if(p1==10)=true then((if(decide (0≤p0))=true then(some (decide (p0<100))) else(some false):T8).bind fun o1=>if o1=true then((qFr N p0).bind fun y1=>some y1) else none) else none
theorem qHx{p0:Int}{p1:Int}{r:ByteArray}(g:St m (O) w)(i:qEu N p0 p1=some r):Calls Tryd.prog 130 #[vI p0,vI p1] w fun e w'=>∃m',e= .returned (vT r)∧m.le m'∧St m' (O) w':=by
 unfold qEu at i;have q:=m.le_refl;refine W_cA Tryd.func130 rfl Tryd.ntmps130 ?_;refine W_sr (qAf 1 [] (qAo (W_sr (qAf 2 [(11,vB (p1==10))] (W_if i ?_ ?_)))))
 ·intro A i;refine qAo (W_sr ?_);have⟨o1,i,J⟩:=qAp i;refine qEo (j:=6) (fun L' w'=>∃m1,L'=[(0,vI p0),(17,vB o1)]∧m.le m1∧St m1 (O) w') ?_ ?_
  ·have i:=J;rintro _ w1 ⟨m1,rfl,q,g⟩;refine WO_e (W_if i ?_ ?_)
   ·intro A i;refine W_sr (qAb 1 [(18,vI p0)] (qAx 19 i (fun _ h=>qJj g h) ?_));rintro y1 i _ w2 ⟨m2,rfl,e1,g⟩;refine qAf 1 [(4,vT y1)] (qAu (qAe (qAe ?_)));obtain rfl:=sI i;exact X_rt [4] [vT y1] ⟨m2,rfl,q.t e1,g⟩
   ·intro A i;cases i
  ·intro K;refine qAb 3 [(14,vB (decide (0≤p0)))] (qDc 14 i ?_ ?_)
   ·intro A i;refine qAb 3 [(17,vB (decide (p0<100)))] ?_;cases i;exact qAw _ kr (K _ _ ⟨m,rfl,q,g⟩)
   ·intro A i;refine qAb 3 [(17,vB false)] ?_;cases i;exact qAw _ kr (K _ _ ⟨m,rfl,q,g⟩)
 ·intro A i;cases i
def qGa(N:Nat)(p0:Int):Option T1:=
 (qEu N p0 10).bind fun y1=>some y1
theorem qJq{p0:Int}{r:ByteArray}(g:St m (O) w)(i:qGa N p0=some r):Calls Tryd.prog 121 #[vI p0] w fun e w'=>∃m',e= .returned (vT r)∧m.le m'∧St m' (O) w':=by
 unfold qGa at i;have q:=m.le_refl;refine W_cA Tryd.func121 rfl Tryd.ntmps121 ?_;refine W_sr (qAf 1 [] (W_sr (qAb 1 [(3,vI p0)] (qAx 4 i (fun _ h=>qHx g h) ?_))));rintro y1 i _ w1 ⟨m1,rfl,e1,g⟩;refine qAf 1 [(2,vT y1)] (qAu ?_);obtain rfl:=sI i;exact X_rt [2] [vT y1] ⟨m1,rfl,q.t e1,g⟩
def qIw(N:Nat)(p0:Int):Option T1:=
 (qGa N p0).bind fun y1=>some y1
theorem qKx{p0:Int}{r:ByteArray}(g:St m (O) w)(i:qIw N p0=some r):Calls Tryd.prog 109 #[vI p0] w fun e w'=>∃m',e= .returned (vT r)∧m.le m'∧St m' (O) w':=by
 unfold qIw at i;have q:=m.le_refl;refine W_cA Tryd.func109 rfl Tryd.ntmps109 ?_;refine W_sr (qAf 1 [] (W_sr (qAb 1 [(3,vI p0)] (qAx 4 i (fun _ h=>qJq g h) ?_))));rintro y1 i _ w1 ⟨m1,rfl,e1,g⟩;refine qAf 1 [(2,vT y1)] (qAu ?_);obtain rfl:=sI i;exact X_rt [2] [vT y1] ⟨m1,rfl,q.t e1,g⟩
end
section
open Go Go.Dc
set_option maxHeartbeats 4000000
set_option maxRecDepth 100000
variable {N bp0 c1 c2 c3:Nat} {m:Mem} {O:List Piece} {w:World} {a1 a2 a3:Option Addr}
def qFz(N:Nat)(R6:T1c→(Int)→(Int)→(Int)→T1d)(p3:Int)(x1:Td)(s3:T1f):Option (T1f⊕T1e):=
 if(decide (s3.1<(List.length ([(⟨#[105,102,32]⟩:ByteArray),(⟨#[32,116,104,101,110,32]⟩:ByteArray),(⟨#[32,101,108,115,101,32]⟩:ByteArray)]):Int)))=true then((idx ([(⟨#[105,102,32]⟩:ByteArray),(⟨#[32,116,104,101,110,32]⟩:ByteArray),(⟨#[32,101,108,115,101,32]⟩:ByteArray)]) s3.1).bind fun x5=>(qCy 1 s3.2.2.1 x5.data.toList).bind fun l6=>(idx x1.2.2.2.2 s3.1).bind fun x6=>(R6 ((true,l6),s3.2.2.2.1,s3.2.2.2.2.1,s3.2.2.2.2.2) x6 0 (IntKind.wrap .i64 (p3+1))).bind fun y8=>some (.inl (IntKind.wrap .i64 (s3.1+1),y8.1.1,y8.1.2,y8.2.1,y8.2.2.1,y8.2.2.2))) else(some (.inr s3.2))
def qGc(N:Nat)(R6:T1c→(Int)→(Int)→(Int)→T1d)(p3:Int)(x1:Td)(s5:T1f):Option (T1f⊕T1e):=
 if(decide (s5.1<(List.length x1.2.2.2.2:Int)))=true then((idx x1.2.2.2.2 s5.1).bind fun x7=>(if(decide (s5.1>0))=true then((qCy 1 s5.2.2.1 ((⟨#[44,32]⟩:ByteArray).data.toList)).bind fun l8=>some (true,l8)) else(some (s5.2.1,s5.2.2.1)):Option (Bool×T3)).bind fun o4=>(R6 (o4,s5.2.2.2.1,s5.2.2.2.2.1,s5.2.2.2.2.2) x7 0 (IntKind.wrap .i64 (p3+1))).bind fun y9=>some (.inl (IntKind.wrap .i64 (s5.1+1),y9.1.1,y9.1.2,y9.2.1,y9.2.2.1,y9.2.2.2))) else(some (.inr s5.2))
def qGm(N:Nat)(R6:T1c→(Int)→(Int)→(Int)→T1d)(p0:T1c)(p1:Int)(p2:Int)(p3:Int):T1d:=
 (idx p0.2.1 p1).bind fun x1=>(qJc N x1).bind fun y1=>if(decide (y1<p2))=true then((qCy 1 p0.1.2 ([(40:UInt8)])).bind fun l1=>(R6 ((true,l1),p0.2.1,p0.2.2.1,p0.2.2.2) p1 0 (IntKind.wrap .i64 (p3+1))).bind fun y2=>(qCy 1 y2.1.2 ([(41:UInt8)])).bind fun l2=>some ((true,l2),y2.2.1,y2.2.2.1,y2.2.2.2)) else(if(x1.1==1)=true then((qIw N x1.2.1).bind fun y3=>(qCy 1 p0.1.2 y3.data.toList).bind fun l3=>some ((true,l3),p0.2.1,p0.2.2.1,if p3>p0.2.2.2 then p3 else p0.2.2.2)) else(if(x1.1==2)=true then((idx p0.2.2.1 x1.2.1).bind fun x2=>(qCy 1 p0.1.2 x2.data.toList).bind fun l4=>some ((true,l4),p0.2.1,p0.2.2.1,if p3>p0.2.2.2 then p3 else p0.2.2.2)) else(if(x1.1==4)=true then((qJc N x1).bind fun y4=>(if(y4==1)=true then(some (IntKind.wrap .i64 (y4+1))) else(some y4):T9).bind fun o1=>(idx x1.2.2.2.2 0).bind fun x3=>(R6 (p0.1,p0.2.1,p0.2.2.1,if p3>p0.2.2.2 then p3 else p0.2.2.2) x3 o1 p3).bind fun y5=>(qHr N).bind fun y6=>(catB (⟨#[32]⟩:ByteArray) ((qDe y6 x1.2.2.1).getD (⟨#[]⟩:ByteArray))).bind fun s1=>(catB s1 (⟨#[32]⟩:ByteArray)).bind fun s2=>(qCy 1 y5.1.2 s2.data.toList).bind fun l5=>(idx x1.2.2.2.2 1).bind fun x4=>(R6 ((true,l5),y5.2.1,y5.2.2.1,y5.2.2.2) x4 (IntKind.wrap .i64 (y4+1)) p3).bind fun y7=>some (y7.1,y7.2.1,y7.2.2.1,y7.2.2.2)) else(if(x1.1==5)=true then((qBe (qFz N R6 p3 x1) N (0,p0.1.1,p0.1.2,p0.2.1,p0.2.2.1,if p3>p0.2.2.2 then p3 else p0.2.2.2)).bind fun o2=>some ((o2.1,o2.2.1),o2.2.2.1,o2.2.2.2.1,o2.2.2.2.2)) else(if(x1.1==3)=true then((catB x1.2.2.2.1 (⟨#[40]⟩:ByteArray)).bind fun s4=>(qCy 1 p0.1.2 s4.data.toList).bind fun l7=>(qBe (qGc N R6 p3 x1) N (0,true,l7,p0.2.1,p0.2.2.1,if p3>p0.2.2.2 then p3 else p0.2.2.2)).bind fun o3=>(qCy 1 o3.2.1 ([(41:UInt8)])).bind fun l9=>some ((true,l9),o3.2.2.1,o3.2.2.2.1,o3.2.2.2.2)) else(if(x1.1==6)=true then((catB (⟨#[114,101,97,100,40,34]⟩:ByteArray) x1.2.2.2.1).bind fun s6=>(catB s6 (⟨#[34,44,32]⟩:ByteArray)).bind fun s7=>(qCy 1 p0.1.2 s7.data.toList).bind fun l10=>(idx x1.2.2.2.2 0).bind fun x8=>(R6 ((true,l10),p0.2.1,p0.2.2.1,if p3>p0.2.2.2 then p3 else p0.2.2.2) x8 0 (IntKind.wrap .i64 (p3+1))).bind fun y10=>(qCy 1 y10.1.2 ([(41:UInt8)])).bind fun l11=>some ((true,l11),y10.2.1,y10.2.2.1,y10.2.2.2)) else(if(x1.1==10)=true then((qIw N x1.2.1).bind fun y11=>(catB (⟨#[102,108,105,112,40]⟩:ByteArray) y11).bind fun s8=>(catB s8 (⟨#[41]⟩:ByteArray)).bind fun s9=>(qCy 1 p0.1.2 s9.data.toList).bind fun l12=>some ((true,l12),p0.2.1,p0.2.2.1,if p3>p0.2.2.2 then p3 else p0.2.2.2)) else((qGp (some []:Option T6) 7 (⟨#[115,105,122,101]⟩:ByteArray)).bind fun mp1=>(qGp mp1 8 (⟨#[104,97,115]⟩:ByteArray)).bind fun mp2=>(qGp mp2 9 (⟨#[101,110,118]⟩:ByteArray)).bind fun mp3=>(catB ((qDe mp3 x1.1).getD (⟨#[]⟩:ByteArray)) (⟨#[40,34]⟩:ByteArray)).bind fun s10=>(catB s10 x1.2.2.2.1).bind fun s11=>(catB s11 (⟨#[34,41]⟩:ByteArray)).bind fun s12=>(qCy 1 p0.1.2 s12.data.toList).bind fun l13=>some ((true,l13),p0.2.1,p0.2.2.1,if p3>p0.2.2.2 then p3 else p0.2.2.2)))))))))
def qGk(N:Nat):Nat→(T1c→(Int)→(Int)→(Int)→T1d)
 |0=>(fun _ _ _ _=>none)
 |D+1=>qGm N (qGk N D)
def qJa(N:Nat)(p0:T1c)(p1:Int)(p2:Int)(p3:Int):T1d:=(qGk N N) p0 p1 p2 p3
abbrev qKw(F:T1c→(Int)→(Int)→(Int)→T1d):Prop:=∀{m:Mem} {O:List Piece} {w:World} {p0:T1c} {p1:Int} {p2:Int} {p3:Int} {bp0:Nat} {a1:Option Addr} {c1:Nat} {a2:Option Addr} {c2:Nat} {a3:Option Addr} {c3:Nat} {r:T1c} (g:St m (kB bp0 #[.pointer (qCa p0.1.1 bp0),vS a1 p0.1.2 c1,vS a2 p0.2.1 c2,vS a3 p0.2.2.1 c3,vI p0.2.2.2] 142::kR a1 p0.1.2 c1 5 1::O) w) (r1:RepS cU8 m a1 c1 p0.1.2) (r2:RepS C3 m a2 c2 p0.2.1) (r3:RepS cStr m a3 c3 p0.2.2.1) (i:F p0 p1 p2 p3=some r),Calls Tryd.prog 86 #[vP bp0 0,vI p1,vI p2,vI p3] w fun e w'=>∃ra1 rc1 ra2 rc2 ra3 rc3 m',e= .returned (.tuple #[])∧m.le m'∧St m' (kB bp0 #[.pointer (qCa r.1.1 bp0),vS ra1 r.1.2 rc1,vS ra2 r.2.1 rc2,vS ra3 r.2.2.1 rc3,vI r.2.2.2] 142::kR ra1 r.1.2 rc1 5 1::O) w'∧P5 m' ra1 rc1 ra2 rc2 ra3 rc3 r
theorem qKc{R6:T1c→(Int)→(Int)→(Int)→T1d}(ih_source_writer_expr:qKw R6){p0:T1c}{p1:Int}{p2:Int}{p3:Int}{r:T1c}(g:St m (kB bp0 #[.pointer (qCa p0.1.1 bp0),vS a1 p0.1.2 c1,vS a2 p0.2.1 c2,vS a3 p0.2.2.1 c3,vI p0.2.2.2] 142::kR a1 p0.1.2 c1 5 1::O) w)(r1:RepS cU8 m a1 c1 p0.1.2)(r2:RepS C3 m a2 c2 p0.2.1)(r3:RepS cStr m a3 c3 p0.2.2.1)(i:qGm N R6 p0 p1 p2 p3=some r):Calls Tryd.prog 86 #[vP bp0 0,vI p1,vI p2,vI p3] w fun e w'=>∃ra1 rc1 ra2 rc2 ra3 rc3 m',e= .returned (.tuple #[])∧m.le m'∧St m' (kB bp0 #[.pointer (qCa r.1.1 bp0),vS ra1 r.1.2 rc1,vS ra2 r.2.1 rc2,vS ra3 r.2.2.1 rc3,vI r.2.2.2] 142::kR ra1 r.1.2 rc1 5 1::O) w'∧P5 m' ra1 rc1 ra2 rc2 ra3 rc3 r:=by
 unfold qGm at i;have q:=m.le_refl;refine W_cA Tryd.func86 rfl Tryd.ntmps86 ?_;refine W_sr (qEk 3 19 78 18 2 (vS a2 p0.2.1 c2) g.h (qAb 1 [(20,vI p1)] (qAa rfl (qDg 21 78 87 19 20 r2 i ?_))));rintro x1 i b1 f1 cs1 ⟨_,_,rfl,rfl,⟨_,_,rfl,rfl,⟨_,_,rfl,rfl,⟨_,_,rfl,rfl,⟨a4,c4,rfl,r4⟩⟩⟩⟩⟩ hq1;refine qEx 22 87 21 f1 (.agg (V5 x1 a4 c4)) g hq1 (qAa rfl (qDo 8 87 (.agg #[vI 0,vI 0,vI 0,vT eB,v3]) g fun b2 w1 g=>(qAa rfl (qBy 87 8 22 (.agg (V5 x1 a4 c4)) g fun w2 g=>(WO_e (qAo (W_sr (qAa rfl (qBg 23 87 8 0 (.agg (V5 x1 a4 c4)) g.h (qAx 24 i (fun _ h=>qLb g r4 h) ?_))))))))));rintro y1 i _ w3 ⟨m1,rfl,e1,g⟩;have q:=q.t e1;have r4:=r4.mono e1;have r1:=r1.mono e1;have r2:=r2.mono e1;have r3:=r3.mono e1;refine qAf 2 [(26,vB (decide (y1<p2)))] (W_if i ?_ ?_)
 ·intro A i;refine W_sr (qAb 3 [(29,vP bp0 0)] (qAa rfl (qCt 30 108 #[vP bp0 0,.int .u8 40] kr rfl (W_cA Tryd.func108 rfl Tryd.ntmps108 (W_sr (qAf 1 [] (W_sr (qAb 1 [(5,vP bp0 0)] ?_))))))));have g:=g.f1;refine qAa rfl (qCt 6 85 #[vP bp0 0] kr rfl ((qAt (c0:=(qCa p0.1.1 bp0)) (R:=[vS a1 p0.1.2 c1,vS a2 p0.2.1 c2,vS a3 p0.2.2.1 c3,vI p0.2.2.2]) (qEm p0.1.1 bp0 kr) g).mono ?_));rintro _ w4 ⟨m2,rfl,e2,g⟩;refine⟨_,rfl,?_⟩;have g:St m2 (kB bp0 #[.pointer (qCa true bp0),vS a1 p0.1.2 c1,vS a2 p0.2.1 c2,vS a3 p0.2.2.1 c3,vI p0.2.2.2] 142::kB b2 (V5 x1 a4 c4) 87::kR a1 p0.1.2 c1 5 1::O) w4:=g;refine WO_e (W_sr (qAb 4 [(7,vP bp0 0),(10,vP bp0 1)] (qAa rfl (qBg 11 114 10 1 (vS a1 p0.1.2 c1) g.h (qAb 1 [(12,.int .u8 40)] (qAa rfl (qBa (d:=13) (t:=114) (e:=5) (len:=1) (parts:= #[(0,(.tmp 12))]) cU8 (xs:=[(40:UInt8)]) [.int .u8 40] kr rfl (fun _=>qBc kr _) rfl rfl g ⟨[.int .u8 40],_,rfl,rfl,rfl⟩ fun b3 m3 w5 e3 g r5=>(qAa rfl (qDw 14 114 114 5 1 11 13 g.f3 (.inl kr) ((r1.mono e2).mono e3) r5.src i fun l1 i a5 c5 m4 w6 e4 g r6=>(qAb 2 [(16,vP bp0 1)] (qAa rfl (qDp 114 16 14 1 (vS a5 l1 c5) #[.pointer (qCa true bp0),vS a5 l1 c5,vS a2 p0.2.1 c2,vS a3 p0.2.2.1 c3,vI p0.2.2.2] g.f2 fun w7 g=>(qAr rfl ?_)))))))))))));have g:=g.f2.t;refine qAi (W_sr (qAf 1 [(4,.nilIface)] (qAu (X_rt [4] [.nilIface] (⟨_,rfl,?_⟩)))))
  refine WO_e (W_sr (qAb 4 [(31,vP bp0 0),(32,vI p1),(34,vI (wr (p3+1)))] (qAx 35 i (fun _ h=>ih_source_writer_expr (p0:=((true,l1),p0.2.1,p0.2.2.1,p0.2.2.2)) g.f1.f1 r6 (((r2.mono e2).mono e3).mono e4) (((r3.mono e2).mono e3).mono e4) h) ?_)));rintro y2 i _ w8 ⟨a6,c6,a7,c7,a8,c8,m5,rfl,e5,g,r7,r8,r9⟩;refine WO_e (W_sr (qAb 3 [(38,vP bp0 0)] (qAa rfl (qCt 39 108 #[vP bp0 0,.int .u8 41] kr rfl (W_cA Tryd.func108 rfl Tryd.ntmps108 (W_sr (qAf 1 [] (W_sr (qAb 1 [(5,vP bp0 0)] (qAa rfl (qCt 6 85 #[vP bp0 0] kr rfl ((qAt (c0:=(qCa y2.1.1 bp0)) (R:=[vS a6 y2.1.2 c6,vS a7 y2.2.1 c7,vS a8 y2.2.2.1 c8,vI y2.2.2.2]) (qEm y2.1.1 bp0 kr) g).mono ?_))))))))))));rintro _ w9 ⟨m6,rfl,e6,g⟩;refine⟨_,rfl,?_⟩;have g:St m6 (kB bp0 #[.pointer (qCa true bp0),vS a6 y2.1.2 c6,vS a7 y2.2.1 c7,vS a8 y2.2.2.1 c8,vI y2.2.2.2] 142::kR a6 y2.1.2 c6 5 1::kB b2 (V5 x1 a4 c4) 87::O) w9:=g
  refine WO_e (W_sr (qAb 4 [(7,vP bp0 0),(10,vP bp0 1)] (qAa rfl (qBg 11 114 10 1 (vS a6 y2.1.2 c6) g.h (qAb 1 [(12,.int .u8 41)] (qAa rfl (qBa (d:=13) (t:=114) (e:=5) (len:=1) (parts:= #[(0,(.tmp 12))]) cU8 (xs:=[(41:UInt8)]) [.int .u8 41] kr rfl (fun _=>qBc kr _) rfl rfl g ⟨[.int .u8 41],_,rfl,rfl,rfl⟩ fun b4 m7 w10 e7 g r10=>(qAa rfl (qDw 14 114 114 5 1 11 13 g.f2 (.inl kr) ((r7.mono e6).mono e7) r10.src i fun l2 i a9 c9 m8 w11 e8 g r11=>(qAb 2 [(16,vP bp0 1)] (qAa rfl (qDp 114 16 14 1 (vS a9 l2 c9) #[.pointer (qCa true bp0),vS a9 l2 c9,vS a7 y2.2.1 c7,vS a8 y2.2.2.1 c8,vI y2.2.2.2] g.f2 fun w12 g=>(qAr rfl ?_)))))))))))));have g:=g.f2.t;refine qAi (W_sr (qAf 1 [(4,.nilIface)] (qAu (X_rt [4] [.nilIface] (⟨_,rfl,?_⟩)))));refine WO_e (qAu (qAe ?_));cases i;exact qJv [] [] rfl ResAll.nil ⟨a9,c9,a7,c7,a8,c8,m8,rfl,((((((q.t e2).t e3).t e4).t e5).t e6).t e7).t e8,g.f2.t.f1.f1,r11,((r8.mono e6).mono e7).mono e8,((r9.mono e6).mono e7).mono e8⟩
 ·intro A i;refine qAm (qAi (W_sr (qAb 4 [(40,vP bp0 0),(43,vP bp0 4)] (qAa rfl (qBg 44 3 43 4 (vI p0.2.2.2) g.t.h (qAb 4 [(46,vI (if p3>p0.2.2.2 then p3 else p0.2.2.2)),(48,vP bp0 4)] (qAa rfl (qDp 3 48 46 4 (vI (if p3>p0.2.2.2 then p3 else p0.2.2.2)) #[.pointer (qCa p0.1.1 bp0),vS a1 p0.1.2 c1,vS a2 p0.2.1 c2,vS a3 p0.2.2.1 c3,vI (if p3>p0.2.2.2 then p3 else p0.2.2.2)] g.f1 fun w13 g=>(WO_e (W_sr (qEk 1 50 3 49 0 (vI x1.1) g.t.h (WO_e (qAs (W_sr (qAf 2 [(66,vB (x1.1==1))] (W_if i ?_ ?_))))))))))))))))
  ·intro A i;refine qFt [(7,fun w'=>Inv m1 w'∧Piece.holds m1 w' (kB b2 (V5 x1 a4 c4) 87)∧True)] kr g fun w14 _ g=> ?_;have hmS1:=m1.le_refl;refine⟨⟨.inr ⟨Inv.anti g.inv hmS1,Piece.holds_anti g.t.h hmS1,trivial⟩,trivial⟩,?_⟩;refine qBf 0 68 (vP bp0 0) (.head _) (qBf 1 69 (vP bp0 0) (.head _) (qBf 2 70 (vP bp0 0) (.head _) (qBf 3 71 (vP b2 1) (.head _) (qGw 3 71 4 72 1 (vI x1.2.1) (.head _) (fun _ h=>h.2.1) (qDf 5 kr (qNb 73 i (fun _ h=>qKx g h) ?_))))));rintro y3 i _ w15 ⟨m9,rfl,e9,g⟩;refine⟨_,rfl,?_⟩;have hmS1:=Mem.le_trans hmS1 e9;refine⟨⟨.inr ⟨Inv.anti g.inv hmS1,Piece.holds_anti g.t.h hmS1,trivial⟩,trivial⟩,?_⟩;refine qDf 6 kr (qCt 74 59 #[vP bp0 0,vT y3] kr rfl (W_cA Tryd.func59 rfl Tryd.ntmps59 (W_sr (qAf 2 [] (W_sr (qAb 1 [(6,vP bp0 0)] (qAa rfl (qCt 7 85 #[vP bp0 0] kr rfl ((qAt (c0:=(qCa p0.1.1 bp0)) (R:=[vS a1 p0.1.2 c1,vS a2 p0.2.1 c2,vS a3 p0.2.2.1 c3,vI (if p3>p0.2.2.2 then p3 else p0.2.2.2)]) (qEm p0.1.1 bp0 kr) g).mono ?_)))))))));rintro _ w16 ⟨m10,rfl,e10,g⟩;refine⟨_,rfl,?_⟩;have hmS1:=Mem.le_trans hmS1 e10;have g:St m10 (kB bp0 #[.pointer (qCa true bp0),vS a1 p0.1.2 c1,vS a2 p0.2.1 c2,vS a3 p0.2.2.1 c3,vI (if p3>p0.2.2.2 then p3 else p0.2.2.2)] 142::kB b2 (V5 x1 a4 c4) 87::kR a1 p0.1.2 c1 5 1::O) w16:=g
   refine WO_e (W_sr (qAb 4 [(8,vP bp0 0),(11,vP bp0 1)] (qAa rfl (qBg 12 114 11 1 (vS a1 p0.1.2 c1) g.h (qAb 1 [(13,vT y3)] (qAa rfl (qDw 14 114 9 5 1 12 13 g.f2 (.inr kr) ((r1.mono e9).mono e10) (Gives.str _) i fun l3 i a10 c10 m11 w17 e11 g r12=> ?_)))))));have hmS1:=Mem.le_trans hmS1 e11;refine qAb 2 [(16,vP bp0 1)] (qAa rfl (qDp 114 16 14 1 (vS a10 l3 c10) #[.pointer (qCa true bp0),vS a10 l3 c10,vS a2 p0.2.1 c2,vS a3 p0.2.2.1 c3,vI (if p3>p0.2.2.2 then p3 else p0.2.2.2)] g.f1 fun w18 g=>(WO_e (W_sr (qAf 4 [(4,vI (y3.size:Int)),(5,.nilIface)] (qAu (X_rt [4,5] [vI (y3.size:Int),.nilIface] (⟨_,rfl,?_⟩))))))));refine⟨⟨.inr ⟨Inv.anti g.inv hmS1,Piece.holds_anti g.t.t.h hmS1,trivial⟩,trivial⟩,?_⟩;refine qEj kr ?_;refine qBb ?_;cases i;exact qIu [] [] rfl ResAll.nil ⟨a10,c10,a2,c2,a3,c3,m11,rfl,((q.t e9).t e10).t e11,g.f2.t.f1.f1,r12,((r2.mono e9).mono e10).mono e11,((r3.mono e9).mono e10).mono e11⟩
  ·intro A i;refine W_sr (qAf 2 [(75,vB (x1.1==2))] (W_if i ?_ ?_))
   ·intro A i;refine qFt [(12,fun w'=>Inv m1 w'∧Piece.holds m1 w' (kB b2 (V5 x1 a4 c4) 87)∧True),(11,fun w'=>Inv m1 w'∧Piece.holds m1 w' (kB bp0 #[.pointer (qCa p0.1.1 bp0),vS a1 p0.1.2 c1,vS a2 p0.2.1 c2,vS a3 p0.2.2.1 c3,vI (if p3>p0.2.2.2 then p3 else p0.2.2.2)] 142)∧True)] kr g fun w19 _ g=> ?_;have hmS2:=m1.le_refl;refine⟨⟨.inr ⟨Inv.anti g.inv hmS2,Piece.holds_anti g.t.h hmS2,trivial⟩,⟨.inr ⟨Inv.anti g.inv hmS2,Piece.holds_anti g.h hmS2,trivial⟩,trivial⟩⟩,?_⟩;refine qBf 0 77 (vP bp0 0) (.head _) (qBf 1 78 (vP bp0 0) (.head _) (qBf 2 79 (vP bp0 0) (.head _) (qBf 3 80 (vP bp0 0) (.head _) (qBf 4 81 (vP bp0 0) (.head _) (qBf 5 82 (vP bp0 3) (.head _) (qBf 7 84 (vP b2 1) (.head _) (qGw 3 84 8 85 1 (vI x1.2.1) (.head _) (fun _ h=>h.2.1) (qDf 6 kr (qBg 83 31 82 3 (vS a3 p0.2.2.1 c3) g.h (⟨⟨.inr ⟨Inv.anti g.inv hmS2,Piece.holds_anti g.t.h hmS2,trivial⟩,⟨.inr ⟨Inv.anti g.inv hmS2,Piece.holds_anti g.h hmS2,trivial⟩,trivial⟩⟩,?_⟩))))))))));have⟨x2,d8,i⟩:=qAp i;refine qMj (t:=31) (e:=9) (x:=(.tmp 83)) (y:=(.tmp 85)) 9 86 cStr kr rfl kr (.head _) (qFu qMc) (ev (vS a3 p0.2.2.1 c3)) (ev (vI x1.2.1)) kr r3 d8 ?_;rintro b5 f2 cs2 rfl hq2
    refine qNx 9 86 10 87 f2 (vT x2) (.head _) (fun _ h=>h.1) hq2 (qDf 11 kr (qCt 88 59 #[vP bp0 0,vT x2] kr rfl (W_cA Tryd.func59 rfl Tryd.ntmps59 (W_sr (qAf 2 [] (W_sr (qAb 1 [(6,vP bp0 0)] (qAa rfl (qCt 7 85 #[vP bp0 0] kr rfl ((qAt (c0:=(qCa p0.1.1 bp0)) (R:=[vS a1 p0.1.2 c1,vS a2 p0.2.1 c2,vS a3 p0.2.2.1 c3,vI (if p3>p0.2.2.2 then p3 else p0.2.2.2)]) (qEm p0.1.1 bp0 kr) g).mono ?_))))))))));rintro _ w20 ⟨m12,rfl,e12,g⟩;refine⟨_,rfl,?_⟩;have hmS2:=Mem.le_trans hmS2 e12;have g:St m12 (kB bp0 #[.pointer (qCa true bp0),vS a1 p0.1.2 c1,vS a2 p0.2.1 c2,vS a3 p0.2.2.1 c3,vI (if p3>p0.2.2.2 then p3 else p0.2.2.2)] 142::kB b2 (V5 x1 a4 c4) 87::kR a1 p0.1.2 c1 5 1::O) w20:=g;refine WO_e (W_sr (qAb 4 [(8,vP bp0 0),(11,vP bp0 1)] (qAa rfl (qBg 12 114 11 1 (vS a1 p0.1.2 c1) g.h (qAb 1 [(13,vT x2)] (qAa rfl (qDw 14 114 9 5 1 12 13 g.f2 (.inr kr) (r1.mono e12) (Gives.str _) i fun l4 i a11 c11 m13 w21 e13 g r13=> ?_)))))));have hmS2:=Mem.le_trans hmS2 e13;refine qAb 2 [(16,vP bp0 1)] (qAa rfl (qDp 114 16 14 1 (vS a11 l4 c11) #[.pointer (qCa true bp0),vS a11 l4 c11,vS a2 p0.2.1 c2,vS a3 p0.2.2.1 c3,vI (if p3>p0.2.2.2 then p3 else p0.2.2.2)] g.f1 fun w22 g=>(WO_e (W_sr (qAf 4 [(4,vI (x2.size:Int)),(5,.nilIface)] (qAu (X_rt [4,5] [vI (x2.size:Int),.nilIface] (⟨_,rfl,?_⟩))))))))
    refine⟨⟨.inr ⟨Inv.anti g.inv hmS2,Piece.holds_anti g.t.t.h hmS2,trivial⟩,⟨.inl rfl,trivial⟩⟩,?_⟩;refine qEj kr ?_;refine qBb ?_;cases i;exact qIu [] [] rfl ResAll.nil ⟨a11,c11,a2,c2,a3,c3,m13,rfl,(q.t e12).t e13,g.f2.t.f1.f1,r13,(r2.mono e12).mono e13,(r3.mono e12).mono e13⟩
   ·intro A i;refine W_sr (qAf 2 [(89,vB (x1.1==4))] (W_if i ?_ ?_))
    ·intro A i;refine W_sr (qAa rfl (qBg 91 87 8 0 (.agg (V5 x1 a4 c4)) g.t.h (qAx 92 i (fun _ h=>qLb g r4 h) ?_)));rintro y4 i _ w23 ⟨m14,rfl,e14,g⟩;have r4:=r4.mono e14;have r1:=r1.mono e14;have r2:=r2.mono e14;have r3:=r3.mono e14;refine qAf 1 [(9,vI y4)] (W_sr (qAf 2 [(10,vI y4)] (qAo (W_sr (qAf 2 [(95,vB (y4==1))] ?_)))));have⟨o1,i,j1⟩:=qAp i;refine qCl .normal (fun L' w'=>∃m15,L'=[(0,vP bp0 0),(3,vI p3),(8,vP b2 0),(9,vI y4),(10,vI o1)]∧m.le m15∧St m15 (kB bp0 #[.pointer (qCa p0.1.1 bp0),vS a1 p0.1.2 c1,vS a2 p0.2.1 c2,vS a3 p0.2.2.1 c3,vI (if p3>p0.2.2.2 then p3 else p0.2.2.2)] 142::kB b2 (V5 x1 a4 c4) 87::kR a1 p0.1.2 c1 5 1::O) w'∧RepS cU8 m15 a1 c1 p0.1.2∧RepS C3 m15 a2 c2 p0.2.1∧RepS cStr m15 a3 c3 p0.2.2.1∧RepS (cInt .i64) m15 a4 c4 x1.2.2.2.2) ?_ ?_
     ·have i:=j1;rintro _ w24 ⟨m15,rfl,q,g,r1,r2,r3,r4⟩;refine qAi (W_sr (qAb 2 [(98,vP bp0 0),(99,vP b2 4)] (qAa rfl (qBg 100 22 99 4 (vS a4 x1.2.2.2.2 c4) g.t.h (qAa rfl (qDg 101 22 3 100 ((.const (vI 0))) r4 i ?_))))));rintro x3 i b6 f3 cs3 rfl hq3;refine qEx 102 3 101 f3 (vI x3) g hq3 (qAb 2 [(103,vI o1),(104,vI p3)] (qAx 105 i (fun _ h=>ih_source_writer_expr (p0:=(p0.1,p0.2.1,p0.2.2.1,if p3>p0.2.2.2 then p3 else p0.2.2.2)) g.f2.f1 r1 r2 r3 h) ?_));rintro y5 i _ w25 ⟨a12,c12,a13,c13,a14,c14,m16,rfl,e15,g,r14,r15,r16⟩;refine WO_e (qAo (qFt [(10,fun w'=>Inv m16 w'∧Piece.holds m16 w' (kB b2 (V5 x1 a4 c4) 87)∧True)] kr g fun w26 _ g=> ?_));have hmS3:=m16.le_refl;refine⟨⟨.inr ⟨Inv.anti g.inv hmS3,Piece.holds_anti g.t.t.h hmS3,trivial⟩,trivial⟩,?_⟩;refine qBf 0 106 (vP bp0 0) (.head _) (qBf 1 107 (vP bp0 0) (.head _) (qBf 2 108 (vP bp0 0) (.head _) (qBf 4 110 (vP b2 2) (.head _) (qGw 3 110 5 111 2 (vI x1.2.2.1) (.head _) (fun _ h=>h.2.1) (qDf 3 kr (qNb 109 i (fun _ h=>qLf g h) ?_))))));rintro y6 i _ w27 ⟨q1,es1,ck1,m17,rfl,e16,g,r17⟩;refine⟨_,rfl,?_⟩;have hmS3:=Mem.le_trans hmS3 e16;refine⟨⟨.inr ⟨Inv.anti g.inv hmS3,Piece.holds_anti g.t.t.t.h hmS3,trivial⟩,trivial⟩,?_⟩
      refine qDf 6 kr (qHp (ek:=(fun n:Int=>Value.int .i64 n)) (c:=cStr) (agg:=false) (k:=x1.2.2.1) (zx:=eB) (zcs:=[vT eB]) (z:=(vT eB)) (kt:=3) (et:=9) (d:=112) (t:=134) (x:=(.tmp 109)) (y:=(.tmp 111)) (ok:=false) kr rfl (ev (.map q1)) (ev (vI x1.2.2.1)) kr (qFk kr) g.h r17 rfl rfl ?_);rintro cs4 rfl;refine⟨⟨.inr ⟨Inv.anti g.inv hmS3,Piece.holds_anti g.t.t.t.h hmS3,trivial⟩,trivial⟩,?_⟩;refine qIv 9 9 ((.const (vT (⟨#[32]⟩:ByteArray)))) 112 7 113 (.head _) i fun s1 i=> ?_;refine qIv 9 9 113 ((.const (vT (⟨#[32]⟩:ByteArray)))) 8 114 (.head _) i fun s2 i=> ?_;refine qDf 9 kr (qCt 115 59 #[vP bp0 0,vT s2] kr rfl (W_cA Tryd.func59 rfl Tryd.ntmps59 (W_sr (qAf 2 [] (W_sr (qAb 1 [(6,vP bp0 0)] ?_))))));have g:=g.f1;refine qAa rfl (qCt 7 85 #[vP bp0 0] kr rfl ((qAt (c0:=(qCa y5.1.1 bp0)) (R:=[vS a12 y5.1.2 c12,vS a13 y5.2.1 c13,vS a14 y5.2.2.1 c14,vI y5.2.2.2]) (qEm y5.1.1 bp0 kr) g).mono ?_));rintro _ w28 ⟨m18,rfl,e17,g⟩;refine⟨_,rfl,?_⟩;have hmS3:=Mem.le_trans hmS3 e17;have g:St m18 (kB bp0 #[.pointer (qCa true bp0),vS a12 y5.1.2 c12,vS a13 y5.2.1 c13,vS a14 y5.2.2.1 c14,vI y5.2.2.2] 142::qBx q1 es1 ck1::kR a12 y5.1.2 c12 5 1::kB b2 (V5 x1 a4 c4) 87::O) w28:=g
      refine WO_e (W_sr (qAb 4 [(8,vP bp0 0),(11,vP bp0 1)] (qAa rfl (qBg 12 114 11 1 (vS a12 y5.1.2 c12) g.h (qAb 1 [(13,vT s2)] (qAa rfl (qDw 14 114 9 5 1 12 13 g.f2 (.inr kr) ((r14.mono e16).mono e17) (Gives.str _) i fun l5 i a15 c15 m19 w29 e18 g r18=> ?_)))))));have hmS3:=Mem.le_trans hmS3 e18;refine qAb 2 [(16,vP bp0 1)] (qAa rfl (qDp 114 16 14 1 (vS a15 l5 c15) #[.pointer (qCa true bp0),vS a15 l5 c15,vS a13 y5.2.1 c13,vS a14 y5.2.2.1 c14,vI y5.2.2.2] g.f1 fun w30 g=>(WO_e (W_sr (qAf 4 [(4,vI (s2.size:Int)),(5,.nilIface)] (qAu (X_rt [4,5] [vI (s2.size:Int),.nilIface] (⟨_,rfl,?_⟩))))))));refine⟨⟨.inr ⟨Inv.anti g.inv hmS3,Piece.holds_anti g.t.t.t.h hmS3,trivial⟩,trivial⟩,?_⟩;refine qEj kr ?_;refine qAi (qAl (qAb 2 [(116,vP bp0 0),(117,vP b2 4)] (qAa rfl (qBg 118 22 117 4 (vS a4 x1.2.2.2.2 c4) g.t.t.t.h (qAa rfl (qDg 119 22 3 118 ((.const (vI 1))) ((((r4.mono e15).mono e16).mono e17).mono e18) i ?_))))));rintro x4 i b7 f4 cs5 rfl hq4;refine qEx 120 3 119 f4 (vI x4) g hq4 (qAb 3 [(122,vI (wr (y4+1))),(123,vI p3)] (qAx 124 i (fun _ h=>ih_source_writer_expr (p0:=((true,l5),y5.2.1,y5.2.2.1,y5.2.2.2)) g.f1.f1 r18 (((r15.mono e16).mono e17).mono e18) (((r16.mono e16).mono e17).mono e18) h) ?_));rintro y7 i _ w31 ⟨a16,c16,a17,c17,a18,c18,m20,rfl,e19,g,r19,r20,r21⟩;refine qAr rfl (qBb ?_);cases i
      exact qIu [] [] rfl ResAll.nil ⟨a16,c16,a17,c17,a18,c18,m20,rfl,((((q.t e15).t e16).t e17).t e18).t e19,g.f2.t.f2.t.f1.f1,r19,r20,r21⟩
     ·intro Ku1;refine W_if i ?_ ?_
      ·intro A i;refine qAl (qAb 3 [(10,vI (wr (y4+1)))] (qAr rfl ?_));cases i;exact xE (Ku1 _ _ ⟨m14,rfl,q.t e14,g.f2.f2.f2,r1,r2,r3,r4⟩)
      ·intro A i;refine qAm ?_;cases i;exact xE (Ku1 _ _ ⟨m14,rfl,q.t e14,g.f2.f2.f2,r1,r2,r3,r4⟩)
    ·intro A i;refine W_sr (qAf 2 [(125,vB (x1.1==5))] (W_if i ?_ ?_))
     ·intro A i;refine W_sr (qAa rfl (qBa (d:=127) (t:=31) (e:=9) (len:=3) (parts:= #[(0,(.const (vT bz))),(1,(.const (vT b16))),(2,(.const (vT b17)))]) cStr (xs:=[bz,b16,b17]) [vT bz,vT b16,vT b17] kr rfl (fun _=>qBc kr _) rfl rfl g ⟨[vT bz],_,rfl,rfl,⟨[vT b16],_,rfl,rfl,⟨[vT b17],_,rfl,rfl,rfl⟩⟩⟩ fun b8 m21 w32 e20 g r22=>(qAf 2 [(128,vI (List.length ([bz,b16,b17]):Int)),(129,vI 0)] (qAs ?_))));have⟨out1,i,j2⟩:=qAp i;refine qCl (.exit 1) (fun L' w'=>∃(o2:T1e),∃a19 c19 a20 c20 a21 c21 m22,o2=out1∧L'=[]∧m.le m22∧St m22 (kB bp0 #[.pointer (qCa o2.1 bp0),vS a19 o2.2.1 c19,vS a20 o2.2.2.1 c20,vS a21 o2.2.2.2.1 c21,vI o2.2.2.2.2] 142::kB b2 (V5 x1 a4 c4) 87:: .room (aP b8) (List.length ([bz,b16,b17])) 3 9 1::kR a19 o2.2.1 c19 5 1::O) w'∧RepS cU8 m22 a19 c19 o2.2.1∧RepS C3 m22 a20 c20 o2.2.2.1∧RepS cStr m22 a21 c21 o2.2.2.2.1∧RepS (cInt .i64) m22 a4 c4 x1.2.2.2.2) ?_ ?_
      ·rintro _ w33 ⟨o2,a19,c19,a20,c20,a21,c21,m22,rfl,rfl,q,g,r23,r24,r25,r4⟩;have i:=j2;refine qBh (qBb ?_);cases i;exact qIu [] [] rfl ResAll.nil ⟨a19,c19,a20,c20,a21,c21,m22,rfl,q,g.f1.t.f1.t.f1.f1,r23,r24,r25⟩
      intro K1_u2;refine qFv _ kr (qEa (fun k1 L' w'=>∃(s3:T1f),∃a22 c22 a23 c23 a24 c24 m23,qBe (qFz N R6 p3 x1) k1 s3=some out1∧L'=[(0,vP bp0 0),(3,vI p3),(8,vP b2 0),(127,.slice (aP b8) (List.length ([bz,b16,b17])) 3),(128,vI (List.length ([bz,b16,b17]):Int)),(129,vI s3.1)]∧m.le m23∧St m23 (kB bp0 #[.pointer (qCa s3.2.1 bp0),vS a22 s3.2.2.1 c22,vS a23 s3.2.2.2.1 c23,vS a24 s3.2.2.2.2.1 c24,vI s3.2.2.2.2.2] 142::kB b2 (V5 x1 a4 c4) 87:: .room (aP b8) (List.length ([bz,b16,b17])) 3 9 1::kR a22 s3.2.2.1 c22 5 1::O) w'∧RepS cStr m23 (aP b8) 3 ([bz,b16,b17])∧RepS cU8 m23 a22 c22 s3.2.2.1∧RepS C3 m23 a23 c23 s3.2.2.2.1∧RepS cStr m23 a24 c24 s3.2.2.2.2.1∧RepS (cInt .i64) m23 a4 c4 x1.2.2.2.2) N ⟨(0,p0.1.1,p0.1.2,p0.2.1,p0.2.2.1,if p3>p0.2.2.2 then p3 else p0.2.2.2),a1,c1,a2,c2,a3,c3,m21,i,rfl,q.t e20,g.f3.f1.f3.f3,r22,r1.mono e20,r2.mono e20,r3.mono e20,r4.mono e20⟩ ?_);rintro k1 _ w34 ⟨s3,a22,c22,a23,c23,a24,c24,m23,hL,rfl,q,g,r22,r26,r27,r28,r4⟩;rcases k1 with _|k1
      ·exact qBi hL
      ·obtain⟨qu2,i,hSu2,hBu2⟩:=qBj hL;clear hL;unfold qFz at i;refine W_sr (qAf 1 [(130,vB (decide (s3.1<(List.length ([bz,b16,b17]):Int))))] (qAo (W_if i ?_ ?_)))
       ·intro A i;refine qAm (qAi (qAo (qAs (W_sr (qAb 1 [(131,vI s3.1)] (qAa rfl (qDg 132 31 9 127 129 r22 i ?_)))))));rintro x5 i b9 f5 cs6 rfl hq5;refine qEx 133 9 132 f5 (vT x5) g hq5 (qAf 2 [(11,vI s3.1),(12,vT x5)] (W_sr (qAb 4 [(136,vP bp0 0),(137,vT x5)] (qAa rfl (qCt 138 59 #[vP bp0 0,vT x5] kr rfl (W_cA Tryd.func59 rfl Tryd.ntmps59 (W_sr (qAf 2 [] (W_sr (qAb 1 [(6,vP bp0 0)] (qAa rfl (qCt 7 85 #[vP bp0 0] kr rfl ((qAt (c0:=(qCa s3.2.1 bp0)) (R:=[vS a22 s3.2.2.1 c22,vS a23 s3.2.2.2.1 c23,vS a24 s3.2.2.2.2.1 c24,vI s3.2.2.2.2.2]) (qEm s3.2.1 bp0 kr) g).mono ?_)))))))))))));rintro _ w35 ⟨m24,rfl,e21,g⟩;refine⟨_,rfl,?_⟩;have g:St m24 (kB bp0 #[.pointer (qCa true bp0),vS a22 s3.2.2.1 c22,vS a23 s3.2.2.2.1 c23,vS a24 s3.2.2.2.2.1 c24,vI s3.2.2.2.2.2] 142::kB b2 (V5 x1 a4 c4) 87:: .room (aP b8) (List.length ([bz,b16,b17])) 3 9 1::kR a22 s3.2.2.1 c22 5 1::O) w35:=g;refine WO_e (W_sr (qAb 4 [(8,vP bp0 0),(11,vP bp0 1)] (qAa rfl (qBg 12 114 11 1 (vS a22 s3.2.2.1 c22) g.h (qAb 1 [(13,vT x5)] (qAa rfl (qDw 14 114 9 5 1 12 13 g.f3 (.inr kr) (r26.mono e21) (Gives.str _) i fun l6 i a25 c25 m25 w36 e22 g r29=> ?_)))))));have r4:=(r4.mono e21).mono e22
        refine qAb 2 [(16,vP bp0 1)] (qAa rfl (qDp 114 16 14 1 (vS a25 l6 c25) #[.pointer (qCa true bp0),vS a25 l6 c25,vS a23 s3.2.2.2.1 c23,vS a24 s3.2.2.2.2.1 c24,vI s3.2.2.2.2.2] g.f1 fun w37 g=>(WO_e (W_sr (qAf 4 [(4,vI (x5.size:Int)),(5,.nilIface)] (qAu (X_rt [4,5] [vI (x5.size:Int),.nilIface] (⟨_,rfl,?_⟩))))))));refine WO_e (qAl (qAb 2 [(139,vP bp0 0),(140,vP b2 4)] (qAa rfl (qBg 141 22 140 4 (vS a4 x1.2.2.2.2 c4) g.t.t.h (qAb 1 [(142,vI s3.1)] (qAa rfl (qDg 143 22 3 141 142 r4 i ?_)))))));rintro x6 i b10 f6 cs7 rfl hq6;refine qEx 144 3 143 f6 (vI x6) g hq6 (qAb 2 [(146,vI (wr (p3+1)))] (qAx 147 i (fun _ h=>ih_source_writer_expr (p0:=((true,l6),s3.2.2.2.1,s3.2.2.2.2.1,s3.2.2.2.2.2)) g.f1.f1 r29 ((r27.mono e21).mono e22) ((r28.mono e21).mono e22) h) ?_));rintro y8 i _ w38 ⟨a26,c26,a27,c27,a28,c28,m26,rfl,e23,g,r30,r31,r32⟩;refine qAr rfl (qBb (qAi (qAl (qAb 2 [(129,vI (wr (s3.1+1)))] (qAr rfl ?_)))));obtain rfl:=sI i;have hL:=hSu2 _ rfl;exact xE (qCg k1 (jB _) ⟨(wr (s3.1+1),y8.1.1,y8.1.2,y8.2.1,y8.2.2.1,y8.2.2.2),a26,c26,a27,c27,a28,c28,m26,hL,rfl,((q.t e21).t e22).t e23,g.f1.f3.f3.f3,((r22.mono e21).mono e22).mono e23,r30,r31,r32,r4.mono e23⟩)
       ·intro A i;refine qDz (qAk ?_);cases i;have ho:=hBu2 _ rfl;have g:=g.f3.f3.f3.f3;refine qAk ?_;exact xE (K1_u2 _ _ ⟨s3.2,a22,c22,a23,c23,a24,c24,m23,ho,rfl,q,g,r26,r27,r28,r4⟩)
     ·intro A i;refine W_sr (qAf 2 [(149,vB (x1.1==3))] (W_if i ?_ ?_))
      ·intro A i;refine qAo (qFt [(7,fun w'=>Inv m1 w'∧Piece.holds m1 w' (kB b2 (V5 x1 a4 c4) 87)∧True)] kr g fun w39 _ g=> ?_);have hmS4:=m1.le_refl;refine⟨⟨.inr ⟨Inv.anti g.inv hmS4,Piece.holds_anti g.t.h hmS4,trivial⟩,trivial⟩,?_⟩;refine qBf 0 151 (vP bp0 0) (.head _) (qBf 1 152 (vP bp0 0) (.head _) (qBf 2 153 (vP bp0 0) (.head _) (qBf 3 154 (vP b2 3) (.head _) (qGw 9 154 4 155 3 (vT x1.2.2.2.1) (.head _) (fun _ h=>h.2.1) (qIv 9 9 155 ((.const (vT b18))) 5 156 (.head _) i fun s4 i=>(qDf 6 kr (qCt 157 59 #[vP bp0 0,vT s4] kr rfl (W_cA Tryd.func59 rfl Tryd.ntmps59 (W_sr (qAf 2 [] (W_sr (qAb 1 [(6,vP bp0 0)] (qAa rfl (qCt 7 85 #[vP bp0 0] kr rfl ((qAt (c0:=(qCa p0.1.1 bp0)) (R:=[vS a1 p0.1.2 c1,vS a2 p0.2.1 c2,vS a3 p0.2.2.1 c3,vI (if p3>p0.2.2.2 then p3 else p0.2.2.2)]) (qEm p0.1.1 bp0 kr) g).mono ?_)))))))))))))));rintro _ w40 ⟨m27,rfl,e24,g⟩;refine⟨_,rfl,?_⟩;have hmS4:=Mem.le_trans hmS4 e24;have g:St m27 (kB bp0 #[.pointer (qCa true bp0),vS a1 p0.1.2 c1,vS a2 p0.2.1 c2,vS a3 p0.2.2.1 c3,vI (if p3>p0.2.2.2 then p3 else p0.2.2.2)] 142::kB b2 (V5 x1 a4 c4) 87::kR a1 p0.1.2 c1 5 1::O) w40:=g;refine WO_e (W_sr (qAb 4 [(8,vP bp0 0),(11,vP bp0 1)] (qAa rfl (qBg 12 114 11 1 (vS a1 p0.1.2 c1) g.h (qAb 1 [(13,vT s4)] (qAa rfl (qDw 14 114 9 5 1 12 13 g.f2 (.inr kr) (r1.mono e24) (Gives.str _) i fun l7 i a29 c29 m28 w41 e25 g r33=> ?_)))))))
       have hmS4:=Mem.le_trans hmS4 e25;refine qAb 2 [(16,vP bp0 1)] (qAa rfl (qDp 114 16 14 1 (vS a29 l7 c29) #[.pointer (qCa true bp0),vS a29 l7 c29,vS a2 p0.2.1 c2,vS a3 p0.2.2.1 c3,vI (if p3>p0.2.2.2 then p3 else p0.2.2.2)] g.f1 fun w42 g=>(WO_e (W_sr (qAf 4 [(4,vI (s4.size:Int)),(5,.nilIface)] (qAu (X_rt [4,5] [vI (s4.size:Int),.nilIface] (⟨_,rfl,?_⟩))))))));refine⟨⟨.inr ⟨Inv.anti g.inv hmS4,Piece.holds_anti g.t.t.h hmS4,trivial⟩,trivial⟩,?_⟩;refine qEj kr ?_;refine qAi (qAo (W_sr (qEk 1 159 22 158 4 (vS a4 x1.2.2.2.2 c4) g.t.t.h (qAf 2 [(160,vI (x1.2.2.2.2.length:Int)),(161,vI 0)] (qAs ?_)))));have⟨out2,i,j3⟩:=qAp i;refine qCl (.exit 3) (fun L' w'=>∃(o3:T1e),∃a30 c30 a31 c31 a32 c32 m29,o3=out2∧L'=[(0,vP bp0 0)]∧m.le m29∧St m29 (kB bp0 #[.pointer (qCa o3.1 bp0),vS a30 o3.2.1 c30,vS a31 o3.2.2.1 c31,vS a32 o3.2.2.2.1 c32,vI o3.2.2.2.2] 142::kB b2 (V5 x1 a4 c4) 87::kR a30 o3.2.1 c30 5 1::O) w'∧RepS cU8 m29 a30 c30 o3.2.1∧RepS C3 m29 a31 c31 o3.2.2.1∧RepS cStr m29 a32 c32 o3.2.2.2.1∧RepS (cInt .i64) m29 a4 c4 x1.2.2.2.2) ?_ ?_
       ·rintro _ w43 ⟨o3,a30,c30,a31,c31,a32,c32,m29,rfl,rfl,q,g,r34,r35,r36,r4⟩;have i:=j3;refine qBh (qAi (qAl (qAb 3 [(180,vP bp0 0)] (qAa rfl (qCt 181 108 #[vP bp0 0,.int .u8 41] kr rfl (W_cA Tryd.func108 rfl Tryd.ntmps108 (W_sr (qAf 1 [] (W_sr (qAb 1 [(5,vP bp0 0)] (qAa rfl (qCt 6 85 #[vP bp0 0] kr rfl ((qAt (c0:=(qCa o3.1 bp0)) (R:=[vS a30 o3.2.1 c30,vS a31 o3.2.2.1 c31,vS a32 o3.2.2.2.1 c32,vI o3.2.2.2.2]) (qEm o3.1 bp0 kr) g).mono ?_)))))))))))));rintro _ w50 ⟨m35,rfl,e29,g⟩;refine⟨_,rfl,?_⟩;have g:St m35 (kB bp0 #[.pointer (qCa true bp0),vS a30 o3.2.1 c30,vS a31 o3.2.2.1 c31,vS a32 o3.2.2.2.1 c32,vI o3.2.2.2.2] 142::kB b2 (V5 x1 a4 c4) 87::kR a30 o3.2.1 c30 5 1::O) w50:=g
        refine WO_e (W_sr (qAb 4 [(7,vP bp0 0),(10,vP bp0 1)] (qAa rfl (qBg 11 114 10 1 (vS a30 o3.2.1 c30) g.h (qAb 1 [(12,.int .u8 41)] (qAa rfl (qBa (d:=13) (t:=114) (e:=5) (len:=1) (parts:= #[(0,(.tmp 12))]) cU8 (xs:=[(41:UInt8)]) [.int .u8 41] kr rfl (fun _=>qBc kr _) rfl rfl g ⟨[.int .u8 41],_,rfl,rfl,rfl⟩ fun b12 m36 w51 e30 g r45=>(qAa rfl (qDw 14 114 114 5 1 11 13 g.f3 (.inl kr) ((r34.mono e29).mono e30) r45.src i fun l9 i a41 c41 m37 w52 e31 g r46=>(qAb 2 [(16,vP bp0 1)] (qAa rfl (qDp 114 16 14 1 (vS a41 l9 c41) #[.pointer (qCa true bp0),vS a41 l9 c41,vS a31 o3.2.2.1 c31,vS a32 o3.2.2.2.1 c32,vI o3.2.2.2.2] g.f2 fun w53 g=>(qAr rfl ?_)))))))))))));have g:=g.f2.t;refine qAi (W_sr (qAf 1 [(4,.nilIface)] (qAu (X_rt [4] [.nilIface] (⟨_,rfl,?_⟩)))));refine qAr rfl (qBb ?_);cases i;exact qIu [] [] rfl ResAll.nil ⟨a41,c41,a31,c31,a32,c32,m37,rfl,((q.t e29).t e30).t e31,g.f2.t.f1.f1,r46,((r35.mono e29).mono e30).mono e31,((r36.mono e29).mono e30).mono e31⟩
       intro K3_u3;refine qFv _ kr (qEa (fun k2 L' w'=>∃(s5:T1f),∃a33 c33 a34 c34 a35 c35 m30,qBe (qGc N R6 p3 x1) k2 s5=some out2∧L'=[(0,vP bp0 0),(3,vI p3),(159,vS a4 x1.2.2.2.2 c4),(160,vI (x1.2.2.2.2.length:Int)),(161,vI s5.1)]∧m.le m30∧St m30 (kB bp0 #[.pointer (qCa s5.2.1 bp0),vS a33 s5.2.2.1 c33,vS a34 s5.2.2.2.1 c34,vS a35 s5.2.2.2.2.1 c35,vI s5.2.2.2.2.2] 142::kB b2 (V5 x1 a4 c4) 87::kR a33 s5.2.2.1 c33 5 1::O) w'∧RepS (cInt .i64) m30 a4 c4 x1.2.2.2.2∧RepS cU8 m30 a33 c33 s5.2.2.1∧RepS C3 m30 a34 c34 s5.2.2.2.1∧RepS cStr m30 a35 c35 s5.2.2.2.2.1) N ⟨(0,true,l7,p0.2.1,p0.2.2.1,if p3>p0.2.2.2 then p3 else p0.2.2.2),a29,c29,a2,c2,a3,c3,m28,i,rfl,(q.t e24).t e25,g.f1.f2.f2,(r4.mono e24).mono e25,r33,(r2.mono e24).mono e25,(r3.mono e24).mono e25⟩ ?_);rintro k2 _ w44 ⟨s5,a33,c33,a34,c34,a35,c35,m30,hL,rfl,q,g,r4,r37,r38,r39⟩;rcases k2 with _|k2
       ·exact qBi hL
       ·obtain⟨qu3,i,hSu3,hBu3⟩:=qBj hL;clear hL;unfold qGc at i;refine W_sr (qAf 1 [(162,vB (decide (s5.1<(x1.2.2.2.2.length:Int))))] (qAo (W_if i ?_ ?_)))
        ·intro A i;refine qAm (qAi (qAo (qAs (W_sr (qAb 1 [(163,vI s5.1)] (qAa rfl (qDg 164 22 3 159 161 r4 i ?_)))))));rintro x7 i b11 f7 cs8 rfl hq7;refine qEx 165 3 164 f7 (vI x7) g hq7 (qAf 2 [(13,vI s5.1),(14,vI x7)] (qAo (W_sr (qAf 2 [(167,vB (decide (s5.1>0)))] ?_))));have⟨o4,i,j4⟩:=qAp i;refine qCl .normal (fun L' w'=>∃a36 c36 m31,L'=[(0,vP bp0 0),(3,vI p3),(14,vI x7),(159,vS a4 x1.2.2.2.2 c4),(160,vI (x1.2.2.2.2.length:Int)),(161,vI s5.1)]∧m.le m31∧St m31 (kB bp0 #[.pointer (qCa o4.1 bp0),vS a36 o4.2 c36,vS a34 s5.2.2.2.1 c34,vS a35 s5.2.2.2.2.1 c35,vI s5.2.2.2.2.2] 142::kB b2 (V5 x1 a4 c4) 87::kR a36 o4.2 c36 5 1::O) w'∧RepS (cInt .i64) m31 a4 c4 x1.2.2.2.2∧RepS cU8 m31 a36 c36 o4.2∧RepS C3 m31 a34 c34 s5.2.2.2.1∧RepS cStr m31 a35 c35 s5.2.2.2.2.1) ?_ ?_
         ·have i:=j4;rintro _ w45 ⟨a36,c36,m31,rfl,q,g,r4,r40,r38,r39⟩;refine qAi (qAl (qAb 4 [(172,vP bp0 0),(173,vI x7),(175,vI (wr (p3+1)))] (qAx 176 i (fun _ h=>ih_source_writer_expr (p0:=(o4,s5.2.2.2.1,s5.2.2.2.2.1,s5.2.2.2.2.2)) g.f2.f1 r40 r38 r39 h) ?_)));rintro y9 i _ w49 ⟨a38,c38,a39,c39,a40,c40,m34,rfl,e28,g,r42,r43,r44⟩;refine qAr rfl (qBb (qAi (qAl (qAb 2 [(161,vI (wr (s5.1+1)))] (qAr rfl ?_)))));obtain rfl:=sI i;have hL:=hSu3 _ rfl;exact xE (qCg k2 (jB _) ⟨(wr (s5.1+1),y9.1.1,y9.1.2,y9.2.1,y9.2.2.1,y9.2.2.2),a38,c38,a39,c39,a40,c40,m34,hL,rfl,q.t e28,g.f1.f2.f2,r4.mono e28,r42,r43,r44⟩)
         ·intro Ku4;refine W_if i ?_ ?_
          ·intro A i;refine qAl (qAb 3 [(170,vP bp0 0)] (qAa rfl (qCt 171 59 #[vP bp0 0,vT b19] kr rfl (W_cA Tryd.func59 rfl Tryd.ntmps59 (W_sr (qAf 2 [] (W_sr (qAb 1 [(6,vP bp0 0)] (qAa rfl (qCt 7 85 #[vP bp0 0] kr rfl ((qAt (c0:=(qCa s5.2.1 bp0)) (R:=[vS a33 s5.2.2.1 c33,vS a34 s5.2.2.2.1 c34,vS a35 s5.2.2.2.2.1 c35,vI s5.2.2.2.2.2]) (qEm s5.2.1 bp0 kr) g).mono ?_)))))))))));rintro _ w46 ⟨m32,rfl,e26,g⟩;refine⟨_,rfl,?_⟩;have g:St m32 (kB bp0 #[.pointer (qCa true bp0),vS a33 s5.2.2.1 c33,vS a34 s5.2.2.2.1 c34,vS a35 s5.2.2.2.2.1 c35,vI s5.2.2.2.2.2] 142::kB b2 (V5 x1 a4 c4) 87::kR a33 s5.2.2.1 c33 5 1::O) w46:=g;refine WO_e (W_sr (qAb 4 [(8,vP bp0 0),(11,vP bp0 1)] (qAa rfl (qBg 12 114 11 1 (vS a33 s5.2.2.1 c33) g.h (qAb 1 [(13,vT b19)] (qAa rfl (qDw 14 114 9 5 1 12 13 g.f2 (.inr kr) (r37.mono e26) (Gives.str _) i fun l8 i a37 c37 m33 w47 e27 g r41=>(qAb 2 [(16,vP bp0 1)] (qAa rfl (qDp 114 16 14 1 (vS a37 l8 c37) #[.pointer (qCa true bp0),vS a37 l8 c37,vS a34 s5.2.2.2.1 c34,vS a35 s5.2.2.2.2.1 c35,vI s5.2.2.2.2.2] g.f1 fun w48 g=>(WO_e (W_sr (qAf 4 [(4,vI (b19.size:Int)),(5,.nilIface)] (qAu (X_rt [4,5] [vI (b19.size:Int),.nilIface] (⟨_,rfl,?_⟩))))))))))))))));refine qAr rfl ?_;cases i;exact xE (Ku4 _ _ ⟨a37,c37,m33,rfl,(q.t e26).t e27,g.f1.f2.f2,(r4.mono e26).mono e27,r41,(r38.mono e26).mono e27,(r39.mono e26).mono e27⟩)
          ·intro A i;refine qAm ?_;cases i;exact xE (Ku4 _ _ ⟨a33,c33,m30,rfl,q,g.f2.f2.f2,r4,r37,r38,r39⟩)
        ·intro A i;refine qDz (qAk ?_);cases i;have ho:=hBu3 _ rfl;have g:=g.f2.f2.f2;refine qAk ?_;exact xE (K3_u3 _ _ ⟨s5.2,a33,c33,a34,c34,a35,c35,m30,ho,rfl,q,g,r37,r38,r39,r4⟩)
      ·intro A i;refine W_sr (qAf 2 [(182,vB (x1.1==6))] (W_if i ?_ ?_))
       ·intro A i;refine qAo (qFt [(8,fun w'=>Inv m1 w'∧Piece.holds m1 w' (kB b2 (V5 x1 a4 c4) 87)∧True)] kr g fun w54 _ g=> ?_);have hmS5:=m1.le_refl;refine⟨⟨.inr ⟨Inv.anti g.inv hmS5,Piece.holds_anti g.t.h hmS5,trivial⟩,trivial⟩,?_⟩;refine qBf 0 184 (vP bp0 0) (.head _) (qBf 1 185 (vP bp0 0) (.head _) (qBf 2 186 (vP bp0 0) (.head _) (qBf 3 187 (vP b2 3) (.head _) (qGw 9 187 4 188 3 (vT x1.2.2.2.1) (.head _) (fun _ h=>h.2.1) (qIv 9 9 ((.const (vT (⟨#[114,101,97,100,40,34]⟩:ByteArray)))) 188 5 189 (.head _) i fun s6 i=>(qIv 9 9 189 ((.const (vT (⟨#[34,44,32]⟩:ByteArray)))) 6 190 (.head _) i fun s7 i=>(qDf 7 kr (qCt 191 59 #[vP bp0 0,vT s7] kr rfl (W_cA Tryd.func59 rfl Tryd.ntmps59 (W_sr (qAf 2 [] (W_sr (qAb 1 [(6,vP bp0 0)] (qAa rfl (qCt 7 85 #[vP bp0 0] kr rfl ((qAt (c0:=(qCa p0.1.1 bp0)) (R:=[vS a1 p0.1.2 c1,vS a2 p0.2.1 c2,vS a3 p0.2.2.1 c3,vI (if p3>p0.2.2.2 then p3 else p0.2.2.2)]) (qEm p0.1.1 bp0 kr) g).mono ?_))))))))))))))));rintro _ w55 ⟨m38,rfl,e32,g⟩;refine⟨_,rfl,?_⟩;have hmS5:=Mem.le_trans hmS5 e32;have g:St m38 (kB bp0 #[.pointer (qCa true bp0),vS a1 p0.1.2 c1,vS a2 p0.2.1 c2,vS a3 p0.2.2.1 c3,vI (if p3>p0.2.2.2 then p3 else p0.2.2.2)] 142::kB b2 (V5 x1 a4 c4) 87::kR a1 p0.1.2 c1 5 1::O) w55:=g
        refine WO_e (W_sr (qAb 4 [(8,vP bp0 0),(11,vP bp0 1)] (qAa rfl (qBg 12 114 11 1 (vS a1 p0.1.2 c1) g.h (qAb 1 [(13,vT s7)] (qAa rfl (qDw 14 114 9 5 1 12 13 g.f2 (.inr kr) (r1.mono e32) (Gives.str _) i fun l10 i a42 c42 m39 w56 e33 g r47=> ?_)))))));have hmS5:=Mem.le_trans hmS5 e33;refine qAb 2 [(16,vP bp0 1)] (qAa rfl (qDp 114 16 14 1 (vS a42 l10 c42) #[.pointer (qCa true bp0),vS a42 l10 c42,vS a2 p0.2.1 c2,vS a3 p0.2.2.1 c3,vI (if p3>p0.2.2.2 then p3 else p0.2.2.2)] g.f1 fun w57 g=>(WO_e (W_sr (qAf 4 [(4,vI (s7.size:Int)),(5,.nilIface)] (qAu (X_rt [4,5] [vI (s7.size:Int),.nilIface] (⟨_,rfl,?_⟩))))))));refine⟨⟨.inr ⟨Inv.anti g.inv hmS5,Piece.holds_anti g.t.t.h hmS5,trivial⟩,trivial⟩,?_⟩;refine qEj kr ?_;refine qAi (W_sr (qAb 2 [(192,vP bp0 0),(193,vP b2 4)] (qAa rfl (qBg 194 22 193 4 (vS a4 x1.2.2.2.2 c4) g.t.t.h (qAa rfl (qDg 195 22 3 194 ((.const (vI 0))) ((r4.mono e32).mono e33) i ?_))))));rintro x8 i b13 f8 cs9 rfl hq8;refine qEx 196 3 195 f8 (vI x8) g hq8 (qAb 2 [(198,vI (wr (p3+1)))] (qAx 199 i (fun _ h=>ih_source_writer_expr (p0:=((true,l10),p0.2.1,p0.2.2.1,if p3>p0.2.2.2 then p3 else p0.2.2.2)) g.f1.f1 r47 ((r2.mono e32).mono e33) ((r3.mono e32).mono e33) h) ?_));rintro y10 i _ w58 ⟨a43,c43,a44,c44,a45,c45,m40,rfl,e34,g,r48,r49,r50⟩
        refine WO_e (qAl (qAb 3 [(202,vP bp0 0)] (qAa rfl (qCt 203 108 #[vP bp0 0,.int .u8 41] kr rfl (W_cA Tryd.func108 rfl Tryd.ntmps108 (W_sr (qAf 1 [] (W_sr (qAb 1 [(5,vP bp0 0)] (qAa rfl (qCt 6 85 #[vP bp0 0] kr rfl ((qAt (c0:=(qCa y10.1.1 bp0)) (R:=[vS a43 y10.1.2 c43,vS a44 y10.2.1 c44,vS a45 y10.2.2.1 c45,vI y10.2.2.2]) (qEm y10.1.1 bp0 kr) g).mono ?_))))))))))));rintro _ w59 ⟨m41,rfl,e35,g⟩;refine⟨_,rfl,?_⟩;have g:St m41 (kB bp0 #[.pointer (qCa true bp0),vS a43 y10.1.2 c43,vS a44 y10.2.1 c44,vS a45 y10.2.2.1 c45,vI y10.2.2.2] 142::kR a43 y10.1.2 c43 5 1::kB b2 (V5 x1 a4 c4) 87::O) w59:=g;refine WO_e (W_sr (qAb 4 [(7,vP bp0 0),(10,vP bp0 1)] (qAa rfl (qBg 11 114 10 1 (vS a43 y10.1.2 c43) g.h (qAb 1 [(12,.int .u8 41)] (qAa rfl (qBa (d:=13) (t:=114) (e:=5) (len:=1) (parts:= #[(0,(.tmp 12))]) cU8 (xs:=[(41:UInt8)]) [.int .u8 41] kr rfl (fun _=>qBc kr _) rfl rfl g ⟨[.int .u8 41],_,rfl,rfl,rfl⟩ fun b14 m42 w60 e36 g r51=>(qAa rfl (qDw 14 114 114 5 1 11 13 g.f2 (.inl kr) ((r48.mono e35).mono e36) r51.src i fun l11 i a46 c46 m43 w61 e37 g r52=>(qAb 2 [(16,vP bp0 1)] (qAa rfl (qDp 114 16 14 1 (vS a46 l11 c46) #[.pointer (qCa true bp0),vS a46 l11 c46,vS a44 y10.2.1 c44,vS a45 y10.2.2.1 c45,vI y10.2.2.2] g.f2 fun w62 g=>(qAr rfl ?_)))))))))))));have g:=g.f2.t
        refine qAi (W_sr (qAf 1 [(4,.nilIface)] (qAu (X_rt [4] [.nilIface] (⟨_,rfl,?_⟩)))));refine qAr rfl (qBb ?_);cases i;exact qIu [] [] rfl ResAll.nil ⟨a46,c46,a44,c44,a45,c45,m43,rfl,(((((q.t e32).t e33).t e34).t e35).t e36).t e37,g.f2.t.f1.f1,r52,((r49.mono e35).mono e36).mono e37,((r50.mono e35).mono e36).mono e37⟩
       ·intro A i;refine W_sr (qAf 2 [(204,vB (x1.1==10))] (W_if i ?_ ?_))
        ·intro A i;refine qFt [(9,fun w'=>Inv m1 w'∧Piece.holds m1 w' (kB b2 (V5 x1 a4 c4) 87)∧True)] kr g fun w63 _ g=> ?_;have hmS6:=m1.le_refl;refine⟨⟨.inr ⟨Inv.anti g.inv hmS6,Piece.holds_anti g.t.h hmS6,trivial⟩,trivial⟩,?_⟩;refine qBf 0 206 (vP bp0 0) (.head _) (qBf 1 207 (vP bp0 0) (.head _) (qBf 2 208 (vP bp0 0) (.head _) (qBf 3 209 (vP b2 1) (.head _) (qGw 3 209 4 210 1 (vI x1.2.1) (.head _) (fun _ h=>h.2.1) (qDf 5 kr (qNb 211 i (fun _ h=>qKx g h) ?_))))));rintro y11 i _ w64 ⟨m44,rfl,e38,g⟩;refine⟨_,rfl,?_⟩;have hmS6:=Mem.le_trans hmS6 e38;refine⟨⟨.inr ⟨Inv.anti g.inv hmS6,Piece.holds_anti g.t.h hmS6,trivial⟩,trivial⟩,?_⟩;refine qIv 9 9 ((.const (vT (⟨#[102,108,105,112,40]⟩:ByteArray)))) 211 6 212 (.head _) i fun s8 i=> ?_;refine qIv 9 9 212 ((.const (vT b1a))) 7 213 (.head _) i fun s9 i=> ?_;refine qDf 8 kr (qCt 214 59 #[vP bp0 0,vT s9] kr rfl (W_cA Tryd.func59 rfl Tryd.ntmps59 (W_sr (qAf 2 [] (W_sr (qAb 1 [(6,vP bp0 0)] (qAa rfl (qCt 7 85 #[vP bp0 0] kr rfl ((qAt (c0:=(qCa p0.1.1 bp0)) (R:=[vS a1 p0.1.2 c1,vS a2 p0.2.1 c2,vS a3 p0.2.2.1 c3,vI (if p3>p0.2.2.2 then p3 else p0.2.2.2)]) (qEm p0.1.1 bp0 kr) g).mono ?_)))))))));rintro _ w65 ⟨m45,rfl,e39,g⟩;refine⟨_,rfl,?_⟩;have hmS6:=Mem.le_trans hmS6 e39
         have g:St m45 (kB bp0 #[.pointer (qCa true bp0),vS a1 p0.1.2 c1,vS a2 p0.2.1 c2,vS a3 p0.2.2.1 c3,vI (if p3>p0.2.2.2 then p3 else p0.2.2.2)] 142::kB b2 (V5 x1 a4 c4) 87::kR a1 p0.1.2 c1 5 1::O) w65:=g;refine WO_e (W_sr (qAb 4 [(8,vP bp0 0),(11,vP bp0 1)] (qAa rfl (qBg 12 114 11 1 (vS a1 p0.1.2 c1) g.h (qAb 1 [(13,vT s9)] (qAa rfl (qDw 14 114 9 5 1 12 13 g.f2 (.inr kr) ((r1.mono e38).mono e39) (Gives.str _) i fun l12 i a47 c47 m46 w66 e40 g r53=> ?_)))))));have hmS6:=Mem.le_trans hmS6 e40;refine qAb 2 [(16,vP bp0 1)] (qAa rfl (qDp 114 16 14 1 (vS a47 l12 c47) #[.pointer (qCa true bp0),vS a47 l12 c47,vS a2 p0.2.1 c2,vS a3 p0.2.2.1 c3,vI (if p3>p0.2.2.2 then p3 else p0.2.2.2)] g.f1 fun w67 g=>(WO_e (W_sr (qAf 4 [(4,vI (s9.size:Int)),(5,.nilIface)] (qAu (X_rt [4,5] [vI (s9.size:Int),.nilIface] (⟨_,rfl,?_⟩))))))));refine⟨⟨.inr ⟨Inv.anti g.inv hmS6,Piece.holds_anti g.t.t.h hmS6,trivial⟩,trivial⟩,?_⟩;refine qEj kr ?_;refine qBb ?_;cases i;exact qIu [] [] rfl ResAll.nil ⟨a47,c47,a2,c2,a3,c3,m46,rfl,((q.t e38).t e39).t e40,g.f2.t.f1.f1,r53,((r2.mono e38).mono e39).mono e40,((r3.mono e38).mono e39).mono e40⟩
        ·intro A i;refine W_sr (qAa rfl (qIl (d:=51) (t:=134) kr rfl g fun b15 w68 g=> ?_));have⟨mp1,d39,i⟩:=qAp i;refine qAa rfl (qCe (ek:=(fun n:Int=>Value.int .i64 n)) (c:=cStr) (agg:=false) (k:=7) (yv:=bm) (cs:=[vT bm]) (z:=(vT eB)) (v:=(vT bm)) (kt:=3) (et:=9) (t:=134) (x:=(.tmp 51)) (y:=(.const (vI 7))) (u:=(.const (vT bm))) kr (ev (.map (some b15))) (ev (vI 7)) (ev (vT bm)) kr (qFk kr) g (MapQ.new (fun n:Int=>Value.int .i64 n) cStr false _ _) rfl rfl d39 fun es2 ck2 w69 g r54=> ?_);have⟨mp2,d40,i⟩:=qAp i;refine qAa rfl (qCe (ek:=(fun n:Int=>Value.int .i64 n)) (c:=cStr) (agg:=false) (k:=8) (yv:=bn) (cs:=[vT bn]) (z:=(vT eB)) (v:=(vT bn)) (kt:=3) (et:=9) (t:=134) (x:=(.tmp 51)) (y:=(.const (vI 8))) (u:=(.const (vT bn))) kr (ev (.map (some b15))) (ev (vI 8)) (ev (vT bn)) kr (qFk kr) g r54 rfl rfl d40 fun es3 ck3 w70 g r55=> ?_);have⟨mp3,d41,i⟩:=qAp i
         refine qAa rfl (qCe (ek:=(fun n:Int=>Value.int .i64 n)) (c:=cStr) (agg:=false) (k:=9) (yv:=bo) (cs:=[vT bo]) (z:=(vT eB)) (v:=(vT bo)) (kt:=3) (et:=9) (t:=134) (x:=(.tmp 51)) (y:=(.const (vI 9))) (u:=(.const (vT bo))) kr (ev (.map (some b15))) (ev (vI 9)) (ev (vT bo)) kr (qFk kr) g r55 rfl rfl d41 fun es4 ck4 w71 g r56=>(qAb 2 [(52,.map (some b15)),(53,vP b2 0)] (qAa rfl (qBg 54 3 53 0 (vI x1.1) g.t.t.h (qAa rfl (qHp (ek:=(fun n:Int=>Value.int .i64 n)) (c:=cStr) (agg:=false) (k:=x1.1) (zx:=eB) (zcs:=[vT eB]) (z:=(vT eB)) (kt:=3) (et:=9) (d:=55) (t:=134) (x:=(.tmp 52)) (y:=(.tmp 54)) (ok:=false) kr rfl (ev (.map (some b15))) (ev (vI x1.1)) kr (qFk kr) g.h r56 rfl rfl ?_))))));rintro cs10 rfl;refine qAf 1 [(15,vT ((qDe mp3 x1.1).getD eB))] (qFt [(10,fun w'=>Inv m1 w'∧Piece.holds m1 w' (kB b2 (V5 x1 a4 c4) 87)∧True)] kr g fun w72 _ g=> ?_);have hmS7:=m1.le_refl;refine⟨⟨.inr ⟨Inv.anti g.inv hmS7,Piece.holds_anti g.t.t.h hmS7,trivial⟩,trivial⟩,?_⟩
         refine qBf 0 56 (vP bp0 0) (.head _) (qBf 1 57 (vP bp0 0) (.head _) (qBf 2 58 (vP bp0 0) (.head _) (qBf 3 59 (vT ((qDe mp3 x1.1).getD eB)) (.head _) (qIv 9 9 59 ((.const (vT (⟨#[40,34]⟩:ByteArray)))) 4 60 (.head _) i fun s10 i=>(qBf 5 61 (vP b2 3) (.head _) (qGw 9 61 6 62 3 (vT x1.2.2.2.1) (.head _) (fun _ h=>h.2.1) (qIv 9 9 60 62 7 63 (.head _) i fun s11 i=>(qIv 9 9 63 ((.const (vT (⟨#[34,41]⟩:ByteArray)))) 8 64 (.head _) i fun s12 i=>(qDf 9 kr (qCt 65 59 #[vP bp0 0,vT s12] kr rfl (W_cA Tryd.func59 rfl Tryd.ntmps59 (W_sr (qAf 2 [] (W_sr (qAb 1 [(6,vP bp0 0)] ?_)))))))))))))));have g:=g.f1;refine qAa rfl (qCt 7 85 #[vP bp0 0] kr rfl ((qAt (c0:=(qCa p0.1.1 bp0)) (R:=[vS a1 p0.1.2 c1,vS a2 p0.2.1 c2,vS a3 p0.2.2.1 c3,vI (if p3>p0.2.2.2 then p3 else p0.2.2.2)]) (qEm p0.1.1 bp0 kr) g).mono ?_));rintro _ w73 ⟨m47,rfl,e41,g⟩;refine⟨_,rfl,?_⟩;have hmS7:=Mem.le_trans hmS7 e41;have g:St m47 (kB bp0 #[.pointer (qCa true bp0),vS a1 p0.1.2 c1,vS a2 p0.2.1 c2,vS a3 p0.2.2.1 c3,vI (if p3>p0.2.2.2 then p3 else p0.2.2.2)] 142::qBx (some b15) es4 ck4::kB b2 (V5 x1 a4 c4) 87::kR a1 p0.1.2 c1 5 1::O) w73:=g
         refine WO_e (W_sr (qAb 4 [(8,vP bp0 0),(11,vP bp0 1)] (qAa rfl (qBg 12 114 11 1 (vS a1 p0.1.2 c1) g.h (qAb 1 [(13,vT s12)] (qAa rfl (qDw 14 114 9 5 1 12 13 g.f3 (.inr kr) (r1.mono e41) (Gives.str _) i fun l13 i a48 c48 m48 w74 e42 g r57=> ?_)))))));have hmS7:=Mem.le_trans hmS7 e42;refine qAb 2 [(16,vP bp0 1)] (qAa rfl (qDp 114 16 14 1 (vS a48 l13 c48) #[.pointer (qCa true bp0),vS a48 l13 c48,vS a2 p0.2.1 c2,vS a3 p0.2.2.1 c3,vI (if p3>p0.2.2.2 then p3 else p0.2.2.2)] g.f1 fun w75 g=>(WO_e (W_sr (qAf 4 [(4,vI (s12.size:Int)),(5,.nilIface)] (qAu (X_rt [4,5] [vI (s12.size:Int),.nilIface] (⟨_,rfl,?_⟩))))))));refine⟨⟨.inr ⟨Inv.anti g.inv hmS7,Piece.holds_anti g.t.t.t.h hmS7,trivial⟩,trivial⟩,?_⟩;refine qEj kr ?_;refine qBb ?_;cases i;exact qIu [] [] rfl ResAll.nil ⟨a48,c48,a2,c2,a3,c3,m48,rfl,(q.t e41).t e42,g.f2.t.f2.t.f1.f1,r57,(r2.mono e41).mono e42,(r3.mono e41).mono e42⟩
theorem qHi(N:Nat):∀D:Nat,(∀{m:Mem} {O:List Piece} {w:World} {p0:T1c} {p1:Int} {p2:Int} {p3:Int} {bp0:Nat} {a1:Option Addr} {c1:Nat} {a2:Option Addr} {c2:Nat} {a3:Option Addr} {c3:Nat} {r:T1c} (g:St m (kB bp0 #[.pointer (qCa p0.1.1 bp0),vS a1 p0.1.2 c1,vS a2 p0.2.1 c2,vS a3 p0.2.2.1 c3,vI p0.2.2.2] 142::kR a1 p0.1.2 c1 5 1::O) w) (r1:RepS cU8 m a1 c1 p0.1.2) (r2:RepS C3 m a2 c2 p0.2.1) (r3:RepS cStr m a3 c3 p0.2.2.1) (i:(qGk N D) p0 p1 p2 p3=some r),Calls Tryd.prog 86 #[vP bp0 0,vI p1,vI p2,vI p3] w fun e w'=>∃ra1 rc1 ra2 rc2 ra3 rc3 m',e= .returned (.tuple #[])∧m.le m'∧St m' (kB bp0 #[.pointer (qCa r.1.1 bp0),vS ra1 r.1.2 rc1,vS ra2 r.2.1 rc2,vS ra3 r.2.2.1 rc3,vI r.2.2.2] 142::kR ra1 r.1.2 rc1 5 1::O) w'∧P5 m' ra1 rc1 ra2 rc2 ra3 rc3 r)
 |0=>fun _ _ _ _ i=>(by cases i)
 |D+1=>fun g r1 r2 r3 i=>qKc (qHi N D) g r1 r2 r3 i
theorem qLk{p0:T1c}{p1:Int}{p2:Int}{p3:Int}{r:T1c}(g:St m (kB bp0 #[.pointer (qCa p0.1.1 bp0),vS a1 p0.1.2 c1,vS a2 p0.2.1 c2,vS a3 p0.2.2.1 c3,vI p0.2.2.2] 142::kR a1 p0.1.2 c1 5 1::O) w)(r1:RepS cU8 m a1 c1 p0.1.2)(r2:RepS C3 m a2 c2 p0.2.1)(r3:RepS cStr m a3 c3 p0.2.2.1)(i:qJa N p0 p1 p2 p3=some r):Calls Tryd.prog 86 #[vP bp0 0,vI p1,vI p2,vI p3] w fun e w'=>∃ra1 rc1 ra2 rc2 ra3 rc3 m',e= .returned (.tuple #[])∧m.le m'∧St m' (kB bp0 #[.pointer (qCa r.1.1 bp0),vS ra1 r.1.2 rc1,vS ra2 r.2.1 rc2,vS ra3 r.2.2.1 rc3,vI r.2.2.2] 142::kR ra1 r.1.2 rc1 5 1::O) w'∧P5 m' ra1 rc1 ra2 rc2 ra3 rc3 r:=
 (qHi N N) g r1 r2 r3 i
def qLa(N:Nat)(p0:Te)(p1:Tc):Option Tl:=
 (qJa N ((false,([]:T3)),p0,p1,0) (IntKind.wrap .i64 ((List.length p0:Int)-1)) 0 1).bind fun y1=>(nonE y1.1.2).bind fun u1=>some (qIr y1.1.2,y1.2.2.2)
theorem qOg{p0:Te}{p1:Tc}{r:Tl}(g:St m (O) w)(r1:RepS C3 m a1 c1 p0)(r2:RepS cStr m a2 c2 p1)(i:qLa N p0 p1=some r):Calls Tryd.prog 60 #[vS a1 p0 c1,vS a2 p1 c2] w fun e w'=>∃m',e= .returned (.tuple #[vT r.1,vI r.2])∧m.le m'∧St m' (O) w':=by
 unfold qLa at i;have q:=m.le_refl;refine W_cA Tryd.func60 rfl Tryd.ntmps60 ?_;refine W_sr (qAf 2 [] (W_sr (qAb 3 [(9,.agg #[.pointer none,v7,vS a1 p0 c1,vS a2 p1 c2,vI 0])] (qAa rfl (qYh 10 142 9 (.agg #[.pointer none,v7,vS a1 p0 c1,vS a2 p1 c2,vI 0]) g fun b1 w1 g=>(qAf 1 [(6,vP b1 0)] (W_sr (qAb 4 [(11,vP b1 0),(14,vI (wr ((p0.length:Int)-1)))] ?_))))))));have g:=(g.nilroom 5 1).front1;refine qAx 15 i (fun _ h=>qLk (p0:=((false,([]:T3)),p0,p1,0)) g (RepS.nil _ _) r1 r2 h) ?_;rintro y1 i _ w2 ⟨a3,c3,a4,c4,a5,c5,m2,rfl,e2,g,r3,r4,r5⟩;refine WO_e (qAo (qFt [(10,fun w'=>Inv m2 w'∧Piece.holds m2 w' (kB b1 #[.pointer (qCa y1.1.1 b1),vS a3 y1.1.2 c3,vS a4 y1.2.1 c4,vS a5 y1.2.2.1 c5,vI y1.2.2.2] 142)∧True)] kr g fun w3 _ g=> ?_));have hmS1:=m2.le_refl;refine⟨⟨.inr ⟨Inv.anti g.inv hmS1,Piece.holds_anti g.h hmS1,trivial⟩,trivial⟩,?_⟩
 refine qBf 0 16 (vP b1 0) (.head _) (qBf 1 17 (vP b1 0) (.head _) (qBf 2 18 (vP b1 0) (.head _) (qBf 4 20 (vP b1 0) (.head _) (qBf 5 21 (vP b1 0) (.head _) (qBf 6 22 (vP b1 4) (.head _) (qGw 3 22 7 23 4 (vI y1.2.2.2) (.head _) (fun _ h=>h.2.1) (qDf 3 kr (qCt 19 63 #[vP b1 0] kr rfl (W_cA Tryd.func63 rfl Tryd.ntmps63 (W_sr (qAf 1 [] (qAo (qFt [(12,fun w'=>Inv m2 w'∧Piece.holds m2 w' (kB b1 #[.pointer (qCa y1.1.1 b1),vS a3 y1.1.2 c3,vS a4 y1.2.1 c4,vS a5 y1.2.2.1 c5,vI y1.2.2.2] 142)∧True)] kr g fun w4 _ g=> ?_)))))))))))));have hmS2:=m2.le_refl;refine⟨⟨.inr ⟨Inv.anti g.inv hmS2,Piece.holds_anti g.h hmS2,trivial⟩,trivial⟩,?_⟩;refine qBf 0 3 (vP b1 0) (.head _) (qBf 1 4 (vP b1 0) (.head _) (qBf 2 5 (vP b1 1) (.head _) (qGw 114 5 3 6 1 (vS a3 y1.1.2 c3) (.head _) (fun _ h=>h.2.1) (qBf 5 8 (vP b1 0) (.head _) (qBf 6 9 (vP b1 0) (.head _) (qBf 7 10 (vP b1 1) (.head _) (qGw 114 10 8 11 1 (vS a3 y1.1.2 c3) (.head _) (fun _ h=>h.2.1) (qBf 9 12 (vI (y1.1.2.length:Int)) (.head _) ?_))))))));have⟨u1,d2,i⟩:=qAp i;have hne1:=qVl d2;refine qDf 4 kr (qMs (d:=7) (t:=114) (x:=(.tmp 6)) kr rfl (ev (vS a3 y1.1.2 c3)) r3 hne1 (⟨⟨.inr ⟨Inv.anti g.inv hmS2,Piece.holds_anti g.h hmS2,trivial⟩,trivial⟩,?_⟩))
 refine qDf 10 kr (qKn (d:=13) (pt:=145) (it:=3) (e:=5) (x:=(.tmp 7)) (y:=(.tmp 12)) kr rfl (ev (.pointer a3)) (ev (vI (y1.1.2.length:Int))) g.f1 r3 hne1 kr kr fun w5 g=>(⟨⟨.inr ⟨Inv.anti g.inv hmS2,Piece.holds_anti g.h hmS2,trivial⟩,trivial⟩,?_⟩));refine qBf 11 2 (vT (qIr y1.1.2)) (.head _) (qEj kr (qAi (qAu (X_rt [2] [vT (qIr y1.1.2)] (⟨_,rfl,?_⟩)))));refine⟨⟨.inr ⟨Inv.anti g.inv hmS1,Piece.holds_anti g.h hmS1,trivial⟩,trivial⟩,?_⟩;refine qBf 8 4 (vT (qIr y1.1.2)) (.head _) (qBf 9 5 (vI y1.2.2.2) (.head _) (qEj kr (qAi (qAu ?_))));obtain rfl:=sI i;exact X_rt [4,5] [vT (qIr y1.1.2),vI y1.2.2.2] ⟨m2,rfl,q.t e2,g.t⟩
def qLc(N:Nat)(p0:Tc)(p1:ByteArray):Option T1:=
 if((List.length p0:Int)==0)=true then(some (⟨#[]⟩:ByteArray)) else(if((List.length p0:Int)==1)=true then((idx p0 0).bind fun x1=>some x1) else none)
theorem qOs{p0:Tc}{p1:ByteArray}{r:ByteArray}(g:St m (O) w)(r1:RepS cStr m a1 c1 p0)(i:qLc N p0 p1=some r):Calls Tryd.prog 61 #[vS a1 p0 c1,vT p1] w fun e w'=>∃m',e= .returned (vT r)∧m.le m'∧St m' (O) w':=by
 unfold qLc at i;have q:=m.le_refl;refine W_cA Tryd.func61 rfl Tryd.ntmps61 ?_;refine W_sr (qAf 1 [] (qAo (W_sr (qAf 2 [(12,vI (p0.length:Int))] (qAs (W_sr (qAf 2 [(13,vB ((p0.length:Int)==0))] (W_if i ?_ ?_))))))))
 ·intro A i;refine W_sr (qAf 1 [(4,vT eB)] (qAu (qAg (qAe ?_))));cases i;exact X_rt [4] [vT eB] ⟨m,rfl,q,g⟩
 ·intro A i;refine W_sr (qAf 2 [(15,vB ((p0.length:Int)==1))] (W_if i ?_ ?_))
  ·intro A i;refine W_sr (qAb 1 [(17,vS a1 p0 c1)] (qAa rfl (qDg 18 31 9 17 ((.const (vI 0))) r1 i ?_)));rintro x1 i b1 f1 cs1 rfl hq1;refine qEx 19 9 18 f1 (vT x1) g hq1 (qAf 1 [(4,vT x1)] (qAu (qAg (qAe ?_))));obtain rfl:=sI i;exact X_rt [4] [vT x1] ⟨m,rfl,q,g⟩
  ·intro A i;cases i
def qHv(N:Nat)(p0:T17)(s3:T1g):Option (T1g⊕T3):=
 if(decide (s3.1<(List.length p0.2.1:Int)))=true then((idx p0.2.1 s3.1).bind fun x1=>(catB (⟨#[105,109,112,111,114,116,32]⟩:ByteArray) x1).bind fun s4=>(catB s4 (⟨#[59,10]⟩:ByteArray)).bind fun s5=>(qCy 1 s3.2 s5.data.toList).bind fun l2=>some (.inl (IntKind.wrap .i64 (s3.1+1),l2))) else(some (.inr s3.2))
def qHw(N:Nat)(p0:T17)(s6:T1g):Option (T1g⊕T3⊕Tl):=
 if(decide (s6.1<(List.length p0.2.2:Int)))=true then((idx p0.2.2 s6.1).bind fun x2=>(qLa N x2.2.2.2 x2.2.2.1).bind fun y2=>if(decide (y2.2>32))=true then(some (.inr (.inr (((⟨#[]⟩:ByteArray),2))))) else((if(x2.1==1)=true then((catB (⟨#[102,117,110,99,32]⟩:ByteArray) x2.2.1).bind fun s7=>(catB s7 (⟨#[40]⟩:ByteArray)).bind fun s8=>(qLc N x2.2.2.1 (⟨#[44,32]⟩:ByteArray)).bind fun y3=>(catB s8 y3).bind fun s9=>(catB s9 (⟨#[41]⟩:ByteArray)).bind fun s10=>(qCy 1 s6.2 s10.data.toList).bind fun l3=>some l3) else(if(x2.1==2)=true then((catB (⟨#[116,101,115,116,32]⟩:ByteArray) x2.2.1).bind fun s11=>(qCy 1 s6.2 s11.data.toList).bind fun l4=>some l4) else((catB (⟨#[103,101,110,32,34]⟩:ByteArray) x2.2.1).bind fun s12=>(catB s12 (⟨#[34]⟩:ByteArray)).bind fun s13=>(qCy 1 s6.2 s13.data.toList).bind fun l5=>some l5)):Option T3).bind fun o3=>(catB (⟨#[32,61,32]⟩:ByteArray) y2.1).bind fun s14=>(catB s14 (⟨#[59,10]⟩:ByteArray)).bind fun s15=>(qCy 1 o3 s15.data.toList).bind fun l6=>some (.inl (IntKind.wrap .i64 (s6.1+1),l6)))) else(some (.inr (.inl s6.2)))
def qGh(N:Nat)(p0:T17):Option Tl:=
 (qGd N p0).bind fun y1=>if(y1 !=0)=true then(some ((⟨#[]⟩:ByteArray),y1)) else((catB (⟨#[112,97,99,107,97,103,101,32]⟩:ByteArray) p0.1).bind fun s1=>(catB s1 (⟨#[59,10]⟩:ByteArray)).bind fun s2=>(qCy 1 ([]:T3) s2.data.toList).bind fun l1=>(qBe (qHv N p0) N (0,l1)).bind fun o1=>(qBe (qHw N p0) N (0,o1)).bind fun out2=>(match out2 with| .inl o2=>if(decide ((List.length o2:Int)>16384))=true then(some ((⟨#[]⟩:ByteArray),2)) else((nonE o2).bind fun u4=>some (qIr o2,0))| .inr (z)=>some z))
theorem qNl{p0:T17}{r:Tl}(g:St m (O) w)(r1:RepS cStr m a1 c1 p0.2.1)(r2:RepS C4 m a2 c2 p0.2.2)(i:qGh N p0=some r):Calls Tryd.prog 33 #[.agg (V9 p0 a1 c1 a2 c2)] w fun e w'=>∃m',e= .returned (.tuple #[vT r.1,vI r.2])∧m.le m'∧St m' (O) w':=by
 unfold qGh at i;have q:=m.le_refl;refine W_cA Tryd.func33 rfl Tryd.ntmps33 ?_;refine W_sr (qAa rfl (qIp 1 45 0 (.agg (V9 p0 a1 c1 a2 c2)) g fun b1 m1 w1 e1 g hb1=>(qAf 2 [] (qAo (W_sr (qEx 12 45 1 0 (.agg (V9 p0 a1 c1 a2 c2)) g hb1 (qAx 13 i (fun _ h=>qLh g (r1.mono e1) (r2.mono e1) h) ?_)))))));rintro y1 i _ w2 ⟨m2,rfl,e2,g⟩;have hb1:=hb1.mono e2;refine qAf 1 [(4,vI y1)] (W_sr (qAf 2 [(15,vB (y1 !=0))] (W_if i ?_ ?_)))
 ·intro A i;refine W_sr (qAf 3 [(2,vT eB),(3,vI y1)] (qAu (qAe ?_)));obtain rfl:=sI i;exact X_rt [2,3] [vT eB,vI y1] ⟨m2,rfl,(q.t e1).t e2,g⟩
 ·intro A i;refine qAm (qAi (W_sr (qAa rfl (qDo 5 116 (.agg #[.pointer none,v3]) g fun b2 w3 g=>(WO_e (W_sr (qAb 1 [(17,vP b1 0)] (qEx 18 9 17 0 (vT p0.1) g hb1 (qAa rfl (qGn 19 9 9 ((.const (vT (⟨#[112,97,99,107,97,103,101,32]⟩:ByteArray)))) 18 i fun s1 i=>(qAa rfl (qGn 20 9 9 19 ((.const (vT b1b))) i fun s2 i=>(qAa rfl (qCt 21 59 #[vP b2 0,vT s2] kr rfl (W_cA Tryd.func59 rfl Tryd.ntmps59 (W_sr (qAf 2 [] (W_sr (qAb 1 [(6,vP b2 0)] (qAa rfl (qCt 7 85 #[vP b2 0] kr rfl ((qAt (c0:=(qCa false b2)) (R:=[v7]) (qEm false b2 kr) g).mono ?_))))))))))))))))))))));rintro _ w4 ⟨m3,rfl,e3,g⟩;refine⟨_,rfl,?_⟩;have g:St m3 (kB b2 #[.pointer (qCa true b2),v7] 116::O) w4:=g;refine WO_e (W_sr (qAb 4 [(8,vP b2 0),(11,vP b2 1)] (qAa rfl (qBg 12 114 11 1 (v7) g.h (qAb 1 [(13,vT s2)] (qAa rfl (qDw 14 114 9 5 1 12 13 (g.nilroom 5 1) (.inr kr) (RepS.nil _ _) (Gives.str _) i fun l1 i a3 c3 m4 w5 e4 g r3=>(qAb 2 [(16,vP b2 1)] (qAa rfl (qDp 114 16 14 1 (vS a3 l1 c3) #[.pointer (qCa true b2),vS a3 l1 c3] g.f1 fun w6 g=>(WO_e (W_sr (qAf 4 [(4,vI (s2.size:Int)),(5,.nilIface)] (qAu (X_rt [4,5] [vI (s2.size:Int),.nilIface] (⟨_,rfl,?_⟩))))))))))))))))
  refine WO_e (qAo (W_sr (qAb 1 [(22,vP b1 1)] (qAa rfl (qAq (d:=23) (t:=31) (x:=(.tmp 22)) (vS a1 p0.2.1 c1) kr rfl (ev (vP b1 1)) g (((hb1.mono e3).mono e4).drop 1) kr (qAf 2 [(24,vI (p0.2.1.length:Int)),(25,vI 0)] (qAs ?_)))))));have⟨out1,i,j1⟩:=qAp i;refine qCl (.exit 0) (fun L' w'=>∃(o1:T3),∃a4 c4 m5,o1=out1∧L'=[(1,vP b1 0),(5,vP b2 0)]∧m.le m5∧St m5 (kB b2 #[.pointer (qCa true b2),vS a4 o1 c4] 116::kR a4 o1 c4 5 1::O) w'∧MRow m5 b1 0 [vT p0.1,vS a1 p0.2.1 c1,vS a2 p0.2.2 c2]∧RepS cStr m5 a1 c1 p0.2.1∧RepS C4 m5 a2 c2 p0.2.2∧RepS cU8 m5 a4 c4 o1) ?_ ?_
  ·rintro _ w7 ⟨o1,a4,c4,m5,rfl,rfl,q,g,hb1,r1,r2,r4⟩;have i:=j1;refine qBh (qAi (qAo (W_sr (qAb 1 [(34,vP b1 2)] (qAa rfl (qAq (d:=35) (t:=43) (x:=(.tmp 34)) (vS a2 p0.2.2 c2) kr rfl (ev (vP b1 2)) g (hb1.drop 2) kr (qAf 2 [(36,vI (p0.2.2.length:Int)),(37,vI 0)] (qAs ?_))))))));have⟨out2,i,j2⟩:=qAp i;refine qCl (.exit 2) (fun L' w'=>∃(o2:T3),∃a7 c7 m9,(.inl o2)=out2∧L'=[(5,vP b2 0)]∧m.le m9∧St m9 (kB b2 #[.pointer (qCa true b2),vS a7 o2 c7] 116::kR a7 o2 c7 5 1::O) w'∧RepS cU8 m9 a7 c7 o2) ?_ ?_
   ·rintro _ w12 ⟨o2,a7,c7,m9,rfl,rfl,q,g,r7⟩;have i:=j2;refine qBh (qAi (qAo (W_sr (qAa rfl (qCt 81 62 #[vP b2 0] kr rfl (W_cA Tryd.func62 rfl Tryd.ntmps62 (W_sr (qAf 1 [] (W_sr (qEk 3 6 114 5 1 (vS a7 o2 c7) g.h (qAf 2 [(2,vI (o2.length:Int))] (qAu (X_rt [2] [vI (o2.length:Int)] (⟨_,rfl,?_⟩))))))))))))));refine qAf 1 [(82,vB (decide ((o2.length:Int)>16384)))] (W_if i ?_ ?_)
    ·intro A i;refine W_sr (qAf 2 [(2,vT eB),(3,vI 2)] (qAu (qAe ?_)));cases i;exact X_rt [2,3] [vT eB,vI 2] ⟨m9,rfl,q,g.t.t⟩
    ·intro A i;refine qAm (qAi (W_sr (qAa rfl (qCt 83 63 #[vP b2 0] kr rfl (W_cA Tryd.func63 rfl Tryd.ntmps63 (W_sr (qAf 1 [] (qAo (qFt [(12,fun w'=>Inv m9 w'∧Piece.holds m9 w' (kB b2 #[.pointer (qCa true b2),vS a7 o2 c7] 116)∧True)] kr g fun w32 _ g=> ?_)))))))));have hmS2:=m9.le_refl;refine⟨⟨.inr ⟨Inv.anti g.inv hmS2,Piece.holds_anti g.h hmS2,trivial⟩,trivial⟩,?_⟩;refine qBf 0 3 (vP b2 0) (.head _) (qBf 1 4 (vP b2 0) (.head _) (qBf 2 5 (vP b2 1) (.head _) (qGw 114 5 3 6 1 (vS a7 o2 c7) (.head _) (fun _ h=>h.2.1) (qBf 5 8 (vP b2 0) (.head _) (qBf 6 9 (vP b2 0) (.head _) (qBf 7 10 (vP b2 1) (.head _) (qGw 114 10 8 11 1 (vS a7 o2 c7) (.head _) (fun _ h=>h.2.1) (qBf 9 12 (vI (o2.length:Int)) (.head _) ?_))))))));have⟨u4,d25,i⟩:=qAp i;have hne1:=qVl d25;refine qDf 4 kr (qMs (d:=7) (t:=114) (x:=(.tmp 6)) kr rfl (ev (vS a7 o2 c7)) r7 hne1 (⟨⟨.inr ⟨Inv.anti g.inv hmS2,Piece.holds_anti g.h hmS2,trivial⟩,trivial⟩,?_⟩));refine qDf 10 kr (qKn (d:=13) (pt:=145) (it:=3) (e:=5) (x:=(.tmp 7)) (y:=(.tmp 12)) kr rfl (ev (.pointer a7)) (ev (vI (o2.length:Int))) g.f1 r7 hne1 kr kr fun w33 g=>(⟨⟨.inr ⟨Inv.anti g.inv hmS2,Piece.holds_anti g.h hmS2,trivial⟩,trivial⟩,?_⟩));refine qBf 11 2 (vT (qIr o2)) (.head _) (qEj kr (qAi (qAu (X_rt [2] [vT (qIr o2)] (⟨_,rfl,?_⟩)))));refine qAf 2 [(2,vT (qIr o2)),(3,vI 0)] (qAu ?_);obtain rfl:=sI i
     exact X_rt [2,3] [vT (qIr o2),vI 0] ⟨m9,rfl,q,g.t⟩
   intro K2_u2;refine qFv _ kr (qEa (fun k2 L' w'=>∃(s6:T1g),∃a8 c8 m10,qBe (qHw N p0) k2 s6=some out2∧L'=[(5,vP b2 0),(35,vS a2 p0.2.2 c2),(36,vI (p0.2.2.length:Int)),(37,vI s6.1)]∧m.le m10∧St m10 (kB b2 #[.pointer (qCa true b2),vS a8 s6.2 c8] 116::kR a8 s6.2 c8 5 1::O) w'∧RepS C4 m10 a2 c2 p0.2.2∧RepS cU8 m10 a8 c8 s6.2) N ⟨(0,o1),a4,c4,m5,i,rfl,q,g.f1.f1,r2,r4⟩ ?_);rintro k2 _ w13 ⟨s6,a8,c8,m10,hL,rfl,q,g,r2,r8⟩;rcases k2 with _|k2
   ·exact qBi hL
   ·obtain⟨qu2,i,hSu2,hBu2⟩:=qBj hL;clear hL;unfold qHw at i;refine W_sr (qAf 1 [(38,vB (decide (s6.1<(p0.2.2.length:Int))))] (qAo (W_if i ?_ ?_)))
    ·intro A i;refine qAm (qAi (qAo (qAs (W_sr (qAa rfl (qDg 39 43 85 35 37 r2 i ?_))))));rintro x2 i b4 f2 cs2 ⟨_,_,rfl,rfl,⟨_,_,rfl,rfl,⟨_,_,rfl,⟨a9,c9,rfl,r9⟩,⟨a10,c10,rfl,r10⟩⟩⟩⟩ hq2;refine qEx 40 85 39 f2 (.agg (V7 x2 a9 c9 a10 c10)) g hq2 (qAa rfl (qDo 9 85 (.agg #[vI 0,vT eB,v3,v3]) g fun b5 w14 g=>(qAa rfl (qBy 85 9 40 (.agg (V7 x2 a9 c9 a10 c10)) g fun w15 g=>(WO_e (W_sr (qEk 1 43 78 42 3 (vS a10 x2.2.2.2 c10) g.h (qEk 1 45 31 44 2 (vS a9 x2.2.2.1 c9) g.h (qAx 46 i (fun _ h=>qOg g r10 r9 h) ?_)))))))));rintro y2 i _ w16 ⟨m11,rfl,e7,g⟩;have q:=q.t e7;have r2:=r2.mono e7;have r10:=r10.mono e7;have r9:=r9.mono e7;have r8:=r8.mono e7;refine qAf 5 [(10,vT y2.1),(11,vI y2.2)] (qAo (W_sr (qAf 2 [(50,vB (decide (y2.2>32)))] (W_if i ?_ ?_))))
     ·intro A i;refine W_sr (qAf 2 [(2,vT eB),(3,vI 2)] (qAu (qAe (qAg (qAe ?_)))));cases i;have ho:=hBu2 _ rfl;subst ho;have i:=j2;refine qAe (qAg (qAe ?_));cases i;exact X_rt [2,3] [vT eB,vI 2] ⟨m11,rfl,q,g.t.t.t⟩
     ·intro A i;refine qAm (qAi (qAo (W_sr (qEk 1 52 3 51 0 (vI x2.1) g.h (WO_e ?_)))));have⟨o3,i,j3⟩:=qAp i;refine qCl .normal (fun L' w'=>∃a11 c11 m12,L'=[(5,vP b2 0),(10,vT y2.1),(35,vS a2 p0.2.2 c2),(36,vI (p0.2.2.length:Int)),(37,vI s6.1)]∧m.le m12∧St m12 (kB b5 (V7 x2 a9 c9 a10 c10) 85::kB b2 #[.pointer (qCa true b2),vS a11 o3 c11] 116::kR a11 o3 c11 5 1::O) w'∧RepS C4 m12 a2 c2 p0.2.2∧RepS cStr m12 a9 c9 x2.2.2.1∧RepS C3 m12 a10 c10 x2.2.2.2∧RepS cU8 m12 a11 c11 o3) ?_ ?_
      ·have i:=j3;rintro _ w17 ⟨a11,c11,m12,rfl,q,g,r2,r9,r10,r11⟩;refine qAi (qAl (qAb 1 [(76,vT y2.1)] (qAa rfl (qGn 77 9 9 ((.const (vT (⟨#[32,61,32]⟩:ByteArray)))) 76 i fun s14 i=>(qAa rfl (qGn 78 9 9 77 ((.const (vT b1b))) i fun s15 i=>(qAa rfl (qCt 79 59 #[vP b2 0,vT s15] kr rfl (W_cA Tryd.func59 rfl Tryd.ntmps59 (W_sr (qAf 2 [] (W_sr (qAb 1 [(6,vP b2 0)] ?_)))))))))))));have g:=g.f1;refine qAa rfl (qCt 7 85 #[vP b2 0] kr rfl ((qAt (c0:=(qCa true b2)) (R:=[vS a11 o3 c11]) (qEm true b2 kr) g).mono ?_));rintro _ w29 ⟨m20,rfl,e15,g⟩;refine⟨_,rfl,?_⟩;have g:St m20 (kB b2 #[.pointer (qCa true b2),vS a11 o3 c11] 116::kB b5 (V7 x2 a9 c9 a10 c10) 85::kR a11 o3 c11 5 1::O) w29:=g;refine WO_e (W_sr (qAb 4 [(8,vP b2 0),(11,vP b2 1)] (qAa rfl (qBg 12 114 11 1 (vS a11 o3 c11) g.h (qAb 1 [(13,vT s15)] (qAa rfl (qDw 14 114 9 5 1 12 13 g.f2 (.inr kr) (r11.mono e15) (Gives.str _) i fun l6 i a15 c15 m21 w30 e16 g r15=>(qAb 2 [(16,vP b2 1)] (qAa rfl (qDp 114 16 14 1 (vS a15 l6 c15) #[.pointer (qCa true b2),vS a15 l6 c15] g.f1 fun w31 g=>(WO_e (W_sr (qAf 4 [(4,vI (s15.size:Int)),(5,.nilIface)] (qAu (X_rt [4,5] [vI (s15.size:Int),.nilIface] (⟨_,rfl,?_⟩))))))))))))))));refine qAr rfl (qBb (qAi (qAl (qAb 2 [(37,vI (wr (s6.1+1)))] (qAr rfl ?_)))));obtain rfl:=sI i;have hL:=hSu2 _ rfl
       exact xE (qCg k2 (jB _) ⟨(wr (s6.1+1),l6),a15,c15,m21,hL,rfl,(q.t e15).t e16,g.f2.t.f1.f1,(r2.mono e15).mono e16,r15⟩)
      ·intro Ku3;refine qAs (W_sr (qAf 2 [(58,vB (x2.1==1))] (W_if i ?_ ?_)))
       ·intro A i;refine qFt [(10,fun w'=>Inv m11 w'∧Piece.holds m11 w' (kB b5 (V7 x2 a9 c9 a10 c10) 85)∧True)] kr g fun w18 _ g=> ?_;have hmS1:=m11.le_refl;refine⟨⟨.inr ⟨Inv.anti g.inv hmS1,Piece.holds_anti g.h hmS1,trivial⟩,trivial⟩,?_⟩;refine qBf 0 60 (vP b5 1) (.head _) (qGw 9 60 1 61 1 (vT x2.2.1) (.head _) (fun _ h=>h.2.1) (qIv 9 9 ((.const (vT (⟨#[102,117,110,99,32]⟩:ByteArray)))) 61 2 62 (.head _) i fun s7 i=>(qIv 9 9 62 ((.const (vT b18))) 3 63 (.head _) i fun s8 i=>(qBf 4 64 (vP b5 2) (.head _) (qGw 31 64 5 65 2 (vS a9 x2.2.2.1 c9) (.head _) (fun _ h=>h.2.1) (qDf 6 kr (qNb 66 i (fun _ h=>qOs g r9 h) ?_)))))));rintro y3 i _ w19 ⟨m13,rfl,e8,g⟩;refine⟨_,rfl,?_⟩;have hmS1:=Mem.le_trans hmS1 e8;refine⟨⟨.inr ⟨Inv.anti g.inv hmS1,Piece.holds_anti g.h hmS1,trivial⟩,trivial⟩,?_⟩;refine qIv 9 9 63 66 7 67 (.head _) i fun s9 i=> ?_;refine qIv 9 9 67 ((.const (vT b1a))) 8 68 (.head _) i fun s10 i=> ?_;refine qDf 9 kr (qCt 69 59 #[vP b2 0,vT s10] kr rfl (W_cA Tryd.func59 rfl Tryd.ntmps59 (W_sr (qAf 2 [] (W_sr (qAb 1 [(6,vP b2 0)] ?_))))));have g:=g.f1;refine qAa rfl (qCt 7 85 #[vP b2 0] kr rfl ((qAt (c0:=(qCa true b2)) (R:=[vS a8 s6.2 c8]) (qEm true b2 kr) g).mono ?_));rintro _ w20 ⟨m14,rfl,e9,g⟩;refine⟨_,rfl,?_⟩;have hmS1:=Mem.le_trans hmS1 e9
        have g:St m14 (kB b2 #[.pointer (qCa true b2),vS a8 s6.2 c8] 116::kB b5 (V7 x2 a9 c9 a10 c10) 85::kR a8 s6.2 c8 5 1::O) w20:=g;refine WO_e (W_sr (qAb 4 [(8,vP b2 0),(11,vP b2 1)] (qAa rfl (qBg 12 114 11 1 (vS a8 s6.2 c8) g.h (qAb 1 [(13,vT s10)] (qAa rfl (qDw 14 114 9 5 1 12 13 g.f2 (.inr kr) ((r8.mono e8).mono e9) (Gives.str _) i fun l3 i a12 c12 m15 w21 e10 g r12=> ?_)))))));have hmS1:=Mem.le_trans hmS1 e10;refine qAb 2 [(16,vP b2 1)] (qAa rfl (qDp 114 16 14 1 (vS a12 l3 c12) #[.pointer (qCa true b2),vS a12 l3 c12] g.f1 fun w22 g=>(WO_e (W_sr (qAf 4 [(4,vI (s10.size:Int)),(5,.nilIface)] (qAu (X_rt [4,5] [vI (s10.size:Int),.nilIface] (⟨_,rfl,?_⟩))))))));refine⟨⟨.inr ⟨Inv.anti g.inv hmS1,Piece.holds_anti g.t.t.h hmS1,trivial⟩,trivial⟩,?_⟩;refine qEj kr ?_;refine qBb ?_;cases i;exact xE (Ku3 _ _ ⟨a12,c12,m15,rfl,((q.t e8).t e9).t e10,g.f1.f1.f2,((r2.mono e8).mono e9).mono e10,((r9.mono e8).mono e9).mono e10,((r10.mono e8).mono e9).mono e10,r12⟩)
       ·intro A i;refine W_sr (qAf 2 [(70,vB (x2.1==2))] (W_if i ?_ ?_))
        ·intro A i;refine qAl (qEk 1 73 9 72 1 (vT x2.2.1) g.h (qAa rfl (qGn 74 9 9 ((.const (vT (⟨#[116,101,115,116,32]⟩:ByteArray)))) 73 i fun s11 i=>(qAa rfl (qCt 75 59 #[vP b2 0,vT s11] kr rfl (W_cA Tryd.func59 rfl Tryd.ntmps59 (W_sr (qAf 2 [] (W_sr (qAb 1 [(6,vP b2 0)] ?_))))))))));have g:=g.f1;refine qAa rfl (qCt 7 85 #[vP b2 0] kr rfl ((qAt (c0:=(qCa true b2)) (R:=[vS a8 s6.2 c8]) (qEm true b2 kr) g).mono ?_));rintro _ w23 ⟨m16,rfl,e11,g⟩;refine⟨_,rfl,?_⟩;have g:St m16 (kB b2 #[.pointer (qCa true b2),vS a8 s6.2 c8] 116::kB b5 (V7 x2 a9 c9 a10 c10) 85::kR a8 s6.2 c8 5 1::O) w23:=g;refine WO_e (W_sr (qAb 4 [(8,vP b2 0),(11,vP b2 1)] (qAa rfl (qBg 12 114 11 1 (vS a8 s6.2 c8) g.h (qAb 1 [(13,vT s11)] (qAa rfl (qDw 14 114 9 5 1 12 13 g.f2 (.inr kr) (r8.mono e11) (Gives.str _) i fun l4 i a13 c13 m17 w24 e12 g r13=>(qAb 2 [(16,vP b2 1)] (qAa rfl (qDp 114 16 14 1 (vS a13 l4 c13) #[.pointer (qCa true b2),vS a13 l4 c13] g.f1 fun w25 g=>(WO_e (W_sr (qAf 4 [(4,vI (s11.size:Int)),(5,.nilIface)] (qAu (X_rt [4,5] [vI (s11.size:Int),.nilIface] (⟨_,rfl,?_⟩))))))))))))))));refine qAr rfl (qBb ?_);cases i;exact xE (Ku3 _ _ ⟨a13,c13,m17,rfl,(q.t e11).t e12,g.f1.f1.f2,(r2.mono e11).mono e12,(r9.mono e11).mono e12,(r10.mono e11).mono e12,r13⟩)
        ·intro A i;refine qAl (qEk 1 54 9 53 1 (vT x2.2.1) g.h (qAa rfl (qGn 55 9 9 ((.const (vT (⟨#[103,101,110,32,34]⟩:ByteArray)))) 54 i fun s12 i=>(qAa rfl (qGn 56 9 9 55 ((.const (vT bg))) i fun s13 i=>(qAa rfl (qCt 57 59 #[vP b2 0,vT s13] kr rfl (W_cA Tryd.func59 rfl Tryd.ntmps59 (W_sr (qAf 2 [] (W_sr (qAb 1 [(6,vP b2 0)] ?_))))))))))));have g:=g.f1;refine qAa rfl (qCt 7 85 #[vP b2 0] kr rfl ((qAt (c0:=(qCa true b2)) (R:=[vS a8 s6.2 c8]) (qEm true b2 kr) g).mono ?_));rintro _ w26 ⟨m18,rfl,e13,g⟩;refine⟨_,rfl,?_⟩;have g:St m18 (kB b2 #[.pointer (qCa true b2),vS a8 s6.2 c8] 116::kB b5 (V7 x2 a9 c9 a10 c10) 85::kR a8 s6.2 c8 5 1::O) w26:=g;refine WO_e (W_sr (qAb 4 [(8,vP b2 0),(11,vP b2 1)] (qAa rfl (qBg 12 114 11 1 (vS a8 s6.2 c8) g.h (qAb 1 [(13,vT s13)] (qAa rfl (qDw 14 114 9 5 1 12 13 g.f2 (.inr kr) (r8.mono e13) (Gives.str _) i fun l5 i a14 c14 m19 w27 e14 g r14=>(qAb 2 [(16,vP b2 1)] (qAa rfl (qDp 114 16 14 1 (vS a14 l5 c14) #[.pointer (qCa true b2),vS a14 l5 c14] g.f1 fun w28 g=>(WO_e (W_sr (qAf 4 [(4,vI (s13.size:Int)),(5,.nilIface)] (qAu (X_rt [4,5] [vI (s13.size:Int),.nilIface] (⟨_,rfl,?_⟩))))))))))))))));refine qAr rfl (qBb ?_);cases i;exact xE (Ku3 _ _ ⟨a14,c14,m19,rfl,(q.t e13).t e14,g.f1.f1.f2,(r2.mono e13).mono e14,(r9.mono e13).mono e14,(r10.mono e13).mono e14,r14⟩)
    ·intro A i;refine qDz (qAk ?_);cases i;have ho:=hBu2 _ rfl;have g:=g.f1.f1;refine qAk ?_;exact xE (K2_u2 _ _ ⟨s6.2,a8,c8,m10,ho,rfl,q,g,r8⟩)
  intro K0_u1;refine qFv _ kr (qEa (fun k1 L' w'=>∃(s3:T1g),∃a5 c5 m6,qBe (qHv N p0) k1 s3=some out1∧L'=[(1,vP b1 0),(5,vP b2 0),(23,vS a1 p0.2.1 c1),(24,vI (p0.2.1.length:Int)),(25,vI s3.1)]∧m.le m6∧St m6 (kB b2 #[.pointer (qCa true b2),vS a5 s3.2 c5] 116::kR a5 s3.2 c5 5 1::O) w'∧MRow m6 b1 0 [vT p0.1,vS a1 p0.2.1 c1,vS a2 p0.2.2 c2]∧RepS cStr m6 a1 c1 p0.2.1∧RepS C4 m6 a2 c2 p0.2.2∧RepS cU8 m6 a5 c5 s3.2) N ⟨(0,l1),a3,c3,m4,i,rfl,(((q.t e1).t e2).t e3).t e4,g.f1.f1,(hb1.mono e3).mono e4,(((r1.mono e1).mono e2).mono e3).mono e4,(((r2.mono e1).mono e2).mono e3).mono e4,r3⟩ ?_);rintro k1 _ w8 ⟨s3,a5,c5,m6,hL,rfl,q,g,hb1,r1,r2,r5⟩;rcases k1 with _|k1
  ·exact qBi hL
  ·obtain⟨qu1,i,hSu1,hBu1⟩:=qBj hL;clear hL;unfold qHv at i;refine W_sr (qAf 1 [(26,vB (decide (s3.1<(p0.2.1.length:Int))))] (qAo (W_if i ?_ ?_)))
   ·intro A i;refine qAm (qAi (qAo (qAs (W_sr (qAa rfl (qDg 27 31 9 23 25 r1 i ?_))))));rintro x1 i b3 f1 cs1 rfl hq1;refine qEx 28 9 27 f1 (vT x1) g hq1 (qAf 1 [(7,vT x1)] (qAl (qAb 1 [(29,vT x1)] (qAa rfl (qGn 30 9 9 ((.const (vT (⟨#[105,109,112,111,114,116,32]⟩:ByteArray)))) 29 i fun s4 i=>(qAa rfl (qGn 31 9 9 30 ((.const (vT b1b))) i fun s5 i=>(qAa rfl (qCt 32 59 #[vP b2 0,vT s5] kr rfl (W_cA Tryd.func59 rfl Tryd.ntmps59 (W_sr (qAf 2 [] (W_sr (qAb 1 [(6,vP b2 0)] (qAa rfl (qCt 7 85 #[vP b2 0] kr rfl ((qAt (c0:=(qCa true b2)) (R:=[vS a5 s3.2 c5]) (qEm true b2 kr) g).mono ?_)))))))))))))))));rintro _ w9 ⟨m7,rfl,e5,g⟩;refine⟨_,rfl,?_⟩;have g:St m7 (kB b2 #[.pointer (qCa true b2),vS a5 s3.2 c5] 116::kR a5 s3.2 c5 5 1::O) w9:=g;refine WO_e (W_sr (qAb 4 [(8,vP b2 0),(11,vP b2 1)] (qAa rfl (qBg 12 114 11 1 (vS a5 s3.2 c5) g.h (qAb 1 [(13,vT s5)] (qAa rfl (qDw 14 114 9 5 1 12 13 g.f1 (.inr kr) (r5.mono e5) (Gives.str _) i fun l2 i a6 c6 m8 w10 e6 g r6=>(qAb 2 [(16,vP b2 1)] (qAa rfl (qDp 114 16 14 1 (vS a6 l2 c6) #[.pointer (qCa true b2),vS a6 l2 c6] g.f1 fun w11 g=>(WO_e (W_sr (qAf 4 [(4,vI (s5.size:Int)),(5,.nilIface)] (qAu (X_rt [4,5] [vI (s5.size:Int),.nilIface] (⟨_,rfl,?_⟩))))))))))))))));refine qAr rfl (qBb (qAi (qAl (qAb 2 [(25,vI (wr (s3.1+1)))] (qAr rfl ?_)))))
    obtain rfl:=sI i;have hL:=hSu1 _ rfl;exact xE (qCg k1 (jB _) ⟨(wr (s3.1+1),l2),a6,c6,m8,hL,rfl,(q.t e5).t e6,g.f1.f1,(hb1.mono e5).mono e6,(r1.mono e5).mono e6,(r2.mono e5).mono e6,r6⟩)
   ·intro A i;refine qDz (qAk ?_);cases i;have ho:=hBu1 _ rfl;have g:=g.f1.f1;refine qAk ?_;exact xE (K0_u1 _ _ ⟨s3.2,a5,c5,m6,ho,rfl,q,g,hb1,r1,r2,r5⟩)
def qDx(N:Nat):T8:=
 (qEe N (⟨#[112,97,99,107,97,103,101,32,112,59,32,102,117,110,99,32,102,40,120,41,32,61,32,120,32,43,32,50,32,42,32,51,59]⟩:ByteArray)).bind fun y1=>(qGh N y1.1).bind fun y2=>(if(y1.2.2==0)=true then(if(y2.2==0)=true then(if(y1.2.1==0)=true then(if((List.length y1.1.2.2:Int)==1)=true then((idx y1.1.2.2 0).bind fun x1=>if((List.length x1.2.2.2:Int)==5)=true then((idx y1.1.2.2 0).bind fun x2=>(idx x2.2.2.2 4).bind fun x3=>if(x3.2.2.1==1)=true then(if(y2.1.toList==(⟨#[112,97,99,107,97,103,101,32,112,59,10,102,117,110,99,32,102,40,120,41,32,61,32,120,32,43,32,50,32,42,32,51,59,10]⟩:ByteArray).toList)=true then((qGd N y1.1).bind fun y3=>some (y3==0)) else(some false)) else(some false)) else(some false)) else(some false)) else(some false)) else(some false)) else(some false):T8).bind fun o1=>some o1
theorem qKo{r:Bool}(g:St m (O) w)(i:qDx N=some r):Calls Tryd.prog 13 #[] w fun e w'=>∃m',e= .returned (vB r)∧m.le m'∧St m' (O) w':=by
 unfold qDx at i;have q:=m.le_refl;refine W_cA Tryd.func13 rfl Tryd.ntmps13 ?_;refine W_sr (qAf 1 [] (W_sr (qAx 7 i (fun _ h=>qIm g h) ?_)));rintro y1 i _ w1 ⟨a1,c1,a2,c2,m1,rfl,e1,g,r1,r2⟩;refine qAb 4 [(8,.agg (V9 y1.1 a1 c1 a2 c2)),(9,vI y1.2.1),(10,vI y1.2.2)] (qAa rfl (qDo 1 45 (.agg #[vT eB,v3,v3]) g fun b1 w2 g=>(qAa rfl (qBy 45 1 8 (.agg (V9 y1.1 a1 c1 a2 c2)) g fun w3 g=>(qAf 2 [(2,vI y1.2.1),(3,vI y1.2.2)] (W_sr (qAa rfl (qBg 12 45 1 0 (.agg (V9 y1.1 a1 c1 a2 c2)) g.h (qAx 13 i (fun _ h=>qNl g r1 r2 h) ?_)))))))));rintro y2 i _ w4 ⟨m2,rfl,e2,g⟩;have q:=(q.t e1).t e2;have r1:=r1.mono e2;have r2:=r2.mono e2;refine qAf 5 [(4,vT y2.1),(5,vI y2.2)] (W_sr ?_);have⟨o1,i,J⟩:=qAp i;refine qEo (j:=46) (fun L' w'=>∃m3,L'=[(0,vB o1)]∧m.le m3∧St m3 (kB b1 (V9 y1.1 a1 c1 a2 c2) 45::kR a1 y1.1.2.1 c1 9 1::kR a2 y1.1.2.2 c2 85 4::O) w'∧P4 m3 a1 c1 a2 c2 y1.1.2) ?_ ?_
 ·have i:=J;rintro _ w5 ⟨m3,rfl,q,g,r1,r2⟩;refine WO_e (qAu ?_);obtain rfl:=sI i;exact X_rt [0] [vB o1] ⟨m3,rfl,q,g.t.t.t⟩
 ·intro K;refine qAb 3 [(18,vB (y1.2.2==0))] (qDc 18 i ?_ ?_)
  ·intro A i;refine qAb 4 [(22,vB (y2.2==0))] (qDc 22 i ?_ ?_)
   ·intro A i;refine qAb 4 [(26,vB (y1.2.1==0))] (qDc 26 i ?_ ?_)
    ·intro A i;refine qEk 1 28 43 27 2 (vS a2 y1.1.2.2 c2) g.h (qAb 4 [(32,vB ((y1.1.2.2.length:Int)==1))] (qDc 32 i ?_ ?_))
     ·intro A i;refine qEk 1 34 43 33 2 (vS a2 y1.1.2.2 c2) g.h (qAa rfl (qDg 35 43 85 34 ((.const (vI 0))) r2 i ?_));rintro x1 i b2 f1 cs1 ⟨_,_,rfl,rfl,⟨_,_,rfl,rfl,⟨_,_,rfl,⟨a3,c3,rfl,r3⟩,⟨a4,c4,rfl,r4⟩⟩⟩⟩ hq1;refine qAb 1 [(36,.pointer (some ⟨b2,f1+3,none⟩))] (qAa rfl (qAq (d:=37) (t:=78) (x:=(.tmp 36)) (vS a4 x1.2.2.2 c4) kr rfl (ev (.pointer (some ⟨b2,f1+3,none⟩))) g (hq1.drop 3) kr (qAb 4 [(41,vB ((x1.2.2.2.length:Int)==5))] (qDc 41 i ?_ ?_))))
      ·intro A i;refine qEk 1 43 43 42 2 (vS a2 y1.1.2.2 c2) g.h (qAa rfl (qDg 44 43 85 43 ((.const (vI 0))) r2 i ?_));rintro x2 i b3 f2 cs2 ⟨_,_,rfl,rfl,⟨_,_,rfl,rfl,⟨_,_,rfl,⟨a5,c5,rfl,r5⟩,⟨a6,c6,rfl,r6⟩⟩⟩⟩ hq2;refine qAb 1 [(45,.pointer (some ⟨b3,f2+3,none⟩))] (qAa rfl (qAq (d:=46) (t:=78) (x:=(.tmp 45)) (vS a6 x2.2.2.2 c6) kr rfl (ev (.pointer (some ⟨b3,f2+3,none⟩))) g (hq2.drop 3) kr (qAa rfl (qDg 47 78 87 46 ((.const (vI 4))) r6 i ?_))));rintro x3 i b4 f3 cs3 ⟨_,_,rfl,rfl,⟨_,_,rfl,rfl,⟨_,_,rfl,rfl,⟨_,_,rfl,rfl,⟨a7,c7,rfl,r7⟩⟩⟩⟩⟩ hq3;refine qAb 1 [(48,.pointer (some ⟨b4,f3+2,none⟩))] (qAa rfl (qAq (d:=49) (t:=3) (x:=(.tmp 48)) (vI x3.2.2.1) kr rfl (ev (.pointer (some ⟨b4,f3+2,none⟩))) g (hq3.drop 2) kr (qAb 3 [(52,vB (x3.2.2.1==1))] (qDc 52 i ?_ ?_))))
       ·intro A i;refine qAb 4 [(56,vB (y2.1.toList==(⟨#[112,97,99,107,97,103,101,32,112,59,10,102,117,110,99,32,102,40,120,41,32,61,32,120,32,43,32,50,32,42,32,51,59,10]⟩:ByteArray).toList))] (qDc 56 i ?_ ?_)
        ·intro A i;refine qAa rfl (qBg 57 45 1 0 (.agg (V9 y1.1 a1 c1 a2 c2)) g.h (qAx 58 i (fun _ h=>qLh g r1 r2 h) ?_));rintro y3 i _ w6 ⟨m4,rfl,e3,g⟩;refine qAb 3 [(0,vB (y3==0))] ?_;cases i;exact qAw _ kr (K _ _ ⟨m4,rfl,q.t e3,g.f2.f2.f2,r1.mono e3,r2.mono e3⟩)
        ·intro A i;refine qAb 5 [(0,vB false)] ?_;cases i;exact qAw _ kr (K _ _ ⟨m2,rfl,q,g.f2.f2.f2,r1,r2⟩)
       ·intro A i;refine qAb 9 [(0,vB false)] ?_;cases i;exact qAw _ kr (K _ _ ⟨m2,rfl,q,g.f2.f2.f2,r1,r2⟩)
      ·intro A i;refine qAb 20 [(0,vB false)] ?_;cases i;exact qAw _ kr (K _ _ ⟨m2,rfl,q,g.f2.f2.f2,r1,r2⟩)
     ·intro A i;refine qAb 29 [(0,vB false)] ?_;cases i;exact qAw _ kr (K _ _ ⟨m2,rfl,q,g.f2.f2.f2,r1,r2⟩)
    ·intro A i;refine qAb 35 [(0,vB false)] ?_;cases i;exact qAw _ kr (K _ _ ⟨m2,rfl,q,g.f2.f2.f2,r1,r2⟩)
   ·intro A i;refine qAb 39 [(0,vB false)] ?_;cases i;exact qAw _ kr (K _ _ ⟨m2,rfl,q,g.f2.f2.f2,r1,r2⟩)
  ·intro A i;refine qAb 43 [(0,vB false)] ?_;cases i;exact qAw _ kr (K _ _ ⟨m2,rfl,q,g.f2.f2.f2,r1,r2⟩)
def qBs(N:Nat)(p0:Int)(x1:ByteArray)(x2:ByteArray)(s1:Tl):Option (Tl⊕T1):=
 if(decide (s1.2<(IntKind.wrap .i64 (30+(IntKind.wrap .i64 (Int.tmod p0 4))))))=true then((catB x1 s1.1).bind fun s2=>(catB s2 x2).bind fun s3=>some (.inl (s3,IntKind.wrap .i64 (s1.2+1)))) else(some (.inr s1.1))
def qBt(N:Nat)(p0:Int)(s6:Tl):Option (Tl⊕T1):=
 if(decide (s6.2<(IntKind.wrap .i64 (127+(IntKind.wrap .i64 (Int.tmod p0 3))))))=true then((catB s6.1 (⟨#[43,49]⟩:ByteArray)).bind fun s7=>some (.inl (s7,IntKind.wrap .i64 (s6.2+1)))) else(some (.inr s6.1))
def qDi(N:Nat)(p0:Int)(p1:Int):T8:=
 (idx ([(⟨#[40]⟩:ByteArray),(⟨#[102,40]⟩:ByteArray),(⟨#[105,102,32,49,32,116,104,101,110,32,49,32,101,108,115,101,32]⟩:ByteArray)]) (Int.tmod p1 3)).bind fun x1=>(idx ([(⟨#[41]⟩:ByteArray),(⟨#[41]⟩:ByteArray),(⟨#[]⟩:ByteArray)]) (Int.tmod p1 3)).bind fun x2=>(qBe (qBs N p0 x1 x2) N ((⟨#[49]⟩:ByteArray),0)).bind fun o1=>(catB (⟨#[112,97,99,107,97,103,101,32,112,59,32,116,101,115,116,32,116,32,61,32]⟩:ByteArray) o1).bind fun s4=>(catB s4 (⟨#[59]⟩:ByteArray)).bind fun s5=>(qEe N s5).bind fun y1=>(if(!((y1.2.2==0)==(decide ((IntKind.wrap .i64 (30+(IntKind.wrap .i64 (Int.tmod p0 4))))<32))))=true then(some true) else(if(y1.2.2 !=0)=true then(some (y1.2.2 !=2)) else(some false)):T8).bind fun o2=>if o2=true then(some false) else((qBe (qBt N p0) N ((⟨#[49]⟩:ByteArray),0)).bind fun o3=>(catB (⟨#[112,97,99,107,97,103,101,32,112,59,32,116,101,115,116,32,116,32,61,32]⟩:ByteArray) o3).bind fun s8=>(catB s8 (⟨#[59]⟩:ByteArray)).bind fun s9=>(qEe N s9).bind fun y2=>(if((y2.2.2==0)==(decide ((IntKind.wrap .i64 ((IntKind.wrap .i64 (2*(IntKind.wrap .i64 (127+(IntKind.wrap .i64 (Int.tmod p0 3))))))+1))≤256)))=true then((qDx N).bind fun y3=>some y3) else(some false):T8).bind fun o4=>some o4)
theorem qIh{p0:Int}{p1:Int}{r:Bool}(g:St m (O) w)(i:qDi N p0 p1=some r):Calls Tryd.prog 4 #[.int .u8 p0,.int .u8 p1] w fun e w'=>∃m',e= .returned (vB r)∧m.le m'∧St m' (O) w':=by
 unfold qDi at i;have q:=m.le_refl;refine W_cA Tryd.func4 rfl Tryd.ntmps4 ?_;refine W_sr (qAf 1 [] (W_sr (qAf 5 [(5,vI (wr (30+(wr (Int.tmod p0 4)))))] (W_sr (qAa rfl (qBa (d:=19) (t:=31) (e:=9) (len:=3) (parts:= #[(0,(.const (vT b18))),(1,(.const (vT b1c))),(2,(.const (vT b1d)))]) cStr (xs:=[b18,b1c,b1d]) [vT b18,vT b1c,vT b1d] kr rfl (fun _=>qBc kr _) rfl rfl g ⟨[vT b18],_,rfl,rfl,⟨[vT b1c],_,rfl,rfl,⟨[vT b1d],_,rfl,rfl,rfl⟩⟩⟩ fun b1 m1 w1 e1 g r1=>(qAb 2 [(21,.int .u8 (Int.tmod p1 3))] ?_)))))));have⟨x1,d1,i⟩:=qAp i;refine qAa rfl (qNv (d:=22) (t:=31) (e:=9) (x:=(.tmp 19)) (y:=(.tmp 21)) cStr kr rfl (ev (.slice (aP b1) (List.length ([b18,b1c,b1d])) 3)) (ev (.int .u8 (Int.tmod p1 3))) kr r1 d1 ?_);rintro b2 f1 cs1 rfl hq1;refine qEx 23 9 22 f1 (vT x1) g hq1 (qAb 1 [(6,vT x1)] (qAr rfl ?_));have g:=g.t;refine qAi (W_sr (qAa rfl (qBa (d:=24) (t:=31) (e:=9) (len:=3) (parts:= #[(0,(.const (vT b1a))),(1,(.const (vT b1a))),(2,(.const (vT eB)))]) cStr (xs:=[b1a,b1a,eB]) [vT b1a,vT b1a,vT eB] kr rfl (fun _=>qBc kr _) rfl rfl g ⟨[vT b1a],_,rfl,rfl,⟨[vT b1a],_,rfl,rfl,⟨[vT eB],_,rfl,rfl,rfl⟩⟩⟩ fun b3 m2 w2 e2 g r2=>(qAb 2 [(26,.int .u8 (Int.tmod p1 3))] ?_))));have⟨x2,d2,i⟩:=qAp i
 refine qAa rfl (qNv (d:=27) (t:=31) (e:=9) (x:=(.tmp 24)) (y:=(.tmp 26)) cStr kr rfl (ev (.slice (aP b3) (List.length ([b1a,b1a,eB])) 3)) (ev (.int .u8 (Int.tmod p1 3))) kr r2 d2 ?_);rintro b4 f2 cs2 rfl hq2;refine qEx 28 9 27 f2 (vT x2) g hq2 (qAb 1 [(7,vT x2)] (qAr rfl ?_));have g:=g.t;refine qAi (W_sr (qAf 1 [(8,vT b1e)] (qAo (W_sr (qAf 1 [(9,vI 0)] (qAs ?_))))));have⟨out1,i,j1⟩:=qAp i;refine qCl (.exit 0) (fun L' w'=>∃(o1:ByteArray),∃m3,o1=out1∧L'=[(0,.int .u8 p0),(5,vI (wr (30+(wr (Int.tmod p0 4))))),(8,vT o1)]∧m.le m3∧St m3 (O) w') ?_ ?_
 ·rintro _ w3 ⟨o1,m3,rfl,rfl,q,g⟩;have i:=j1;refine qBh (qAi (W_sr (qAb 1 [(40,vT o1)] (qAa rfl (qGn 41 9 9 ((.const (vT b1f))) 40 i fun s4 i=>(qAa rfl (qGn 42 9 9 41 ((.const (vT (⟨#[59]⟩:ByteArray)))) i fun s5 i=>(qAx 43 i (fun _ h=>qIm g h) ?_))))))));rintro y1 i _ w5 ⟨a1,c1,a2,c2,m5,rfl,e3,g,r3,r4⟩;have q:=q.t e3;refine qAb 4 [(44,.agg (V9 y1.1 a1 c1 a2 c2)),(45,vI y1.2.1),(46,vI y1.2.2)] (qAa rfl (qDo 10 45 (.agg #[vT eB,v3,v3]) g fun b5 w6 g=>(qAa rfl (qBy 45 10 44 (.agg (V9 y1.1 a1 c1 a2 c2)) g fun w7 g=>(qAf 2 [(12,vI y1.2.2)] (qAo (W_sr ?_)))))));have⟨o2,i,J⟩:=qAp i;refine qEo (j:=13) (fun L' w'=>∃m6,L'=[(0,.int .u8 p0),(59,vB o2)]∧m.le m6∧St m6 (kB b5 (V9 y1.1 a1 c1 a2 c2) 45::kR a1 y1.1.2.1 c1 9 1::kR a2 y1.1.2.2 c2 85 4::O) w'∧P4 m6 a1 c1 a2 c2 y1.1.2) ?_ ?_
  ·have i:=J;rintro _ w8 ⟨m6,rfl,q,g,r3,r4⟩;refine WO_e (W_if i ?_ ?_)
   ·intro A i;refine W_sr (qAf 1 [(4,vB false)] (qAu (qAe ?_)));cases i;exact X_rt [4] [vB false] ⟨m6,rfl,q,g.t.t.t⟩
   ·intro A i;refine qAm (qAi (W_sr (qAf 5 [(13,vI (wr (127+(wr (Int.tmod p0 3)))))] (W_sr (qAf 1 [(8,vT b1e)] (qAo (W_sr (qAf 1 [(14,vI 0)] (qAs ?_)))))))));have⟨out2,i,j2⟩:=qAp i;refine qCl (.exit 2) (fun L' w'=>∃(o3:ByteArray),∃m7,o3=out2∧L'=[(8,vT o3),(13,vI (wr (127+(wr (Int.tmod p0 3)))))]∧m.le m7∧St m7 (kB b5 (V9 y1.1 a1 c1 a2 c2) 45::kR a1 y1.1.2.1 c1 9 1::kR a2 y1.1.2.2 c2 85 4::O) w'∧P4 m7 a1 c1 a2 c2 y1.1.2) ?_ ?_
    ·rintro _ w9 ⟨o3,m7,rfl,rfl,q,g,r3,r4⟩;have i:=j2;refine qBh (qAi (W_sr (qAb 1 [(72,vT o3)] (qAa rfl (qGn 73 9 9 ((.const (vT b1f))) 72 i fun s8 i=>(qAa rfl (qGn 74 9 9 73 ((.const (vT (⟨#[59]⟩:ByteArray)))) i fun s9 i=>(qAx 75 i (fun _ h=>qIm g h) ?_))))))));rintro y2 i _ w11 ⟨a3,c3,a4,c4,m9,rfl,e4,g,r5,r6⟩;refine qAb 5 [(12,vI y2.2.2)] (qAr rfl ?_);have g:=g.t.t;refine qAi (W_sr ?_);have⟨o4,i,J⟩:=qAp i;refine qEo (j:=11) (fun L' w'=>∃m10,L'=[(4,vB o4)]∧m.le m10∧St m10 (kB b5 (V9 y1.1 a1 c1 a2 c2) 45::kR a1 y1.1.2.1 c1 9 1::kR a2 y1.1.2.2 c2 85 4::O) w'∧P4 m10 a1 c1 a2 c2 y1.1.2) ?_ ?_
     ·have i:=J;rintro _ w12 ⟨m10,rfl,q,g,r3,r4⟩;refine WO_e (qAu ?_);obtain rfl:=sI i;exact X_rt [4] [vB o4] ⟨m10,rfl,q,g.t.t.t⟩
     ·intro K;refine qAb 8 [(86,vB ((y2.2.2==0)==(decide ((wr ((wr (2*(wr (127+(wr (Int.tmod p0 3))))))+1))≤256))))] (qDc 86 i ?_ ?_)
      ·intro A i;refine qAx 87 i (fun _ h=>qKo g h) ?_;rintro y3 i _ w13 ⟨m11,rfl,e5,g⟩;refine qAb 2 [(4,vB y3)] ?_;cases i;exact qAw _ kr (K _ _ ⟨m11,rfl,(q.t e4).t e5,g.f2.f2.f2,(r3.mono e4).mono e5,(r4.mono e4).mono e5⟩)
      ·intro A i;refine qAb 3 [(4,vB false)] ?_;cases i;exact qAw _ kr (K _ _ ⟨m9,rfl,q.t e4,g.f2.f2.f2,r3.mono e4,r4.mono e4⟩)
    intro K2_u2;refine qFv _ kr (qEa (fun k2 L' w'=>∃(s6:Tl),∃m8,qBe (qBt N p0) k2 s6=some out2∧L'=[(8,vT s6.1),(13,vI (wr (127+(wr (Int.tmod p0 3))))),(14,vI s6.2)]∧m.le m8∧St m8 (kB b5 (V9 y1.1 a1 c1 a2 c2) 45::kR a1 y1.1.2.1 c1 9 1::kR a2 y1.1.2.2 c2 85 4::O) w'∧P4 m8 a1 c1 a2 c2 y1.1.2) N ⟨(b1e,0),m6,i,rfl,q,g.f2.f2.f2,r3,r4⟩ ?_);rintro k2 _ w10 ⟨s6,m8,hL,rfl,q,g,r3,r4⟩;rcases k2 with _|k2
    ·exact qBi hL
    ·obtain⟨qu2,i,hSu2,hBu2⟩:=qBj hL;clear hL;unfold qBt at i;refine qAo (W_sr (qAf 3 [(66,vB (decide (s6.2<(wr (127+(wr (Int.tmod p0 3)))))))] (W_if i ?_ ?_)))
     ·intro A i;refine qAm (qAi (qAo (qAs (qAl (qAb 1 [(69,vT s6.1)] (qAa rfl (qGn 70 9 9 69 ((.const (vT (⟨#[43,49]⟩:ByteArray)))) i fun s7 i=>(qAb 1 [(8,vT s7)] (qAr rfl (qBb (qAi (qAl (qAb 3 [(14,vI (wr (s6.2+1)))] (qAr rfl ?_))))))))))))));obtain rfl:=sI i;have hL:=hSu2 _ rfl;exact xE (qCg k2 (jB _) ⟨(s7,wr (s6.2+1)),m8,hL,rfl,q,g.f2.f2.f2,r3,r4⟩)
     ·intro A i;refine qDz (qAk ?_);cases i;have ho:=hBu2 _ rfl;have g:=g.f2.f2.f2;refine qAk ?_;exact xE (K2_u2 _ _ ⟨s6.1,m8,ho,rfl,q,g,r3,r4⟩)
  ·intro K;refine qAb 6 [(52,vB (!((y1.2.2==0)==(decide ((wr (30+(wr (Int.tmod p0 4))))<32)))))] (qDc 52 i ?_ ?_)
   ·intro A i;refine qAb 7 [(59,vB true)] ?_;cases i;exact qAw _ kr (K _ _ ⟨m5,rfl,q,g.f2.f2.f2,r3,r4⟩)
   ·intro A i;refine qAb 3 [(55,vB (y1.2.2 !=0))] (qDc 55 i ?_ ?_)
    ·intro A i;refine qAb 4 [(59,vB (y1.2.2 !=2))] ?_;cases i;exact qAw _ kr (K _ _ ⟨m5,rfl,q,g.f2.f2.f2,r3,r4⟩)
    ·intro A i;refine qAb 4 [(59,vB false)] ?_;cases i;exact qAw _ kr (K _ _ ⟨m5,rfl,q,g.f2.f2.f2,r3,r4⟩)
 intro K0_u1;refine qFv _ kr (qEa (fun k1 L' w'=>∃(s1:Tl),∃m4,qBe (qBs N p0 x1 x2) k1 s1=some out1∧L'=[(0,.int .u8 p0),(5,vI (wr (30+(wr (Int.tmod p0 4))))),(6,vT x1),(7,vT x2),(8,vT s1.1),(9,vI s1.2)]∧m.le m4∧St m4 (O) w') N ⟨(b1e,0),m2,i,rfl,(q.t e1).t e2,g⟩ ?_);rintro k1 _ w4 ⟨s1,m4,hL,rfl,q,g⟩;rcases k1 with _|k1
 ·exact qBi hL
 ·obtain⟨qu1,i,hSu1,hBu1⟩:=qBj hL;clear hL;unfold qBs at i;refine qAo (W_sr (qAf 3 [(31,vB (decide (s1.2<(wr (30+(wr (Int.tmod p0 4)))))))] (W_if i ?_ ?_)))
  ·intro A i;refine qAm (qAi (qAo (qAs (qAl (qAb 2 [(34,vT x1),(35,vT s1.1)] (qAa rfl (qGn 36 9 9 34 35 i fun s2 i=>(qAb 1 [(37,vT x2)] (qAa rfl (qGn 38 9 9 36 37 i fun s3 i=>(qAb 1 [(8,vT s3)] (qAr rfl (qBb (qAi (qAl (qAb 3 [(9,vI (wr (s1.2+1)))] (qAr rfl ?_)))))))))))))))));obtain rfl:=sI i;have hL:=hSu1 _ rfl;exact xE (qCg k1 (jB _) ⟨(s3,wr (s1.2+1)),m4,hL,rfl,q,g⟩)
  ·intro A i;refine qDz (qAk ?_);cases i;have ho:=hBu1 _ rfl;refine qAk ?_;exact xE (K0_u1 _ _ ⟨s1.1,m4,ho,rfl,q,g⟩)
end
end Go.Proofs.YtiblcebedkllpaaDoor
section
namespace Go.Dc
theorem qQv{σ β:Type}{f:σ→Option (σ⊕β)}(st:Nat→σ)(k:Nat)(res:β)(step:∀i,i<k→f (st i)=some (.inl (st (i+1))))(stop:f (st k)=some (.inr res)){N:Nat}(hN:k<N):qBe f N (st 0)=some res:=by
 have key:∀d i M,i+d=k→d<M→qBe f M (st i)=some res:=by
  intro d
  induction d with
  |zero=>intro i M h hM;obtain⟨M',rfl⟩:∃M',M=M'+1:=⟨M-1,by omega⟩;simp only[gO] at h;subst h;simp[qBe,stop]
  |succ d ih=>
   intro i M h hM
   obtain⟨M',rfl⟩:∃M',M=M'+1:=⟨M-1,by omega⟩
   have:=ih (i+1) M' (by omega) (by omega)
   simp[qBe,step i (by omega),this]
 exact key k 0 N (by omega) hN
section
variable {ν:Type}
theorem qTk{l:List (Int×ν)}{k c:Int}{v:ν}(h:c≠k):mget (l.map fun p=>if k=p.1 then(k,v) else p) c=mget l c:=by
 induction l with
 |nil=>rfl
 |cons p l ih=>
  simp only[jS,mget]
  by_cases hk:k=p.1
  ·subst hk;rw[if_pos rfl,if_neg h,if_neg h,ih]
  ·rw[if_neg hk,ih]
theorem qTd{l:List (Int×ν)}{k:Int}{v:ν}(h:(mget l k).isSome=true):mget (l.map fun p=>if k=p.1 then(k,v) else p) k=some v:=by
 induction l with
 |nil=>cases h
 |cons p l ih=>
  simp only[jS,mget] at h ⊢
  by_cases hk:k=p.1
  ·subst hk;simp
  ·rw[if_neg hk] at h ⊢
   rw[if_neg hk]
   exact ih h
theorem qVw{l:List (Int×ν)}{k:Int}{v:ν}(h:mget l k=none)(c:Int):mget (mins l k v) c=if c=k then some v else mget l c:=by
 induction l with
 |nil=>rfl
 |cons p l ih=>
  simp only[mget] at h
  split at h
  ·cases h
  ·rename_i hk
   simp only[mins]
   split
   ·simp only[mget]
   ·simp only[mget,ih h]
    by_cases hc:c=k
    ·subst hc;simp[hk]
    ·simp[hc]
theorem qVp(l:List (Int×ν))(k:Int)(v:ν)(c:Int):mget (mset l k v) c=if c=k then some v else mget l c:=by
 unfold mset
 split
 ·rename_i h
  split
  ·rename_i hc;subst hc;exact qTd h
  ·rename_i hc;exact qTk hc
 ·rename_i h
  exact qVw (by simpa using h) c
def Srt(l:List (Int×ν)):Prop:=(l.map (·.1)).Pairwise (· < ·)
theorem Srt.nil:Srt ([]:List (Int×ν)):=List.Pairwise.nil
theorem Srt.mins{l:List (Int×ν)}{k:Int}{v:ν}(hs:Srt l)(h:mget l k=none):Srt (mins l k v):=by
 induction l with
 |nil=>simp[Srt,Go.Dc.mins]
 |cons p l ih=>
  have hs':=hs
  simp only[Srt,jS,kO] at hs
  simp only[mget] at h
  split at h
  ·cases h
  ·rename_i hk
   simp only[Go.Dc.mins]
   split
   ·rename_i hlt
    have hlt:k<p.1:=by simpa[KOrd.lt] using hlt
    refine kO.2 ⟨fun a ha=> ?_,hs'⟩
    simp only[jS,jQ] at ha
    rcases ha with rfl|ha
    ·exact hlt
    ·exact Int.lt_trans hlt (hs.1 a ha)
   ·rename_i hlt
    have hlt:¬k<p.1:=by simpa[KOrd.lt] using hlt
    refine kO.2 ⟨fun a ha=> ?_,ih hs.2 h⟩
    obtain⟨q,hq,rfl⟩:=List.mem_map.1 ha
    rcases jQ.1 ((qRr l k v).mem_iff.1 hq) with rfl|hq
    ·show p.1<k;omega
    ·exact hs.1 _ (k9 hq)
theorem Srt.mset{l:List (Int×ν)}(hs:Srt l)(k:Int)(v:ν):Srt (mset l k v):=by
 unfold Go.Dc.mset
 split
 ·unfold Srt
  have:(l.map fun p=>if k=p.1 then(k,v) else p).map (·.1)=l.map (·.1):=by
   rw[List.map_map]
   refine List.map_congr_left fun p _=> ?_
   simp only[Function.comp_apply]
   split
   ·rename_i h;exact h
   ·rfl
  rw[this];exact hs
 ·rename_i h
  exact hs.mins (by simpa using h)
theorem Srt.out{l:List (Int×ν)}{c:Int}(h:∀a∈l.map (·.1),c<a):mget l c=none:=by
 rw[qNw];intro hm;exact Int.lt_irrefl _ (h c hm)
theorem Srt.ext:∀{l k:List (Int×ν)},Srt l→Srt k→(∀c,mget l c=mget k c)→l=k
 |[],[],_,_,_=>rfl
 |[],q::k,_,_,h=>by have:=h q.1;simp[mget] at this
 |p::l,[],_,_,h=>by have:=h p.1;simp[mget] at this
 |p::l,q::k,hl,hk,h=>by
  have hl':(∀a∈l.map (·.1),p.1<a)∧Srt l:=kO.1 hl
  have hk':(∀a∈k.map (·.1),q.1<a)∧Srt k:=kO.1 hk
  have h1:p.1=q.1:=by
   rcases Int.lt_trichotomy p.1 q.1 with hlt|he|hlt
   ·have:=h p.1
    rw[Srt.out (l:=q::k) (c:=p.1)] at this
    ·simp[mget] at this
    ·intro a ha
     rcases jQ.1 ha with rfl|ha
     ·exact hlt
     ·exact Int.lt_trans hlt (hk'.1 a ha)
   ·exact he
   ·have:=h q.1
    rw[Srt.out (l:=p::l) (c:=q.1)] at this
    ·simp[mget] at this
    ·intro a ha
     rcases jQ.1 ha with rfl|ha
     ·exact hlt
     ·exact Int.lt_trans hlt (hl'.1 a ha)
  have h2:p.2=q.2:=by have:=h p.1;simpa[mget,h1] using this
  have h3:l=k:=by
   refine Srt.ext hl'.2 hk'.2 fun c=> ?_
   by_cases hc:c=p.1
   ·rw[Srt.out (l:=l) (fun a ha=>hc▸hl'.1 a ha),Srt.out (l:=k) (fun a ha=>by rw[hc,h1];exact hk'.1 a ha)]
   ·have:=h c
    simpa[mget,hc,h1▸hc] using this
  rw[h3,Prod.ext h1 h2]
def qJb(v:ν)(m:List (Int×ν))(xs:List UInt8):List (Int×ν):=xs.foldl (fun m x=>mset m (x.toNat:Int) v) m
theorem qPv{v:ν}:∀{xs:List UInt8} {m:List (Int×ν)},Srt m→Srt (qJb v m xs)
 |[],_,h=>h
 |_::xs,_,h=>qPv (xs:=xs) (h.mset _ _)
theorem qPx{v:ν}(c:Int):∀(xs:List UInt8) (m:List (Int×ν)),mget (qJb v m xs) c=if xs.any (fun x=>decide ((x.toNat:Int)=c))=true then some v else mget m c
 |[],m=>by simp[qJb]
 |x::xs,m=>by
  have:=qPx (v:=v) c xs (mset m (x.toNat:Int) v)
  rw[show qJb v m (x::xs)=qJb v (mset m (x.toNat:Int) v) xs from rfl,this,qVp]
  by_cases h1:xs.any (fun x=>decide ((x.toNat:Int)=c))=true
  ·simp[h1]
  ·by_cases h2:(x.toNat:Int)=c
   ·subst h2;simp[h1]
   ·have h3:¬c=(x.toNat:Int):=fun e=>h2 e.symm
    simp[h1,h2,h3]
end
end Go.Dc
namespace Go.Proofs.YtiblcebedkllpaaDoor
open Go Go.Dc
def allK:List (Int×ByteArray):=[(1,⟨#[97,98,99,100,101,102,103,104,105,106,107,108,109,110,111,112,113,114,115,116,117,118,119,120,121,122]⟩),(2,⟨#[48,49,50,51,52,53,54,55,56,57]⟩),(3,⟨#[95]⟩),(4,⟨#[46]⟩),(5,⟨#[9,10,13,32]⟩),(6,⟨#[35]⟩),(7,⟨#[34]⟩),(8,⟨#[59,44,40,41,43,45,42,47,37,60,61]⟩)]
def kdL:List (Int×Int):=[(9,5),(10,5),(13,5),(32,5),(34,7),(35,6),(37,8),(40,8),(41,8),(42,8),(43,8),(44,8),(45,8),(46,4),(47,8),(48,2),(49,2),(50,2),(51,2),(52,2),(53,2),(54,2),(55,2),(56,2),(57,2),(59,8),(60,8),(61,8),(95,3),(97,1),(98,1),(99,1),(100,1),(101,1),(102,1),(103,1),(104,1),(105,1),(106,1),(107,1),(108,1),(109,1),(110,1),(111,1),(112,1),(113,1),(114,1),(115,1),(116,1),(117,1),(118,1),(119,1),(120,1),(121,1),(122,1)]
def kdI(c:Int):Int:=(mget kdL c).getD 0
def inE(e:Int×ByteArray)(c:Int):Bool:=e.2.data.toList.any fun x=>decide ((x.toNat:Int)=c)
def layK(m:List (Int×Int))(k:List (Int×ByteArray)):List (Int×Int):=k.foldl (fun m e=>qJb e.1 m e.2.data.toList) m
theorem qUl:∀{k:List (Int×ByteArray)} {m:List (Int×Int)},Srt m→Srt (layK m k)
 |[],_,h=>h
 |_::k,_,h=>qUl (k:=k) (qPv h)
theorem qUk(c:Int):∀(k:List (Int×ByteArray)) (m:List (Int×Int)),(∀e∈k,inE e c=true→e.1=kdI c)→(∀v,mget m c=some v→v=kdI c)→
  mget (layK m k) c=if(k.any fun e=>inE e c)=true then some (kdI c) else mget m c
 |[],m,_,_=>by simp[layK]
 |e::k,m,h,hm=>by
  have hg:=qPx (v:=e.1) c e.2.data.toList m
  have:=qUk c k (qJb e.1 m e.2.data.toList) (fun e' he=>h e' (k7 _ he)) (fun v hv=>by
   rw[hg] at hv
   split at hv
   ·rename_i hi
    rw[←jA hv]
    exact h e (jW ..) hi
   ·exact hm v hv)
  rw[show layK m (e::k)=layK (qJb e.1 m e.2.data.toList) k from rfl,this,hg]
  by_cases h1:(k.any fun e=>inE e c)=true
  ·simp[h1]
  ·by_cases h2:inE e c=true
   ·have:=h e (jW ..) h2
    have h2':(e.2.data.toList.any fun x=>decide ((x.toNat:Int)=c))=true:=h2
    simp only[List.any_cons,h2,Bool.true_or,jM,h1,h2',this]
    simp
   ·have h2':(e.2.data.toList.any fun x=>decide ((x.toNat:Int)=c))=false:=by simpa[inE] using h2
    simp only[List.any_cons,h1,h2',Bool.or_false,jC,jL]
    simp[h2]
theorem qTx:(allK.all fun e=>e.2.data.toList.all fun x=>decide (e.1=kdI (x.toNat:Int)))=true∧(kdL.all fun p=>allK.any fun e=>inE e p.1)=true:=⟨by kernel_rfl,by kernel_rfl⟩
theorem kd_in{e:Int×ByteArray}{c:Int}(he:e∈allK)(h:inE e c=true):e.1=kdI c:=by
 have:=jN.1 qTx.1 e he
 obtain⟨x,hx,hc⟩:=kM.1 h
 have h2:=jN.1 this x hx
 have hc:(x.toNat:Int)=c:=by simpa using hc
 subst hc
 simpa using h2
theorem qZe(c:Int):mget kdL c=if(allK.any fun e=>inE e c)=true then some (kdI c) else none:=by
 cases h:mget kdL c with
 |none=>
  rw[if_neg]
  intro ha
  obtain⟨e,he,hi⟩:=kM.1 ha
  have h1:=kd_in he hi
  have h0:kdI c=0:=by simp[kdI,h]
  have:(allK.all fun e=>decide (e.1≠0))=true:=by kernel_rfl
  have:=jN.1 this e he
  simp[h1,h0] at this
 |some v=>
  have hm:(c,v)∈kdL:=(qQl (l:=kdL) (by
   have:decide ((kdL.map (·.1)).Nodup)=true:=by kernel_rfl
   simpa using this)).1 h
  have:=jN.1 qTx.2 _ hm
  rw[if_pos this]
  simp[kdI,h]
theorem qZa:Srt kdL:=by
 have:decide ((kdL.map (·.1)).Pairwise (· < ·))=true:=by kernel_rfl
 simpa[Srt] using this
theorem qWy{k:List (Int×ByteArray)}(h:k.Perm allK):layK [] k=kdL:=by
 refine Srt.ext (qUl Srt.nil) qZa fun c=> ?_
 rw[qUk c k [] (fun e he hi=>kd_in (h.mem_iff.1 he) hi) (fun v hv=>by cases hv),qZe]
 have:(k.any fun e=>inE e c)=(allK.any fun e=>inE e c):=by
  rw[kI,kM,kM]
  exact⟨fun⟨e,he,hi⟩=>⟨e,h.mem_iff.1 he,hi⟩,fun⟨e,he,hi⟩=>⟨e,h.mem_iff.2 he,hi⟩⟩
 rw[this]
 rfl
theorem qYa{N:Nat}{e:Int×ByteArray}(m:List (Int×Int))(he:e.2.size≤26)(hN:30<N):qDk N (some e) (some m)=some (.inl (some (qJb e.1 m e.2.data.toList))):=by
 have hsz:e.2.data.toList.length=e.2.size:=by simp
 have hb:qKq e.2=some e.2.data.toList:=by unfold qKq;rw[if_pos (by simp only[maxLen];omega)]
 simp only[qDk,hb,j0]
 have key:=qQv (f:=qFo N e e.2.data.toList) (fun i=>((i:Int),some (qJb e.1 m (e.2.data.toList.take i)))) e.2.data.toList.length (some (qJb e.1 m e.2.data.toList)) (fun i hi=> ?_) ?_ (N:=N) (by omega)
 ·simp only[Int.natCast_zero,List.take_zero] at key
  rw[show qJb e.1 m []=m from rfl] at key
  rw[key];rfl
 ·simp only[qFo]
  rw[if_pos (by simpa using hi),qKh hi]
  simp only[j0,qGp,jR]
  rw[wi64 (by omega) (by omega),jX hi]
  simp[qJb]
 ·simp only[qFo]
  rw[if_neg (by simp),List.take_length]
theorem qPs{N:Nat}(hN:30<N):∀(k:List (Int×ByteArray)) (m:List (Int×Int)),(∀e∈k,e.2.size≤26)→qIn (qDk N) k (some m)=some (some (layK m k))
 |[],m,_=>by simp[qIn,qDk,layK]
 |e::k,m,h=>by
  have:=qPs hN k (qJb e.1 m e.2.data.toList) (fun e' he=>h e' (k7 _ he))
  simp only[qIn,qYa m (h e (jW ..)) hN,j0,this]
  rfl
theorem qQw{N:Nat}(hN:30<N):qGu N=some (some kdL):=by
 have h8:∀e∈allK,e.2.size≤26:=by
  have:(allK.all fun e=>decide (e.2.size≤26))=true:=by kernel_rfl
  intro e he
  simpa using jN.1 this e he
 have key:qMp (qDk N) allK (some [])=some (some kdL):=qRl fun k hk=>by
  rw[qPs hN k [] (fun e he=>h8 e (hk.mem_iff.1 he)),qWy hk]
 have h1:qGu N=(qMp (qDk N) allK (some [])).bind fun o1=>some o1:=by kernel_rfl
 rw[h1,key];rfl
end Go.Proofs.YtiblcebedkllpaaDoor
end
namespace Go.Proofs.YtiblcebedkllpaaDoor
section
open Go Go.Dc
theorem qCb(s:ByteArray):s.data.toList.length=s.size:=by simp
theorem qJr{s:ByteArray}{i:Nat}(h:i<s.data.toList.length):idxB s (i:Int)=some (s.data.toList[i]):=by
 have h':i<s.size:=by simpa using h
 rw[qXl h']
 simp[ByteArray.getElem_eq_getElem_data]
def tw(p:UInt8→Bool)(l:List UInt8)(a:Nat):Nat:=a+((l.drop a).takeWhile p).length
section
variable {p:UInt8→Bool} {l:List UInt8} {a:Nat}
theorem qMn(h:a≤l.length):a≤tw p l a∧tw p l a≤l.length:=by
 have:=(gL p (l:=l.drop a)).length_le
 simp only[gA] at this
 unfold tw;omega
theorem qMx(h:a<l.length)(hb:p l[a]=true):tw p l (a+1)=tw p l a:=by
 unfold tw
 rw[jJ h,kD hb]
 simp only[jF];omega
theorem qOh(h:a<l.length)(hb:p l[a]=false):tw p l a=a:=by
 unfold tw
 rw[jJ h,kU (by simp[hb])]
 simp
theorem qUb(h:l.length≤a):tw p l a=a:=by
 unfold tw
 rw[jV h];rfl
theorem qWc:∀(d a:Nat),a+d=l.length→∀h:tw p l a<l.length,p (l[tw p l a]'h)=false
 |0,a,hd,h=>by rw[qUb (by omega)] at h;omega
 |d+1,a,hd,h=>by
  have ha:a<l.length:=by omega
  cases hb:p l[a] with
  |true=>
   have e:=qMx ha hb
   have:=qWc d (a+1) (by omega) (by rw[e];exact h)
   simpa only[e] using this
  |false=>
   have e:=qOh ha hb
   simpa only[e] using hb
theorem qVz{β:Type}{f:Int→Option (Int⊕β)}(out:Nat→β)(go:∀i:Nat,∀h:i<l.length,p l[i]=true→f (i:Int)=some (.inl ((i:Int)+1)))
  (no:∀i:Nat,∀h:i<l.length,p l[i]=false→f (i:Int)=some (.inr (out i))) (en:f (l.length:Int)=some (.inr (out l.length))):
  ∀(d a N:Nat),a+d=l.length→d<N→qBe f N (a:Int)=some (out (tw p l a))
 |d,a,0,_,h=>by omega
 |0,a,N+1,hd,h=>by
  have:a=l.length:=by omega
  subst this
  rw[qUb (jH _)];simp[qBe,en]
 |d+1,a,N+1,hd,h=>by
  have ha:a<l.length:=by omega
  cases hb:p l[a] with
  |true=>
   have:=qVz out go no en d (a+1) N (by omega) (by omega)
   rw[qMx ha hb] at this
   simpa[qBe,go a ha hb] using this
  |false=>
   rw[qOh ha hb];simp[qBe,no a ha hb]
end
def kd(c:UInt8):Int:=kdI (c.toNat:Int)
def inK(ks:List Int)(c:UInt8):Bool:=ks.any fun k=>kd c==k
theorem qPh{N:Nat}{s:ByteArray}{ks:List Int}{i:Nat}(h:i<s.data.toList.length)(hk:ks.length≤10)(hN:10<N):qBe (qFj N s (some kdL) ks (i:Int)) N (false,0)=some (inK ks (s.data.toList[i])):=by
 have key:=qQv (f:=qFj N s (some kdL) ks (i:Int)) (fun j=>((ks.take j).any (fun k=>kd (s.data.toList[i])==k),(j:Int))) ks.length (inK ks (s.data.toList[i])) (fun j hj=> ?_) ?_ (N:=N) (by omega)
 ·simpa using key
 ·simp only[qFj]
  rw[if_pos (by simpa using hj),qKh hj,qJr h]
  simp only[j0]
  rw[wi64 (by omega) (by omega),jX hj,List.any_append]
  cases(ks.take j).any (fun k=>kd (s.data.toList[i])==k)
  ·simp[kd,kdI,qDe]
  ·simp
 ·simp only[qFj]
  rw[if_neg (by simp),List.take_length]
  rfl
theorem qNy{N:Nat}{s:ByteArray}{ks:List Int}{i:Nat}(hi:i≤s.data.toList.length)(hl:s.data.toList.length<1000000)(hk:ks.length≤10)(hN:s.data.toList.length+10<N):
  qFp N s (i:Int) (some kdL) ks=some ((tw (inK ks) s.data.toList i:Nat):Int):=by
 have hs:=qCb s
 have key:=qVz (f:=qFi N s (some kdL) ks) (l:=s.data.toList) (p:=inK ks) (fun n=>(n:Int)) (fun j hj hb=>by
   simp only[qFi]
   rw[if_pos (by simp only[j9];omega),qPh hj hk (by omega),hb]
   simp only[j0]
   rw[wi64 (by omega) (by omega)]
   rfl) (fun j hj hb=>by
   simp only[qFi]
   rw[if_pos (by simp only[j9];omega),qPh hj hk (by omega),hb]
   rfl) (by
   simp only[qFi]
   rw[if_neg (by simp only[j9];omega)]) (s.data.toList.length-i) i N (by omega) (by omega)
 unfold qFp
 rw[key]
 rfl
end
section
open Go Go.Dc
theorem qVi(c:UInt8):(qDe (some kdL) (c.toNat:Int)).getD 0=kd c:=rfl
theorem qGx{l:List UInt8}{i:Nat}(h:i<l.length):l.getD i 0=l[i]:=by simp[jU,h]
theorem qTy{β:Type}{p:UInt8→Bool}{l:List UInt8}{a0:Nat}{f:Int→Option (Int⊕β)}(out:Nat→β)(go:∀i:Nat,∀h:i<l.length,p l[i]=true→f (i:Int)=some (.inl ((i:Int)+1)))
  (no:∀i:Nat,∀h:i<l.length,a0≤i→p l[i]=false→f (i:Int)=some (.inr (out i))) (en:f (l.length:Int)=some (.inr (out l.length))):
  ∀(d a N:Nat),a0≤a→a+d=l.length→d<N→qBe f N (a:Int)=some (out (tw p l a))
 |d,a,0,_,_,h=>by omega
 |0,a,N+1,_,hd,h=>by
  have:a=l.length:=by omega
  subst this
  rw[qUb (jH _)];simp[qBe,en]
 |d+1,a,N+1,h0,hd,h=>by
  have ha:a<l.length:=by omega
  cases hb:p l[a] with
  |true=>
   have:=qTy out go no en d (a+1) N (by omega) (by omega) (by omega)
   rw[qMx ha hb] at this
   simpa[qBe,go a ha hb] using this
  |false=>
   rw[qOh ha hb];simp[qBe,no a ha h0 hb]
def numS(n:Int)(c:UInt8):Int:=if 9007199254740993<10*n+((c.toNat:Int)-48) then 9007199254740993 else 10*n+((c.toNat:Int)-48)
def numL(ds:List UInt8):Int:=ds.foldl numS 0
def qPa(c:UInt8):Bool:=decide (32≤c.toNat)&&decide (c.toNat≤126)&&c !=34
def qWl:Int×ByteArray×Int×Int:=(0,⟨#[]⟩,0,0)
def qRh(l:List UInt8)(i:Nat):Nat:=if l.getD i 0=61∧l.getD (i+1) 0=61 then i+2 else i+1
def tokP(s:ByteArray)(i:Nat):(Int×ByteArray×Int×Int)×Int×Int:=
 if kd (s.data.toList.getD i 0)=1 then
  if tw (inK [1,2,3]) s.data.toList i-i>24 then(qWl,0,2) else((1,s.extract i (tw (inK [1,2,3]) s.data.toList i),0,0),((tw (inK [1,2,3]) s.data.toList i:Nat):Int),0)
 else if kd (s.data.toList.getD i 0)=2 then
  if numL ((s.data.toList.drop i).takeWhile (inK [2]))>9007199254740992 then(qWl,0,3) else((2,⟨#[]⟩,numL ((s.data.toList.drop i).takeWhile (inK [2])),0),((tw (inK [2]) s.data.toList i:Nat):Int),0)
 else if kd (s.data.toList.getD i 0)=7 then
  if s.data.toList.getD (tw qPa s.data.toList (i+1)) 0=34 then((3,s.extract (i+1) (tw qPa s.data.toList (i+1)),0,0),((tw qPa s.data.toList (i+1)+1:Nat):Int),0) else(qWl,0,9)
 else if kd (s.data.toList.getD i 0)=8 then
  ((4,s.extract i (qRh s.data.toList i),0,0),((qRh s.data.toList i:Nat):Int),0)
 else(qWl,0,9)
theorem qUi:∀c:UInt8,kd c=2→48≤c.toNat∧c.toNat≤57:=by
 have h:((List.range 256).all fun n=> !(decide (kd (UInt8.ofNat n)=2))||(decide (48≤n)&&decide (n≤57)))=true:=by kernel_rfl
 intro c hc
 have:=jN.1 h c.toNat (kZ.2 c.toNat_lt)
 simpa[hc] using this
theorem qRb{s:ByteArray}{p:UInt8→Bool}{i:Nat}:(s.extract i (tw p s.data.toList i)).data.toList=(s.data.toList.drop i).takeWhile p:=by
 simp only[ByteArray.data_extract,kY]
 have h:=List.prefix_iff_eq_take.1 (List.takeWhile_prefix p (l:=s.data.toList.drop i))
 rw[kF,show tw p s.data.toList i-i=((s.data.toList.drop i).takeWhile p).length by unfold tw;omega]
 exact h.symm
theorem qSp(l:List UInt8)(c:UInt8):numL (l++[c])=numS (numL l) c:=by simp[numL]
theorem qWs{p:UInt8→Bool}:∀{l:List UInt8} {c:UInt8},c∈l.takeWhile p→p c=true
 |[],_,h=>by simp at h
 |x::l,c,h=>by
  cases hx:p x with
  |true=>
   rw[kD hx] at h
   rcases jQ.1 h with rfl|h
   ·exact hx
   ·exact qWs h
  |false=>rw[kU (by simp[hx])] at h;cases h
theorem qXv{N:Nat}{ds:List UInt8}(hd:∀c∈ds,kd c=2)(hl:ds.length<1000000)(hN:ds.length<N):qBe (qFb N ds) N (0,0)=some (numL ds):=by
 have hb:∀j,j≤ds.length→0≤numL (ds.take j)∧numL (ds.take j)≤9007199254740993:=by
  intro j
  induction j with
  |zero=>intro _;simp[numL]
  |succ j ih=>
   intro hj
   have:=ih (by omega)
   rw[jX (by omega)]
   have hc:=qUi _ (hd _ (gQ (show j<ds.length by omega)))
   rw[qSp]
   unfold numS
   split<;>omega
 have key:=qQv (f:=qFb N ds) (fun j=>(numL (ds.take j),(j:Int))) ds.length (numL ds) (fun j hj=> ?_) ?_ (N:=N) (by omega)
 ·exact key
 ·have hc:=qUi _ (hd _ (gQ hj))
  have h0:=hb j (by omega)
  simp only[qFb]
  rw[if_pos (by simpa using hj),qKh hj]
  simp only[j0]
  rw[wu8 (by omega) (by omega),wi64 (x:=10*numL (ds.take j)) (by omega) (by omega),wi64 (x:=((ds[j]).toNat:Int)-48) (by omega) (by omega),wi64 (x:=(j:Int)+1) (by omega) (by omega),wi64 (by omega) (by omega),jX hj,qSp]
  rfl
 ·simp only[qFb]
  rw[if_neg (by simp),List.take_length]
theorem qIz{s:ByteArray}{i e:Nat}(h1:i≤e)(h2:e≤s.data.toList.length):subB s (i:Int) (e:Int)=some (s.extract i e):=by
 have:=qCb s
 rw[qWu (by omega) (by omega) (by omega)]
 simp
theorem qZk{N:Nat}{s:ByteArray}{i j:Nat}(hj:j<s.data.toList.length)(hl:s.data.toList.length<1000000)(hb:qPa (s.data.toList[j])=true):qEc N s (i:Int) (j:Int)=some (.inl ((j:Int)+1)):=by
 have hs:=qCb s
 simp only[qPa,jP,j9,bne_iff_ne,ne_eq] at hb
 obtain⟨⟨h1,h2⟩,h3⟩:=hb
 have h3':¬((s.data.toList[j]).toNat:Int)=34:=fun e=>h3 (UInt8.toNat_inj.1 (by show _=34;omega))
 simp only[qEc,qJr hj,j0]
 rw[if_pos (by simp only[j9];omega),if_pos (by simp only[j9];omega)]
 simp only[j0]
 rw[if_pos (by simp only[j9];omega),if_neg (by simpa using h3'),wi64 (by omega) (by omega)]
theorem zAa{N:Nat}{s:ByteArray}{i j:Nat}(hi:i<s.data.toList.length)(hj:j<s.data.toList.length)(hl:s.data.toList.length<1000000)(hij:i+1≤j)(hb:qPa (s.data.toList[j])=false):
  qEc N s (i:Int) (j:Int)=some (.inr (if s.data.toList.getD j 0=34 then(.inr ((3,s.extract (i+1) j,0,0),((j+1:Nat):Int),0)) else(.inl ()))):=by
 have hs:=qCb s
 simp only[qEc,qJr hj,j0,qGx hj]
 rw[if_pos (by simp only[j9];omega)]
 by_cases h34:s.data.toList[j]=34
 ·rw[h34]
  simp only[show((34:UInt8).toNat:Int)=34 from rfl]
  rw[wi64 (x:=(i:Int)+1) (by omega) (by omega),wi64 (by omega) (by omega),←Int.natCast_succ,qIz hij (by omega)]
  rfl
 ·have h3':¬((s.data.toList[j]).toNat:Int)=34:=fun e=>h34 (UInt8.toNat_inj.1 (by show _=34;omega))
  rw[if_neg h34]
  simp only[qPa,Bool.and_eq_false_iff,decide_eq_false_iff_not,bne_eq_false_iff_eq,h34,or_false] at hb
  by_cases h1:32≤(s.data.toList[j]).toNat
  ·rw[if_pos (by simp only[j9];omega)]
   simp only[j0]
   rw[if_neg (by simp only[j9];omega)]
  ·rw[if_neg (by simp only[j9];omega)]
   simp
theorem qOm{s:ByteArray}{i:Nat}(h1:i≤s.data.toList.length):subB s (i:Int) (s.size:Int)=some (s.extract i s.data.toList.length):=by
 have hs:=qCb s
 rw[←qIz h1 (jH _),hs]
theorem qGf(x y:ByteArray):(x.toList==y.toList)=decide (x=y):=by
 rw[kI]
 simp only[kN,j9]
 constructor
 ·intro h
  rw[ByteArray.toList_eq,ByteArray.toList_eq] at h
  exact Go.WideShapes.bytes_inj h
 ·rintro rfl;rfl
theorem qWx{N:Nat}{s:ByteArray}{i:Nat}(hi:i<s.data.toList.length):qFd N (s.extract i s.data.toList.length) (⟨#[61,61]⟩:ByteArray)=some (decide (s.data.toList.getD i 0=61∧s.data.toList.getD (i+1) 0=61)):=by
 have hs:=qCb s
 have hsz:(s.extract i s.data.toList.length).size=s.data.toList.length-i:=by rw[ByteArray.size_extract];omega
 simp only[qFd,qDa,hsz,show(⟨#[61,61]⟩:ByteArray).size=2 from rfl]
 by_cases h:i+1<s.data.toList.length
 ·have hd:((s.extract i s.data.toList.length).extract 0 2).data.toList=[s.data.toList[i],s.data.toList[i+1]]:=by
   simp only[ByteArray.data_extract,kY,kF,g9]
   rw[List.take_take,jJ hi,jJ h]
   have:min (2-0) (s.data.toList.length-i)=2:=by omega
   rw[this];rfl
  have hsub:subB (s.extract i s.data.toList.length) 0 ((2:Nat):Int)=some ((s.extract i s.data.toList.length).extract 0 2):=by
   have:=qIz (s:=s.extract i s.data.toList.length) (i:=0) (e:=2) (by omega) (by rw[qCb,hsz];omega)
   simpa only[Int.natCast_zero] using this
  rw[if_pos (by simp only[j9];omega),hsub]
  simp only[j0,qGf]
  rw[qGx hi,qGx h]
  generalize (s.extract i s.data.toList.length).extract 0 2=X at hd
  refine congrArg some (decide_eq_decide.2 ?_)
  constructor
  ·intro e
   rw[e] at hd
   have hd':[(61:UInt8),61]=[s.data.toList[i],s.data.toList[i+1]]:=hd
   simp only[gI,and_true] at hd'
   exact⟨hd'.1.symm,hd'.2.symm⟩
  ·rintro⟨e1,e2⟩
   apply Go.WideShapes.bytes_inj
   rw[hd,e1,e2]
 ·rw[if_neg (by simp only[j9];omega)]
  have h0:s.data.toList.getD (i+1) 0=0:=by rw[jU,List.getElem?_eq_none (by omega)];rfl
  rw[h0]
  simp
theorem qXn{N:Nat}{s:ByteArray}{i:Nat}(hi:i<s.data.toList.length)(hl:s.data.toList.length<1000000)(hN:s.data.toList.length+20<N):qIk N s (i:Int) (some kdL)=some (tokP s i):=by
 have hs:=qCb s
 simp only[qIk,qJr hi,j0,qVi,tokP,qGx hi,kN]
 by_cases h1:kd (s.data.toList[i])=1
 ·simp only[h1,jM]
  have hb:=qMn (p:=inK [1,2,3]) (l:=s.data.toList) (a:=i) (by omega)
  rw[qNy (by omega) hl (by simp) (by omega)]
  simp only[j0]
  rw[wi64 (by omega) (by omega),qIz hb.1 hb.2]
  by_cases h:tw (inK [1,2,3]) s.data.toList i-i>24
  ·rw[if_pos (by simp only[j9];omega),if_pos h];rfl
  ·rw[if_neg (by simp only[j9];omega),if_neg h];rfl
 simp only[h1,jL]
 by_cases h2:kd (s.data.toList[i])=2
 ·simp only[h2,jM]
  have hb:=qMn (p:=inK [2]) (l:=s.data.toList) (a:=i) (by omega)
  have hx:=qCb (s.extract i (tw (inK [2]) s.data.toList i))
  have he:=qRb (s:=s) (p:=inK [2]) (i:=i)
  have hlen:((s.data.toList.drop i).takeWhile (inK [2])).length≤s.data.toList.length:=by
   have:=(gL (inK [2]) (l:=s.data.toList.drop i)).length_le
   simp only[gA] at this;omega
  rw[qNy (by omega) hl (by simp) (by omega)]
  simp only[j0]
  rw[qIz hb.1 hb.2]
  simp only[j0]
  have hbo:qKq (s.extract i (tw (inK [2]) s.data.toList i))=some ((s.data.toList.drop i).takeWhile (inK [2])):=by
   unfold qKq;rw[←he,if_pos];rw[←hx,he];simp only[maxLen];omega
  rw[hbo]
  simp only[j0]
  rw[qXv (fun c hc=> ?_) (by omega) (by omega)]
  ·simp only[j0,j9]
   split<;>rfl
  ·have:=qWs hc
   simpa[inK] using this
 simp only[h2,jL]
 by_cases h7:kd (s.data.toList[i])=7
 ·simp only[h7,jM]
  have key:=qTy (a0:=i+1) (f:=qEc N s (i:Int)) (l:=s.data.toList) (p:=qPa) (fun e=>if s.data.toList.getD e 0=34 then(.inr ((3,s.extract (i+1) e,0,0),((e+1:Nat):Int),0)) else(.inl ()))
   (fun j hj hb=>qZk hj hl hb) (fun j hj h0 hb=>zAa hi hj hl h0 hb) (by
    simp only[qEc]
    rw[if_neg (by simp only[j9];omega),if_neg (by simp)]
    rfl) (s.data.toList.length-(i+1)) (i+1) N (jH _) (by omega) (by omega)
  rw[wi64 (x:=(i:Int)+1) (by omega) (by omega),←Int.natCast_succ,key]
  simp only[j0]
  split
  ·rename_i h;split at h<;>simp_all [qWl]
  ·rename_i h;split at h<;>simp_all
 simp only[h7,jL]
 by_cases h8:kd (s.data.toList[i])=8
 ·simp only[h8,jM]
  rw[qOm (by omega),wi64 (x:=(i:Int)+1) (by omega) (by omega)]
  simp only[j0]
  rw[qWx hi]
  simp only[j0,j9]
  by_cases h:s.data.toList.getD i 0=61∧s.data.toList.getD (i+1) 0=61
  ·have hlt:i+1<s.data.toList.length:=by
    rcases gD (i+1) s.data.toList.length with h'|h'
    ·exact h'
    ·have h0:s.data.toList.getD (i+1) 0=0:=by rw[jU,List.getElem?_eq_none h'];rfl
     rw[h0] at h;exact absurd h.2 (by decide)
   have hE:qRh s.data.toList i=i+2:=by rw[qRh,if_pos h]
   rw[if_pos h,wi64 (by omega) (by omega),hE]
   simp only[j0]
   rw[show((i:Int)+1+1)=((i+2:Nat):Int) by omega,qIz (by omega) (by omega)]
   rfl
  ·have hE:qRh s.data.toList i=i+1:=by rw[qRh,if_neg h]
   rw[if_neg h,hE]
   simp only[j0]
   rw[←Int.natCast_succ,qIz (by omega) (by omega)]
   rfl
 simp only[h8,jL]
 rfl
end
section
open Go Go.Dc
theorem qYe{p:UInt8→Bool}{l:List UInt8}(h:∀c∈l,p c=true):tw p l 0=l.length:=by
 unfold tw
 have:l.takeWhile p=l:=by
  induction l with
  |nil=>rfl
  |cons c l ih=>rw[kD (h c (jW ..)),ih fun d hd=>h d (k7 _ hd)]
 simp[this]
end
section
open Go Go.Dc
abbrev Tok:=Int×ByteArray×Int×Int
theorem qUd{ks:List Int}{k:Int}{c:UInt8}(hk:k∈ks)(h:kd c=k):inK ks c=true:=by
 unfold inK;exact kM.2 ⟨k,hk,by simp[h]⟩
theorem qSo{p:UInt8→Bool}{l:List UInt8}{a:Nat}(h:a<l.length)(hp:p l[a]=true):a<tw p l a:=by
 rw[←qMx h hp];have:=(qMn (p:=p) (l:=l) (a:=a+1) (by omega)).1;omega
theorem qTz{l:List UInt8}{i:Nat}(h:l.getD i 0≠0):i<l.length:=by
 rcases gD i l.length with h'|h'
 ·exact h'
 ·exfalso;apply h;rw[jU,List.getElem?_eq_none h'];rfl
theorem qSu{s:ByteArray}{i:Nat}(hi:i<s.data.toList.length)(h:(tokP s i).2.2=0):∃e:Nat,(tokP s i).2.1=(e:Int)∧i<e∧e≤s.data.toList.length∧
  (((tokP s i).1.1=1∨(tokP s i).1.1=4)∧(tokP s i).1.2.1=s.extract i e∨(tokP s i).1.1=2∧(tokP s i).1.2.1=⟨#[]⟩∨(tokP s i).1.1=3∧(tokP s i).1.2.1.size+i<e):=by
 have hs:=qCb s
 unfold tokP at h ⊢
 rw[qGx hi] at h ⊢
 by_cases h1:kd (s.data.toList[i])=1
 ·rw[if_pos h1] at h ⊢
  split at h
  ·cases h
  ·rename_i h24
   rw[if_neg h24]
   have hb:=qMn (p:=inK [1,2,3]) (l:=s.data.toList) (a:=i) (by omega)
   exact⟨_,rfl,qSo hi (qUd (by simp) h1),hb.2,.inl ⟨.inl rfl,rfl⟩⟩
 rw[if_neg h1] at h ⊢
 by_cases h2:kd (s.data.toList[i])=2
 ·rw[if_pos h2] at h ⊢
  split at h
  ·cases h
  ·rename_i h24
   rw[if_neg h24]
   have hb:=qMn (p:=inK [2]) (l:=s.data.toList) (a:=i) (by omega)
   exact⟨_,rfl,qSo hi (qUd (by simp) h2),hb.2,.inr (.inl ⟨rfl,rfl⟩)⟩
 rw[if_neg h2] at h ⊢
 by_cases h7:kd (s.data.toList[i])=7
 ·rw[if_pos h7] at h ⊢
  split at h
  ·rename_i h24
   rw[if_pos h24]
   have hb:=qMn (p:=qPa) (l:=s.data.toList) (a:=i+1) (by omega)
   have hlt:tw qPa s.data.toList (i+1)<s.data.toList.length:=qTz (by rw[h24];decide)
   refine⟨_,rfl,by omega,by omega,.inr (.inr ⟨rfl,?_⟩)⟩
   simp only[ByteArray.size_extract]
   omega
  ·cases h
 rw[if_neg h7] at h ⊢
 by_cases h8:kd (s.data.toList[i])=8
 ·rw[if_pos h8] at h ⊢
  refine⟨_,rfl,?_,?_,.inl ⟨.inr rfl,rfl⟩⟩
  ·unfold qRh;split<;>omega
  ·unfold qRh
   split
   ·rename_i hh
    have:i+1<s.data.toList.length:=qTz (by rw[hh.2];decide)
    omega
   ·omega
 rw[if_neg h8] at h
 cases h
def qGl(c:UInt8):Bool:=c !=10
def tokG:Nat→ByteArray→Nat→(Int×Int)⊕List Tok
 |0,_,_=> .inr []
 |k+1,s,i=>
  if tw (inK [5]) s.data.toList i=s.data.toList.length then .inr [(5,⟨#[]⟩,0,(s.data.toList.length:Int))]
  else if kd (s.data.toList.getD (tw (inK [5]) s.data.toList i) 0)=6 then tokG k s (tw qGl s.data.toList (tw (inK [5]) s.data.toList i))
  else if(tokP s (tw (inK [5]) s.data.toList i)).2.2≠0 then .inl ((tw (inK [5]) s.data.toList i:Nat),(tokP s (tw (inK [5]) s.data.toList i)).2.2)
  else match tokG k s (tokP s (tw (inK [5]) s.data.toList i)).2.1.toNat with
   | .inl x=> .inl x
   | .inr r=> .inr (((tokP s (tw (inK [5]) s.data.toList i)).1.1,(tokP s (tw (inK [5]) s.data.toList i)).1.2.1,(tokP s (tw (inK [5]) s.data.toList i)).1.2.2.1,((tw (inK [5]) s.data.toList i:Nat):Int))::r)
def qXe(acc:List Tok):(Int×Int)⊕List Tok→List Tok×Int×Int
 | .inl x=>([],x.1,x.2)
 | .inr r=>(acc++r,0,0)
def qGo(s:ByteArray):List Tok×Int×Int:=if s.data.toList.length>16384 then([],0,2) else qXe [] (tokG (s.data.toList.length+1) s 0)
theorem qYq{s:ByteArray}{i:Nat}(hi:i≤s.data.toList.length):
  (if ixB (s.extract i s.data.toList.length) 10<0 then((s.data.toList.length-i:Nat):Int) else ixB (s.extract i s.data.toList.length) 10)=((tw qGl s.data.toList i-i:Nat):Int):=by
 have hs:=qCb s
 have hsz:(s.extract i s.data.toList.length).size=s.data.toList.length-i:=by rw[ByteArray.size_extract];omega
 have hb:=qMn (p:=qGl) (l:=s.data.toList) (a:=i) hi
 have hget:∀j,j<s.data.toList.length-i→(s.extract i s.data.toList.length)[j]! =s.data.toList.getD (i+j) 0:=by
  intro j hj
  have hj':i+j<s.data.toList.length:=by omega
  rw[qGx hj',getElem!_pos _ _ (by rw[hsz];exact hj),ByteArray.getElem_extract]
  simp[ByteArray.getElem_eq_getElem_data]
 have hin:∀d a,a+d=s.data.toList.length→∀j,a≤j→j<tw qGl s.data.toList a→s.data.toList.getD j 0≠10:=by
  intro d
  induction d with
  |zero=>intro a ha j h1 h2;rw[qUb (by omega)] at h2;omega
  |succ d ih=>
   intro a ha j h1 h2
   have hlt:a<s.data.toList.length:=by omega
   cases hc:qGl (s.data.toList[a]) with
   |true=>
    rw[←qMx hlt hc] at h2
    rcases Nat.eq_or_lt_of_le h1 with rfl|h1
    ·rw[qGx hlt];simpa[qGl] using hc
    ·exact ih (a+1) (by omega) j h1 h2
   |false=>rw[qOh hlt hc] at h2;omega
 have hin:=hin (s.data.toList.length-i) i (by omega)
 unfold ixB
 rw[hsz]
 cases hf:(List.range (s.data.toList.length-i)).find? (fun j=>(s.extract i s.data.toList.length)[j]! ==(10:Int).toNat.toUInt8) with
 |none=>
  rw[List.find?_eq_none] at hf
  simp only
  rw[if_pos (by omega)]
  have:¬tw qGl s.data.toList i<s.data.toList.length:=by
   intro hlt
   have h1:=qWc (p:=qGl) (l:=s.data.toList) (s.data.toList.length-i) i (by omega) hlt
   have h2:=hf (tw qGl s.data.toList i-i) (kZ.2 (by omega))
   rw[hget _ (by omega),show i+(tw qGl s.data.toList i-i)=tw qGl s.data.toList i by omega,qGx hlt] at h2
   simp only[qGl,bne_eq_false_iff_eq] at h1
   rw[h1] at h2
   exact h2 (by decide)
  omega
 |some k=>
  have h1:=List.find?_some hf
  have hk:k<s.data.toList.length-i:=kZ.1 (kE hf)
  simp only
  rw[if_neg (by omega)]
  rw[hget k hk] at h1
  have h1:s.data.toList.getD (i+k) 0=10:=by simpa using h1
  have h2:¬i+k<tw qGl s.data.toList i:=fun h=>hin (i+k) (by omega) h h1
  have h3:¬tw qGl s.data.toList i<i+k:=by
   intro hlt
   have hlt':tw qGl s.data.toList i<s.data.toList.length:=by omega
   have h4:=qWc (p:=qGl) (l:=s.data.toList) (s.data.toList.length-i) i (by omega) hlt'
   have h5:=List.not_of_lt_findIdx (xs:=List.range (s.data.toList.length-i)) (p:=fun j=>(s.extract i s.data.toList.length)[j]! ==(10:Int).toNat.toUInt8) (i:=tw qGl s.data.toList i-i)
   have h6:=(List.find?_range_eq_some.1 hf).2.2 (tw qGl s.data.toList i-i) (by omega)
   rw[hget _ (by omega),show i+(tw qGl s.data.toList i-i)=tw qGl s.data.toList i by omega,qGx hlt'] at h6
   simp only[qGl,bne_eq_false_iff_eq] at h4
   rw[h4] at h6
   simp at h6
  omega
end
section
open Go Go.Dc
theorem qLw{N:Nat}{s:ByteArray}(hl:s.data.toList.length≤16384)(hN:s.data.toList.length+40<N):∀(k M i:Nat) (acc:List Tok),i≤s.data.toList.length→s.data.toList.length<i+k→k≤M→acc.length≤i→
  qBe (qFf N s (some kdL)) M (acc,(i:Int))=some (qXe acc (tokG k s i))
 |0,_,i,_,h1,h2,_,_=>by omega
 |k+1,0,_,_,_,_,h3,_=>by omega
 |k+1,M+1,i,acc,h1,h2,h3,h4=>by
  have hs:=qCb s
  have hb:=qMn (p:=inK [5]) (l:=s.data.toList) (a:=i) h1
  simp only[qBe,tokG]
  have hstep:qFf N s (some kdL) (acc,(i:Int))=if tw (inK [5]) s.data.toList i=s.data.toList.length then some (.inr (acc++[(5,⟨#[]⟩,0,(s.data.toList.length:Int))],0,0))
    else if kd (s.data.toList.getD (tw (inK [5]) s.data.toList i) 0)=6 then some (.inl (acc,((tw qGl s.data.toList (tw (inK [5]) s.data.toList i):Nat):Int)))
    else if(tokP s (tw (inK [5]) s.data.toList i)).2.2≠0 then some (.inr ([],(tw (inK [5]) s.data.toList i:Nat),(tokP s (tw (inK [5]) s.data.toList i)).2.2))
    else some (.inl (acc++[((tokP s (tw (inK [5]) s.data.toList i)).1.1,(tokP s (tw (inK [5]) s.data.toList i)).1.2.1,(tokP s (tw (inK [5]) s.data.toList i)).1.2.2.1,((tw (inK [5]) s.data.toList i:Nat):Int))],(tokP s (tw (inK [5]) s.data.toList i)).2.1)):=by
   simp only[qFf]
   rw[qNy h1 (by omega) (by simp) (by omega)]
   simp only[j0]
   generalize hE:tw (inK [5]) s.data.toList i=e at hb ⊢
   by_cases he:e=s.data.toList.length
   ·rw[if_pos he,if_pos (by rw[kN];omega),qFx (by simp only[jF,jK];omega) (by omega),he]
    rfl
   ·have hlt:e<s.data.toList.length:=by omega
    rw[if_neg he,if_neg (by rw[kN];omega),qJr hlt]
    simp only[j0,qVi,kN,qGx hlt]
    by_cases h6:kd (s.data.toList[e])=6
    ·rw[if_pos h6,if_pos h6,qOm (by omega)]
     have hle:=qYq (s:=s) (i:=e) (by omega)
     have hb2:=qMn (p:=qGl) (l:=s.data.toList) (a:=e) (by omega)
     have hx:(if(decide (ixB (s.extract e s.data.toList.length) 10<0))=true then(some (IntKind.wrap .i64 ((ByteArray.size s:Int)-(e:Int)))) else(some (ixB (s.extract e s.data.toList.length) 10)):Option Int)=some ((tw qGl s.data.toList e-e:Nat):Int):=by
      rw[←hle,wi64 (by omega) (by omega)]
      by_cases hi:ixB (s.extract e s.data.toList.length) 10<0
      ·rw[if_pos (by simpa using hi),if_pos hi];congr 1;omega
      ·rw[if_neg (by simpa using hi),if_neg hi]
     simp only[j0,qGi,qBu]
     rw[hx]
     simp only[j0]
     rw[wi64 (by omega) (by omega)]
     congr 3;omega
    ·rw[if_neg h6,if_neg h6,qXn hlt (by omega) (by omega)]
     simp only[j0,bne_iff_ne]
     by_cases h0:(tokP s e).2.2≠0
     ·rw[if_pos h0,if_pos h0]
     ·rw[if_neg h0,if_neg h0,qFx (by simp only[jF,jK];omega) (by omega)]
      rfl
  rw[hstep]
  by_cases he:tw (inK [5]) s.data.toList i=s.data.toList.length
  ·rw[if_pos he,if_pos he];rfl
  rw[if_neg he,if_neg he]
  have hlt:tw (inK [5]) s.data.toList i<s.data.toList.length:=by omega
  by_cases h6:kd (s.data.toList.getD (tw (inK [5]) s.data.toList i) 0)=6
  ·rw[if_pos h6,if_pos h6]
   have hb2:=qMn (p:=qGl) (l:=s.data.toList) (a:=tw (inK [5]) s.data.toList i) (by omega)
   have hpos:=qSo (p:=qGl) hlt (by
    rw[qGx hlt] at h6
    simp only[qGl,bne_iff_ne,ne_eq]
    intro e;rw[e] at h6;exact absurd h6 (by decide))
   exact qLw hl hN k M _ acc hb2.2 (by omega) (by omega) (by omega)
  rw[if_neg h6,if_neg h6]
  by_cases h0:(tokP s (tw (inK [5]) s.data.toList i)).2.2≠0
  ·rw[if_pos h0,if_pos h0];rfl
  rw[if_neg h0,if_neg h0]
  obtain⟨e,he1,he2,he3,_⟩:=qSu hlt (by simpa using h0)
  rw[he1]
  simp only[j0,jY]
  rw[qLw hl hN k M e _ he3 (by omega) (by omega) (by simp;omega)]
  cases tokG k s e with
  |inl x=>rfl
  |inr r=>simp[qXe]
theorem qWg{N:Nat}{s:ByteArray}(hN:20000<N):qHt N s=some (qGo s):=by
 have hs:=qCb s
 unfold qHt qGo
 by_cases h:s.data.toList.length>16384
 ·rw[if_pos (by simp only[j9];omega),if_pos h]
 ·rw[if_neg (by simp only[j9];omega),if_neg h,qQw (by omega)]
  have:=qLw (N:=N) (s:=s) (by omega) (by omega) (s.data.toList.length+1) N 0 [] (by omega) (by omega) (by omega) (by simp)
  simp only[j0]
  rw[show((0:Nat):Int)=0 from rfl] at this
  rw[this]
  rfl
def endT(t:Tok):Int:=t.2.2.2+(t.2.1.size:Int)+(if t.1=2 then 1 else 0)
def qZr(s:ByteArray):Int→List Tok→Prop
 |_,[]=>True
 |e,t::r=>e≤t.2.2.2∧t.2.2.2+(t.2.1.size:Int)≤s.size∧(t.1=5↔r=[])∧(t.1=1∨t.1=4→s.extract t.2.2.2.toNat (t.2.2.2+(t.2.1.size:Int)).toNat=t.2.1∧0<t.2.1.size)∧qZr s (endT t) r
theorem qMz{s:ByteArray}:∀(k i:Nat) (e:Int) (r:List Tok),i≤s.data.toList.length→s.data.toList.length<i+k→e≤i→tokG k s i= .inr r→qZr s e r∧r≠[]∧r.length≤s.data.toList.length+1-i
 |0,i,e,r,h1,h2,h3,h4=>by omega
 |k+1,i,e,r,h1,h2,h3,h4=>by
  have hs:=qCb s
  have hb:=qMn (p:=inK [5]) (l:=s.data.toList) (a:=i) h1
  simp only[tokG] at h4
  generalize hE:tw (inK [5]) s.data.toList i=a at hb h4
  split at h4
  ·obtain rfl:=(Sum.inr.inj h4).symm
   refine⟨⟨by show e≤(s.data.toList.length:Int);omega,by show(s.data.toList.length:Int)+((0:Nat):Int)≤_;omega,by simp,fun h=>by simp at h,trivial⟩,by simp,by simp;omega⟩
  ·rename_i he
   have hlt:a<s.data.toList.length:=by omega
   split at h4
   ·rename_i h6
    have hb2:=qMn (p:=qGl) (l:=s.data.toList) (a:=a) (by omega)
    have hpos:=qSo (p:=qGl) hlt (by
     rw[qGx hlt] at h6
     simp only[qGl,bne_iff_ne,ne_eq]
     intro e;rw[e] at h6;exact absurd h6 (by decide))
    obtain⟨g1,g2,g3⟩:=qMz k _ e r hb2.2 (by omega) (by omega) h4
    exact⟨g1,g2,by omega⟩
   ·split at h4
    ·cases h4
    ·rename_i h0
     obtain⟨b,hb1,hb2,hb3,hk⟩:=qSu hlt (by simpa using h0)
     rw[hb1,jY] at h4
     generalize (tokP s a).1=t at h4 hk
     cases hG:tokG k s b with
     |inl x=>rw[hG] at h4;cases h4
     |inr q=>
      rw[hG] at h4
      obtain rfl:=(Sum.inr.inj h4).symm
      have hext:(s.extract a b).size=b-a:=by rw[ByteArray.size_extract];omega
      have hend:endT (t.1,t.2.1,t.2.2.1,(a:Int))≤b∧(a:Int)+(t.2.1.size:Int)≤b∧t.1≠5∧(t.1=1∨t.1=4→t.2.1=s.extract a b):=by
       rcases hk with ⟨hk1,hk2⟩|⟨hk1,hk2⟩|⟨hk1,hk2⟩
       ·refine⟨?_,?_,by omega,fun _=>hk2⟩
        ·simp only[endT,hk2,hext];rw[if_neg (by omega)];omega
        ·rw[hk2,hext];omega
       ·have:(⟨#[]⟩:ByteArray).size=0:=rfl
        refine⟨?_,?_,by omega,fun h=>by omega⟩
        ·simp only[endT,hk2,this];rw[if_pos hk1];omega
        ·rw[hk2,this];omega
       ·refine⟨?_,by omega,by omega,fun h=>by omega⟩
        simp only[endT];rw[if_neg (by omega)];omega
      obtain⟨g1,g2,g3⟩:=qMz k b (endT (t.1,t.2.1,t.2.2.1,(a:Int))) q hb3 (by omega) hend.1 hG
      refine⟨⟨by show e≤(a:Int);omega,?_,?_,?_,g1⟩,by simp,by simp only[jF];omega⟩
      ·show(a:Int)+(t.2.1.size:Int)≤_;omega
      ·exact⟨fun h=>absurd h hend.2.2.1,fun h=>absurd h g2⟩
      ·intro h
       have:=hend.2.2.2 h
       show s.extract (Int.toNat (a:Int)) ((a:Int)+(t.2.1.size:Int)).toNat=t.2.1∧0<t.2.1.size
       rw[this,hext,jY,show((a:Int)+((b-a:Nat):Int)).toNat=b by omega]
       exact⟨rfl,by omega⟩
theorem qQk{s:ByteArray}:∀(k i:Nat) (x:Int×Int),i≤s.data.toList.length→s.data.toList.length<i+k→tokG k s i= .inl x→0≤x.1∧x.1≤s.size∧x.2≠0
 |0,i,x,h1,h2,h4=>by omega
 |k+1,i,x,h1,h2,h4=>by
  have hs:=qCb s
  have hb:=qMn (p:=inK [5]) (l:=s.data.toList) (a:=i) h1
  simp only[tokG] at h4
  generalize hE:tw (inK [5]) s.data.toList i=a at hb h4
  split at h4
  ·cases h4
  ·rename_i he
   have hlt:a<s.data.toList.length:=by omega
   split at h4
   ·rename_i h6
    have hb2:=qMn (p:=qGl) (l:=s.data.toList) (a:=a) (by omega)
    have hpos:=qSo (p:=qGl) hlt (by
     rw[qGx hlt] at h6
     simp only[qGl,bne_iff_ne,ne_eq]
     intro e;rw[e] at h6;exact absurd h6 (by decide))
    exact qQk k _ x hb2.2 (by omega) h4
   ·split at h4
    ·rename_i h0
     obtain rfl:=Sum.inl.inj h4
     exact⟨by simp only;omega,by simp only;omega,h0⟩
    ·rename_i h0
     obtain⟨b,hb1,hb2,hb3,hk⟩:=qSu hlt (by simpa using h0)
     rw[hb1,jY] at h4
     cases hG:tokG k s b with
     |inl y=>rw[hG] at h4;obtain rfl:=Sum.inl.inj h4;exact qQk k b y hb3 (by omega) hG
     |inr q=>rw[hG] at h4;cases h4
end
section
open Go Go.Dc
end
section
open Go Go.Dc
end
section
open Go Go.Dc
def qOu(s:ByteArray):Bool:=decide (1≤s.data.toList.length∧s.data.toList.length≤24∧kd (s.data.toList.getD 0 0)=1∧tw (inK [1,2,3]) s.data.toList 0=s.data.toList.length)
theorem qQq{s:ByteArray}(h:¬(1≤s.data.toList.length∧s.data.toList.length≤24∧kd (s.data.toList.getD 0 0)=1∧tw (inK [1,2,3]) s.data.toList 0=s.data.toList.length)):false=qOu s:=(gF h).symm
theorem qWt{N:Nat}{s:ByteArray}(hN:100<N):qHo N s=some (qOu s):=by
 have hs:=qCb s
 simp only[qHo,qQw (show 30<N by omega),j0]
 by_cases h1:1≤s.data.toList.length
 ·by_cases h2:s.data.toList.length≤24
  ·rw[if_pos (by simp only[j9];omega),if_pos (by simp only[j9];omega)]
   have hi:=qJr (s:=s) (i:=0) (by omega)
   rw[show((0:Nat):Int)=0 from rfl] at hi
   rw[hi]
   simp only[j0,qVi,kN]
   have hsp:=qNy (N:=N) (s:=s) (ks:=[1,2,3]) (i:=0) (by omega) (by omega) (by simp) (by omega)
   rw[show((0:Nat):Int)=0 from rfl] at hsp
   by_cases h3:kd (s.data.toList[0])=1
   ·rw[if_pos h3,hsp]
    simp only[j0]
    congr 1
    rw[kI,kN,qOu,j9,qGx (by omega)]
    exact⟨fun h=>⟨h1,h2,h3,by omega⟩,fun h=>by have:=h.2.2.2;omega⟩
   ·rw[if_neg h3]
    refine congrArg some (qQq fun h=> ?_)
    rw[qGx (by omega)] at h
    exact h3 h.2.2.1
  ·rw[if_pos (by simp only[j9];omega),if_neg (by simp only[j9];omega)]
   exact congrArg some (qQq fun h=>h2 h.2.1)
 ·rw[if_neg (by simp only[j9];omega)]
  exact congrArg some (qQq fun h=>h1 h.1)
end
section
open Go Go.Dc
def sp:List UInt8→List (List UInt8)
 |[]=>[[]]
 |c::l=>if c=47 then[]::sp l else match sp l with
  |[]=>[[c]]
  |p::q=>(c::p)::q
theorem zAb:∀l:List UInt8,sp l≠[]
 |[]=>by simp[sp]
 |c::l=>by
  simp only[sp]
  split
  ·simp
  ·split<;>simp
theorem qVh:∀l:List UInt8,(sp l).length=l.count 47+1
 |[]=>rfl
 |c::l=>by
  simp only[sp]
  split
  ·rename_i h;subst h;simp[qVh l]
  ·rename_i h
   have:=qVh l
   split
   ·rename_i e;exact absurd e (zAb l)
   ·rename_i e
    rw[e] at this
    simp only[jF] at this ⊢
    rw[List.count_cons_of_ne h,←this]
def qIb(c:UInt8):Bool:=c !=47
theorem qVs:∀l:List UInt8,sp l=if(l.takeWhile qIb).length=l.length then[l] else l.takeWhile qIb::sp (l.drop ((l.takeWhile qIb).length+1))
 |[]=>rfl
 |c::l=>by
  have ih:=qVs l
  by_cases h:c=47
  ·subst h
   rw[kU (by decide)]
   simp[sp]
  ·have hc:qIb c=true:=by simpa[qIb] using h
   rw[kD hc]
   simp only[sp,h,jL,ih,jF,Nat.add_right_cancel_iff,List.drop_succ_cons]
   by_cases he:(l.takeWhile qIb).length=l.length
   ·simp[he]
   ·simp[he]
def qUy(l:List UInt8):Bool:=decide (l.length≤80∧(sp l).length≤8∧∀p∈sp l,1≤p.length∧p.length≤24∧∀c∈p,inK [1,2,3,4] c=true)
end
section
open Go Go.Dc
theorem tw_is{p:UInt8→Bool}{l:List UInt8}{k:Nat}(hk:k<l.length)(h1:∀j,∀h:j<l.length,j<k→p l[j]=true)(h2:p l[k]=false):tw p l 0=k:=by
 have key:∀d j,j+d=k→tw p l j=k:=by
  intro d
  induction d with
  |zero=>
   intro j h
   have:j=k:=by omega
   subst this
   exact qOh hk h2
  |succ d ih=>intro j h;rw[←qMx (by omega) (h1 j (by omega) (by omega))];exact ih (j+1) (by omega)
 exact key k 0 (by omega)
theorem ix_eq(x:ByteArray):ixB x 47=if(x.data.toList.takeWhile qIb).length=x.data.toList.length then-1 else((x.data.toList.takeWhile qIb).length:Int):=by
 have hs:=qCb x
 have htw:tw qIb x.data.toList 0=(x.data.toList.takeWhile qIb).length:=by simp[tw]
 have hget:∀j,∀h:j<x.data.toList.length,x[j]! =x.data.toList[j]:=by
  intro j hj
  rw[getElem!_pos x j (by omega)]
  simp[ByteArray.getElem_eq_getElem_data]
 have h47:(47:Int).toNat.toUInt8=47:=rfl
 rw[←htw]
 unfold ixB
 rw[h47,←hs]
 cases hf:(List.range x.data.toList.length).find? (fun j=>x[j]! ==47) with
 |none=>
  rw[List.find?_eq_none] at hf
  simp only
  rw[if_pos]
  refine qYe fun c hc=> ?_
  obtain⟨j,hj,rfl⟩:=List.getElem_of_mem hc
  have:=hf j (kZ.2 hj)
  rw[hget j hj] at this
  simpa[qIb] using this
 |some k=>
  have h1:=List.find?_some hf
  have hk:k<x.data.toList.length:=kZ.1 (kE hf)
  rw[hget k hk] at h1
  have e:tw qIb x.data.toList 0=k:=by
   refine tw_is hk (fun j h hj=> ?_) (by simpa[qIb] using h1)
   have:=(List.find?_range_eq_some.1 hf).2.2 j hj
   rw[hget j h] at this
   simpa[qIb] using this
  simp only
  rw[e,if_neg (by omega)]
theorem qXx{N:Nat}(x:ByteArray):qGg N x (⟨#[47]⟩:ByteArray)=some (ixB x 47):=by
 have h1:idxB (⟨#[47]⟩:ByteArray) 0=some 47:=by kernel_rfl
 simp only[qGg,qDt,qBu,show(⟨#[47]⟩:ByteArray).size=1 from rfl,qGf]
 rw[if_neg (by decide)]
 simp only[j0,j9]
 by_cases h:(⟨#[47]⟩:ByteArray)=x
 ·have h0:ixB (⟨#[47]⟩:ByteArray) 47=0:=by kernel_rfl
  rw[if_pos h,←h,h0]
  rfl
 ·rw[if_neg h,if_pos (by decide),h1]
  rfl
theorem cnt_eq(x:ByteArray):cntB x 47=((x.data.toList.count 47:Nat):Int):=by
 unfold cntB
 rw[Go.Lib.foldl_data]
 have key:∀(l:List UInt8) (n:Int),l.foldl (fun n x=>if x==(47:Int).toNat.toUInt8 then n+1 else n) n=n+((l.count 47:Nat):Int):=by
  intro l
  induction l with
  |nil=>intro n;simp
  |cons c l ih=>
   intro n
   rw[List.foldl_cons,ih,List.count_cons]
   have h47:(47:Int).toNat.toUInt8=47:=rfl
   rw[h47]
   by_cases h:(c==47)=true
   ·simp only[h,jM];omega
   ·simp only[h,jC,jL];omega
 rw[key]
 omega
theorem qZl{α:Type}(l:List α)(k:Nat)(a b:α):(l++List.replicate (k+1) a).set l.length b=(l++[b])++List.replicate k a:=by
 rw[List.set_append_right _ _ (jH _)]
 simp[List.replicate_succ]
theorem qPr{N n:Nat}{s:ByteArray}(hn:n<1000000000)(hns:n≤s.size+1)(hs:s.size<1000000000):∀(r M:Nat) (x:ByteArray) (done:List ByteArray),(sp x.data.toList).length=r→done.length+r=n→r<M→x.size<1000000000→
  ∃y D,qBe (qEn N s (⟨#[47]⟩:ByteArray) 0 (n:Int)) M (x,(done.length:Int),done++List.replicate r (⟨#[]⟩:ByteArray))=some (y,((n-1:Nat):Int),D++[(⟨#[]⟩:ByteArray)])∧D.length=n-1∧D++[y]=done++(sp x.data.toList).map qIr
 |_,0,_,_,_,_,h,_=>by omega
 |0,_,x,_,h,_,_,_=>by exact absurd (List.length_eq_zero_iff.1 h) (zAb _)
 |r+1,M+1,x,done,h1,h2,h3,h4=>by
  have hxs:=qCb x
  have hmin:(if IntKind.wrap .i64 ((s.size:Int)+1)<(n:Int) then IntKind.wrap .i64 ((s.size:Int)+1) else(n:Int))=(n:Int):=by
   rw[wi64 (by omega) (by omega)];split<;>omega
  have hstep:=qVs x.data.toList
  simp only[qBe,qEn]
  rw[hmin,wi64 (x:=(n:Int)-1) (by omega) (by omega)]
  by_cases hlast:(x.data.toList.takeWhile qIb).length=x.data.toList.length
  ·rw[if_pos hlast] at hstep
   rw[hstep] at h1
   simp only[jF,jK] at h1
   have hr:r=0:=by omega
   subst hr
   rw[if_neg (by simp only[j9];omega)]
   refine⟨x,done,?_,by omega,?_⟩
   ·simp only[j0]
    rw[show(n-1:Nat)=done.length by omega]
    rfl
   ·rw[hstep];simp[qIr]
  ·rw[if_neg hlast] at hstep
   rw[hstep] at h1
   simp only[jF] at h1
   have hpos:0<(sp (x.data.toList.drop ((x.data.toList.takeWhile qIb).length+1))).length:=List.length_pos_iff.2 (zAb _)
   have hle:(x.data.toList.takeWhile qIb).length≤x.data.toList.length:=(gL _).length_le
   have hix:=ix_eq x
   rw[if_neg hlast] at hix
   rw[if_pos (by simp only[j9];omega),qXx,hix]
   simp only[j0,show(⟨#[47]⟩:ByteArray).size=1 from rfl]
   have he:(x.data.toList.takeWhile qIb)=x.data.toList.take (x.data.toList.takeWhile qIb).length:=List.prefix_iff_eq_take.1 (List.takeWhile_prefix _)
   have hx1:x.extract 0 (x.data.toList.takeWhile qIb).length=qIr (x.data.toList.takeWhile qIb):=by
    apply Go.WideShapes.bytes_inj
    simp only[ByteArray.data_extract,kY,kF,qIr,g9,Nat.sub_zero]
    exact he.symm
   have hx2:(x.extract ((x.data.toList.takeWhile qIb).length+1) x.data.toList.length).data.toList=x.data.toList.drop ((x.data.toList.takeWhile qIb).length+1):=by
    simp only[ByteArray.data_extract,kY,kF]
    exact gK (by simp only[gA];omega)
   generalize hk:(x.data.toList.takeWhile qIb).length=k at*
   rw[if_neg (by simp only[j9];omega),wi64 (x:=(k:Int)+0) (by omega) (by omega),Int.add_zero]
   have hsub0:subB x 0 (k:Int)=some (x.extract 0 k):=by
    have:=qIz (s:=x) (i:=0) (e:=k) (by omega) (by omega)
    simpa only[Int.natCast_zero] using this
   rw[hsub0]
   simp only[j0]
   rw[qKh (by simp),wi64 (x:=(k:Int)+((1:Nat):Int)) (by omega) (by omega),show((k:Int)+((1:Nat):Int))=((k+1:Nat):Int) by omega,qOm (by omega)]
   simp only[j0,jY]
   rw[qZl,hx1,wi64 (by omega) (by omega)]
   have hxs2:=qCb (x.extract (k+1) x.data.toList.length)
   rw[hx2,gA] at hxs2
   obtain⟨y,D,g1,g2,g3⟩:=qPr (N:=N) hn hns hs r M (x.extract (k+1) x.data.toList.length) (done++[qIr (x.data.toList.takeWhile qIb)]) (by rw[hx2];omega) (by simp;omega) (by omega) (by omega)
   refine⟨y,D,?_,g2,?_⟩
   ·rw[←g1];simp
   ·rw[g3,hx2,hstep];simp
termination_by r=>r
theorem qXc{N:Nat}{s:ByteArray}(hl:s.size<100000000)(hN:2*s.size+1000<N):qHk N s (⟨#[47]⟩:ByteArray)=some ((sp s.data.toList).map qIr):=by
 have hs:=qCb s
 have hlen:=qVh s.data.toList
 have hc:s.data.toList.count 47≤s.data.toList.length:=List.count_le_length
 have h1:idxB (⟨#[47]⟩:ByteArray) 0=some 47:=by kernel_rfl
 have hcount:qHl N s (⟨#[47]⟩:ByteArray)=some ((s.data.toList.count 47:Nat):Int):=by
  simp only[qHl,show(⟨#[47]⟩:ByteArray).size=1 from rfl]
  rw[if_neg (by decide),if_pos (by decide),h1]
  simp only[j0]
  rw[←cnt_eq];rfl
 simp only[qHk,qGr,qGf,hcount,j0]
 rw[if_neg (by decide),if_neg (by decide),if_pos (by decide)]
 simp only[j0]
 rw[wi64 (x:=((s.data.toList.count 47:Nat):Int)+1) (by omega) (by omega),show((s.data.toList.count 47:Nat):Int)+1=(((sp s.data.toList).length:Nat):Int) by omega]
 generalize hn:(sp s.data.toList).length=n at*
 have hmin:(if IntKind.wrap .i64 ((s.size:Int)+1)<(n:Int) then IntKind.wrap .i64 ((s.size:Int)+1) else(n:Int))=(n:Int):=by
  rw[wi64 (by omega) (by omega)];split<;>omega
 rw[hmin]
 have hm:qQd 16 (⟨#[]⟩:ByteArray) (n:Int)=some (List.replicate n (⟨#[]⟩:ByteArray)):=by
  unfold qQd
  rw[if_pos (by simp only[maxLen];omega),jY]
 rw[hm]
 simp only[j0]
 obtain⟨y,D,g1,g2,g3⟩:=qPr (N:=N) (n:=n) (s:=s) (by omega) (by omega) (by omega) n N s [] hn (by simp) (by omega) (by omega)
 simp only[jK,kQ] at g1 g3
 rw[show((0:Nat):Int)=0 from rfl] at g1
 rw[g1]
 simp only[j0]
 rw[qKh (by simp;omega)]
 simp only[j0,jY]
 have hset:(D++[(⟨#[]⟩:ByteArray)]).set (n-1) y=D++[y]:=by
  rw[←g2,List.set_append_right _ _ (jH _)];simp
 rw[hset,g3,wi64 (by omega) (by omega),show((n-1:Nat):Int)+1=(n:Int) by omega,qVy (by omega) (by omega) (by rw[gH,hn];omega)]
 simp only[j0,jY,Int.toNat_zero,g9]
 rw[gK (by rw[gH,hn];exact jH _)]
theorem qYj{p:UInt8→Bool}{l:List UInt8}:tw p l 0=l.length↔∀c∈l,p c=true:=by
 constructor
 ·intro h c hc
  have h1:(l.takeWhile p).length=l.length:=by simpa[tw] using h
  have h2:=(List.takeWhile_prefix p (l:=l)).eq_of_length h1
  rw[←h2] at hc
  exact qWs hc
 ·exact qYe
def qSz(x:ByteArray):Bool:=decide (1≤x.data.toList.length∧x.data.toList.length≤24∧∀c∈x.data.toList,inK [1,2,3,4] c=true)
theorem qRk(x:ByteArray):qSz x=true↔1≤x.data.toList.length∧x.data.toList.length≤24∧∀c∈x.data.toList,inK [1,2,3,4] c=true:=decide_eq_true_iff
theorem qZd{N:Nat}{x:ByteArray}(hN:100<N):(if(decide ((x.size:Int)<1))=true then(some true) else(if(decide ((x.size:Int)>24))=true then(some true) else((qFp N x 0 (some kdL) ([1,2,3,4])).bind fun y3=>some (y3 !=(x.size:Int)))))=some (!qSz x):=by
 have hs:=qCb x
 have hno:∀h:¬(1≤x.data.toList.length∧x.data.toList.length≤24∧∀c∈x.data.toList,inK [1,2,3,4] c=true),qSz x=false:=fun h=>gF h
 by_cases h1:1≤x.data.toList.length
 ·rw[if_neg (by simp only[j9];omega)]
  by_cases h2:x.data.toList.length≤24
  ·rw[if_neg (by simp only[j9];omega)]
   have hsp:=qNy (N:=N) (s:=x) (ks:=[1,2,3,4]) (i:=0) (by omega) (by omega) (by simp) (by omega)
   rw[show((0:Nat):Int)=0 from rfl] at hsp
   rw[hsp]
   simp only[j0]
   refine congrArg some ?_
   by_cases h3:tw (inK [1,2,3,4]) x.data.toList 0=x.data.toList.length
   ·have:qSz x=true:=k8 ⟨h1,h2,qYj.1 h3⟩
    rw[this,h3,hs]
    simp
   ·rw[hno fun h=>h3 (qYj.2 h.2.2)]
    simp only[gN,bne_iff_ne,ne_eq]
    omega
  ·rw[if_pos (by simp only[j9];omega),hno fun h=>h2 h.2.1]
   rfl
 ·rw[if_pos (by simp only[j9];omega),hno fun h=>h1 h.1]
  rfl
theorem qRu{N:Nat}{L:List ByteArray}(hL:L.length<1000)(hN:100<N):∀(d j M:Nat),j+d=L.length→d<M→qBe (qGj N L (some kdL)) M (j:Int)=some (if(L.drop j).all qSz=true then .inl () else .inr false)
 |d,j,0,_,h=>by omega
 |0,j,M+1,h1,h2=>by
  simp only[qBe,qGj]
  rw[if_neg (by simp only[j9];omega),jV (by omega)]
  rfl
 |d+1,j,M+1,h1,h2=>by
  have hj:j<L.length:=by omega
  simp only[qBe,qGj]
  rw[if_pos (by simp only[j9];omega),qKh hj]
  simp only[j0,qZd hN]
  rw[jJ hj,List.all_cons]
  cases hp:qSz L[j] with
  |true=>
   rw[if_neg (by simp),wi64 (by omega) (by omega)]
   simp only[j0,Bool.true_and]
   exact qRu hL hN d (j+1) M (by omega) (by omega)
  |false=>simp
theorem qYv{N:Nat}{s:ByteArray}(hl:s.size<100000000)(hN:2*s.size+1000<N):qGy N s=some (qUy s.data.toList):=by
 have hs:=qCb s
 have hno:∀h:¬(s.data.toList.length≤80∧(sp s.data.toList).length≤8∧∀p∈sp s.data.toList,1≤p.length∧p.length≤24∧∀c∈p,inK [1,2,3,4] c=true),qUy s.data.toList=false:=fun h=>gF h
 simp only[qGy,qXc hl hN,j0,gH]
 by_cases h80:s.data.toList.length≤80
 ·rw[if_neg (by simp only[j9];omega)]
  by_cases h8:(sp s.data.toList).length≤8
  ·have e8:decide (((sp s.data.toList).length:Int)>8)=false:=gF (by omega)
   simp only[j0,e8,jC,jL,qQw (show 30<N by omega)]
   have key:=qRu (N:=N) (L:=(sp s.data.toList).map qIr) (by rw[gH];omega) (by omega) _ 0 N (gC _) (by rw[gH];omega)
   rw[show((0:Nat):Int)=0 from rfl,g9] at key
   rw[key]
   simp only[j0]
   by_cases hp:((sp s.data.toList).map qIr).all qSz=true
   ·have:qUy s.data.toList=true:=k8 ⟨h80,h8,fun p hp'=>by
     have:=(qRk _).1 (jN.1 hp (qIr p) (k9 hp'))
     simpa[qIr] using this⟩
    rw[if_pos hp,this]
   ·rw[if_neg hp,hno fun h=>hp (jN.2 fun x hx=>by
     obtain⟨p,hp',rfl⟩:=List.mem_map.1 hx
     exact(qRk _).2 (by simpa[qIr] using h.2.2 p hp'))]
  ·have e8:decide (((sp s.data.toList).length:Int)>8)=true:=k8 (by omega)
   simp only[j0,e8,jM]
   rw[hno fun h=>h8 h.2.1]
 ·rw[if_pos (by simp only[j9];omega)]
  simp only[j0,jM]
  rw[hno fun h=>h80 h.1]
end
section
open Go Go.Dc
def run{α τ β:Type}(step:τ→α→τ⊕β)(fin:τ→β):List α→τ→β
 |[],t=>fin t
 |x::l,t=>match step t x with
  | .inl t'=>run step fin l t'
  | .inr b=>b
end
section
open Go Go.Dc
instance decMemB(s:ByteArray)(l:List ByteArray):Decidable (s∈l):=@List.instDecidableMemOfLawfulBEq ByteArray instBEqOfDecidableEq inferInstance s l
abbrev Ex:=Int×Int×Int×ByteArray×List Int
abbrev Dl:=Int×ByteArray×List ByteArray×List Ex
abbrev Sr:=ByteArray×List ByteArray×List Dl
abbrev Flt:=Int×Int
abbrev Ps:=Nat×List Ex
abbrev PM(α:Type):=Flt⊕(Ps×α)
def tkAt(ts:List Tok)(i:Nat):Tok:=ts.getD i (5,⟨#[]⟩,0,0)
def qGz{α:Type}(t:Tok)(e:Int):Flt⊕α:= .inl (t.2.2.2,e)
def qCr{α β:Type}(x:Flt⊕α)(f:α→Flt⊕β):Flt⊕β:=
 match x with
 | .inl z=> .inl z
 | .inr a=>f a
def isC(ts:List Tok)(k:Int)(s:ByteArray)(i:Nat):Bool:=(tkAt ts i).1==k&&decide ((tkAt ts i).2.1=s)
def qHe(ts:List Tok)(s:ByteArray)(i:Nat):Flt⊕Nat:=if isC ts 4 s i then .inr (i+1) else qGz (tkAt ts i) 9
def qPc(ts:List Tok)(s:ByteArray)(i:Nat):Flt⊕Nat:=if isC ts 1 s i then .inr (i+1) else qGz (tkAt ts i) 9
def qMa(ts:List Tok)(k:Int)(i:Nat):Flt⊕(Nat×Tok):=if(tkAt ts i).1=k then .inr (i+1,tkAt ts i) else qGz (tkAt ts i) 9
def qNo:ByteArray:=⟨#[112,97,99,107,97,103,101]⟩
def qRd:ByteArray:=⟨#[105,109,112,111,114,116]⟩
def qXa:ByteArray:=⟨#[102,117,110,99]⟩
def qXw:ByteArray:=⟨#[116,101,115,116]⟩
def sGen:ByteArray:=⟨#[103,101,110]⟩
def sIf:ByteArray:=⟨#[105,102]⟩
def qXs:ByteArray:=⟨#[116,104,101,110]⟩
def qXk:ByteArray:=⟨#[101,108,115,101]⟩
def qPe:ByteArray:=⟨#[114,101,97,100]⟩
def qOv:ByteArray:=⟨#[115,105,122,101]⟩
def sHas:ByteArray:=⟨#[104,97,115]⟩
def sEnv:ByteArray:=⟨#[101,110,118]⟩
def qRt:ByteArray:=⟨#[102,108,105,112]⟩
def qPd:ByteArray:=⟨#[40]⟩
def qJu:ByteArray:=⟨#[41]⟩
def qPp:ByteArray:=⟨#[44]⟩
def qVc:ByteArray:=⟨#[59]⟩
def sEq:ByteArray:=⟨#[61]⟩
def qYf:ByteArray:=⟨#[45]⟩
def qYl:List ByteArray:=[qNo,qRd,qXa,qXw,sGen,sIf,qXs,qXk,qPe,qOv,sHas,sEnv,qRt]
def resC(s:ByteArray):Bool:=decide (s∈qYl)
def qMo(ts:List Tok)(i:Nat):Flt⊕(Nat×Tok):=qCr (qMa ts 1 i) fun p=>if resC p.2.2.1 then qGz p.2 9 else .inr p
def qMy(ts:List Tok)(i:Nat):Flt⊕(Nat×Tok):=qCr (qMa ts 3 i) fun p=>if qUy p.2.2.1.data.toList then .inr p else qGz p.2 9
def qWm(ts:List Tok)(i:Nat):Flt⊕(Nat×Tok):=qCr (qMa ts 3 i) fun p=>if qOu p.2.2.1 then .inr p else qGz p.2 9
def qJw(t:Tok)(x:Ex)(p:Ps):PM Nat:=if p.2.length=256 then qGz t 2 else .inr ((p.1,p.2++[x]),p.2.length)
def opsC:List (Int×ByteArray):=[(1,⟨#[43]⟩),(2,⟨#[45]⟩),(3,⟨#[42]⟩),(4,⟨#[47]⟩),(5,⟨#[37]⟩),(6,⟨#[60]⟩),(7,⟨#[61,61]⟩)]
def levP(op:Int):Nat:=if op=6∨op=7 then 1 else if op=1∨op=2 then 2 else 3
def isOp(ts:List Tok)(level:Nat)(i:Nat)(o:Int×ByteArray):Bool:=isC ts 4 o.2 i&&decide (levP o.1=level)
def opC(ts:List Tok)(level:Nat)(i:Nat):Int:=
 match opsC.find? (isOp ts level i) with
 |some o=>o.1
 |none=>0
section
variable (ts:List Tok) (params:List ByteArray) (E:Ps→PM Nat)
def qVe:Nat→List Int→Ps→PM (List Int)
 |0,_,p=>qGz (tkAt ts p.1) 9
 |n+1,l,p=>qCr (E p) fun q=>
  if isC ts 4 qPp q.1.1 then qVe n (l++[(q.2:Int)]) (q.1.1+1,q.1.2)
  else qCr (qHe ts qJu q.1.1) fun i=> .inr ((i,q.1.2),l++[(q.2:Int)])
def qHq(p:Ps):PM (List Int):=
 qCr (qHe ts qPd p.1) fun i=>if isC ts 4 qJu i then .inr ((i+1,p.2),[]) else qVe ts E (ts.length+1) [] (i,p.2)
def qKj(t:Tok)(p:Ps):PM Nat:=
 qCr (qHe ts qPd p.1) fun i=>
 qCr (if t.2.1=qPe then
   qCr (qMy ts i) fun a=>qCr (qHe ts qPp a.1) fun i=>qCr (E (i,p.2)) fun q=> .inr (q.1,((6,0,0,a.2.2.1,[(q.2:Int)]):Ex))
  else if t.2.1=qOv then qCr (qMy ts i) fun a=> .inr ((a.1,p.2),((7,0,0,a.2.2.1,[]):Ex))
  else if t.2.1=sHas then qCr (qMy ts i) fun a=> .inr ((a.1,p.2),((8,0,0,a.2.2.1,[]):Ex))
  else if t.2.1=sEnv then qCr (qWm ts i) fun a=> .inr ((a.1,p.2),((9,0,0,a.2.2.1,[]):Ex))
  else qCr (qMa ts 2 i) fun a=>if a.2.2.2.1≥64 then qGz a.2 9 else .inr ((a.1,p.2),((10,a.2.2.2.1,0,⟨#[]⟩,[]):Ex))) fun q=>
 qCr (qHe ts qJu q.1.1) fun i=>qJw t q.2 (i,q.1.2)
def qMe(p:Ps):PM Nat:=
 let t:=tkAt ts p.1
 if t.1=2 then qJw t (1,t.2.2.1,0,⟨#[]⟩,[]) (p.1+1,p.2)
 else if isC ts 4 qYf p.1 then qCr (qMa ts 2 (p.1+1)) fun a=>qJw t (1,IntKind.wrap .i64 (0-a.2.2.2.1),0,⟨#[]⟩,[]) (a.1,p.2)
 else if isC ts 4 qPd p.1 then qCr (E (p.1+1,p.2)) fun q=>qCr (qHe ts qJu q.1.1) fun i=> .inr ((i,q.1.2),q.2)
 else if t.1≠1 then qGz t 9
 else if t.2.1∈[qPe,qOv,sHas,sEnv,qRt] then qKj ts E t (p.1+1,p.2)
 else if resC t.2.1 then qGz t 9
 else if isC ts 4 qPd (p.1+1) then qCr (qHq ts E (p.1+1,p.2)) fun q=>qJw t (3,0,0,t.2.1,q.2) q.1
 else match params.findIdx? (fun x=>decide (x=t.2.1)) with
  |some i=>qJw t (2,(i:Int),0,⟨#[]⟩,[]) (p.1+1,p.2)
  |none=>qGz t 9
def qUw(level:Nat)(S:Ps→PM Nat):Nat→Nat→Ps→PM Nat
 |0,_,p=>qGz (tkAt ts p.1) 9
 |n+1,x,p=>
  if opC ts level p.1=0 then .inr (p,x)
  else qCr (S (p.1+1,p.2)) fun q=>qCr (qJw (tkAt ts p.1) (4,0,opC ts level p.1,⟨#[]⟩,[(x:Int),(q.2:Int)]) q.1) fun r=>
   if level=1 then .inr r else qUw level S n r.2 r.1
def qPg(level:Nat)(S:Ps→PM Nat)(p:Ps):PM Nat:=qCr (S p) fun q=>qUw ts level S (ts.length+1) q.2 q.1
def qZi:Ps→PM Nat:=qPg ts 3 (qMe ts params E)
def sumC:Ps→PM Nat:=qPg ts 2 (qZi ts params E)
def qNn:Ps→PM Nat:=qPg ts 1 (sumC ts params E)
end
def qGs(ts:List Tok)(params:List ByteArray):Nat→Ps→PM Nat
 |0,p=>qGz (tkAt ts p.1) 2
 |k+1,p=>
  if isC ts 1 sIf p.1 then
   qCr (qGs ts params k (p.1+1,p.2)) fun a=>qCr (qPc ts qXs a.1.1) fun i=>
   qCr (qGs ts params k (i,a.1.2)) fun b=>qCr (qPc ts qXk b.1.1) fun j=>
   qCr (qGs ts params k (j,b.1.2)) fun c=>qJw (tkAt ts p.1) (5,0,0,⟨#[]⟩,[(a.2:Int),(b.2:Int),(c.2:Int)]) c.1
  else qNn ts params (qGs ts params k) p
def qOa(ts:List Tok):Nat→List ByteArray→Nat→Flt⊕(Nat×List ByteArray)
 |0,_,i=>qGz (tkAt ts i) 9
 |n+1,l,i=>qCr (qMo ts i) fun a=>
  if l.length=8 then qGz a.2 2
  else if a.2.2.1∈l then qGz a.2 10
  else if isC ts 4 qPp a.1 then qOa ts n (l++[a.2.2.1]) (a.1+1)
  else qCr (qHe ts qJu a.1) fun j=> .inr (j,l++[a.2.2.1])
def qGt(ts:List Tok)(i:Nat):Flt⊕(Nat×List ByteArray):=
 qCr (qHe ts qPd i) fun j=>if isC ts 4 qJu j then .inr (j+1,[]) else qOa ts (ts.length+1) [] j
def qIe(s:ByteArray):Int:=if s=qXa then 1 else if s=qXw then 2 else if s=sGen then 3 else 0
def qSm(ts:List Tok)(before:List Dl)(i:Nat):Flt⊕(Nat×Dl):=
 let t:=tkAt ts i
 let k:=qIe t.2.1
 if t.1≠1∨k=0 then qGz t 9
 else if before.length=64 then qGz t 2
 else qCr (if k=3 then qMy ts (i+1) else qMo ts (i+1)) fun a=>
  if before.any (fun d=>d.1==k&&decide (d.2.1=a.2.2.1)) then qGz a.2 10
  else qCr (if k=1 then qGt ts a.1 else .inr (a.1,[])) fun b=>
   qCr (qHe ts sEq b.1) fun j=>qCr (qGs ts b.2 32 (j,[])) fun c=>
   qCr (qHe ts qVc c.1.1) fun m=> .inr (m,(k,a.2.2.1,b.2,c.1.2))
def qKa(ts:List Tok)(pkg:ByteArray):Nat→List ByteArray→Nat→Flt⊕(Nat×List ByteArray)
 |0,_,i=>qGz (tkAt ts i) 9
 |n+1,l,i=>
  if isC ts 1 qRd i then
   if l.length=8 then qGz (tkAt ts i) 2
   else qCr (qMo ts (i+1)) fun a=>
    if a.2.2.1=pkg∨a.2.2.1∈l then qGz a.2 10
    else qCr (qHe ts qVc a.1) fun j=>qKa ts pkg n (l++[a.2.2.1]) j
  else .inr (i,l)
def qSs(ts:List Tok):Nat→List Dl→Nat→Flt⊕List Dl
 |0,_,i=>qGz (tkAt ts i) 9
 |n+1,l,i=>if(tkAt ts i).1=5 then .inr l else qCr (qSm ts l i) fun a=>qSs ts n (l++[a.2]) a.1
def qXg(ts:List Tok):Flt⊕Sr:=
 qCr (qPc ts qNo 0) fun i=>qCr (qMo ts i) fun a=>qCr (qHe ts qVc a.1) fun j=>
 qCr (qKa ts a.2.2.1 (ts.length+1) [] j) fun b=>qCr (qSs ts (ts.length+1) [] b.1) fun l=> .inr (a.2.2.1,b.2,l)
def noSrc:Sr:=(⟨#[]⟩,[],[])
def qFs(s:ByteArray):Sr×Int×Int:=
 if(qGo s).2.2≠0 then(noSrc,(qGo s).2.1,(qGo s).2.2)
 else match qXg (qGo s).1 with
  | .inl z=>(noSrc,z.1,z.2)
  | .inr f=>(f,0,0)
end
section
open Go Go.Dc
def OkT(ts:List Tok):Prop:=ts≠[]∧∀i,i<ts.length→((tkAt ts i).1=5↔i+1=ts.length)
theorem qBq{α β:Type}{x:Flt⊕α}{f:α→Flt⊕β}{b:β}(h:qCr x f= .inr b):∃a,x= .inr a∧f a= .inr b:=by
 cases x with
 |inl z=>cases h
 |inr a=>exact⟨a,rfl,h⟩
section
variable {ts:List Tok} {params:List ByteArray} {E S:Ps→PM Nat}
theorem OkT.next(h:OkT ts){i:Nat}(hi:i<ts.length)(hk:(tkAt ts i).1≠5):i+1<ts.length:=by
 have h3:¬i+1=ts.length:=fun e=>hk ((h.2 i hi).2 e)
 omega
theorem qRa{k:Int}{s:ByteArray}{i:Nat}(h:isC ts k s i=true):(tkAt ts i).1=k:=by
 simp only[isC,jP,kN] at h;exact h.1
theorem qFc(h:OkT ts){k:Int}{s:ByteArray}{i:Nat}(hi:i<ts.length)(hk:k≠5)(h1:isC ts k s i=true):i+1<ts.length:=h.next hi (by rw[qRa h1];exact hk)
theorem qEs(h:OkT ts){s:ByteArray}{i j:Nat}(hi:i<ts.length)(h1:qHe ts s i= .inr j):j=i+1∧j<ts.length∧isC ts 4 s i=true:=by
 unfold qHe at h1
 split at h1
 ·rename_i h2
  obtain rfl:=Sum.inr.inj h1
  exact⟨rfl,qFc h hi (by decide) h2,h2⟩
 ·cases h1
theorem qMt(h:OkT ts){s:ByteArray}{i j:Nat}(hi:i<ts.length)(h1:qPc ts s i= .inr j):j=i+1∧j<ts.length∧isC ts 1 s i=true:=by
 unfold qPc at h1
 split at h1
 ·rename_i h2
  obtain rfl:=Sum.inr.inj h1
  exact⟨rfl,qFc h hi (by decide) h2,h2⟩
 ·cases h1
theorem qKd(h:OkT ts){k:Int}(hk:k≠5){i:Nat}{a:Nat×Tok}(hi:i<ts.length)(h1:qMa ts k i= .inr a):a=(i+1,tkAt ts i)∧i+1<ts.length∧(tkAt ts i).1=k:=by
 unfold qMa at h1
 split at h1
 ·rename_i h2
  obtain rfl:=Sum.inr.inj h1
  exact⟨rfl,h.next hi (by rw[h2];exact hk),h2⟩
 ·cases h1
theorem qKb(h:OkT ts){i:Nat}{a:Nat×Tok}(hi:i<ts.length)(h1:qMo ts i= .inr a):a=(i+1,tkAt ts i)∧i+1<ts.length∧(tkAt ts i).1=1∧resC (tkAt ts i).2.1=false:=by
 obtain⟨b,hb,h2⟩:=qBq h1
 obtain⟨rfl,g1,g2⟩:=qKd h (by decide) hi hb
 split at h2
 ·cases h2
 ·rename_i g3
  obtain rfl:=Sum.inr.inj h2
  exact⟨rfl,g1,g2,by simpa using g3⟩
theorem qJd(h:OkT ts){i:Nat}{a:Nat×Tok}(hi:i<ts.length)(h1:qMy ts i= .inr a):a=(i+1,tkAt ts i)∧i+1<ts.length∧(tkAt ts i).1=3∧qUy (tkAt ts i).2.1.data.toList=true:=by
 obtain⟨b,hb,h2⟩:=qBq h1
 obtain⟨rfl,g1,g2⟩:=qKd h (by decide) hi hb
 split at h2
 ·rename_i g3
  obtain rfl:=Sum.inr.inj h2
  exact⟨rfl,g1,g2,g3⟩
 ·cases h2
theorem qVj(h:OkT ts){i:Nat}{a:Nat×Tok}(hi:i<ts.length)(h1:qWm ts i= .inr a):a=(i+1,tkAt ts i)∧i+1<ts.length∧(tkAt ts i).1=3∧qOu (tkAt ts i).2.1=true:=by
 obtain⟨b,hb,h2⟩:=qBq h1
 obtain⟨rfl,g1,g2⟩:=qKd h (by decide) hi hb
 split at h2
 ·rename_i g3
  obtain rfl:=Sum.inr.inj h2
  exact⟨rfl,g1,g2,g3⟩
 ·cases h2
theorem qXy{t:Tok}{x:Ex}{p q:Ps}{i:Nat}(h:qJw t x p= .inr (q,i)):q=(p.1,p.2++[x])∧i=p.2.length∧p.2.length≠256:=by
 unfold qJw at h
 split at h
 ·cases h
 ·rename_i h1
  obtain⟨rfl,rfl⟩:=Prod.mk.inj (Sum.inr.inj h)
  exact⟨rfl,rfl,h1⟩
def Fwd(ts:List Tok)(p q:Ps):Prop:=p.1<q.1∧q.1<ts.length∧p.2.length≤q.2.length∧q.2.length≤256
def Adv(ts:List Tok)(S:Ps→PM Nat):Prop:=∀(p q:Ps) (x:Nat),p.1<ts.length→p.2.length≤256→S p= .inr (q,x)→Fwd ts p q∧x<q.2.length
theorem qIx{t:Tok}{x:Ex}{p r q:Ps}{i:Nat}(hp:p.1<r.1)(hr:r.1<ts.length)(hl:p.2.length≤r.2.length)(h256:r.2.length≤256)(h:qJw t x r= .inr (q,i)):Fwd ts p q∧i<q.2.length:=by
 obtain⟨rfl,rfl,g⟩:=qXy h
 refine⟨⟨hp,hr,?_,?_⟩,?_⟩<;>simp only[jI,jF,jK]<;>omega
theorem qRq(h:OkT ts)(hE:Adv ts E):∀(n:Nat) (l:List Int) (p q:Ps) (x:List Int),p.1<ts.length→p.2.length≤256→qVe ts E n l p= .inr (q,x)→Fwd ts p q
 |0,_,_,_,_,_,_,h1=>by cases h1
 |n+1,l,p,q,x,hp,hb,h1=>by
  obtain⟨a,ha,h2⟩:=qBq (show qCr (E p) _=_ from h1)
  obtain⟨⟨f1,f2,f3,f4⟩,f5⟩:=hE p a.1 a.2 hp hb ha
  split at h2
  ·rename_i hc
   have g:=qFc h f2 (by decide) hc
   obtain⟨k1,k2,k3,k4⟩:=qRq h hE n _ (a.1.1+1,a.1.2) q x g f4 h2
   exact⟨by simp only at k1;omega,k2,by simp only at k3;omega,k4⟩
  ·obtain⟨j,hj,h3⟩:=qBq h2
   obtain⟨rfl,g1,-⟩:=qEs h f2 hj
   obtain⟨rfl,-⟩:=Prod.mk.inj (Sum.inr.inj h3)
   exact⟨by simp only;omega,g1,f3,f4⟩
theorem qLq(h:OkT ts)(hE:Adv ts E){p q:Ps}{x:List Int}(hp:p.1<ts.length)(hb:p.2.length≤256)(h1:qHq ts E p= .inr (q,x)):Fwd ts p q:=by
 obtain⟨i,hi,h2⟩:=qBq h1
 obtain⟨rfl,g1,-⟩:=qEs h hp hi
 split at h2
 ·rename_i hc
  obtain⟨rfl,-⟩:=Prod.mk.inj (Sum.inr.inj h2)
  exact⟨by simp only;omega,qFc h g1 (by decide) hc,jH _,hb⟩
 ·obtain⟨k1,k2,k3,k4⟩:=qRq h hE _ _ (p.1+1,p.2) q x g1 hb h2
  exact⟨by simp only at k1;omega,k2,k3,k4⟩
theorem qSg(h:OkT ts)(hE:Adv ts E){t:Tok}{p q:Ps}{x:Nat}(hp:p.1<ts.length)(hb:p.2.length≤256)(h1:qKj ts E t p= .inr (q,x)):Fwd ts p q∧x<q.2.length:=by
 obtain⟨i,hi,h2⟩:=qBq h1
 obtain⟨rfl,g1,-⟩:=qEs h hp hi
 obtain⟨a,ha,h3⟩:=qBq h2
 obtain⟨j,hj,h4⟩:=qBq h3
 have key:Fwd ts (p.1+1,p.2) a.1:=by
  split at ha
  ·obtain⟨b,hb1,hb2⟩:=qBq ha
   obtain⟨rfl,k1,-⟩:=qJd h g1 hb1
   obtain⟨c,hc1,hc2⟩:=qBq hb2
   obtain⟨rfl,k2,-⟩:=qEs h k1 hc1
   obtain⟨d,hd1,hd2⟩:=qBq hc2
   obtain⟨⟨f1,f2,f3,f4⟩,-⟩:=hE (p.1+1+1+1,p.2) d.1 d.2 k2 hb hd1
   obtain rfl:=Sum.inr.inj hd2
   exact⟨by simp only at f1 ⊢;omega,f2,f3,f4⟩
  ·split at ha
   ·obtain⟨b,hb1,hb2⟩:=qBq ha
    obtain⟨rfl,k1,-⟩:=qJd h g1 hb1
    obtain rfl:=Sum.inr.inj hb2
    exact⟨by simp only;omega,k1,jH _,hb⟩
   ·split at ha
    ·obtain⟨b,hb1,hb2⟩:=qBq ha
     obtain⟨rfl,k1,-⟩:=qJd h g1 hb1
     obtain rfl:=Sum.inr.inj hb2
     exact⟨by simp only;omega,k1,jH _,hb⟩
    ·split at ha
     ·obtain⟨b,hb1,hb2⟩:=qBq ha
      obtain⟨rfl,k1,-⟩:=qVj h g1 hb1
      obtain rfl:=Sum.inr.inj hb2
      exact⟨by simp only;omega,k1,jH _,hb⟩
     ·obtain⟨b,hb1,hb2⟩:=qBq ha
      obtain⟨rfl,k1,-⟩:=qKd h (by decide) g1 hb1
      split at hb2
      ·cases hb2
      ·obtain rfl:=Sum.inr.inj hb2
       exact⟨by simp only;omega,k1,jH _,hb⟩
 obtain⟨f1,f2,f3,f4⟩:=key
 obtain⟨rfl,g2,-⟩:=qEs h f2 hj
 exact qIx (r:=(a.1.1+1,a.1.2)) (by simp only at f1 ⊢;omega) g2 f3 f4 h4
theorem qNt(h:OkT ts)(hE:Adv ts E):Adv ts (qMe ts params E):=by
 intro p q x hp hb h1
 unfold qMe at h1
 dsimp only at h1
 split at h1
 ·rename_i hk
  exact qIx (r:=(p.1+1,p.2)) (by simp only;omega) (h.next hp (by rw[hk];decide)) (jH _) hb h1
 split at h1
 ·rename_i hc
  have g:=qFc h hp (by decide) hc
  obtain⟨a,ha,h2⟩:=qBq h1
  obtain⟨rfl,g1,-⟩:=qKd h (by decide) g ha
  exact qIx (r:=(p.1+1+1,p.2)) (by simp only;omega) g1 (jH _) hb h2
 split at h1
 ·rename_i hc
  have g:=qFc h hp (by decide) hc
  obtain⟨a,ha,h2⟩:=qBq h1
  obtain⟨⟨f1,f2,f3,f4⟩,f5⟩:=hE (p.1+1,p.2) a.1 a.2 g hb ha
  obtain⟨j,hj,h3⟩:=qBq h2
  obtain⟨rfl,g1,-⟩:=qEs h f2 hj
  obtain⟨rfl,rfl⟩:=Prod.mk.inj (Sum.inr.inj h3)
  exact⟨⟨by simp only at f1 ⊢;omega,g1,f3,f4⟩,f5⟩
 split at h1
 ·cases h1
 rename_i hk
 have g:=h.next hp (show(tkAt ts p.1).1≠5 by simp only[ne_eq,Decidable.not_not] at hk;rw[hk];decide)
 split at h1
 ·obtain⟨⟨f1,f2,f3,f4⟩,f5⟩:=qSg h hE (p:=(p.1+1,p.2)) g hb h1
  exact⟨⟨by simp only at f1;omega,f2,f3,f4⟩,f5⟩
 split at h1
 ·cases h1
 split at h1
 ·obtain⟨a,ha,h2⟩:=qBq h1
  obtain⟨f1,f2,f3,f4⟩:=qLq h hE (p:=(p.1+1,p.2)) g hb ha
  exact qIx (by simp only at f1;omega) f2 f3 f4 h2
 split at h1
 ·exact qIx (r:=(p.1+1,p.2)) (by simp only;omega) g (jH _) hb h1
 ·cases h1
theorem qRf(h:OkT ts){level:Nat}(hS:Adv ts S):∀(n x:Nat) (p q:Ps) (y:Nat),p.1<ts.length→p.2.length≤256→x<p.2.length→qUw ts level S n x p= .inr (q,y)→p.1≤q.1∧q.1<ts.length∧p.2.length≤q.2.length∧q.2.length≤256∧y<q.2.length
 |0,_,_,_,_,_,_,_,h1=>by cases h1
 |n+1,x,p,q,y,hp,hb,hx,h1=>by
  unfold qUw at h1
  split at h1
  ·obtain⟨rfl,rfl⟩:=Prod.mk.inj (Sum.inr.inj h1)
   exact⟨jH _,hp,jH _,hb,hx⟩
  ·rename_i hop
   have hk:(tkAt ts p.1).1≠5:=by
    intro hk
    apply hop
    unfold opC
    have:opsC.find? (isOp ts level p.1)=none:=by
     rw[List.find?_eq_none]
     intro o _ ho
     simp only[isOp,jP] at ho
     have:=qRa ho.1
     omega
    rw[this]
   have g:=h.next hp hk
   obtain⟨a,ha,h2⟩:=qBq h1
   obtain⟨⟨f1,f2,f3,f4⟩,f5⟩:=hS (p.1+1,p.2) a.1 a.2 g hb ha
   obtain⟨r,hr,h3⟩:=qBq h2
   obtain⟨⟨k1,k2,k3,k4⟩,k5⟩:=qIx (ts:=ts) (p:=p) (by simp only at f1;omega) f2 f3 f4 hr
   split at h3
   ·obtain⟨rfl,rfl⟩:=Prod.mk.inj (Sum.inr.inj h3)
    exact⟨by omega,k2,k3,k4,k5⟩
   ·obtain⟨j1,j2,j3,j4,j5⟩:=qRf h hS n _ _ q y k2 k4 k5 h3
    exact⟨by omega,j2,by omega,j4,j5⟩
theorem qJs(h:OkT ts){level:Nat}(hS:Adv ts S):Adv ts (qPg ts level S):=by
 intro p q x hp hb h1
 obtain⟨a,ha,h2⟩:=qBq h1
 obtain⟨⟨f1,f2,f3,f4⟩,f5⟩:=hS p a.1 a.2 hp hb ha
 obtain⟨j1,j2,j3,j4,j5⟩:=qRf h hS _ _ _ q x f2 f4 f5 h2
 exact⟨⟨by omega,j2,by omega,j4⟩,j5⟩
theorem qIi(h:OkT ts):∀k,Adv ts (qGs ts params k)
 |0=>fun _ _ _ _ _ h1=>by cases h1
 |k+1=>by
  intro p q x hp hb h1
  unfold qGs at h1
  split at h1
  ·rename_i hc
   have g:=qFc h hp (by decide) hc
   obtain⟨a,ha,h2⟩:=qBq h1
   obtain⟨⟨a1,a2,a3,a4⟩,-⟩:=qIi h k (p.1+1,p.2) a.1 a.2 g hb ha
   obtain⟨i,hi,h3⟩:=qBq h2
   obtain⟨rfl,g1,-⟩:=qMt h a2 hi
   obtain⟨b,hb1,h4⟩:=qBq h3
   obtain⟨⟨b1,b2,b3,b4⟩,-⟩:=qIi h k (a.1.1+1,a.1.2) b.1 b.2 g1 a4 hb1
   obtain⟨j,hj,h5⟩:=qBq h4
   obtain⟨rfl,g2,-⟩:=qMt h b2 hj
   obtain⟨c,hc1,h6⟩:=qBq h5
   obtain⟨⟨c1,c2,c3,c4⟩,-⟩:=qIi h k (b.1.1+1,b.1.2) c.1 c.2 g2 b4 hc1
   simp only at a1 a3 b1 b3 c1 c3
   exact qIx (by omega) c2 (by omega) c4 h6
  ·exact qJs h (qJs h (qJs h (qNt h (qIi h k)))) p q x hp hb h1
end
end
section
open Go Go.Dc
theorem idx_tk{ts:List Tok}{i:Nat}(hi:i<ts.length):idx ts (i:Int)=some (tkAt ts i):=by
 rw[qKh hi]
 simp[tkAt,jU,hi]
theorem qKk{i:Nat}(h:i<1000000):IntKind.wrap .i64 ((i:Int)+1)=((i+1:Nat):Int):=by rw[wi64 (by omega) (by omega)];omega
section
variable {N:Nat} {ts:List Tok} {pr:List ByteArray} {b:List Ex} {i:Nat}
theorem qGq(hi:i<ts.length):qBd N (ts,(i:Int),pr,b)=some ((ts,(i:Int),pr,b),tkAt ts i):=by
 simp only[qBd,idx_tk hi,j0]
theorem qUq(hi:i<ts.length)(k:Int)(s:ByteArray):qCs N (ts,(i:Int),pr,b) k s=some ((ts,(i:Int),pr,b),isC ts k s i):=by
 simp only[qCs,qGq hi,j0,qGf,isC]
 cases h:(tkAt ts i).1==k<;>simp[h]
theorem qTo(hi:i<ts.length)(hl:ts.length<1000000)(s:ByteArray):qDm N (ts,(i:Int),pr,b) s=some (Sum.map id (fun j:Nat=>(ts,(j:Int),pr,b)) (qPc ts s i)):=by
 simp only[qDm,qUq hi,qGq hi,j0,qAy,qPc]
 cases h:isC ts 1 s i
 ·simp[qGz]
 ·simp[qKk (show i<1000000 by omega)]
theorem qIa(hi:i<ts.length)(hl:ts.length<1000000)(s:ByteArray):qAv N (ts,(i:Int),pr,b) s=some (Sum.map id (fun j:Nat=>(ts,(j:Int),pr,b)) (qHe ts s i)):=by
 simp only[qAv,qUq hi,qGq hi,j0,qAy,qHe]
 cases h:isC ts 4 s i
 ·simp[qGz]
 ·simp[qKk (show i<1000000 by omega)]
theorem qJo(hi:i<ts.length)(hl:ts.length<1000000)(s:ByteArray):qBv N (ts,(i:Int),pr,b) s=some (if isC ts 4 s i then((ts,((i+1:Nat):Int),pr,b),true) else((ts,(i:Int),pr,b),false)):=by
 simp only[qBv,qUq hi,j0]
 cases h:isC ts 4 s i
 ·simp
 ·simp[qKk (show i<1000000 by omega)]
theorem qOb(hi:i<ts.length)(hl:ts.length<1000000){k:Int}(hk:k≠5):qCi N (ts,(i:Int),pr,b) k=some (Sum.map id (fun a:Nat×Tok=>((ts,(a.1:Int),pr,b),a.2)) (qMa ts k i)):=by
 simp only[qCi,qGq hi,j0,qAy,qMa]
 have h5:(k !=5)=true:=by simpa using hk
 by_cases h:(tkAt ts i).1=k
 ·have h1:((tkAt ts i).1 !=k)=false:=by simp[h]
  simp only[h1,h5,jC,jL,jM,j0,if_pos h,qKk (show i<1000000 by omega),jG]
 ·have h1:((tkAt ts i).1 !=k)=true:=by simp[h]
  simp only[h1,jM,j0,if_neg h,qGz,Sum.map_inl,id]
theorem orS(a b:Bool):(if a=true then some a else some b)=some (a||b):=by
 cases a<;>simp
theorem someB(b:Bool):(if b=true then some true else some false)=some b:=by cases b<;>simp
theorem qMg(s:ByteArray):qEq N s=some (resC s):=by
 simp only[qEq,qGf,resC,qYl,qNo,qRd,qXa,qXw,sGen,sIf,qXs,qXk,qPe,qOv,sHas,sEnv,qRt,jQ,gP,or_false]
 simp only[orS,j0,someB,jE]
 simp only[Bool.decide_or]
theorem qQc(hi:i<ts.length)(hl:ts.length<1000000):qCh N (ts,(i:Int),pr,b)=some (Sum.map id (fun a:Nat×Tok=>((ts,(a.1:Int),pr,b),a.2)) (qMo ts i)):=by
 simp only[qCh,qOb hi hl (show(1:Int)≠5 by decide),j0,qAy,qMo]
 cases h:qMa ts 1 i with
 |inl z=>simp[qCr]
 |inr a=>
  simp only[jG,qMg,j0,qCr]
  cases h2:resC a.2.2.1<;>simp[qGz]
theorem qQy(hi:i<ts.length)(hl:ts.length<1000000)(hN:300000<N)(ht:∀j,(tkAt ts j).2.1.size<100000):qCj N (ts,(i:Int),pr,b)=some (Sum.map id (fun a:Nat×Tok=>((ts,(a.1:Int),pr,b),a.2)) (qMy ts i)):=by
 simp only[qCj,qOb hi hl (show(3:Int)≠5 by decide),j0,qAy,qMy]
 cases h:qMa ts 3 i with
 |inl z=>simp[qCr]
 |inr a=>
  have h3:a.2=tkAt ts i:=by
   unfold qMa at h
   split at h
   ·rw[←Sum.inr.inj h]
   ·cases h
  have hs:=ht i
  rw[←h3] at hs
  simp only[jG,qYv (N:=N) (s:=a.2.2.1) (by omega) (by omega),j0,qCr]
  cases h2:qUy a.2.2.1.data.toList<;>simp[qGz]
theorem qLt(t:Tok)(x:Ex)(hb:b.length≤256)(n:Nat):qBr N (ts,(n:Int),pr,b) t x=some (Sum.map id (fun q:Ps×Nat=>((ts,(q.1.1:Int),pr,q.1.2),(q.2:Int))) (qJw t x (n,b))):=by
 simp only[qBr,qAy,j0,qJw]
 by_cases h:b.length=256
 ·simp[h,qGz]
 ·have h1:((b.length:Int)==256)=false:=by simp;omega
  have hw:IntKind.wrap .i64 (((b.length+1:Nat):Int)-1)=(b.length:Int):=by rw[wi64 (by omega) (by omega)];omega
  simp only[h1,jC,jL,j0,if_neg h,jG]
  rw[qFx (by simp only[jF,jK];omega) (by omega)]
  simp only[j0,jI,jF,jK,gC,hw]
end
end
section
open Go Go.Dc
theorem qPw{N:Nat}{s:ByteArray}{l:List ByteArray}(hl:l.length<1000000):∀(d i M:Nat),i+d=l.length→d<M→
  qBe (qBw N l s) M (i:Int)=some (match(l.drop i).findIdx? (fun x=>decide (x=s)) with|some j=> .inr (((i+j:Nat):Int))|none=> .inl ())
 |d,i,0,_,h=>by omega
 |0,i,M+1,h,_=>by
  have:l.drop i=[]:=jV (by omega)
  simp only[qBe,qBw,this,List.findIdx?_nil]
  rw[if_neg (by simp only[j9];omega)]
  rfl
 |d+1,i,M+1,h,hM=>by
  have hi:i<l.length:=by omega
  have ih:=qPw (N:=N) (s:=s) hl d (i+1) M (by omega) (by omega)
  simp only[qBe,qBw]
  rw[if_pos (by simp only[j9];omega),qKh hi,jJ hi,List.findIdx?_cons]
  simp only[j0,qGf,j9]
  by_cases hs:l[i]=s
  ·rw[if_pos hs.symm,if_pos hs];simp
  ·rw[if_neg (fun e=>hs e.symm),if_neg hs]
   simp only[j0,qKk (show i<1000000 by omega),ih]
   cases(l.drop (i+1)).findIdx? (fun x=>decide (x=s)) with
   |none=>rfl
   |some j=>simp only[jR];congr 2;omega
theorem qUa{N:Nat}{s:ByteArray}{l:List ByteArray}(hl:l.length<1000000)(hN:l.length<N):
  qCd N l s=some (match l.findIdx? (fun x=>decide (x=s)) with|some j=>(j:Int)|none=> -1):=by
 have h:=qPw (N:=N) (s:=s) hl l.length 0 N (by omega) hN
 simp only[g9,gC] at h
 simp only[qCd]
 rw[show(0:Int)=((0:Nat):Int) from rfl,h]
 simp only[j0]
 cases l.findIdx? (fun x=>decide (x=s))<;>rfl
theorem qTl{s:ByteArray}{l:List ByteArray}:(l.findIdx? (fun x=>decide (x=s))).isSome=decide (s∈l):=by
 rw[List.findIdx?_isSome]
 rw[kI]
 simp only[kM,j9]
 exact⟨fun⟨x,h1,h2⟩=>h2▸h1,fun h=>⟨s,h,rfl⟩⟩
theorem qOo{N:Nat}{s:ByteArray}{l:List ByteArray}(hl:l.length<1000000)(hN:l.length<N):
  qBl N l s=some (decide (s∈l)):=by
 simp only[qBl,qUa hl hN,j0,←qTl]
 cases l.findIdx? (fun x=>decide (x=s)) with
 |none=>rfl
 |some j=>simp only[Option.isSome_some];rw[k8 (show(j:Int)≥0 by omega)]
theorem qVk{α:Type}{g:α→Bool}{l k:List α}(hu:∀a∈l,∀b∈l,g a=true→g b=true→a=b)(hp:k.Perm l):k.find? g=l.find? g:=by
 cases h:l.find? g with
 |none=>
  rw[List.find?_eq_none] at h ⊢
  exact fun x hx=>h x (hp.mem_iff.1 hx)
 |some a=>
  have ha:=kE h
  have hg:=List.find?_some h
  cases h2:k.find? g with
  |none=>exact absurd hg (by simpa using List.find?_eq_none.1 h2 a (hp.mem_iff.2 ha))
  |some b=>rw[hu b (hp.mem_iff.1 (kE h2)) a ha (List.find?_some h2) hg]
theorem qXj:∀a∈opsC,∀b∈opsC,a.2=b.2→a=b:=by
 have h:(opsC.all fun a=>opsC.all fun b=> !(decide (a.2=b.2))||decide (a=b))=true:=by kernel_rfl
 intro a ha b hb e
 have:=jN.1 (jN.1 h a ha) b hb
 simpa[e] using this
section
variable {N:Nat} {ts:List Tok} {pr:List ByteArray} {b:List Ex} {i:Nat}
theorem qXp(op:Int):qFn N op=some ((levP op:Nat):Int):=by
 by_cases h1:op=6
 ·subst h1;rfl
 by_cases h2:op=7
 ·subst h2;rfl
 by_cases h3:op=1
 ·subst h3;rfl
 by_cases h4:op=2
 ·subst h4;rfl
 simp[qFn,levP,h1,h2,h3,h4]
theorem qVm(level:Nat){t:Tok}(ht:t=tkAt ts i):∀k:List (Int×ByteArray),qIn (qBp N (level:Int) ((ts,(i:Int),pr,b),t)) k ()=
  some (match k.find? (isOp ts level i) with|some o=> .inr ((ts,(i:Int),pr,b),o.1)|none=> .inl ())
 |[]=>rfl
 |o::k=>by
  have key:qBp N (level:Int) ((ts,(i:Int),pr,b),t) (some o) ()=some (if isOp ts level i o then .inr (.inr ((ts,(i:Int),pr,b),o.1)) else .inl ()):=by
   subst ht
   simp only[qBp,qXp,j0,qGf,isOp,isC]
   have hc:(((levP o.1:Nat):Int)==(level:Int))=decide (levP o.1=level):=by
    rw[kI];simp only[kN,j9];omega
   rw[hc]
   by_cases h1:(tkAt ts i).1=4<;>by_cases h2:(tkAt ts i).2.1=o.2<;>by_cases h3:levP o.1=level<;>simp[h1,h2,h3]
  simp only[qIn,key,j0,List.find?_cons]
  cases h:isOp ts level i o with
  |true=>rfl
  |false=>exact qVm level ht k
theorem qYc:qHr N=some (some opsC):=by kernel_rfl
theorem qSy(hi:i<ts.length)(level:Nat):qDu N (ts,(i:Int),pr,b) (level:Int)=some ((ts,(i:Int),pr,b),opC ts level i):=by
 simp only[qDu,qGq hi,qYc,j0,isQ,jR,Option.getD_some]
 have hu:∀a∈opsC,∀b∈opsC,isOp ts level i a=true→isOp ts level i b=true→a=b:=by
  intro a ha b hb h1 h2
  simp only[isOp,isC,jP,j9] at h1 h2
  exact qXj a ha b hb (h1.1.2.symm.trans h2.1.2)
 have key:=qRl (f:=qBp N (level:Int) ((ts,(i:Int),pr,b),tkAt ts i)) (l:=opsC) (s:=()) fun k hk=>by
  rw[qVm level rfl k,qVk hu hk]
 rw[key]
 unfold opC
 cases opsC.find? (isOp ts level i)<;>rfl
end
end
section
open Go Go.Dc
abbrev StT:=List Tok×Int×List ByteArray×List Ex
def stP(ts:List Tok)(pr:List ByteArray)(p:Ps):StT:=(ts,(p.1:Int),pr,p.2)
def outP(ts:List Tok)(pr:List ByteArray):PM Nat→Flt⊕(StT×Int):=Sum.map id fun q=>(stP ts pr q.1,(q.2:Int))
def outL(ts:List Tok)(pr:List ByteArray):PM (List Int)→Flt⊕(StT×List Int):=Sum.map id fun q=>(stP ts pr q.1,q.2)
section
variable {N:Nat} {ts:List Tok} {pr:List ByteArray} {E S:Ps→PM Nat} {d:Int}
variable {r1:StT→Tok→Int→Option (Flt⊕(StT×Int))} {r2:StT→Int→Option (Flt⊕(StT×List Int))} {r3:StT→Int→Option (Flt⊕(StT×Int))} {r4:StT→Int→Int→Option (Flt⊕(StT×Int))} {r5:StT→Int→Option (Flt⊕(StT×Int))}
theorem qSn(hok:OkT ts)(hl:ts.length<1000000)(hA:Adv ts E)(hE:∀p:Ps,p.1<ts.length→p.2.length≤256→r5 (stP ts pr p) (IntKind.wrap .i64 (d+1))=some (outP ts pr (E p))):
  ∀(n M:Nat) (l:List Int) (p:Ps),p.1<ts.length→p.2.length≤256→l.length≤p.1→ts.length<p.1+n→ts.length<p.1+M→
  ((qBe (qCw N r5 d) M (l,ts,(p.1:Int),pr,p.2)).bind fun out1=>(match out1 with| .inl o1=>(qAv N (o1.2.1,o1.2.2.1,o1.2.2.2.1,o1.2.2.2.2) (⟨#[41]⟩:ByteArray)).bind fun y7=>(match y7 with| .inl z3=>some (.inl z3)| .inr y8=>some (.inr ((y8.1,y8.2.1,y8.2.2.1,y8.2.2.2),o1.1)))| .inr (z)=>some z))=some (outL ts pr (qVe ts E n l p))
 |0,M,l,p,hp,_,_,h,_=>by omega
 |n+1,0,l,p,hp,_,_,_,h=>by omega
 |n+1,M+1,l,p,hp,hb,hll,hn,hM=>by
  have hEp:=hE p hp hb
  simp only[stP] at hEp
  simp only[qBe,qCw,qVe,hEp,j0]
  cases hq:E p with
  |inl z=>simp only[outP,Sum.map_inl,id,qCr,outL,j0]
  |inr q=>
   obtain⟨⟨f1,f2,f3,f4⟩,f5⟩:=hA p q.1 q.2 hp hb hq
   simp only[outP,jG,qCr,stP]
   rw[qFx (by simp only[jF,jK];omega) (by omega)]
   simp only[j0,qJo f2 hl,qPp]
   rcases qKm (isC ts 4 ⟨#[44]⟩ q.1.1) with hc|hc
   ·have g:=qFc hok f2 (by decide) hc
    have ih:=qSn hok hl hA hE n M (l++[(q.2:Int)]) (q.1.1+1,q.1.2) g f4 (by simp only[jI,jF,jK];omega) (by simp only;omega) (by simp only;omega)
    simp only[hc,jM,kT,jC,jL,j0]
    exact ih
   ·simp only[hc,jC,jL,gN,jM,j0,qIa f2 hl,qJu]
    cases qHe ts ⟨#[41]⟩ q.1.1 with
    |inl z=>rfl
    |inr j=>rfl
theorem qSw(hok:OkT ts)(hl:ts.length<1000000)(hN:ts.length<N)(hA:Adv ts E)(hE:∀p:Ps,p.1<ts.length→p.2.length≤256→r5 (stP ts pr p) (IntKind.wrap .i64 (d+1))=some (outP ts pr (E p)))
  (p:Ps) (hp:p.1<ts.length) (hb:p.2.length≤256):qDd N r1 r2 r3 r4 r5 (stP ts pr p) d=some (outL ts pr (qHq ts E p)):=by
 simp only[qDd,stP,qIa hp hl,j0,qHq,qPd]
 cases h:qHe ts ⟨#[40]⟩ p.1 with
 |inl z=>rfl
 |inr i=>
  obtain⟨rfl,g,-⟩:=qEs hok hp h
  simp only[jG,qCr,qJo g hl,j0,qJu]
  rcases qKm (isC ts 4 ⟨#[41]⟩ (p.1+1)) with hc|hc
  ·simp only[hc,jM];rfl
  ·simp only[hc,jC,jL]
   exact qSn hok hl hA hE (ts.length+1) N [] (p.1+1,p.2) g hb (by simp) (by simp only;omega) (by simp only;omega)
theorem qWe(hok:OkT ts)(hl:ts.length<1000000)(hN:300000<N)(ht:∀j,(tkAt ts j).2.1.size<100000)(hA:Adv ts E)(hE:∀p:Ps,p.1<ts.length→p.2.length≤256→r5 (stP ts pr p) (IntKind.wrap .i64 (d+1))=some (outP ts pr (E p)))
  (t:Tok) (p:Ps) (hp:p.1<ts.length) (hb:p.2.length≤256):qDn N r1 r2 r3 r4 r5 (stP ts pr p) t d=some (outP ts pr (qKj ts E t p)):=by
 have fin:∀(o1:Int×Int×ByteArray×List Int×StT) (q:Ps) (x:Ex),o1.2.2.2.2=stP ts pr q→x=(o1.1,o1.2.1,0,o1.2.2.1,o1.2.2.2.1)→q.1<ts.length→q.2.length≤256→
   ((qAv N (o1.2.2.2.2.1,o1.2.2.2.2.2.1,o1.2.2.2.2.2.2.1,o1.2.2.2.2.2.2.2) (⟨#[41]⟩:ByteArray)).bind fun y22=>(match y22 with| .inl z11=>some (.inl z11)| .inr y23=>(qBr N (y23.1,y23.2.1,y23.2.2.1,y23.2.2.2) (t.1,t.2.1,t.2.2.1,t.2.2.2) (o1.1,o1.2.1,0,o1.2.2.1,o1.2.2.2.1)).bind fun y24=>(match y24 with| .inl z12=>some (.inl z12)| .inr y25=>some (.inr ((y25.1.1,y25.1.2.1,y25.1.2.2.1,y25.1.2.2.2),y25.2)))))=
   some (outP ts pr (qCr (qHe ts qJu q.1) fun i=>qJw t x (i,q.2))):=by
  intro o1 q x ho hx hq hqb
  subst hx
  rw[ho]
  simp only[stP,qIa hq hl,j0,qJu]
  cases hj:qHe ts ⟨#[41]⟩ q.1 with
  |inl z=>rfl
  |inr j=>
   simp only[jG,qCr,qLt _ _ hqb,j0]
   cases qJw t (o1.1,o1.2.1,0,o1.2.2.1,o1.2.2.2.1) (j,q.2)<;>rfl
 simp only[qDn,stP,qIa hp hl,j0,qKj,qPd]
 cases h:qHe ts ⟨#[40]⟩ p.1 with
 |inl z=>rfl
 |inr i=>
  obtain⟨rfl,g,-⟩:=qEs hok hp h
  simp only[jG,qCr,qGf,j9]
  by_cases k1:t.2.1=qPe
  ·rw[if_pos (show t.2.1=(⟨#[114,101,97,100]⟩:ByteArray) from k1),if_pos k1]
   simp only[qQy g hl hN ht,j0]
   cases h1:qMy ts (p.1+1) with
   |inl z=>rfl
   |inr a=>
    obtain⟨rfl,g1,-⟩:=qJd hok g h1
    simp only[jG,qIa g1 hl,j0,qPp]
    cases h2:qHe ts ⟨#[44]⟩ (p.1+1+1) with
    |inl z=>rfl
    |inr j=>
     obtain⟨rfl,g2,-⟩:=qEs hok g1 h2
     have hEp:=hE (p.1+1+1+1,p.2) g2 hb
     simp only[stP] at hEp
     simp only[jG,hEp,j0]
     cases h3:E (p.1+1+1+1,p.2) with
     |inl z=>rfl
     |inr q=>
      obtain⟨⟨f1,f2,f3,f4⟩,f5⟩:=hA (p.1+1+1+1,p.2) q.1 q.2 g2 hb h3
      exact fin (6,0,(tkAt ts (p.1+1)).2.1,[(q.2:Int)],ts,(q.1.1:Int),pr,q.1.2) q.1 _ rfl rfl f2 f4
  rw[if_neg (show ¬t.2.1=(⟨#[114,101,97,100]⟩:ByteArray) from k1),if_neg k1]
  by_cases k2:t.2.1=qOv
  ·rw[if_pos (show t.2.1=(⟨#[115,105,122,101]⟩:ByteArray) from k2),if_pos k2]
   simp only[qQy g hl hN ht,j0]
   cases h1:qMy ts (p.1+1) with
   |inl z=>rfl
   |inr a=>
    obtain⟨rfl,g1,-⟩:=qJd hok g h1
    exact fin (7,0,(tkAt ts (p.1+1)).2.1,[],ts,((p.1+1+1:Nat):Int),pr,p.2) (p.1+1+1,p.2) _ rfl rfl g1 hb
  rw[if_neg (show ¬t.2.1=(⟨#[115,105,122,101]⟩:ByteArray) from k2),if_neg k2]
  by_cases k3:t.2.1=sHas
  ·rw[if_pos (show t.2.1=(⟨#[104,97,115]⟩:ByteArray) from k3),if_pos k3]
   simp only[qQy g hl hN ht,j0]
   cases h1:qMy ts (p.1+1) with
   |inl z=>rfl
   |inr a=>
    obtain⟨rfl,g1,-⟩:=qJd hok g h1
    exact fin (8,0,(tkAt ts (p.1+1)).2.1,[],ts,((p.1+1+1:Nat):Int),pr,p.2) (p.1+1+1,p.2) _ rfl rfl g1 hb
  rw[if_neg (show ¬t.2.1=(⟨#[104,97,115]⟩:ByteArray) from k3),if_neg k3]
  by_cases k4:t.2.1=sEnv
  ·rw[if_pos (show t.2.1=(⟨#[101,110,118]⟩:ByteArray) from k4),if_pos k4]
   simp only[qOb g hl (show(3:Int)≠5 by decide),j0,qWm]
   cases h1:qMa ts 3 (p.1+1) with
   |inl z=>rfl
   |inr a=>
    obtain⟨rfl,g1,-⟩:=qKd hok (by decide) g h1
    simp only[jG,qWt (N:=N) (by omega),j0,qCr,qAy]
    cases h2:qOu (tkAt ts (p.1+1)).2.1 with
    |false=>rfl
    |true=>exact fin (9,0,(tkAt ts (p.1+1)).2.1,[],ts,((p.1+1+1:Nat):Int),pr,p.2) (p.1+1+1,p.2) _ rfl rfl g1 hb
  ·rw[if_neg (show ¬t.2.1=(⟨#[101,110,118]⟩:ByteArray) from k4),if_neg k4]
   simp only[qOb g hl (show(2:Int)≠5 by decide),j0]
   cases h1:qMa ts 2 (p.1+1) with
   |inl z=>rfl
   |inr a=>
    obtain⟨rfl,g1,-⟩:=qKd hok (by decide) g h1
    simp only[jG,qAy,j0]
    by_cases h2:(tkAt ts (p.1+1)).2.2.1≥64
    ·simp only[if_pos h2,j0];rfl
    ·simp only[if_neg h2,j0]
     exact fin (10,(tkAt ts (p.1+1)).2.2.1,⟨#[]⟩,[],ts,((p.1+1+1:Nat):Int),pr,p.2) (p.1+1+1,p.2) _ rfl rfl g1 hb
end
end
section
open Go Go.Dc
section
variable {N:Nat} {ts:List Tok} {pr:List ByteArray} {E S:Ps→PM Nat} {d:Int}
variable {r1:StT→Tok→Int→Option (Flt⊕(StT×Int))} {r2:StT→Int→Option (Flt⊕(StT×List Int))} {r3:StT→Int→Option (Flt⊕(StT×Int))} {r4:StT→Int→Int→Option (Flt⊕(StT×Int))} {r5:StT→Int→Option (Flt⊕(StT×Int))}
theorem kw_mem(x:ByteArray):(decide (x=(⟨#[114,101,97,100]⟩:ByteArray))||(decide (x=(⟨#[115,105,122,101]⟩:ByteArray))||(decide (x=(⟨#[104,97,115]⟩:ByteArray))||(decide (x=(⟨#[101,110,118]⟩:ByteArray))||decide (x=(⟨#[102,108,105,112]⟩:ByteArray))))))=decide (x∈[qPe,qOv,sHas,sEnv,qRt]):=by
 simp only[qPe,qOv,sHas,sEnv,qRt,jQ,gP,or_false,Bool.decide_or]
theorem qYb(hok:OkT ts)(hl:ts.length<1000000)(hpr:pr.length<1000)(hN:300000<N)(hA:Adv ts E)(hE:∀p:Ps,p.1<ts.length→p.2.length≤256→r5 (stP ts pr p) (IntKind.wrap .i64 (d+1))=some (outP ts pr (E p)))
  (h1:∀(t:Tok) (p:Ps),p.1<ts.length→p.2.length≤256→r1 (stP ts pr p) t d=some (outP ts pr (qKj ts E t p)))
  (h2:∀p:Ps,p.1<ts.length→p.2.length≤256→r2 (stP ts pr p) d=some (outL ts pr (qHq ts E p)))
  (p:Ps) (hp:p.1<ts.length) (hb:p.2.length≤256):qDv N r1 r2 r3 r4 r5 (stP ts pr p) d=some (outP ts pr (qMe ts pr E p)):=by
 have hw:=qKk (show p.1<1000000 by omega)
 simp only[qDv,stP,qGq hp,j0,qMe]
 by_cases k1:(tkAt ts p.1).1=2
 ·rw[if_pos (show((tkAt ts p.1).1==2)=true by simpa using k1),if_pos k1,hw]
  simp only[qLt _ _ hb,j0]
  cases qJw (tkAt ts p.1) (1,(tkAt ts p.1).2.2.1,0,⟨#[]⟩,[]) (p.1+1,p.2)<;>rfl
 rw[if_neg (show ¬((tkAt ts p.1).1==2)=true by simpa using k1),if_neg k1]
 simp only[qJo hp hl,j0]
 rcases qKm (isC ts 4 qYf p.1) with c1|c1
 ·have c1':isC ts 4 ⟨#[45]⟩ p.1=true:=c1
  have g:=qFc hok hp (by decide) c1
  simp only[c1,c1',jM,qOb g hl (show(2:Int)≠5 by decide),j0]
  cases h:qMa ts 2 (p.1+1) with
  |inl z=>rfl
  |inr a=>
   simp only[jG,qCr,qLt _ _ hb,j0]
   cases qJw (tkAt ts p.1) (1,IntKind.wrap .i64 (0-a.2.2.2.1),0,⟨#[]⟩,[]) (a.1,p.2)<;>rfl
 have c1':isC ts 4 ⟨#[45]⟩ p.1=false:=c1
 simp only[c1,c1',jC,jL,qJo hp hl,j0]
 rcases qKm (isC ts 4 qPd p.1) with c2|c2
 ·have c2':isC ts 4 ⟨#[40]⟩ p.1=true:=c2
  have g:=qFc hok hp (by decide) c2
  have hEp:=hE (p.1+1,p.2) g hb
  simp only[stP] at hEp
  simp only[c2,c2',jM,hEp,j0]
  cases h:E (p.1+1,p.2) with
  |inl z=>rfl
  |inr q=>
   obtain⟨⟨f1,f2,f3,f4⟩,f5⟩:=hA (p.1+1,p.2) q.1 q.2 g hb h
   simp only[outP,jG,qCr,stP,qIa f2 hl,j0,qJu]
   cases qHe ts ⟨#[41]⟩ q.1.1<;>rfl
 have c2':isC ts 4 ⟨#[40]⟩ p.1=false:=c2
 simp only[c2,c2',jC,jL,qAy,j0]
 by_cases k2:(tkAt ts p.1).1=1
 rotate_left
 ·rw[if_pos (show((tkAt ts p.1).1 !=1)=true by simpa using k2),if_pos k2];rfl
 rw[if_neg (show ¬((tkAt ts p.1).1 !=1)=true by simpa using k2),if_neg (show ¬(tkAt ts p.1).1≠1 by simpa using k2)]
 have g:=hok.next hp (show(tkAt ts p.1).1≠5 by rw[k2];decide)
 simp only[j0,qGf,orS,kw_mem,hw]
 by_cases k3:(tkAt ts p.1).2.1∈[qPe,qOv,sHas,sEnv,qRt]
 ·rw[if_pos (show decide ((tkAt ts p.1).2.1∈[qPe,qOv,sHas,sEnv,qRt])=true from k8 k3),if_pos k3]
  have h1p:=h1 (tkAt ts p.1) (p.1+1,p.2) g hb
  simp only[stP] at h1p
  simp only[h1p,j0]
  cases qKj ts E (tkAt ts p.1) (p.1+1,p.2)<;>rfl
 rw[if_neg (show ¬decide ((tkAt ts p.1).2.1∈[qPe,qOv,sHas,sEnv,qRt])=true by simpa using k3),if_neg k3]
 simp only[qMg,j0]
 rcases qKm (resC (tkAt ts p.1).2.1) with c3|c3
 ·simp only[c3,jM,j0];rfl
 simp only[c3,jC,jL,j0,qUq g]
 rcases qKm (isC ts 4 qPd (p.1+1)) with c4|c4
 ·have c4':isC ts 4 ⟨#[40]⟩ (p.1+1)=true:=c4
  have h2p:=h2 (p.1+1,p.2) g hb
  simp only[stP] at h2p
  simp only[c4,c4',jM,h2p,j0]
  cases h:qHq ts E (p.1+1,p.2) with
  |inl z=>rfl
  |inr q=>
   obtain⟨f1,f2,f3,f4⟩:=qLq hok hA (p:=(p.1+1,p.2)) g hb h
   simp only[outL,jG,qCr,stP,qLt _ _ f4,j0]
   cases qJw (tkAt ts p.1) (3,0,0,(tkAt ts p.1).2.1,q.2) (q.1.1,q.1.2)<;>rfl
 have c4':isC ts 4 ⟨#[40]⟩ (p.1+1)=false:=c4
 simp only[c4,c4',jC,jL,qUa (N:=N) (l:=pr) (s:=(tkAt ts p.1).2.1) (by omega) (by omega),j0]
 cases pr.findIdx? (fun x=>decide (x=(tkAt ts p.1).2.1)) with
 |none=>rfl
 |some j=>
  simp only[j9]
  rw[if_neg (by omega)]
  simp only[j0,qLt _ _ hb]
  cases qJw (tkAt ts p.1) (2,(j:Int),0,⟨#[]⟩,[]) (p.1+1,p.2)<;>rfl
theorem qXf(h3:∀p:Ps,p.1<ts.length→p.2.length≤256→r3 (stP ts pr p) d=some (outP ts pr (S p)))(p:Ps)(hp:p.1<ts.length)(hb:p.2.length≤256):
  qCf N r1 r2 r3 r4 r5 (stP ts pr p) 4 d=some (outP ts pr (S p)):=by
 have h3p:=h3 p hp hb
 simp only[stP] at h3p
 simp only[qCf,stP,h3p,j0]
 cases S p<;>rfl
theorem qRj(hok:OkT ts)(hl:ts.length<1000000)(hS:Adv ts S){L:Nat}(hL:L<4)(h4:∀p:Ps,p.1<ts.length→p.2.length≤256→r4 (stP ts pr p) ((L:Int)+1) d=some (outP ts pr (S p))):
  ∀(n M x:Nat) (p:Ps),p.1<ts.length→p.2.length≤256→x<p.2.length→ts.length<p.1+n→ts.length<p.1+M→
  qBe (qDr N r4 (L:Int) d) M ((x:Int),ts,(p.1:Int),pr,p.2)=some (outP ts pr (qUw ts L S n x p))
 |0,M,x,p,hp,_,_,h,_=>by omega
 |n+1,0,x,p,hp,_,_,_,h=>by omega
 |n+1,M+1,x,p,hp,hb,hx,hn,hM=>by
  have hw:=qKk (show p.1<1000000 by omega)
  have hwL:IntKind.wrap .i64 ((L:Int)+1)=(L:Int)+1:=wi64 (by omega) (by omega)
  simp only[qBe,qDr,qUw,qSy hp,j0]
  by_cases k1:opC ts L p.1=0
  ·rw[if_pos (show(opC ts L p.1==0)=true by simpa using k1),if_pos k1];rfl
  rw[if_neg (show ¬(opC ts L p.1==0)=true by simpa using k1),if_neg k1]
  have hk:(tkAt ts p.1).1≠5:=by
   intro hk
   apply k1
   unfold opC
   have:opsC.find? (isOp ts L p.1)=none:=by
    rw[List.find?_eq_none]
    intro o _ ho
    simp only[isOp,jP] at ho
    have:=qRa ho.1
    omega
   rw[this]
  have g:=hok.next hp hk
  have h4p:=h4 (p.1+1,p.2) g hb
  simp only[stP] at h4p
  simp only[qGq hp,j0,hw,hwL,h4p]
  cases h:S (p.1+1,p.2) with
  |inl z=>rfl
  |inr q=>
   obtain⟨⟨f1,f2,f3,f4⟩,f5⟩:=hS (p.1+1,p.2) q.1 q.2 g hb h
   simp only[outP,jG,qCr,stP,qLt _ _ f4,j0]
   cases hn2:qJw (tkAt ts p.1) (4,0,opC ts L p.1,⟨#[]⟩,[(x:Int),(q.2:Int)]) (q.1.1,q.1.2) with
   |inl z=>rfl
   |inr r=>
    obtain⟨⟨k1,k2,k3,k4⟩,k5⟩:=qIx (ts:=ts) (p:=p) (r:=(q.1.1,q.1.2)) (by simp only at f1 ⊢;omega) f2 f3 f4 hn2
    simp only[jG]
    by_cases k6:L=1
    ·subst k6
     rfl
    ·rw[if_neg (show ¬((L:Int)==1)=true by simp;omega),if_neg k6]
     simp only[j0]
     exact qRj hok hl hS hL h4 n M r.2 r.1 k2 k4 k5 (by omega) (by omega)
theorem qQo(hok:OkT ts)(hl:ts.length<1000000)(hN:1000001<N)(hS:Adv ts S){L:Nat}(hL:L<4)(h4:∀p:Ps,p.1<ts.length→p.2.length≤256→r4 (stP ts pr p) ((L:Int)+1) d=some (outP ts pr (S p)))
  (p:Ps) (hp:p.1<ts.length) (hb:p.2.length≤256):qCf N r1 r2 r3 r4 r5 (stP ts pr p) (L:Int) d=some (outP ts pr (qPg ts L S p)):=by
 have hwL:IntKind.wrap .i64 ((L:Int)+1)=(L:Int)+1:=wi64 (by omega) (by omega)
 have h4p:=h4 p hp hb
 simp only[stP] at h4p
 simp only[qCf,stP,qPg,hwL,h4p,j0]
 rw[if_neg (show ¬((L:Int)==4)=true by simp;omega)]
 cases h:S p with
 |inl z=>rfl
 |inr q=>
  obtain⟨⟨f1,f2,f3,f4⟩,f5⟩:=hS p q.1 q.2 hp hb h
  simp only[outP,jG,qCr,stP]
  rw[qRj hok hl hS hL h4 (ts.length+1) N q.2 q.1 f2 f4 f5 (by omega) (by omega)]
  rfl
theorem expr_B{k:Nat}(hok:OkT ts)(hl:ts.length<1000000)(hd:d+k=32)(hk:k<33)(hA:Adv ts (qGs ts pr k))(hE:∀p:Ps,p.1<ts.length→p.2.length≤256→r5 (stP ts pr p) (IntKind.wrap .i64 (d+1))=some (outP ts pr (qGs ts pr k p)))
  (h4:∀p:Ps,p.1<ts.length→p.2.length≤256→r4 (stP ts pr p) 1 d=some (outP ts pr (qNn ts pr (qGs ts pr k) p)))
  (p:Ps) (hp:p.1<ts.length) (hb:p.2.length≤256):qCx N r1 r2 r3 r4 r5 (stP ts pr p) d=some (outP ts pr (qGs ts pr (k+1) p)):=by
 have hw:=qKk (show p.1<1000000 by omega)
 simp only[qCx,stP,qGq hp,j0,qGs]
 rw[if_neg (show ¬decide (d>32)=true by simp only[j9];omega)]
 simp only[j0,qUq hp]
 rcases qKm (isC ts 1 sIf p.1) with c1|c1
 rotate_left
 ·have c1':isC ts 1 ⟨#[105,102]⟩ p.1=false:=c1
  have h4p:=h4 p hp hb
  simp only[stP] at h4p
  simp only[c1,c1',gN,jM,jC,jL,h4p,j0]
  cases qNn ts pr (qGs ts pr k) p<;>rfl
 have c1':isC ts 1 ⟨#[105,102]⟩ p.1=true:=c1
 have g:=qFc hok hp (by decide) c1
 have hEa:=hE (p.1+1,p.2) g hb
 simp only[stP] at hEa
 simp only[c1,c1',kT,jM,jC,jL,hw,hEa,j0]
 cases ha:qGs ts pr k (p.1+1,p.2) with
 |inl z=>rfl
 |inr a=>
  obtain⟨⟨a1,a2,a3,a4⟩,a5⟩:=hA (p.1+1,p.2) a.1 a.2 g hb ha
  simp only[outP,jG,qCr,stP,qTo a2 hl,j0,qXs]
  cases hi:qPc ts ⟨#[116,104,101,110]⟩ a.1.1 with
  |inl z=>rfl
  |inr i=>
   obtain⟨rfl,g1,-⟩:=qMt hok a2 hi
   have hEb:=hE (a.1.1+1,a.1.2) g1 a4
   simp only[stP] at hEb
   simp only[jG,hEb,j0]
   cases hb1:qGs ts pr k (a.1.1+1,a.1.2) with
   |inl z=>rfl
   |inr b=>
    obtain⟨⟨b1,b2,b3,b4⟩,b5⟩:=hA (a.1.1+1,a.1.2) b.1 b.2 g1 a4 hb1
    simp only[outP,jG,qCr,stP,qTo b2 hl,j0,qXk]
    cases hj:qPc ts ⟨#[101,108,115,101]⟩ b.1.1 with
    |inl z=>rfl
    |inr j=>
     obtain⟨rfl,g2,-⟩:=qMt hok b2 hj
     have hEc:=hE (b.1.1+1,b.1.2) g2 b4
     simp only[stP] at hEc
     simp only[jG,hEc,j0]
     cases hc1:qGs ts pr k (b.1.1+1,b.1.2) with
     |inl z=>rfl
     |inr c=>
      obtain⟨⟨c1,c2,c3,c4⟩,c5⟩:=hA (b.1.1+1,b.1.2) c.1 c.2 g2 b4 hc1
      simp only[outP,jG,qCr,stP,qLt _ _ c4,j0]
      cases qJw (tkAt ts p.1) (5,0,0,⟨#[]⟩,[(a.2:Int),(b.2:Int),(c.2:Int)]) (c.1.1,c.1.2)<;>rfl
theorem qYw(hd:d>32)(p:Ps)(hp:p.1<ts.length):qCx N r1 r2 r3 r4 r5 (stP ts pr p) d=some (outP ts pr (qGs ts pr 0 p)):=by
 simp only[qCx,stP,qGq hp,j0,qGs]
 rw[if_pos (show decide (d>32)=true by simpa using hd)]
 rfl
theorem qWf(hok:OkT ts)(hl:ts.length<1000000)(hpr:pr.length<1000)(hN:1000001<N)(ht:∀j,(tkAt ts j).2.1.size<100000):∀(k D:Nat),k≤32→7*k+1≤D→∀p:Ps,p.1<ts.length→p.2.length≤256→
  (qAc N D).2.2.2.2 (stP ts pr p) (33-(k:Int))=some (outP ts pr (qGs ts pr k p))
 |0,0,_,h,_,_,_=>by omega
 |0,D+1,_,_,p,hp,_=>by simp only[qAc];exact qYw (by omega) p hp
 |k+1,D,hk,hD,p,hp,hb=>by
  have hA:=qIi (ts:=ts) (params:=pr) hok k
  have hF:=qNt (params:=pr) hok hA
  have hT:Adv ts (qZi ts pr (qGs ts pr k)):=qJs hok hF
  have hS:Adv ts (sumC ts pr (qGs ts pr k)):=qJs hok hT
  have hE:∀D,7*k+1≤D→∀p:Ps,p.1<ts.length→p.2.length≤256→(qAc N D).2.2.2.2 (stP ts pr p) (IntKind.wrap .i64 (32-(k:Int)+1))=some (outP ts pr (qGs ts pr k p)):=by
   intro D hD p hp hb
   rw[wi64 (by omega) (by omega),show 32-(k:Int)+1=33-(k:Int) by omega]
   exact qWf hok hl hpr hN ht k D (by omega) hD p hp hb
  have h1:∀D,7*k+2≤D→∀(t:Tok) (p:Ps),p.1<ts.length→p.2.length≤256→(qAc N D).1 (stP ts pr p) t (32-(k:Int))=some (outP ts pr (qKj ts (qGs ts pr k) t p)):=by
   intro D hD t p hp hb
   obtain⟨D',rfl⟩:∃D',D=D'+1:=⟨D-1,by omega⟩
   simp only[qAc]
   exact qWe hok hl (by omega) ht hA (hE D' (by omega)) t p hp hb
  have h2:∀D,7*k+2≤D→∀p:Ps,p.1<ts.length→p.2.length≤256→(qAc N D).2.1 (stP ts pr p) (32-(k:Int))=some (outL ts pr (qHq ts (qGs ts pr k) p)):=by
   intro D hD p hp hb
   obtain⟨D',rfl⟩:∃D',D=D'+1:=⟨D-1,by omega⟩
   simp only[qAc]
   exact qSw hok hl (by omega) hA (hE D' (by omega)) p hp hb
  have h3:∀D,7*k+3≤D→∀p:Ps,p.1<ts.length→p.2.length≤256→(qAc N D).2.2.1 (stP ts pr p) (32-(k:Int))=some (outP ts pr (qMe ts pr (qGs ts pr k) p)):=by
   intro D hD p hp hb
   obtain⟨D',rfl⟩:∃D',D=D'+1:=⟨D-1,by omega⟩
   simp only[qAc]
   exact qYb hok hl hpr (by omega) hA (hE D' (by omega)) (h1 D' (by omega)) (h2 D' (by omega)) p hp hb
  have b4:∀D,7*k+4≤D→∀p:Ps,p.1<ts.length→p.2.length≤256→(qAc N D).2.2.2.1 (stP ts pr p) 4 (32-(k:Int))=some (outP ts pr (qMe ts pr (qGs ts pr k) p)):=by
   intro D hD p hp hb
   obtain⟨D',rfl⟩:∃D',D=D'+1:=⟨D-1,by omega⟩
   simp only[qAc]
   exact qXf (h3 D' (by omega)) p hp hb
  have b3:∀D,7*k+5≤D→∀p:Ps,p.1<ts.length→p.2.length≤256→(qAc N D).2.2.2.1 (stP ts pr p) 3 (32-(k:Int))=some (outP ts pr (qZi ts pr (qGs ts pr k) p)):=by
   intro D hD p hp hb
   obtain⟨D',rfl⟩:∃D',D=D'+1:=⟨D-1,by omega⟩
   simp only[qAc]
   exact qQo hok hl hN hF (L:=3) (by omega) (b4 D' (by omega)) p hp hb
  have b2:∀D,7*k+6≤D→∀p:Ps,p.1<ts.length→p.2.length≤256→(qAc N D).2.2.2.1 (stP ts pr p) 2 (32-(k:Int))=some (outP ts pr (sumC ts pr (qGs ts pr k) p)):=by
   intro D hD p hp hb
   obtain⟨D',rfl⟩:∃D',D=D'+1:=⟨D-1,by omega⟩
   simp only[qAc]
   exact qQo hok hl hN hT (L:=2) (by omega) (b3 D' (by omega)) p hp hb
  have b1:∀D,7*k+7≤D→∀p:Ps,p.1<ts.length→p.2.length≤256→(qAc N D).2.2.2.1 (stP ts pr p) 1 (32-(k:Int))=some (outP ts pr (qNn ts pr (qGs ts pr k) p)):=by
   intro D hD p hp hb
   obtain⟨D',rfl⟩:∃D',D=D'+1:=⟨D-1,by omega⟩
   simp only[qAc]
   exact qQo hok hl hN hS (L:=1) (by omega) (b2 D' (by omega)) p hp hb
  obtain⟨D',rfl⟩:∃D',D=D'+1:=⟨D-1,by omega⟩
  rw[show(33:Int)-((k+1:Nat):Int)=32-(k:Int) by omega]
  simp only[qAc]
  exact expr_B hok hl (by omega) (by omega) hA (hE D' (by omega)) (b1 D' (by omega)) p hp hb
theorem qZq(hok:OkT ts)(hl:ts.length<1000000)(hpr:pr.length<1000)(hN:1000001<N)(ht:∀j,(tkAt ts j).2.1.size<100000)(p:Ps)(hp:p.1<ts.length)(hb:p.2.length≤256):
  qHh N (ts,(p.1:Int),pr,p.2) 1=some (outP ts pr (qGs ts pr 32 p)):=by
 have:=qWf hok hl hpr hN ht 32 N (by omega) (by omega) p hp hb
 exact this
end
end
section
open Go Go.Dc
section
variable {N:Nat} {ts:List Tok} {pr:List ByteArray} {b:List Ex}
theorem qOr(h:OkT ts):∀(n:Nat) (l:List ByteArray) (i:Nat) (a:Nat×List ByteArray),i<ts.length→l.length≤8→qOa ts n l i= .inr a→i<a.1∧a.1<ts.length∧a.2.length≤8
 |0,_,_,_,_,_,h1=>by cases h1
 |n+1,l,i,a,hi,hl,h1=>by
  obtain⟨x,hx,h2⟩:=qBq (show qCr (qMo ts i) _=_ from h1)
  obtain⟨rfl,g1,-⟩:=qKb h hi hx
  split at h2
  ·cases h2
  rename_i k1
  split at h2
  ·cases h2
  split at h2
  ·rename_i k3
   have g2:=qFc h g1 (by decide) k3
   obtain⟨j1,j2,j3⟩:=qOr h n _ _ a g2 (by simp only[jI,jF,jK];omega) h2
   exact⟨by omega,j2,j3⟩
  ·obtain⟨j,hj,h3⟩:=qBq h2
   obtain⟨rfl,g2,-⟩:=qEs h g1 hj
   obtain rfl:=Sum.inr.inj h3
   exact⟨by simp only;omega,g2,by simp only[jI,jF,jK];omega⟩
theorem qKt(h:OkT ts){i:Nat}{a:Nat×List ByteArray}(hi:i<ts.length)(h1:qGt ts i= .inr a):i<a.1∧a.1<ts.length∧a.2.length≤8:=by
 obtain⟨j,hj,h2⟩:=qBq h1
 obtain⟨rfl,g,-⟩:=qEs h hi hj
 split at h2
 ·rename_i k
  obtain rfl:=Sum.inr.inj h2
  exact⟨by simp only;omega,qFc h g (by decide) k,by simp⟩
 ·obtain⟨j1,j2,j3⟩:=qOr h _ _ _ a g (by simp) h2
  exact⟨by omega,j2,j3⟩
theorem qOl(hok:OkT ts)(hl:ts.length<1000000)(hN:1000000<N):∀(n M:Nat) (l:List ByteArray) (i:Nat),i<ts.length→l.length≤8→ts.length<i+n→ts.length<i+M→
  ((qBe (qCp N) M (l,ts,(i:Int),pr,b)).bind fun out1=>(match out1 with| .inl o1=>(qAv N (o1.2.1,o1.2.2.1,o1.2.2.2.1,o1.2.2.2.2) (⟨#[41]⟩:ByteArray)).bind fun y12=>(match y12 with| .inl z5=>some (.inl z5)| .inr y13=>some (.inr ((y13.1,y13.2.1,y13.2.2.1,y13.2.2.2),o1.1)))| .inr (z)=>some z))=some (Sum.map id (fun a:Nat×List ByteArray=>((ts,(a.1:Int),pr,b),a.2)) (qOa ts n l i))
 |0,M,l,i,hi,_,h,_=>by omega
 |n+1,0,l,i,hi,_,_,h=>by omega
 |n+1,M+1,l,i,hi,hll,hn,hM=>by
  simp only[qBe,qCp,qOa,qQc hi hl,j0]
  cases hx:qMo ts i with
  |inl z=>rfl
  |inr x=>
   obtain⟨rfl,g1,-⟩:=qKb hok hi hx
   simp only[jG,qCr,qAy,j0]
   by_cases k1:l.length=8
   ·rw[if_pos (show((l.length:Int)==8)=true by simp;omega),if_pos k1];rfl
   rw[if_neg (show ¬((l.length:Int)==8)=true by simp;omega),if_neg k1]
   simp only[j0,qOo (N:=N) (l:=l) (s:=(tkAt ts i).2.1) (by omega) (by omega)]
   by_cases k2:(tkAt ts i).2.1∈l
   ·rw[if_pos (k8 k2),if_pos k2];rfl
   rw[if_neg (show ¬decide ((tkAt ts i).2.1∈l)=true by simpa using k2),if_neg k2]
   simp only[j0]
   rw[qFx (by simp only[jF,jK];omega) (by omega)]
   simp only[j0,qJo g1 hl,qPp]
   rcases qKm (isC ts 4 ⟨#[44]⟩ (i+1)) with hc|hc
   ·have g:=qFc hok g1 (by decide) hc
    simp only[hc,jM,kT,jC,jL,j0]
    exact qOl hok hl hN n M _ (i+1+1) g (by simp only[jI,jF,jK];omega) (by omega) (by omega)
   ·simp only[hc,jC,jL,gN,jM,j0,qIa g1 hl,qJu]
    cases qHe ts ⟨#[41]⟩ (i+1)<;>rfl
theorem qPz(hok:OkT ts)(hl:ts.length<1000000)(hN:1000000<N){i:Nat}(hi:i<ts.length):
  qCk N (ts,(i:Int),pr,b)=some (Sum.map id (fun a:Nat×List ByteArray=>((ts,(a.1:Int),pr,b),a.2)) (qGt ts i)):=by
 simp only[qCk,qIa hi hl,j0,qGt,qPd]
 cases h:qHe ts ⟨#[40]⟩ i with
 |inl z=>rfl
 |inr j=>
  obtain⟨rfl,g,-⟩:=qEs hok hi h
  simp only[jG,qCr,qJo g hl,j0,qJu]
  rcases qKm (isC ts 4 ⟨#[41]⟩ (i+1)) with hc|hc
  ·simp only[hc,jM];rfl
  ·simp only[hc,jC,jL]
   exact qOl hok hl hN (ts.length+1) N [] (i+1) g (by simp) (by omega) (by omega)
def qUm:List (ByteArray×Int):=[(⟨#[102,117,110,99]⟩,1),(⟨#[103,101,110]⟩,3),(⟨#[116,101,115,116]⟩,2)]
theorem qXu:((qGp (some []:Option (List (ByteArray×Int))) (⟨#[102,117,110,99]⟩:ByteArray) 1).bind fun mp1=>(qGp mp1 (⟨#[116,101,115,116]⟩:ByteArray) 2).bind fun mp2=>qGp mp2 (⟨#[103,101,110]⟩:ByteArray) 3)=some (some qUm):=by kernel_rfl
theorem qTs(s:ByteArray):((qDe (some qUm) s).getD 0)=qIe s:=by
 simp only[qDe,qUm,j0,mget,qIe,qXa,qXw,sGen]
 by_cases h1:s=⟨#[102,117,110,99]⟩
 ·simp[h1]
 by_cases h2:s=⟨#[116,101,115,116]⟩
 ·subst h2;rfl
 by_cases h3:s=⟨#[103,101,110]⟩
 ·subst h3;rfl
 simp[h1,h2,h3]
theorem qPi{before:List Dl}{y1:StT×Tok}{o4:List Tok×Int×List ByteArray×List Ex×Int×ByteArray×Int×Int}(hl:before.length≤64):∀(d i M:Nat),i+d=before.length→d<M→
  ((qBe (qDh N before (some qUm) y1 o4) M (i:Int)).bind fun out1=>(match out1 with| .inl o6=>some (-1)| .inr (z)=>some z):Option Int)=some (match(before.drop i).findIdx? (fun d=>d.1==qIe y1.2.2.1&&decide (d.2.1=o4.2.2.2.2.2.1)) with|some j=>((i+j:Nat):Int)|none=> -1)
 |d,i,0,_,h=>by omega
 |0,i,M+1,h,_=>by
  have:before.drop i=[]:=jV (by omega)
  simp only[qBe,qDh,this,List.findIdx?_nil]
  rw[if_neg (by simp only[j9];omega)]
  rfl
 |d+1,i,M+1,h,hM=>by
  have hi:i<before.length:=by omega
  have ih:=qPi (y1:=y1) (o4:=o4) hl d (i+1) M (by omega) (by omega)
  simp only[qBe,qDh]
  rw[if_pos (by simp only[j9];omega),qKh hi,jJ hi,List.findIdx?_cons]
  simp only[j0,qGf,qTs]
  by_cases k1:(before[i].1==qIe y1.2.2.1)=true
  ·by_cases k2:before[i].2.1=o4.2.2.2.2.2.1
   ·simp[k1,k2]
   ·simp only[k1,k2,jM,decide_false,j0,jC,jL,qKk (show i<1000000 by omega),Bool.and_false]
    rw[ih]
    cases(before.drop (i+1)).findIdx? (fun d=>d.1==qIe y1.2.2.1&&decide (d.2.1=o4.2.2.2.2.2.1)) with
    |none=>rfl
    |some j=>simp only[jR];rw[show i+1+j=i+(j+1) by omega]
  ·simp only[k1,jC,jL,j0,qKk (show i<1000000 by omega),Bool.false_and]
   rw[ih]
   cases(before.drop (i+1)).findIdx? (fun d=>d.1==qIe y1.2.2.1&&decide (d.2.1=o4.2.2.2.2.2.1)) with
   |none=>rfl
   |some j=>simp only[jR];rw[show i+1+j=i+(j+1) by omega]
theorem qRp(h:OkT ts){before:List Dl}{i:Nat}{a:Nat×Dl}(hi:i<ts.length)(h1:qSm ts before i= .inr a):i<a.1∧a.1<ts.length∧before.length≠64:=by
 unfold qSm at h1
 dsimp only at h1
 split at h1
 ·cases h1
 rename_i k1
 split at h1
 ·cases h1
 rename_i k2
 have g:=h.next hi (show(tkAt ts i).1≠5 by intro e;apply k1;left;rw[e];decide)
 obtain⟨x,hx,h2⟩:=qBq h1
 have gx:x.1=i+1+1∧x.1<ts.length:=by
  split at hx
  ·obtain⟨rfl,g1,-⟩:=qJd h g hx;exact⟨rfl,g1⟩
  ·obtain⟨rfl,g1,-⟩:=qKb h g hx;exact⟨rfl,g1⟩
 split at h2
 ·cases h2
 obtain⟨y,hy,h3⟩:=qBq h2
 have gy:x.1≤y.1∧y.1<ts.length:=by
  split at hy
  ·obtain⟨g1,g2,-⟩:=qKt h gx.2 hy;exact⟨by omega,g2⟩
  ·obtain rfl:=Sum.inr.inj hy;exact⟨jH _,gx.2⟩
 obtain⟨j,hj,h4⟩:=qBq h3
 obtain⟨rfl,g3,-⟩:=qEs h gy.2 hj
 obtain⟨c,hc,h5⟩:=qBq h4
 obtain⟨⟨f1,f2,f3,f4⟩,-⟩:=qIi h 32 (y.1+1,[]) c.1 c.2 g3 (by simp) hc
 obtain⟨m,hm,h6⟩:=qBq h5
 obtain⟨rfl,g4,-⟩:=qEs h f2 hm
 obtain rfl:=Sum.inr.inj h6
 exact⟨by simp only at f1 ⊢;omega,g4,k2⟩
theorem qYp{before:List Dl}{f:Dl→Bool}:(decide ((match before.findIdx? f with|some j=>((0+j:Nat):Int)|none=> -1)≥0))=before.any f:=by
 have:=List.findIdx?_isSome (xs:=before) (p:=f)
 rw[←this]
 cases before.findIdx? f with
 |none=>rfl
 |some j=>simp only[Option.isSome_some];exact k8 (by omega)
end
end
section
open Go Go.Dc
section
variable {N:Nat} {ts:List Tok} {pr:List ByteArray} {b:List Ex}
theorem qYn(hok:OkT ts)(hl:ts.length<1000000)(hN:1000001<N)(ht:∀j,(tkAt ts j).2.1.size<100000){before:List Dl}(hb:before.length≤64){i:Nat}(hi:i<ts.length):
  qFa N (ts,(i:Int),pr,b) before=some (Sum.map id (fun a:Nat×Dl=>((ts,(a.1:Int),a.2.2.2.1,a.2.2.2.2),a.2)) (qSm ts before i)):=by
 have hw:=qKk (show i<1000000 by omega)
 unfold qFa
 obtain⟨mp1,hm1,hm⟩:=jD.1 qXu
 obtain⟨mp2,hm2,hm3⟩:=jD.1 hm
 rw[hm1];simp only[j0]
 rw[hm2];simp only[j0]
 rw[hm3];simp only[j0,qGq hi,qTs,qAy,qSm]
 by_cases k1:(tkAt ts i).1≠1∨qIe (tkAt ts i).2.1=0
 ·rw[if_pos k1]
  have:((if((tkAt ts i).1 !=1)=true then some true else some (qIe (tkAt ts i).2.1==0)):Option Bool)=some true:=by
   rcases k1 with h|h
   ·simp[h]
   ·simp[h]
  rw[this];rfl
 rw[if_neg k1]
 have k1a:(tkAt ts i).1=1:=by
  apply Decidable.byContradiction
  intro h;exact k1 (.inl h)
 have k1b:¬qIe (tkAt ts i).2.1=0:=fun h=>k1 (.inr h)
 have:((if((tkAt ts i).1 !=1)=true then some true else some (qIe (tkAt ts i).2.1==0)):Option Bool)=some false:=by simp[k1a,k1b]
 rw[this]
 simp only[j0,jC,jL]
 by_cases k2:before.length=64
 ·rw[if_pos (show((before.length:Int)==64)=true by simp;omega),if_pos k2];rfl
 rw[if_neg (show ¬((before.length:Int)==64)=true by simp;omega),if_neg k2]
 have g:=hok.next hi (show(tkAt ts i).1≠5 by rw[k1a];decide)
 simp only[j0,hw]
 have hx:(if(qIe (tkAt ts i).2.1==3)=true then((qCj N (ts,((i+1:Nat):Int),pr,b)).bind fun y6=>(match y6 with| .inl z3=>some (.inr (.inl z3))| .inr y7=>some (.inl (y7.1.1,y7.1.2.1,y7.1.2.2.1,y7.1.2.2.2,y7.2.1,y7.2.2.1,y7.2.2.2.1,y7.2.2.2.2)))) else((qCh N (ts,((i+1:Nat):Int),pr,b)).bind fun y8=>(match y8 with| .inl z4=>some (.inr (.inl z4))| .inr y9=>some (.inl (y9.1.1,y9.1.2.1,y9.1.2.2.1,y9.1.2.2.2,y9.2.1,y9.2.2.1,y9.2.2.2.1,y9.2.2.2.2)))):Option ((List Tok×Int×List ByteArray×List Ex×Int×ByteArray×Int×Int)⊕(Flt⊕(StT×Dl))))=
   some (match(if qIe (tkAt ts i).2.1=3 then qMy ts (i+1) else qMo ts (i+1)) with| .inl z=> .inr (.inl z)| .inr a=> .inl (ts,(a.1:Int),pr,b,a.2.1,a.2.2.1,a.2.2.2.1,a.2.2.2.2)):=by
  by_cases k3:qIe (tkAt ts i).2.1=3
  ·rw[if_pos (show(qIe (tkAt ts i).2.1==3)=true by simpa using k3),if_pos k3,qQy g hl (by omega) ht]
   cases qMy ts (i+1)<;>rfl
  ·rw[if_neg (show ¬(qIe (tkAt ts i).2.1==3)=true by simpa using k3),if_neg k3,qQc g hl]
   cases qMo ts (i+1)<;>rfl
 refine Eq.trans (congrArg (fun z=>Option.bind z _) hx) ?_
 simp only[j0]
 cases hX:(if qIe (tkAt ts i).2.1=3 then qMy ts (i+1) else qMo ts (i+1)) with
 |inl z=>rfl
 |inr x=>
  have gx:x.1=i+1+1∧x.1<ts.length:=by
   split at hX
   ·obtain⟨rfl,g1,-⟩:=qJd hok g hX;exact⟨rfl,g1⟩
   ·obtain⟨rfl,g1,-⟩:=qKb hok g hX;exact⟨rfl,g1⟩
  simp only[qCr]
  have hT:=qPi (N:=N) (before:=before) (y1:=((ts,(i:Int),pr,b),tkAt ts i)) (o4:=(ts,(x.1:Int),pr,b,x.2.1,x.2.2.1,x.2.2.2.1,x.2.2.2.2)) hb before.length 0 N (by omega) (by omega)
  simp only[g9] at hT
  refine Eq.trans (congrArg (fun z=>Option.bind z _) hT) ?_
  simp only[j0,qYp]
  rcases qKm (before.any fun d=>d.1==qIe (tkAt ts i).2.1&&decide (d.2.1=x.2.2.1)) with k4|k4
  ·simp only[k4,jM];rfl
  simp only[k4,jC,jL,j0]
  have hp:(if(qIe (tkAt ts i).2.1==1)=true then((qCk N (ts,(x.1:Int),pr,b)).bind fun y12=>(match y12 with| .inl z6=>some (.inr (.inl z6))| .inr y13=>some (.inl (y13.2,y13.1.1,y13.1.2.1,y13.1.2.2.1,y13.1.2.2.2)))) else(some (.inl (([]:List (ByteArray)),ts,(x.1:Int),pr,b))):Option ((List ByteArray×StT)⊕(Flt⊕(StT×Dl))))=
    some (match(if qIe (tkAt ts i).2.1=1 then qGt ts x.1 else .inr (x.1,[])) with| .inl z=> .inr (.inl z)| .inr a=> .inl (a.2,ts,(a.1:Int),pr,b)):=by
   by_cases k5:qIe (tkAt ts i).2.1=1
   ·rw[if_pos (show(qIe (tkAt ts i).2.1==1)=true by simpa using k5),if_pos k5,qPz hok hl (by omega) gx.2]
    cases qGt ts x.1<;>rfl
   ·rw[if_neg (show ¬(qIe (tkAt ts i).2.1==1)=true by simpa using k5),if_neg k5]
  refine Eq.trans (congrArg (fun z=>Option.bind z _) hp) ?_
  simp only[j0]
  cases hY:(if qIe (tkAt ts i).2.1=1 then qGt ts x.1 else .inr (x.1,[]):Flt⊕(Nat×List ByteArray)) with
  |inl z=>rfl
  |inr y=>
   have gy:x.1≤y.1∧y.1<ts.length∧y.2.length≤8:=by
    split at hY
    ·obtain⟨g1,g2,g3⟩:=qKt hok gx.2 hY;exact⟨by omega,g2,g3⟩
    ·obtain rfl:=Sum.inr.inj hY;exact⟨jH _,gx.2,by simp⟩
   simp only[qIa gy.2.1 hl,j0,sEq]
   cases hj:qHe ts ⟨#[61]⟩ y.1 with
   |inl z=>rfl
   |inr j=>
    obtain⟨rfl,g3,-⟩:=qEs hok gy.2.1 hj
    have he:=qZq (N:=N) (pr:=y.2) hok hl (by omega) hN ht (y.1+1,[]) g3 (by simp)
    simp only at he
    simp only[jG,he,j0]
    cases hc:qGs ts y.2 32 (y.1+1,[]) with
    |inl z=>rfl
    |inr c=>
     obtain⟨⟨f1,f2,f3,f4⟩,-⟩:=qIi hok 32 (y.1+1,[]) c.1 c.2 g3 (by simp) hc
     simp only[outP,jG,stP,qIa f2 hl,j0,qVc]
     cases qHe ts ⟨#[59]⟩ c.1.1<;>rfl
theorem qNd(hok:OkT ts)(hl:ts.length<1000000)(hN:1000000<N){y4:StT×Tok}:∀(n M:Nat) (l:List ByteArray) (i:Nat),i<ts.length→l.length≤8→ts.length<i+n→ts.length<i+M→
  qBe (qEf N y4) M (ts,(i:Int),pr,b,l)=some (match qKa ts y4.2.2.1 n l i with| .inl z=> .inr (.inl z)| .inr a=> .inl (ts,(a.1:Int),pr,b,a.2))
 |0,M,l,i,hi,_,h,_=>by omega
 |n+1,0,l,i,hi,_,_,h=>by omega
 |n+1,M+1,l,i,hi,hll,hn,hM=>by
  have hw:=qKk (show i<1000000 by omega)
  simp only[qBe,qEf,qKa,qUq hi,j0,qRd]
  rcases qKm (isC ts 1 ⟨#[105,109,112,111,114,116]⟩ i) with k1|k1
  rotate_left
  ·simp only[k1,jC,jL,j0]
  have g:=qFc hok hi (by decide) k1
  simp only[k1,jM]
  by_cases k2:l.length=8
  ·rw[if_pos (show((l.length:Int)==8)=true by simp;omega),if_pos k2]
   simp only[qGq hi,j0,qAy];rfl
  rw[if_neg (show ¬((l.length:Int)==8)=true by simp;omega),if_neg k2]
  simp only[j0,hw,qQc g hl]
  cases hx:qMo ts (i+1) with
  |inl z=>rfl
  |inr x=>
   obtain⟨rfl,g1,-⟩:=qKb hok g hx
   simp only[jG,qCr,qAy,j0,qGf,qOo (N:=N) (l:=l) (s:=(tkAt ts (i+1)).2.1) (by omega) (by omega)]
   by_cases k3:(tkAt ts (i+1)).2.1=y4.2.2.1∨(tkAt ts (i+1)).2.1∈l
   ·rw[if_pos k3]
    have:((if decide ((tkAt ts (i+1)).2.1=y4.2.2.1)=true then some true else some (decide ((tkAt ts (i+1)).2.1∈l))):Option Bool)=some true:=by
     rcases k3 with h|h
     ·rw[if_pos (k8 h)]
     ·rw[k8 h];split<;>rfl
    rw[this];rfl
   rw[if_neg k3]
   have:((if decide ((tkAt ts (i+1)).2.1=y4.2.2.1)=true then some true else some (decide ((tkAt ts (i+1)).2.1∈l))):Option Bool)=some false:=by
    rw[if_neg (by simp only[j9];exact fun h=>k3 (.inl h)),gF (fun h=>k3 (.inr h))]
   rw[this]
   simp only[j0,jC,jL]
   rw[qFx (by simp only[jF,jK];omega) (by omega)]
   simp only[j0,qIa g1 hl,qVc]
   cases hj:qHe ts ⟨#[59]⟩ (i+1+1) with
   |inl z=>rfl
   |inr j=>
    obtain⟨rfl,g2,-⟩:=qEs hok g1 hj
    exact qNd hok hl hN n M _ (i+1+1+1) g2 (by simp only[jI,jF,jK];omega) (by omega) (by omega)
theorem qNe(h:OkT ts){pkg:ByteArray}:∀(n:Nat) (l:List ByteArray) (i:Nat) (a:Nat×List ByteArray),i<ts.length→l.length≤8→qKa ts pkg n l i= .inr a→i≤a.1∧a.1<ts.length∧a.2.length≤8
 |0,_,_,_,_,_,h1=>by cases h1
 |n+1,l,i,a,hi,hl,h1=>by
  unfold qKa at h1
  split at h1
  ·rename_i k
   have g:=qFc h hi (by decide) k
   split at h1
   ·cases h1
   rename_i k2
   obtain⟨x,hx,h2⟩:=qBq h1
   obtain⟨rfl,g1,-⟩:=qKb h g hx
   split at h2
   ·cases h2
   obtain⟨j,hj,h3⟩:=qBq h2
   obtain⟨rfl,g2,-⟩:=qEs h g1 hj
   obtain⟨j1,j2,j3⟩:=qNe h n _ _ a g2 (by simp only[jI,jF,jK];omega) h3
   exact⟨by omega,j2,j3⟩
  ·obtain rfl:=Sum.inr.inj h1
   exact⟨jH _,hi,hl⟩
theorem qPt(hok:OkT ts)(hl:ts.length<1000000)(hN:1000001<N)(ht:∀j,(tkAt ts j).2.1.size<100000):∀(n M:Nat) (l:List Dl) (i:Nat) (pr:List ByteArray) (b:List Ex),i<ts.length→l.length≤64→ts.length<i+n→ts.length<i+M→
  match qSs ts n l i with
  | .inl z=>qBe (qCc N) M (ts,(i:Int),pr,b,l)=some (.inr (.inl z))
  | .inr a=>∃i' pr' b',qBe (qCc N) M (ts,(i:Int),pr,b,l)=some (.inl (ts,i',pr',b',a))
 |0,M,l,i,_,_,hi,_,h,_=>by omega
 |n+1,0,l,i,_,_,hi,_,_,h=>by omega
 |n+1,M+1,l,i,pr,b,hi,hll,hn,hM=>by
  have e1:qBe (qCc N) (M+1) (ts,(i:Int),pr,b,l)=(if(tkAt ts i).1=5 then some (.inl (ts,(i:Int),pr,b,l)) else
    match qSm ts l i with
    | .inl z=>some (.inr (.inl z))
    | .inr a=>qBe (qCc N) M (ts,(a.1:Int),a.2.2.2.1,a.2.2.2.2,l++[a.2])):=by
   simp only[qBe,qCc,qGq hi,j0,qYn hok hl hN ht hll hi]
   by_cases k1:(tkAt ts i).1=5
   ·rw[if_neg (show ¬((tkAt ts i).1 !=5)=true by simpa using k1),if_pos k1];rfl
   ·rw[if_pos (show((tkAt ts i).1 !=5)=true by simpa using k1),if_neg k1]
    cases hd:qSm ts l i with
    |inl z=>rfl
    |inr a=>
     obtain⟨g1,g2,g3⟩:=qRp hok hi hd
     simp only[jG]
     rw[qFx (by simp only[jF,jK];omega) (by omega)]
     rfl
  rw[e1]
  simp only[qSs]
  by_cases k1:(tkAt ts i).1=5
  ·simp only[if_pos k1];exact⟨_,_,_,rfl⟩
  ·simp only[if_neg k1]
   cases hd:qSm ts l i with
   |inl z=>rfl
   |inr a=>
    obtain⟨g1,g2,g3⟩:=qRp hok hi hd
    exact qPt hok hl hN ht n M (l++[a.2]) a.1 _ _ g2 (by simp only[jI,jF,jK];omega) (by omega) (by omega)
theorem qYx(hok:OkT ts)(hl:ts.length<1000000)(hN:1000001<N)(ht:∀j,(tkAt ts j).2.1.size<100000):
  match qXg ts with
  | .inl z=>qEh N (ts,0,pr,b)=some (.inl z)
  | .inr f=>∃i' pr' b',qEh N (ts,0,pr,b)=some (.inr ((ts,i',pr',b'),f)):=by
 have h0:0<ts.length:=List.length_pos_iff.2 hok.1
 simp only[qEh,qXg]
 rw[show(0:Int)=((0:Nat):Int) from rfl]
 simp only[qTo h0 hl,j0,qNo]
 cases h1:qPc ts ⟨#[112,97,99,107,97,103,101]⟩ 0 with
 |inl z=>rfl
 |inr i=>
  obtain⟨rfl,g1,-⟩:=qMt hok h0 h1
  simp only[jG,qCr,qQc g1 hl,j0]
  cases h2:qMo ts (0+1) with
  |inl z=>rfl
  |inr x=>
   obtain⟨rfl,g2,-⟩:=qKb hok g1 h2
   simp only[jG,qIa g2 hl,j0,qVc]
   cases h3:qHe ts ⟨#[59]⟩ (0+1+1) with
   |inl z=>rfl
   |inr j=>
    obtain⟨rfl,g3,-⟩:=qEs hok g2 h3
    simp only[jG,qNd hok hl (by omega:1000000<N) (ts.length+1) N [] (0+1+1+1) g3 (by simp) (by omega) (by omega),j0]
    cases h4:qKa ts (tkAt ts (0+1)).2.1 (ts.length+1) [] (0+1+1+1) with
    |inl z=>rfl
    |inr y=>
     obtain⟨k1,k2,k3⟩:=qNe hok _ _ _ y g3 (by simp) h4
     have hd:=qPt (N:=N) hok hl hN ht (ts.length+1) N [] y.1 pr b k2 (by simp) (by omega) (by omega)
     simp only[]
     cases h5:qSs ts (ts.length+1) [] y.1 with
     |inl z=>
      rw[h5] at hd
      simp only[hd,j0]
     |inr l=>
      rw[h5] at hd
      obtain⟨i',pr',b',hd⟩:=hd
      refine⟨i',pr',b',?_⟩
      simp only[hd,j0]
end
theorem qUe{s:ByteArray}:∀(l:List Tok) (e:Int),0≤e→qZr s e l→∀i,i<l.length→((tkAt l i).1=5↔i+1=l.length)∧((tkAt l i).2.1.size:Int)≤s.size∧0≤(tkAt l i).2.2.2
 |[],_,_,_,i,hi=>by simp at hi
 |t::r,e,he,h,i,hi=>by
  obtain⟨h1,h2,h3,h4,h5⟩:=h
  have hend:0≤endT t:=by unfold endT;split<;>omega
  cases i with
  |zero=>
   refine⟨?_,?_,?_⟩
   ·show t.1=5↔0+1=r.length+1
    rw[h3,←List.length_eq_zero_iff];omega
   ·show((t.2.1.size:Nat):Int)≤s.size
    omega
   ·show 0≤t.2.2.2
    omega
  |succ i=>
   have:=qUe r _ hend h5 i (by simpa using hi)
   have e:tkAt (t::r) (i+1)=tkAt r i:=by simp[tkAt]
   rw[e,jF]
   exact⟨⟨fun h=>by have:=this.1.1 h;omega,fun h=>this.1.2 (by omega)⟩,this.2⟩
theorem qVb{s:ByteArray}(h:(qGo s).2.2=0):OkT (qGo s).1∧(qGo s).1.length≤16385∧∀j,(tkAt (qGo s).1 j).2.1.size<100000:=by
 unfold qGo at h ⊢
 split at h
 ·simp at h
 rename_i hs
 rw[if_neg hs]
 cases hG:tokG (s.data.toList.length+1) s 0 with
 |inl x=>
  obtain⟨_,_,h3⟩:=qQk _ 0 x (by omega) (by omega) hG
  rw[hG] at h
  exact absurd h h3
 |inr r=>
  obtain⟨g1,g2,g3⟩:=qMz _ 0 0 r (by omega) (by omega) (by omega) hG
  simp only[qXe,kQ]
  have hc:=qUe r 0 (by omega) g1
  refine⟨⟨g2,fun i hi=>(hc i hi).1⟩,by omega,fun j=> ?_⟩
  rcases gD j r.length with hj|hj
  ·have:=(hc j hj).2.1
   have hs2:=qCb s
   omega
  ·have e:tkAt r j=(5,⟨#[]⟩,0,0):=by simp[tkAt,jU,List.getElem?_eq_none hj]
   rw[e];decide
theorem qQz{N:Nat}(s:ByteArray)(hN:1000001<N):qEe N s=some (qFs s):=by
 simp only[qEe,qWg (N:=N) (by omega),j0,qFs]
 by_cases h:(qGo s).2.2=0
 ·rw[if_neg (show ¬((qGo s).2.2 !=0)=true by simpa using h),if_neg (show ¬(qGo s).2.2≠0 by simpa using h)]
  obtain⟨h1,h2,h3⟩:=qVb h
  have hf:=qYx (N:=N) (pr:=[]) (b:=[]) h1 (by omega) hN h3
  cases hF:qXg (qGo s).1 with
  |inl z=>
   rw[hF] at hf
   simp only[hf,j0];rfl
  |inr f=>
   rw[hF] at hf
   obtain⟨i',pr',b',hf⟩:=hf
   simp only[hf,j0]
 ·rw[if_pos (show((qGo s).2.2 !=0)=true by simpa using h),if_pos h];rfl
end
section
open Go Go.Dc
def hdS:ByteArray:=⟨#[112,97,99,107,97,103,101,32,112,59,32,116,101,115,116,32,116,32,61,32]⟩
def smS:ByteArray:=⟨#[59]⟩
def mkS(x1 x2:ByteArray):Nat→ByteArray
 |0=>⟨#[49]⟩
 |k+1=>(x1++mkS x1 x2 k)++x2
def mkT:Nat→ByteArray
 |0=>⟨#[49]⟩
 |k+1=>mkT k++(⟨#[43,49]⟩:ByteArray)
def opB:Nat→ByteArray
 |0=>⟨#[40]⟩
 |1=>⟨#[102,40]⟩
 |_=>⟨#[105,102,32,49,32,116,104,101,110,32,49,32,101,108,115,101,32]⟩
def enB:Nat→ByteArray
 |0=>⟨#[41]⟩
 |1=>⟨#[41]⟩
 |_=>⟨#[]⟩
def srcA(b k:Nat):ByteArray:=(hdS++mkS (opB b) (enB b) k)++smS
def ansA(r:Nat):Int:=if 30+r<32 then 0 else 2
def ansB(c:Nat):Int:=if 2*(127+c)+1≤256 then 0 else 2
def srcB(k:Nat):ByteArray:=(hdS++mkT k)++smS
theorem qZt:(qFs (srcA 0 (30+0))).2.2=ansA 0:=by kernel_rfl
theorem qZp:(qFs (srcA 0 (30+1))).2.2=ansA 1:=by kernel_rfl
theorem qZg:(qFs (srcA 0 (30+2))).2.2=ansA 2:=by kernel_rfl
theorem qZc:(qFs (srcA 0 (30+3))).2.2=ansA 3:=by kernel_rfl
theorem qZn:(qFs (srcA 1 (30+0))).2.2=ansA 0:=by kernel_rfl
theorem qZj:(qFs (srcA 1 (30+1))).2.2=ansA 1:=by kernel_rfl
theorem qYt:(qFs (srcA 1 (30+2))).2.2=ansA 2:=by kernel_rfl
theorem qZy:(qFs (srcA 1 (30+3))).2.2=ansA 3:=by kernel_rfl
theorem deepG0:(qFs (srcB (127+0))).2.2=ansB 0:=by kernel_rfl
theorem deepG1:(qFs (srcB (127+1))).2.2=ansB 1:=by kernel_rfl
theorem deepG2:(qFs (srcB (127+2))).2.2=ansB 2:=by kernel_rfl
end
section
open Go Go.Dc
theorem qYs:(qFs (srcA 2 (30+0))).2.2=ansA 0:=by kernel_rfl
theorem qYy:(qFs (srcA 2 (30+1))).2.2=ansA 1:=by kernel_rfl
theorem qYr:(qFs (srcA 2 (30+2))).2.2=ansA 2:=by kernel_rfl
theorem qZv:(qFs (srcA 2 (30+3))).2.2=ansA 3:=by kernel_rfl
end
section
open Go Go.Dc
def awT:ByteArray:=⟨#[112,97,99,107,97,103,101,32,112,59,32,102,117,110,99,32,102,40,120,41,32,61,32,120,32,43,32,50,32,42,32,51,59]⟩
def awS:ByteArray:=⟨#[112,97,99,107,97,103,101,32,112,59,10,102,117,110,99,32,102,40,120,41,32,61,32,120,32,43,32,50,32,42,32,51,59,10]⟩
def awD:Dl:=(1,⟨#[102]⟩,[⟨#[120]⟩],[(2,0,0,⟨#[]⟩,[]),(1,2,0,⟨#[]⟩,[]),(1,3,0,⟨#[]⟩,[]),(4,0,3,⟨#[]⟩,[1,2]),(4,0,1,⟨#[]⟩,[0,3])])
def awL:Sr:=(⟨#[112]⟩,[],[awD])
theorem qXh:qFs awT=(awL,0,0):=by kernel_rfl
theorem qQu{N:Nat}(hN:100<N)(s:ByteArray):qBz N s=some (qOu s&& !resC s):=by
 unfold qBz
 rw[qWt hN]
 simp only[j0,qMg]
 cases qOu s<;>rfl
theorem qSe{σ α:Type}{f:σ→Option (σ⊕α)}{s s1:σ}{r:α}{M:Nat}(h1:f s=some (.inl s1))(h2:f s1=some (.inr r)):qBe f (M+2) s=some r:=by
 simp only[qBe,h1,h2,j0]
section
variable {M:Nat}
theorem nm_p:(qOu ⟨#[112]⟩&& !resC ⟨#[112]⟩)=true:=by kernel_rfl
theorem nm_f:(qOu ⟨#[102]⟩&& !resC ⟨#[102]⟩)=true:=by kernel_rfl
theorem nm_x:(qOu ⟨#[120]⟩&& !resC ⟨#[120]⟩)=true:=by kernel_rfl
theorem qZz{N:Nat}(hn:qBz N ⟨#[120]⟩=some true):qEi N awD 0=some (.inl 1):=by
 unfold qEi
 rw[if_pos (by decide),show idx awD.2.2.1 0=some (⟨#[120]⟩:ByteArray) from rfl]
 simp only[j0,hn]
 kernel_rfl
theorem aw_par(hn:qBz (M+102) ⟨#[120]⟩=some true):qBe (qEi (M+102) awD) (M+102) 0=some (.inl ()):=qSe (M:=M+100) (qZz hn) (by kernel_rfl)
theorem qZh(h1:qBz (M+102) ⟨#[120]⟩=some true)(h2:qBz (M+102) ⟨#[102]⟩=some true):qFe (M+102) awD=some true:=by
 unfold qFe
 rw[show qBz (M+102) awD.2.1=some true from h2,aw_par h1]
 refine Eq.trans (b:=some true) ?_ rfl
 kernel_rfl
theorem qZb{N:Nat}(hd:qFe N awD=some true):qEv N awL 0=some (.inl 1):=by
 unfold qEv
 rw[if_pos (by decide),show idx awL.2.2 0=some awD from rfl]
 simp only[j0,hd]
 kernel_rfl
theorem qWp(h1:qBz (M+102) ⟨#[120]⟩=some true)(h2:qBz (M+102) ⟨#[102]⟩=some true)(h3:qBz (M+102) ⟨#[112]⟩=some true):qHf (M+102) awL=some true:=by
 have h4:qBe (qEv (M+102) awL) (M+102) 0=some (.inl ()):=qSe (M:=M+100) (qZb (qZh h1 h2)) (by kernel_rfl)
 unfold qHf
 rw[show qBz (M+102) awL.1=some true from h3,h4]
 refine Eq.trans (b:=some true) ?_ rfl
 kernel_rfl
theorem qTt:qGd (M+102) awL=some 0:=by
 have h:=qWp (M:=M) (by rw[qQu (by omega),nm_x]) (by rw[qQu (by omega),nm_f]) (by rw[qQu (by omega),nm_p])
 unfold qGd
 rw[h]
 refine Eq.trans (b:=some 0) ?_ rfl
 kernel_rfl
theorem qWd:qGh (M+102) awL=some (awS,0):=by
 have h:=qTt (M:=M)
 unfold qGh
 rw[h]
 refine Eq.trans (b:=some (awS,0)) ?_ rfl
 kernel_rfl
end
end
section
open Go Go.Dc
theorem qMi{x y:ByteArray}(h:x.size+y.size≤1000000000):catB x y=some (x++y):=by
 unfold catB;rw[if_pos (by simp only[maxLen];omega)]
theorem qQe{x1 x2:ByteArray}(h1:x1.size≤20)(h2:x2.size≤20):∀k,(mkS x1 x2 k).size≤1+40*k
 |0=>jH 1
 |k+1=>by
  have:=qQe h1 h2 k
  simp only[mkS,ByteArray.size_append]
  omega
theorem qQi:∀k,(mkT k).size=1+2*k
 |0=>rfl
 |k+1=>by
  have:=qQi k
  simp only[mkT,ByteArray.size_append,this]
  show 1+2*k+2=_
  omega
theorem qPn{N:Nat}{p0:Int}{x1 x2:ByteArray}(h1:x1.size≤20)(h2:x2.size≤20){k:Nat}(hk:IntKind.wrap .i64 (30+IntKind.wrap .i64 (Int.tmod p0 4))=(k:Int))(hk2:k≤1000):∀(d i M:Nat),i+d=k→d<M→qBe (qBs N p0 x1 x2) M (mkS x1 x2 i,(i:Int))=some (mkS x1 x2 k)
 |_,_,0,_,h=>absurd h (Nat.not_lt_zero _)
 |0,i,M+1,hd,_=>by
  have:i=k:=by omega
  subst this
  simp only[qBe,qBs]
  rw[hk,if_neg (by simp)]
  rfl
 |d+1,i,M+1,hd,hM=>by
  have hs:=qQe h1 h2 i
  have w2:IntKind.wrap .i64 ((i:Int)+1)=((i+1:Nat):Int):=by rw[wi64 (by omega) (by omega)];omega
  simp only[qBe,qBs]
  rw[hk,if_pos (by simp only[j9];omega),qMi (by omega)]
  simp only[j0]
  rw[qMi (by simp only[ByteArray.size_append];omega)]
  simp only[j0,w2]
  exact qPn h1 h2 hk hk2 d (i+1) M (by omega) (by omega)
theorem qPu{N:Nat}{p0:Int}{k:Nat}(hk:IntKind.wrap .i64 (127+IntKind.wrap .i64 (Int.tmod p0 3))=(k:Int))(hk2:k≤1000):∀(d i M:Nat),i+d=k→d<M→qBe (qBt N p0) M (mkT i,(i:Int))=some (mkT k)
 |_,_,0,_,h=>absurd h (Nat.not_lt_zero _)
 |0,i,M+1,hd,_=>by
  have:i=k:=by omega
  subst this
  simp only[qBe,qBt]
  rw[hk,if_neg (by simp)]
  rfl
 |d+1,i,M+1,hd,hM=>by
  have hs:=qQi i
  have w2:IntKind.wrap .i64 ((i:Int)+1)=((i+1:Nat):Int):=by rw[wi64 (by omega) (by omega)];omega
  simp only[qBe,qBt]
  rw[hk,if_pos (by simp only[j9];omega),qMi (by rw[hs];show 1+2*i+2≤_;omega)]
  simp only[j0,w2]
  exact qPu hk hk2 d (i+1) M (by omega) (by omega)
theorem aw_i0:idx awL.2.2 0=some awD:=rfl
theorem aw_i1:idx awD.2.2.2 4=some ((4,0,1,⟨#[]⟩,[0,3]):Ex):=rfl
theorem qLv{α β:Type}{x:Option α}{v:α}{f:α→Option β}{r:Option β}(h:x=some v)(h2:f v=r):Option.bind x f=r:=by
 subst h;exact h2
theorem qZo{N:Nat}(h1:qEe N awT=some (awL,0,0))(h2:qGh N awL=some (awS,0))(h3:qGd N awL=some 0):qDx N=some true:=by
 unfold qDx
 refine qLv h1 ?_
 refine qLv h2 ?_
 refine qLv (v:=true) ?_ rfl
 refine Eq.trans (if_pos rfl) (Eq.trans (if_pos rfl) (Eq.trans (if_pos rfl) (Eq.trans (if_pos rfl) ?_)))
 refine qLv aw_i0 ?_
 refine Eq.trans (if_pos rfl) ?_
 refine qLv aw_i0 ?_
 refine qLv aw_i1 ?_
 refine Eq.trans (if_pos rfl) ?_
 refine Eq.trans (if_pos (beq_self_eq_true awS.toList)) ?_
 refine qLv h3 ?_
 rfl
theorem aw_true{N:Nat}(hN:1000001<N):qDx N=some true:=by
 have h1:qEe N awT=some (awL,0,0):=(qQz _ hN).trans (congrArg some qXh)
 obtain⟨M,rfl⟩:∃M,N=M+102:=⟨N-102,by omega⟩
 exact qZo h1 qWd qTt
theorem deepF{b r:Nat}(hb:b<3)(hr:r<4):(qFs (srcA b (30+r))).2.2=ansA r:=by
 rcases(by omega:b=0∨b=1∨b=2) with rfl|rfl|rfl<;>rcases(by omega:r=0∨r=1∨r=2∨r=3) with rfl|rfl|rfl|rfl
 ·exact qZt
 ·exact qZp
 ·exact qZg
 ·exact qZc
 ·exact qZn
 ·exact qZj
 ·exact qYt
 ·exact qZy
 ·exact qYs
 ·exact qYy
 ·exact qYr
 ·exact qZv
theorem deepG{c:Nat}(hc:c<3):(qFs (srcB (127+c))).2.2=ansB c:=by
 rcases(by omega:c=0∨c=1∨c=2) with rfl|rfl|rfl
 ·exact deepG0
 ·exact deepG1
 ·exact deepG2
theorem qYd{p:Int}(h:(Lit.int .u8 p).wf=true):0≤p∧p<256:=by
 simp[Lit.wf,IntKind.min,IntKind.max,IntKind.signed,IntKind.bits] at h
 omega
theorem qQs{N:Nat}(hN:1000001<N)(n:Int)(gn:(Lit.int .u8 n).wf=true)(kind:Int)(gk:(Lit.int .u8 kind).wf=true):qDi N n kind=some true:=by
 obtain⟨n0,n1⟩:=qYd gn
 obtain⟨k0,k1⟩:=qYd gk
 obtain⟨r,hr,hr4⟩:∃r:Nat,Int.tmod n 4=(r:Int)∧r<4:=by
  rw[kV n0]
  exact⟨(n%4).toNat,by omega,by omega⟩
 obtain⟨c,hc,hc3⟩:∃c:Nat,Int.tmod n 3=(c:Int)∧c<3:=by
  rw[kV n0]
  exact⟨(n%3).toNat,by omega,by omega⟩
 obtain⟨b,hb,hb3⟩:∃b:Nat,Int.tmod kind 3=(b:Int)∧b<3:=by
  rw[kV k0]
  exact⟨(kind%3).toNat,by omega,by omega⟩
 have wr:IntKind.wrap .i64 (30+IntKind.wrap .i64 (Int.tmod n 4))=((30+r:Nat):Int):=by rw[hr,show IntKind.wrap .i64 (r:Int)=(r:Int) from wi64 (by omega) (by omega),wi64 (by omega) (by omega)];omega
 have wc:IntKind.wrap .i64 (127+IntKind.wrap .i64 (Int.tmod n 3))=((127+c:Nat):Int):=by rw[hc,show IntKind.wrap .i64 (c:Int)=(c:Int) from wi64 (by omega) (by omega),wi64 (by omega) (by omega)];omega
 have ho:(opB b).size≤20∧(enB b).size≤20:=by
  rcases(by omega:b=0∨b=1∨b=2) with rfl|rfl|rfl<;>decide
 have hx1:idx ([(⟨#[40]⟩:ByteArray),(⟨#[102,40]⟩:ByteArray),(⟨#[105,102,32,49,32,116,104,101,110,32,49,32,101,108,115,101,32]⟩:ByteArray)]) (Int.tmod kind 3)=some (opB b):=by
  rw[hb]
  rcases(by omega:b=0∨b=1∨b=2) with rfl|rfl|rfl<;>rfl
 have hx2:idx ([(⟨#[41]⟩:ByteArray),(⟨#[41]⟩:ByteArray),(⟨#[]⟩:ByteArray)]) (Int.tmod kind 3)=some (enB b):=by
  rw[hb]
  rcases(by omega:b=0∨b=1∨b=2) with rfl|rfl|rfl<;>rfl
 have hl1:qBe (qBs N n (opB b) (enB b)) N ((⟨#[49]⟩:ByteArray),0)=some (mkS (opB b) (enB b) (30+r)):=qPn ho.1 ho.2 wr (by omega) (30+r) 0 N (by omega) (by omega)
 have hl2:qBe (qBt N n) N ((⟨#[49]⟩:ByteArray),0)=some (mkT (127+c)):=qPu wc (by omega) (127+c) 0 N (by omega) (by omega)
 have hs1:=qQe ho.1 ho.2 (30+r)
 have hs2:=qQi (127+c)
 have q1:catB hdS (mkS (opB b) (enB b) (30+r))=some (hdS++mkS (opB b) (enB b) (30+r)):=qMi (by show 20+_≤_;omega)
 have q2:catB (hdS++mkS (opB b) (enB b) (30+r)) smS=some (srcA b (30+r)):=qMi (by rw[ByteArray.size_append];show 20+_+1≤_;omega)
 have q3:catB hdS (mkT (127+c))=some (hdS++mkT (127+c)):=qMi (by show 20+_≤_;omega)
 have q4:catB (hdS++mkT (127+c)) smS=some (srcB (127+c)):=qMi (by rw[ByteArray.size_append];show 20+_+1≤_;omega)
 have p1:qEe N (srcA b (30+r))=some (qFs (srcA b (30+r))):=qQz _ hN
 have p2:qEe N (srcB (127+c))=some (qFs (srcB (127+c))):=qQz _ hN
 have f1:=deepF hb3 hr4
 have f2:=deepG hc3
 generalize qFs (srcA b (30+r))=y1 at p1 f1
 generalize qFs (srcB (127+c))=y2 at p2 f2
 unfold qDi
 rw[hx1]
 simp only[j0]
 rw[hx2]
 simp only[j0]
 rw[hl1]
 simp only[j0]
 rw[show catB (⟨#[112,97,99,107,97,103,101,32,112,59,32,116,101,115,116,32,116,32,61,32]⟩:ByteArray) (mkS (opB b) (enB b) (30+r))=_ from q1]
 simp only[j0]
 rw[show catB (hdS++mkS (opB b) (enB b) (30+r)) (⟨#[59]⟩:ByteArray)=_ from q2]
 simp only[j0]
 rw[p1]
 simp only[j0,wr,f1]
 have ho2:(if(!((ansA r==0)==(decide (((30+r:Nat):Int)<32))))=true then(some true) else(if(ansA r !=0)=true then(some (ansA r !=2)) else(some false)):Option Bool)=some false:=by
  rcases(by omega:r=0∨r=1∨r=2∨r=3) with rfl|rfl|rfl|rfl<;>rfl
 rw[ho2]
 simp only[j0,jC,jL]
 rw[hl2]
 simp only[j0]
 rw[show catB (⟨#[112,97,99,107,97,103,101,32,112,59,32,116,101,115,116,32,116,32,61,32]⟩:ByteArray) (mkT (127+c))=_ from q3]
 simp only[j0]
 rw[show catB (hdS++mkT (127+c)) (⟨#[59]⟩:ByteArray)=_ from q4]
 simp only[j0]
 rw[p2]
 simp only[j0,wc,f2]
 have ho3:((ansB c==0)==(decide ((IntKind.wrap .i64 ((IntKind.wrap .i64 (2*((127+c:Nat):Int)))+1))≤256)))=true:=by
  rcases(by omega:c=0∨c=1∨c=2) with rfl|rfl|rfl<;>rfl
 rw[if_pos ho3,aw_true hN]
 rfl
theorem testgatelaw05_SourceDeep_true(n:Int)(gn:(Lit.int .u8 n).wf=true)(kind:Int)(gk:(Lit.int .u8 kind).wf=true):∃N,qDi N n kind=some true:=⟨1000002,qQs (by decide) n gn kind gk⟩
end
end Go.Proofs.YtiblcebedkllpaaDoor
