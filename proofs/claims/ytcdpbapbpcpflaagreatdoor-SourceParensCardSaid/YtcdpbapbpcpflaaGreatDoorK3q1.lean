/- No condition but those of each theorem. -/
import Derived.Test.YtcdpbapbpcpflaaGreatDoorProg
import Derived.WalkKit
import Derived.Deep.LoopGhost
import Derived.KernelRfl
import Derived.OrdersHeld
import Derived.OrdersIn
import Derived.LoopNIn
import Derived.Sort.LoopGhostIn
import Derived.Laws.AppendOwn
import Derived.RangeFuncLeaves
import Derived.RangeFuncRecord
import Derived.MapKept
import Derived.Maps.RangeRun
import Derived.ChangeKeysEq
import Derived.HandedShaped
import Derived.ChangeStays
import Derived.ChangeSame
import Derived.OpenShut
import Derived.WideShapes
import Derived.JoinedOf
import Derived.ReadAgain
import Derived.ChangeAt
import Derived.RowKit
import Derived.Lib.Overlaps
import Derived.WalkSmall
import Derived.Recover
import Derived.Lib.Builder
import Derived.Lib.UnsafeStr
import Derived.Shelf.Strconv.Itoa3
import Derived.Lib.Bytealg
import Derived.Test.YtcdpbapbpcpflaaGreatDoorK2q1
namespace Go.Proofs.YtcdpbapbpcpflaaGreatDoor
section
open Go Go.Dc
set_option maxHeartbeats 4000000
set_option maxRecDepth 100000
variable {N c1 c2:Nat} {m:Mem} {O:List Piece} {w:World} {a1 a2:Option Addr}
def qGe(N:Nat)(p0:T17)(s1:Int):Tn:=
 if(decide (s1<(List.length p0.2.1:Int)))=true then((idx p0.2.1 s1).bind fun x1=>(qFv N x1).bind fun y2=>if(!y2)=true then(some (.inr (.inr (false)))) else(some (.inl (IntKind.wrap .i64 (s1+1))))) else(some (.inr (.inl ())))
def qGf(N:Nat)(p0:T17)(s2:Int):Tn:=
 if(decide (s2<(List.length p0.2.2:Int)))=true then((idx p0.2.2 s2).bind fun x2=>(qGu N x2).bind fun y3=>if(!y3)=true then(some (.inr (.inr (false)))) else(some (.inl (IntKind.wrap .i64 (s2+1))))) else(some (.inr (.inl ())))
def qHz(N:Nat)(p0:T17):T8:=
 (qFv N p0.1).bind fun y1=>if(!y1)=true then(some false) else((qBa (qGe N p0) N 0).bind fun out1=>(match out1 with| .inl o1=>(qBa (qGf N p0) N 0).bind fun out2=>(match out2 with| .inl o2=>some true| .inr (z)=>some z)| .inr (z)=>some z))
theorem qPv{p0:T17}{r:Bool}(g:St m (O) w)(r1:RepS cStr m a1 c1 p0.2.1)(r2:RepS C4 m a2 c2 p0.2.2)(i:qHz N p0=some r):Calls Tryz.prog 137 #[.agg (V9 p0 a1 c1 a2 c2)] w fun e w'=>∃m',e= .returned (vB r)∧m.le m'∧St m' (O) w':=by
 unfold qHz at i;have q:=m.le_refl;refine W_cA Tryz.func137 rfl Tryz.ntmps137 ?_;refine W_sr (qAa rfl (qIe 1 52 0 (.agg (V9 p0 a1 c1 a2 c2)) g fun b1 m1 w1 e1 g hb1=>(qAf 1 [] (qAp (W_sr (qAb 1 [(7,vP b1 0)] (qFs 8 9 7 0 (vT p0.1) g hb1 (qAz 9 i (fun _ h=>qHt g h) ?_))))))));rintro y1 i _ w2 ⟨m2,rfl,e2,g⟩;refine qAf 1 [(10,vB (!y1))] (W_if i ?_ ?_)
 ·intro A i;refine W_sr (qAf 1 [(2,vB false)] (qAy (qAc ?_)));cases i;exact X_rt [2] [vB false] ⟨m2,rfl,(q.t e1).t e2,g⟩
 ·intro A i;refine qAn (qAh (qAp (W_sr (qAb 1 [(11,vP b1 1)] (qAa rfl (qAl (d:=12) (t:=43) (x:=(.tmp 11)) (vS a1 p0.2.1 c1) kr rfl (ev (vP b1 1)) g ((hb1.mono e2).drop 1) kr (qAf 2 [(13,vI (p0.2.1.length:Int)),(14,vI 0)] (qAt ?_))))))));have⟨out1,i,j1⟩:=qAo i;refine qCr (.exit 0) (fun L' w'=>∃(o1:Unit),∃m3,(.inl o1)=out1∧L'=[(1,vP b1 0)]∧m.le m3∧St m3 (O) w'∧MRow m3 b1 0 (Va p0 a1 c1 a2 c2)∧P4 m3 a1 c1 a2 c2 p0.2) ?_ ?_
  ·rintro _ w3 ⟨o1,m3,rfl,rfl,q,g,hb1,r1,r2⟩;have i:=j1;refine qBl (qAh (qAp (W_sr (qAb 1 [(22,vP b1 2)] (qAa rfl (qAl (d:=23) (t:=50) (x:=(.tmp 22)) (vS a2 p0.2.2 c2) kr rfl (ev (vP b1 2)) g (hb1.drop 2) kr (qAf 2 [(24,vI (p0.2.2.length:Int)),(25,vI 0)] (qAt ?_))))))));have⟨out2,i,j2⟩:=qAo i;refine qCr (.exit 2) (fun L' w'=>∃(o2:Unit),∃m6,(.inl o2)=out2∧L'=[]∧m.le m6∧St m6 (O) w') ?_ ?_
   ·rintro _ w6 ⟨o2,m6,rfl,rfl,q,g⟩;have i:=j2;refine qBl (qAh (W_sr (qAf 1 [(2,vB true)] (qAy ?_))));cases i;exact X_rt [2] [vB true] ⟨m6,rfl,q,g⟩
   intro K2_u2;refine qHd _ kr (qEn (fun k2 L' w'=>∃(s2:Int),∃m7,qBa (qGf N p0) k2 s2=some out2∧L'=[(23,vS a2 p0.2.2 c2),(24,vI (p0.2.2.length:Int)),(25,vI s2)]∧m.le m7∧St m7 (O) w'∧RepS C4 m7 a2 c2 p0.2.2) N ⟨0,m3,i,rfl,q,g,r2⟩ ?_);rintro k2 _ w7 ⟨s2,m7,hL,rfl,q,g,r2⟩;rcases k2 with _|k2
   ·exact qBk hL
   ·obtain⟨qu2,i,hSu2,hBu2⟩:=qBm hL;clear hL;unfold qGf at i;refine W_sr (qAf 1 [(26,vB (decide (s2<(p0.2.2.length:Int))))] (qAp (W_if i ?_ ?_)))
    ·intro A i;refine qAn (qAh (qAp (qAt (W_sr (qAa rfl (qDn 27 50 62 23 25 r2 i ?_))))));rintro x2 i b3 f2 cs2 ⟨_,_,rfl,rfl,⟨_,_,rfl,rfl,⟨_,_,rfl,⟨a3,c3,rfl,r3⟩,⟨a4,c4,rfl,r4⟩⟩⟩⟩ hq2;refine qFs 28 62 27 f2 (.agg (V7 x2 a3 c3 a4 c4)) g hq2 (qAa rfl (qDu 6 62 (.agg #[vI 0,vT eB,v7,v7]) g fun b4 w8 g=>(qAa rfl (qBz 62 6 28 (.agg (V7 x2 a3 c3 a4 c4)) g fun w9 g=>(WO_e (W_sr (qAa rfl (qBo 29 62 6 0 (.agg (V7 x2 a3 c3 a4 c4)) g.h (qAz 30 i (fun _ h=>qOu g r3 r4 h) ?_)))))))));rintro y3 i _ w10 ⟨m8,rfl,e4,g⟩;refine qAf 1 [(31,vB (!y3))] (W_if i ?_ ?_)
     ·intro A i;refine W_sr (qAf 1 [(2,vB false)] (qAy (qAg (qAc ?_))));cases i;have ho:=hBu2 _ rfl;subst ho;have i:=j2;refine qAc (qAg (qAc ?_));cases i;exact X_rt [2] [vB false] ⟨m8,rfl,q.t e4,g.t⟩
     ·intro A i;refine qAn (qBf (qAh (qAm (qAb 2 [(25,vI (wr (s2+1)))] (qAv rfl ?_)))));obtain rfl:=sI i;have hL:=hSu2 _ rfl;exact xE (qCk k2 (jE _) ⟨wr (s2+1),m8,hL,rfl,q.t e4,g.t,r2.mono e4⟩)
    ·intro A i;refine qEo (qAk ?_);cases i;have ho:=hBu2 _ rfl;refine qAk ?_;exact xE (K2_u2 _ _ ⟨(),m7,ho,rfl,q,g⟩)
  intro K0_u1;refine qHd _ kr (qEn (fun k1 L' w'=>∃(s1:Int),∃m4,qBa (qGe N p0) k1 s1=some out1∧L'=[(1,vP b1 0),(12,vS a1 p0.2.1 c1),(13,vI (p0.2.1.length:Int)),(14,vI s1)]∧m.le m4∧St m4 (O) w'∧MRow m4 b1 0 (Va p0 a1 c1 a2 c2)∧P4 m4 a1 c1 a2 c2 p0.2) N ⟨0,m2,i,rfl,(q.t e1).t e2,g,hb1.mono e2,(r1.mono e1).mono e2,(r2.mono e1).mono e2⟩ ?_);rintro k1 _ w4 ⟨s1,m4,hL,rfl,q,g,hb1,r1,r2⟩;rcases k1 with _|k1
  ·exact qBk hL
  ·obtain⟨qu1,i,hSu1,hBu1⟩:=qBm hL;clear hL;unfold qGe at i;refine W_sr (qAf 1 [(15,vB (decide (s1<(p0.2.1.length:Int))))] (qAp (W_if i ?_ ?_)))
   ·intro A i;refine qAn (qAh (qAp (qAt (W_sr (qAa rfl (qDn 16 43 9 12 14 r1 i ?_))))));rintro x1 i b2 f1 cs1 rfl hq1;refine qFs 17 9 16 f1 (vT x1) g hq1 (qAf 1 [(4,vT x1)] (W_sr (qAb 1 [(18,vT x1)] (qAz 19 i (fun _ h=>qHt g h) ?_))));rintro y2 i _ w5 ⟨m5,rfl,e3,g⟩;refine qAf 1 [(20,vB (!y2))] (W_if i ?_ ?_)
    ·intro A i;refine W_sr (qAf 1 [(2,vB false)] (qAy (qAg (qAc ?_))));cases i;have ho:=hBu1 _ rfl;subst ho;have i:=j1;refine qAc (qAg (qAc ?_));cases i;exact X_rt [2] [vB false] ⟨m5,rfl,q.t e3,g⟩
    ·intro A i;refine qAn (qBf (qAh (qAm (qAb 2 [(14,vI (wr (s1+1)))] (qAv rfl ?_)))));obtain rfl:=sI i;have hL:=hSu1 _ rfl;exact xE (qCk k1 (jE _) ⟨wr (s1+1),m5,hL,rfl,q.t e3,g,hb1.mono e3,r1.mono e3,r2.mono e3⟩)
   ·intro A i;refine qEo (qAk ?_);cases i;have ho:=hBu1 _ rfl;refine qAk ?_;exact xE (K0_u1 _ _ ⟨(),m4,ho,rfl,q,g,hb1,r1,r2⟩)
def qDs(N:Nat)(p0:Tc)(s1:Int):Tn:=
 if(decide (s1<(List.length p0:Int)))=true then((idx p0 s1).bind fun x1=>(subS p0 0 s1).bind fun l1=>(qBc N l1 x1).bind fun y1=>if y1=true then(some (.inr (.inr (true)))) else(some (.inl (IntKind.wrap .i64 (s1+1))))) else(some (.inr (.inl ())))
def qEw(N:Nat)(p0:Tc):T8:=
 (qBa (qDs N p0) N 0).bind fun out1=>(match out1 with| .inl o1=>some false| .inr (z)=>some z)
theorem qJh{p0:Tc}{r:Bool}(g:St m (O) w)(r1:RepS cStr m a1 c1 p0)(i:qEw N p0=some r):Calls Tryz.prog 196 #[vS a1 p0 c1] w fun e w'=>∃m',e= .returned (vB r)∧m.le m'∧St m' (O) w':=by
 unfold qEw at i;have q:=m.le_refl;refine W_cA Tryz.func196 rfl Tryz.ntmps196 ?_;refine W_sr (qAf 1 [] (qAp (W_sr (qAf 3 [(5,vS a1 p0 c1),(6,vI (p0.length:Int)),(7,vI 0)] (qAt ?_)))));have⟨out1,i,j1⟩:=qAo i;refine qCr (.exit 0) (fun L' w'=>∃(o1:Unit),∃m1,(.inl o1)=out1∧L'=[]∧m.le m1∧St m1 (O) w') ?_ ?_
 ·rintro _ w1 ⟨o1,m1,rfl,rfl,q,g⟩;have i:=j1;refine qBl (qAh (W_sr (qAf 1 [(2,vB false)] (qAy ?_))));cases i;exact X_rt [2] [vB false] ⟨m1,rfl,q,g⟩
 intro K0_u1;refine qHd _ kr (qEn (fun k1 L' w'=>∃(s1:Int),∃m2,qBa (qDs N p0) k1 s1=some out1∧L'=[(0,vS a1 p0 c1),(5,vS a1 p0 c1),(6,vI (p0.length:Int)),(7,vI s1)]∧m.le m2∧St m2 (O) w'∧RepS cStr m2 a1 c1 p0) N ⟨0,m,i,rfl,q,g,r1⟩ ?_);rintro k1 _ w2 ⟨s1,m2,hL,rfl,q,g,r1⟩;rcases k1 with _|k1
 ·exact qBk hL
 ·obtain⟨qu1,i,hSu1,hBu1⟩:=qBm hL;clear hL;unfold qDs at i;refine W_sr (qAf 1 [(8,vB (decide (s1<(p0.length:Int))))] (qAp (W_if i ?_ ?_)))
  ·intro A i;refine qAn (qAh (qAp (qAt (W_sr (qAb 1 [(9,vI s1)] (qAa rfl (qDn 10 43 9 5 7 r1 i ?_)))))));rintro x1 i b1 f1 cs1 rfl hq1;refine qFs 11 9 10 f1 (vT x1) g hq1 (qAf 2 [(3,vI s1),(4,vT x1)] (W_sr (qAb 2 [(12,vS a1 p0 c1),(13,vI s1)] ?_)));have⟨l1,d2,i⟩:=qAo i;refine qAa rfl (qUz (d:=14) (t:=43) (e:=9) (x:=(.tmp 12)) (lo:=none) (hi:=(some (.tmp 13))) cStr kr rfl (ev (vS a1 p0 c1)) kr r1 (.inl ⟨rfl,rfl⟩) (.inr ⟨_,_,rfl,(ev (vI s1))⟩) d2 ?_);intro a2 c2 r2;refine qAb 1 [(15,vT x1)] (qAz 16 i (fun _ h=>qCz g r2 h) ?_);rintro y1 i _ w3 ⟨m3,rfl,e1,g⟩;refine WO_e (W_if i ?_ ?_)
   ·intro A i;refine W_sr (qAf 1 [(2,vB true)] (qAy (qAg (qAc ?_))));cases i;have ho:=hBu1 _ rfl;subst ho;have i:=j1;refine qAc (qAg (qAc ?_));cases i;exact X_rt [2] [vB true] ⟨m3,rfl,q.t e1,g⟩
   ·intro A i;refine qAn (qBf (qAh (qAm (qAb 2 [(7,vI (wr (s1+1)))] (qAv rfl ?_)))));obtain rfl:=sI i;have hL:=hSu1 _ rfl;exact xE (qCk k1 (jE _) ⟨wr (s1+1),m3,hL,rfl,q.t e1,g,r1.mono e1⟩)
  ·intro A i;refine qEo (qAk ?_);cases i;have ho:=hBu1 _ rfl;refine qAk ?_;exact xE (K0_u1 _ _ ⟨(),m2,ho,rfl,q,g⟩)
def qBp(N:Nat)(p0:T6)(p1:T2)(s1:Int):Option (Int⊕Unit⊕Int):=
 if(decide (s1<(List.length p0:Int)))=true then((idx p0 s1).bind fun x1=>if((p1.1==x1.1)&&((p1.2.toList==x1.2.toList)&&true))=true then(some (.inr (.inr (s1)))) else(some (.inl (IntKind.wrap .i64 (s1+1))))) else(some (.inr (.inl ())))
def qCh(N:Nat)(p0:T6)(p1:T2):T9:=
 (qBa (qBp N p0 p1) N 0).bind fun out1=>(match out1 with| .inl o1=>some (-1)| .inr (z)=>some z)
theorem qHr{p0:T6}{p1:T2}{r:Int}(g:St m (O) w)(r1:RepS C5 m a1 c1 p0)(i:qCh N p0 p1=some r):Calls Tryz.prog 283 #[vS a1 p0 c1,.agg (Vb p1)] w fun e w'=>∃m',e= .returned (vI r)∧m.le m'∧St m' (O) w':=by
 unfold qCh at i;have q:=m.le_refl;refine W_cA Tryz.func283 rfl Tryz.ntmps283 ?_;refine W_sr (qAa rfl (qIe 3 242 1 (.agg (Vb p1)) g fun b1 m1 w1 e1 g hb1=>(qAf 1 [] (qAp (W_sr (qAf 3 [(7,vI (p0.length:Int)),(8,vI 0)] (qAt ?_)))))));have⟨out1,i,j1⟩:=qAo i;refine qCr (.exit 0) (fun L' w'=>∃(o1:Unit),∃m2,(.inl o1)=out1∧L'=[]∧m.le m2∧St m2 (O) w') ?_ ?_
 ·rintro _ w2 ⟨o1,m2,rfl,rfl,q,g⟩;have i:=j1;refine qBl (qAh (W_sr (qAf 1 [(4,vI (-1))] (qAy ?_))));cases i;exact X_rt [4] [vI (-1)] ⟨m2,rfl,q,g⟩
 intro K0_u1;refine qHd _ kr (qEn (fun k1 L' w'=>∃(s1:Int),∃m3,qBa (qBp N p0 p1) k1 s1=some out1∧L'=[(0,vS a1 p0 c1),(3,vP b1 0),(7,vI (p0.length:Int)),(8,vI s1)]∧m.le m3∧St m3 (O) w'∧RepS C5 m3 a1 c1 p0∧MRow m3 b1 0 [vI p1.1,vT p1.2]) N ⟨0,m1,i,rfl,q.t e1,g,r1.mono e1,hb1⟩ ?_);rintro k1 _ w3 ⟨s1,m3,hL,rfl,q,g,r1,hb1⟩;rcases k1 with _|k1
 ·exact qBk hL
 ·obtain⟨qu1,i,hSu1,hBu1⟩:=qBm hL;clear hL;unfold qBp at i;refine W_sr (qAf 1 [(9,vB (decide (s1<(p0.length:Int))))] (qAp (W_if i ?_ ?_)))
  ·intro A i;refine qAn (qAh (qAp (qAt (W_sr (qAf 2 [(5,vI s1)] (qAp (qFq [(6,fun w'=>Inv m3 w'∧True)] kr g fun w4 _ g=> ?_)))))));have hmS1:=m3.le_refl;refine tA g hmS1 ?_;refine qHs 242 3 0 11 0 (.agg (Vb p1)) (.head _) (fun _ h=>h.1) hb1 (qAs 1 12 (vS a1 p0 c1) (.head _) (qAs 2 13 (vI s1) (.head _) ?_));have⟨x1,d1,i⟩:=qAo i;refine qEe (t:=239) (e:=242) (x:=(.tmp 12)) (y:=(.tmp 13)) 3 14 C5 kr rfl kr (.head _) (qBd (qCm (qBd (qBd (qCm (qBd qFp)))))) (ev (vS a1 p0 c1)) (ev (vI s1)) kr r1 d1 ?_;rintro b2 f1 cs1 ⟨_,_,rfl,rfl,rfl⟩ hq1;refine qHs 242 14 4 15 f1 (.agg (Vb x1)) (.head _) (fun _ h=>h.1) hq1 (qCw 5 kr (zCi (d:=16) (t:=242) (t2:=242) (x:=(.tmp 11)) (y:=(.tmp 15)) (xs:=(Vb p1)) (ys:=(Vb x1)) ((p1.1==x1.1)&&((p1.2.toList==x1.2.toList)&&true)) kr rfl (ev (.agg (Vb p1))) (ev (.agg (Vb x1))) kr kr kr (tA g hmS1 (qDa kr (qAh (W_if i ?_ ?_))))))
   ·intro A i;refine W_sr (qAf 2 [(4,vI s1)] (qAy (qAg (qAc ?_))));obtain rfl:=sI i;have ho:=hBu1 _ rfl;subst ho;have i:=j1;refine qAc (qAg (qAc ?_));obtain rfl:=sI i;exact X_rt [4] [vI s1] ⟨m3,rfl,q,g⟩
   ·intro A i;refine qAn (qBf (qAh (qAm (qAb 2 [(8,vI (wr (s1+1)))] (qAv rfl ?_)))));obtain rfl:=sI i;have hL:=hSu1 _ rfl;exact xE (qCk k1 (jE _) ⟨wr (s1+1),m3,hL,rfl,q,g,r1,hb1⟩)
  ·intro A i;refine qEo (qAk ?_);cases i;have ho:=hBu1 _ rfl;refine qAk ?_;exact xE (K0_u1 _ _ ⟨(),m3,ho,rfl,q,g⟩)
def qBv(N:Nat)(p0:T6)(p1:T2):T8:=
 (qCh N p0 p1).bind fun y1=>some (decide (y1≥0))
theorem qHf{p0:T6}{p1:T2}{r:Bool}(g:St m (O) w)(r1:RepS C5 m a1 c1 p0)(i:qBv N p0 p1=some r):Calls Tryz.prog 256 #[vS a1 p0 c1,.agg (Vb p1)] w fun e w'=>∃m',e= .returned (vB r)∧m.le m'∧St m' (O) w':=by
 unfold qBv at i;have q:=m.le_refl;refine W_cA Tryz.func256 rfl Tryz.ntmps256 ?_;refine W_sr (qAa rfl (qIe 3 242 1 (.agg (Vb p1)) g fun b1 m1 w1 e1 g hb1=>(qAf 1 [] (W_sr (qAb 1 [(5,vS a1 p0 c1)] (qFs 6 242 3 0 (.agg (Vb p1)) g hb1 (qAz 7 i (fun _ h=>qHr g (r1.mono e1) h) ?_)))))));rintro y1 i _ w2 ⟨m2,rfl,e2,g⟩;refine qAf 2 [(4,vB (decide (y1≥0)))] (qAy ?_);obtain rfl:=sI i;exact X_rt [4] [vB (decide (y1≥0))] ⟨m2,rfl,(q.t e1).t e2,g⟩
def qCf(N:Nat)(p0:T6)(s1:Int):Tn:=
 if(decide (s1<(List.length p0:Int)))=true then((idx p0 s1).bind fun x1=>(subS p0 0 s1).bind fun l1=>(qBv N l1 x1).bind fun y1=>if y1=true then(some (.inr (.inr (true)))) else(some (.inl (IntKind.wrap .i64 (s1+1))))) else(some (.inr (.inl ())))
def qEa(N:Nat)(p0:T6):T8:=
 (qBa (qCf N p0) N 0).bind fun out1=>(match out1 with| .inl o1=>some false| .inr (z)=>some z)
theorem qKi{p0:T6}{r:Bool}(g:St m (O) w)(r1:RepS C5 m a1 c1 p0)(i:qEa N p0=some r):Calls Tryz.prog 197 #[vS a1 p0 c1] w fun e w'=>∃m',e= .returned (vB r)∧m.le m'∧St m' (O) w':=by
 unfold qEa at i;have q:=m.le_refl;refine W_cA Tryz.func197 rfl Tryz.ntmps197 ?_;refine W_sr (qAf 1 [] (qAp (W_sr (qAf 3 [(5,vS a1 p0 c1),(6,vI (p0.length:Int)),(7,vI 0)] (qAt ?_)))));have⟨out1,i,j1⟩:=qAo i;refine qCr (.exit 0) (fun L' w'=>∃(o1:Unit),∃m1,(.inl o1)=out1∧L'=[]∧m.le m1∧St m1 (O) w') ?_ ?_
 ·rintro _ w1 ⟨o1,m1,rfl,rfl,q,g⟩;have i:=j1;refine qBl (qAh (W_sr (qAf 1 [(2,vB false)] (qAy ?_))));cases i;exact X_rt [2] [vB false] ⟨m1,rfl,q,g⟩
 intro K0_u1;refine qHd _ kr (qEn (fun k1 L' w'=>∃(s1:Int),∃m2,qBa (qCf N p0) k1 s1=some out1∧L'=[(0,vS a1 p0 c1),(5,vS a1 p0 c1),(6,vI (p0.length:Int)),(7,vI s1)]∧m.le m2∧St m2 (O) w'∧RepS C5 m2 a1 c1 p0) N ⟨0,m,i,rfl,q,g,r1⟩ ?_);rintro k1 _ w2 ⟨s1,m2,hL,rfl,q,g,r1⟩;rcases k1 with _|k1
 ·exact qBk hL
 ·obtain⟨qu1,i,hSu1,hBu1⟩:=qBm hL;clear hL;unfold qCf at i;refine W_sr (qAf 1 [(8,vB (decide (s1<(p0.length:Int))))] (qAp (W_if i ?_ ?_)))
  ·intro A i;refine qAn (qAh (qAp (qAt (W_sr (qAb 1 [(9,vI s1)] (qAa rfl (qDn 10 239 242 5 7 r1 i ?_)))))));rintro x1 i b1 f1 cs1 ⟨_,_,rfl,rfl,rfl⟩ hq1;refine qFs 11 242 10 f1 (.agg (Vb x1)) g hq1 (qAa rfl (qDu 4 242 (.agg #[vI 0,vT eB]) g fun b2 w3 g=>(qAb 1 [(3,vI s1)] (qAa rfl (qBz 242 4 11 (.agg (Vb x1)) g fun w4 g=>(WO_e (qAp (qFq [(5,fun w'=>Inv m2 w'∧Piece.holds m2 w' (kB b2 (Vb x1) 242)∧True)] kr g fun w5 _ g=> ?_))))))));have hmS1:=m2.le_refl;refine⟨⟨.inr ⟨Inv.anti g.inv hmS1,Piece.holds_anti g.h hmS1,trivial⟩,trivial⟩,?_⟩;refine qAs 0 12 (vS a1 p0 c1) (.head _) (qAs 1 13 (vI s1) (.head _) ?_);have⟨l1,d2,i⟩:=qAo i;refine zDw (t:=239) (e:=242) (x:=(.tmp 12)) (lo:=none) (hi:=(some (.tmp 13))) 2 14 C5 kr rfl kr (.head _) (qBd (qCm (qBd (qBd (qCm (qBd qFp)))))) (ev (vS a1 p0 c1)) kr r1 (.inl ⟨rfl,rfl⟩) (.inr ⟨_,_,rfl,(ev (vI s1))⟩) d2 ?_;intro a2 c2 r2;refine qIl 242 4 3 15 0 (.agg (Vb x1)) (.head _) (fun _ h=>h.2.1) (qCw 4 kr (qKx 16 i (fun _ h=>qHf g r2 h) ?_));rintro y1 i _ w6 ⟨m3,rfl,e1,g⟩;refine⟨_,rfl,?_⟩;have hmS1:=Mem.le_trans hmS1 e1;refine⟨⟨.inr ⟨Inv.anti g.inv hmS1,Piece.holds_anti g.h hmS1,trivial⟩,trivial⟩,?_⟩;refine qDa kr ?_;refine qAh (W_if i ?_ ?_)
   ·intro A i;refine W_sr (qAf 1 [(2,vB true)] (qAy (qAg (qAc ?_))));cases i;have ho:=hBu1 _ rfl;subst ho;have i:=j1;refine qAc (qAg (qAc ?_));cases i;exact X_rt [2] [vB true] ⟨m3,rfl,q.t e1,g.t⟩
   ·intro A i;refine qAn (qBf (qAh (qAm (qAb 2 [(7,vI (wr (s1+1)))] (qAv rfl ?_)))));obtain rfl:=sI i;have hL:=hSu1 _ rfl;exact xE (qCk k1 (jE _) ⟨wr (s1+1),m3,hL,rfl,q.t e1,g.t,r1.mono e1⟩)
  ·intro A i;refine qEo (qAk ?_);cases i;have ho:=hBu1 _ rfl;refine qAk ?_;exact xE (K0_u1 _ _ ⟨(),m2,ho,rfl,q,g⟩)
def qGb(N:Nat)(p0:T17)(s1:T6×Int):Option (T6×Int⊕T6⊕Bool):=
 if(decide (s1.2<(List.length p0.2.2:Int)))=true then((idx p0.2.2 s1.2).bind fun x1=>(qEw N x1.2.2.1).bind fun y1=>if y1=true then(some (.inr (.inr (true)))) else((qCd 24 s1.1 ([(x1.1,x1.2.1)])).bind fun l1=>some (.inl (l1,IntKind.wrap .i64 (s1.2+1))))) else(some (.inr (.inl s1.1)))
def qIo(N:Nat)(p0:T17):T8:=
 (qBa (qGb N p0) N (([]:T6),0)).bind fun out1=>(match out1 with| .inl o1=>((qBc N p0.2.1 p0.1).bind fun y2=>if y2=true then(some true) else((qEw N p0.2.1).bind fun y3=>if y3=true then(some true) else((qEa N o1).bind fun y4=>some y4)):T8).bind fun o2=>some o2| .inr (z)=>some z)
theorem qRe{p0:T17}{r:Bool}(g:St m (O) w)(r1:RepS cStr m a1 c1 p0.2.1)(r2:RepS C4 m a2 c2 p0.2.2)(i:qIo N p0=some r):Calls Tryz.prog 138 #[.agg (V9 p0 a1 c1 a2 c2)] w fun e w'=>∃m',e= .returned (vB r)∧m.le m'∧St m' (O) w':=by
 unfold qIo at i;have q:=m.le_refl;refine W_cA Tryz.func138 rfl Tryz.ntmps138 ?_;refine W_sr (qAa rfl (qIe 1 52 0 (.agg (V9 p0 a1 c1 a2 c2)) g fun b1 m1 w1 e1 g hb1=>(qAf 1 [] (W_sr (qAf 1 [(3,vS none ([]:T6) 0)] (qAp (W_sr (qAb 1 [(6,vP b1 2)] (qAa rfl (qAl (d:=7) (t:=50) (x:=(.tmp 6)) (vS a2 p0.2.2 c2) kr rfl (ev (vP b1 2)) g (hb1.drop 2) kr (qAf 2 [(8,vI (p0.2.2.length:Int)),(9,vI 0)] (qAt ?_))))))))))));have⟨out1,i,j1⟩:=qAo i;refine qCr (.exit 0) (fun L' w'=>∃(o1:T6),∃a3 c3 m2,(.inl o1)=out1∧L'=[(1,vP b1 0),(3,vS a3 o1 c3)]∧m.le m2∧St m2 (kR a3 o1 c3 242 2::O) w'∧MRow m2 b1 0 (Va p0 a1 c1 a2 c2)∧RepS cStr m2 a1 c1 p0.2.1∧RepS C4 m2 a2 c2 p0.2.2∧RepS C5 m2 a3 c3 o1) ?_ ?_
 ·rintro _ w2 ⟨o1,a3,c3,m2,rfl,rfl,q,g,hb1,r1,r2,r3⟩;have i:=j1;refine qBl (qAh (W_sr ?_));have⟨o2,i,J⟩:=qAo i;refine qFf (j:=15) (fun L' w'=>∃m7,L'=[(2,vB o2)]∧m.le m7∧St m7 (kR a3 o1 c3 242 2::O) w') ?_ ?_
  ·have i:=J;rintro _ w9 ⟨m7,rfl,q,g⟩;refine WO_e (qAy ?_);obtain rfl:=sI i;exact X_rt [2] [vB o2] ⟨m7,rfl,q,g.t⟩
  ·intro K;refine qAb 1 [(25,vP b1 1)] (qAa rfl (qAl (d:=26) (t:=43) (x:=(.tmp 25)) (vS a1 p0.2.1 c1) kr rfl (ev (vP b1 1)) g (hb1.drop 1) kr (qAb 1 [(27,vP b1 0)] (qFs 28 9 27 0 (vT p0.1) g hb1 (qAz 29 i (fun _ h=>qCz g r1 h) ?_)))));rintro y2 i _ w10 ⟨m8,rfl,e5,g⟩;have q:=q.t e5;refine qAb 1 [(30,vB y2)] (qCl 30 i ?_ ?_)
   ·intro A i;refine qAb 9 [(2,vB true)] ?_;cases i;exact qAw _ kr (K _ _ ⟨m8,rfl,q,g⟩)
   ·intro A i;refine qAb 1 [(31,vP b1 1)] (qAa rfl (qAl (d:=32) (t:=43) (x:=(.tmp 31)) (vS a1 p0.2.1 c1) kr rfl (ev (vP b1 1)) g ((hb1.mono e5).drop 1) kr (qAz 33 i (fun _ h=>qJh g (r1.mono e5) h) ?_)));rintro y3 i _ w11 ⟨m9,rfl,e6,g⟩;refine qAb 2 [(35,vB y3)] (qCl 35 i ?_ ?_)
    ·intro A i;refine qAb 4 [(2,vB true)] ?_;cases i;exact qAw _ kr (K _ _ ⟨m9,rfl,q.t e6,g⟩)
    ·intro A i;refine qAb 1 [(36,vS a3 o1 c3)] (qAz 37 i (fun _ h=>qKi g ((r3.mono e5).mono e6) h) ?_);rintro y4 i _ w12 ⟨m10,rfl,e7,g⟩;refine qAb 2 [(2,vB y4)] ?_;cases i;exact qAw _ kr (K _ _ ⟨m10,rfl,(q.t e6).t e7,g⟩)
 intro K0_u1;refine qHd _ kr (qEn (fun k1 L' w'=>∃(s1:T6×Int),∃a4 c4 m3,qBa (qGb N p0) k1 s1=some out1∧L'=[(1,vP b1 0),(3,vS a4 s1.1 c4),(7,vS a2 p0.2.2 c2),(8,vI (p0.2.2.length:Int)),(9,vI s1.2)]∧m.le m3∧St m3 (kR a4 s1.1 c4 242 2::O) w'∧MRow m3 b1 0 (Va p0 a1 c1 a2 c2)∧RepS cStr m3 a1 c1 p0.2.1∧RepS C4 m3 a2 c2 p0.2.2∧RepS C5 m3 a4 c4 s1.1) N ⟨(([]:T6),0),none,0,m1,i,rfl,q.t e1,(g.nilroom 242 2),hb1,r1.mono e1,r2.mono e1,(RepS.nil _ _)⟩ ?_);rintro k1 _ w3 ⟨s1,a4,c4,m3,hL,rfl,q,g,hb1,r1,r2,r4⟩;rcases k1 with _|k1
 ·exact qBk hL
 ·obtain⟨qu1,i,hSu1,hBu1⟩:=qBm hL;clear hL;unfold qGb at i;refine W_sr (qAf 1 [(10,vB (decide (s1.2<(p0.2.2.length:Int))))] (qAp (W_if i ?_ ?_)))
  ·intro A i;refine qAn (qAh (qAp (qAt (W_sr (qAa rfl (qDn 11 50 62 7 9 r2 i ?_))))));rintro x1 i b2 f1 cs1 ⟨_,_,rfl,rfl,⟨_,_,rfl,rfl,⟨_,_,rfl,⟨a5,c5,rfl,r5⟩,⟨a6,c6,rfl,r6⟩⟩⟩⟩ hq1;refine qFs 12 62 11 f1 (.agg (V7 x1 a5 c5 a6 c6)) g hq1 (qAa rfl (qDu 5 62 (.agg #[vI 0,vT eB,v7,v7]) g fun b3 w4 g=>(qAa rfl (qBz 62 5 12 (.agg (V7 x1 a5 c5 a6 c6)) g fun w5 g=>(WO_e (qAp (W_sr (qFr 1 14 43 13 2 (vS a5 x1.2.2.1 c5) g.h (qAz 15 i (fun _ h=>qJh g r5 h) ?_)))))))));rintro y1 i _ w6 ⟨m4,rfl,e2,g⟩;refine WO_e (W_if i ?_ ?_)
   ·intro A i;refine W_sr (qAb 1 [(2,vB true)] (qAv rfl ?_));have g:=g.f1.t;refine qAh (qAy (qAc (qAg (qAc ?_))));cases i;have ho:=hBu1 _ rfl;subst ho;have i:=j1;refine qAc (qAg (qAc ?_));cases i;exact X_rt [2] [vB true] ⟨m4,rfl,q.t e2,g.t⟩
   ·intro A i;refine qAn (qAh (qAm (qAb 2 [(16,vS a4 s1.1 c4),(17,vP b3 0)] (qAa rfl (qBo 18 3 17 0 (vI x1.1) g.h (qFr 1 20 9 19 1 (vT x1.2.1) g.h (qAb 1 [(21,.agg #[vI x1.1,vT x1.2.1])] (qAa rfl (qBg (d:=22) (t:=239) (e:=242) (len:=1) (parts:= #[(0,(.tmp 21))]) C5 (xs:=[(x1.1,x1.2.1)]) [vI x1.1,vT x1.2.1] kr rfl (fun _=>qBh kr _) rfl rfl g ⟨[vI x1.1,vT x1.2.1],_,rfl,⟨_,_,rfl,rfl,rfl⟩,rfl⟩ fun b4 m5 w7 e3 g r7=>(qAa rfl (qEx 23 239 239 242 24 16 22 g.f2 (.inl kr) ((r4.mono e2).mono e3) r7.src i fun l1 i a7 c7 m6 w8 e4 g r8=>(qAb 1 [(3,vS a7 l1 c7)] (qAv rfl ?_)))))))))))));have g:=g.f1.t;refine qBf (qAh (qAm (qAb 2 [(9,vI (wr (s1.2+1)))] (qAv rfl ?_))));obtain rfl:=sI i;have hL:=hSu1 _ rfl;exact xE (qCk k1 (jE _) ⟨(l1,wr (s1.2+1)),a7,c7,m6,hL,rfl,((q.t e2).t e3).t e4,g.f1.t,((hb1.mono e2).mono e3).mono e4,((r1.mono e2).mono e3).mono e4,((r2.mono e2).mono e3).mono e4,r8⟩)
  ·intro A i;refine qEo (qAk ?_);cases i;have ho:=hBu1 _ rfl;refine qAk ?_;exact xE (K0_u1 _ _ ⟨s1.1,a4,c4,m3,ho,rfl,q,g,hb1,r1,r2,r4⟩)
def qHi(N:Nat)(x1:T11)(s2:T1b)(x5:Td)(s3:T1b):Option (T1b⊕T7):=
 if(decide (s3.1<(List.length x5.2.2.2.2:Int)))=true then(((idx x5.2.2.2.2 s3.1).bind fun x6=>(idx s3.2 s2.1).bind fun x7=>(idx s3.2 x6).bind fun x8=>(idx x1.2.2.2 s2.1).bind fun x9=>if(x9.1 !=4)=true then((idx (List.set s3.2 (Int.toNat x6) x7) x6).bind fun x10=>(idx (List.set s3.2 (Int.toNat x6) x7) x6).bind fun x11=>some (List.set (List.set s3.2 (Int.toNat x6) x7) (Int.toNat x6) (IntKind.wrap .i64 (x10+1)))) else(some (List.set s3.2 (Int.toNat x6) x7)):Option T7).bind fun o7=>some (.inl (IntKind.wrap .i64 (s3.1+1),o7))) else(some (.inr s3.2))
def qGr(N:Nat)(x1:T11)(s2:T1b):Option (T1b⊕T7⊕Bool):=
 if(decide (s2.1≥0))=true then((idx s2.2 s2.1).bind fun x2=>(if(x2==0)=true then((idx s2.2 s2.1).bind fun x3=>some (List.set s2.2 (Int.toNat s2.1) 1)) else(some s2.2):Option T7).bind fun o5=>(idx o5 s2.1).bind fun x4=>if(decide (x4>32))=true then(some (.inr (.inr (true)))) else((idx x1.2.2.2 s2.1).bind fun x5=>(qBa (qHi N x1 s2 x5) N (0,o5)).bind fun o6=>some (.inl (IntKind.wrap .i64 (s2.1-1),o6)))) else(some (.inr (.inl s2.2)))
def qHh(N:Nat)(p0:T17)(s1:Int):Tn:=
 if(decide (s1<(List.length p0.2.2:Int)))=true then((idx p0.2.2 s1).bind fun x1=>(if(decide ((List.length x1.2.2.1:Int)>8))=true then(some true) else(some (decide ((List.length x1.2.2.2:Int)>256))):T8).bind fun o3=>if o3=true then(some (.inr (.inr (true)))) else((qPc 8 0 (List.length x1.2.2.2:Int)).bind fun l1=>(qBa (qGr N x1) N (IntKind.wrap .i64 ((List.length x1.2.2.2:Int)-1),l1)).bind fun out2=>(match out2 with| .inl o4=>some (.inl (IntKind.wrap .i64 (s1+1)))| .inr (z)=>some (.inr (.inr (z)))))) else(some (.inr (.inl ())))
def qJi(N:Nat)(p0:T17):T8:=
 (if(decide ((List.length p0.2.1:Int)>8))=true then(some true) else(some (decide ((List.length p0.2.2:Int)>64))):T8).bind fun o1=>if o1=true then(some true) else((qBa (qHh N p0) N 0).bind fun out1=>(match out1 with| .inl o2=>some false| .inr (z)=>some z))
theorem qSh{p0:T17}{r:Bool}(g:St m (O) w)(r1:RepS cStr m a1 c1 p0.2.1)(r2:RepS C4 m a2 c2 p0.2.2)(i:qJi N p0=some r):Calls Tryz.prog 139 #[.agg (V9 p0 a1 c1 a2 c2)] w fun e w'=>∃m',e= .returned (vB r)∧m.le m'∧St m' (O) w':=by
 unfold qJi at i;have q:=m.le_refl;refine W_cA Tryz.func139 rfl Tryz.ntmps139 ?_;refine W_sr (qAa rfl (qIe 1 52 0 (.agg (V9 p0 a1 c1 a2 c2)) g fun b1 m1 w1 e1 g hb1=>(qAf 1 [] (qAp (W_sr ?_)))));have⟨o1,i,J⟩:=qAo i;refine qFf (j:=10) (fun L' w'=>∃m2,L'=[(1,vP b1 0),(18,vB o1)]∧m.le m2∧St m2 (O) w'∧MRow m2 b1 0 (Va p0 a1 c1 a2 c2)∧P4 m2 a1 c1 a2 c2 p0.2) ?_ ?_
 ·have i:=J;rintro _ w2 ⟨m2,rfl,q,g,hb1,r1,r2⟩;refine WO_e (W_if i ?_ ?_)
  ·intro A i;refine W_sr (qAf 1 [(2,vB true)] (qAy (qAc ?_)));cases i;exact X_rt [2] [vB true] ⟨m2,rfl,q,g⟩
  ·intro A i;refine qAn (qAh (qAp (W_sr (qAb 1 [(19,vP b1 2)] (qAa rfl (qAl (d:=20) (t:=50) (x:=(.tmp 19)) (vS a2 p0.2.2 c2) kr rfl (ev (vP b1 2)) g (hb1.drop 2) kr (qAf 2 [(21,vI (p0.2.2.length:Int)),(22,vI 0)] (qAt ?_))))))));have⟨out1,i,j1⟩:=qAo i;refine qCr (.exit 0) (fun L' w'=>∃(o2:Unit),∃m3,(.inl o2)=out1∧L'=[]∧m.le m3∧St m3 (O) w') ?_ ?_
   ·rintro _ w3 ⟨o2,m3,rfl,rfl,q,g⟩;have i:=j1;refine qBl (qAh (W_sr (qAf 1 [(2,vB false)] (qAy ?_))));cases i;exact X_rt [2] [vB false] ⟨m3,rfl,q,g⟩
   intro K0_u1;refine qHd _ kr (qEn (fun k1 L' w'=>∃(s1:Int),∃m4,qBa (qHh N p0) k1 s1=some out1∧L'=[(20,vS a2 p0.2.2 c2),(21,vI (p0.2.2.length:Int)),(22,vI s1)]∧m.le m4∧St m4 (O) w'∧RepS C4 m4 a2 c2 p0.2.2) N ⟨0,m2,i,rfl,q,g,r2⟩ ?_);rintro k1 _ w4 ⟨s1,m4,hL,rfl,q,g,r2⟩;rcases k1 with _|k1
   ·exact qBk hL
   ·obtain⟨qu1,i,hSu1,hBu1⟩:=qBm hL;clear hL;unfold qHh at i;refine W_sr (qAf 1 [(23,vB (decide (s1<(p0.2.2.length:Int))))] (qAp (W_if i ?_ ?_)))
    ·intro A i;refine qAn (qAh (qAp (qAt (W_sr (qAa rfl (qDn 24 50 62 20 22 r2 i ?_))))));rintro x1 i b2 f1 cs1 ⟨_,_,rfl,rfl,⟨_,_,rfl,rfl,⟨_,_,rfl,⟨a3,c3,rfl,r3⟩,⟨a4,c4,rfl,r4⟩⟩⟩⟩ hq1;refine qFs 25 62 24 f1 (.agg (V7 x1 a3 c3 a4 c4)) g hq1 (qAa rfl (qDu 4 62 (.agg #[vI 0,vT eB,v7,v7]) g fun b3 w5 g=>(qAa rfl (qBz 62 4 25 (.agg (V7 x1 a3 c3 a4 c4)) g fun w6 g=>(WO_e (qAp (W_sr ?_)))))));have⟨o3,i,J⟩:=qAo i;refine qFf (j:=10) (fun L' w'=>∃m5,L'=[(4,vP b3 0),(20,vS a2 p0.2.2 c2),(21,vI (p0.2.2.length:Int)),(22,vI s1),(35,vB o3)]∧m.le m5∧St m5 (kB b3 (V7 x1 a3 c3 a4 c4) 62::O) w'∧RepS C4 m5 a2 c2 p0.2.2∧P5 m5 a3 c3 a4 c4 x1.2.2) ?_ ?_
     ·have i:=J;rintro _ w7 ⟨m5,rfl,q,g,r2,r3,r4⟩;refine WO_e (W_if i ?_ ?_)
      ·intro A i;refine W_sr (qAf 1 [(2,vB true)] (qAy (qAc (qAg (qAc ?_)))));cases i;have ho:=hBu1 _ rfl;subst ho;have i:=j1;refine qAc (qAg (qAc ?_));cases i;exact X_rt [2] [vB true] ⟨m5,rfl,q,g.t⟩
      ·intro A i;refine qAn (qAh (W_sr (qFr 1 37 60 36 3 (vS a4 x1.2.2.2 c4) g.h (qAb 1 [(38,vI (x1.2.2.2.length:Int))] ?_))));have⟨l1,d2,i⟩:=qAo i;refine qAa rfl (qNz (d:=39) (t:=22) (e:=3) (by_:=8) (x:=(.tmp 38)) (y:=(.tmp 38)) (fun x:Int=>Value.int .i64 x) kr rfl (ev (vI (x1.2.2.2.length:Int))) (ev (vI (x1.2.2.2.length:Int))) kr kr rfl g d2 fun b4 w8 hn1 g=>(qAf 1 [(5,.slice (aP b4) (Int.toNat (x1.2.2.2.length:Int)) (Int.toNat (x1.2.2.2.length:Int)))] (W_sr (qFr 1 41 60 40 3 (vS a4 x1.2.2.2 c4) g.t.h (qAf 3 [(6,vI (wr ((x1.2.2.2.length:Int)-1)))] (qAt ?_))))));have⟨out2,i,j2⟩:=qAo i;refine qCr (.exit 2) (fun L' w'=>∃(o4:T7),∃m6,(.inl o4)=out2∧L'=[(20,vS a2 p0.2.2 c2),(21,vI (p0.2.2.length:Int)),(22,vI s1)]∧m.le m6∧St m6 (kB b3 (V7 x1 a3 c3 a4 c4) 62:: .blk b4 (.cells (qEy (fun x:Int=>Value.int .i64 x) o4 []) 3 (0,0))::O) w'∧RepS C4 m6 a2 c2 p0.2.2∧RepS cStr m6 a3 c3 x1.2.2.1∧RepS C3 m6 a4 c4 x1.2.2.2∧List.length o4=(Int.toNat (x1.2.2.2.length:Int))) ?_ ?_
       ·rintro _ w9 ⟨o4,m6,rfl,rfl,q,g,r2,r3,r4,hn2⟩;have i:=j2;refine qBl (qBf (qAh (qAm (qAb 2 [(22,vI (wr (s1+1)))] (qAv rfl ?_)))));obtain rfl:=sI i;have hL:=hSu1 _ rfl;exact xE (qCk k1 (jE _) ⟨wr (s1+1),m6,hL,rfl,q,g.t.t,r2⟩)
       intro K2_u2;refine qHd _ kr (qEn (fun k2 L' w'=>∃(s2:T1b),∃m7,qBa (qGr N x1) k2 s2=some out2∧L'=[(4,vP b3 0),(5,.slice (aP b4) (Int.toNat (x1.2.2.2.length:Int)) (Int.toNat (x1.2.2.2.length:Int))),(6,vI s2.1),(20,vS a2 p0.2.2 c2),(21,vI (p0.2.2.length:Int)),(22,vI s1)]∧m.le m7∧St m7 (kB b3 (V7 x1 a3 c3 a4 c4) 62:: .blk b4 (.cells (qEy (fun x:Int=>Value.int .i64 x) s2.2 []) 3 (0,0))::O) w'∧RepS C4 m7 a2 c2 p0.2.2∧RepS cStr m7 a3 c3 x1.2.2.1∧RepS C3 m7 a4 c4 x1.2.2.2∧List.length s2.2=(Int.toNat (x1.2.2.2.length:Int))) N ⟨(wr ((x1.2.2.2.length:Int)-1),l1),m5,i,rfl,q,g.f1,r2,r3,r4,hn1⟩ ?_);rintro k2 _ w10 ⟨s2,m7,hL,rfl,q,g,r2,r3,r4,hn3⟩;rcases k2 with _|k2
       ·exact qBk hL
       ·obtain⟨qu2,i,hSu2,hBu2⟩:=qBm hL;clear hL;unfold qGr at i;refine qAp (W_sr (qAf 2 [(45,vB (decide (s2.1≥0)))] (W_if i ?_ ?_)))
        ·intro A i;refine qAn (qAh (qAp (qAt (qAp (W_sr (qAb 2 [(48,.slice (aP b4) (Int.toNat (x1.2.2.2.length:Int)) (Int.toNat (x1.2.2.2.length:Int))),(49,vI s2.1)] ?_))))));have⟨x2,d3,i⟩:=qAo i;refine qAa rfl (qDq (d:=50) (t:=22) (e:=3) (x:=(.tmp 48)) (y:=(.tmp 49)) kr rfl (ev (.slice (aP b4) (Int.toNat (x1.2.2.2.length:Int)) (Int.toNat (x1.2.2.2.length:Int)))) (ev (vI s2.1)) kr hn3 d3 (qAa rfl (qIm (d:=51) (t:=3) (x:=(.tmp 50)) kr rfl (ev (.pointer (some ⟨b4,Int.toNat s2.1,none⟩))) g.t.h d3 kr (qAf 1 [(52,vB (x2==0))] ?_))));have⟨o5,i,j3⟩:=qAo i;refine qCr .normal (fun L' w'=>∃m8,L'=[(4,vP b3 0),(5,.slice (aP b4) (Int.toNat (x1.2.2.2.length:Int)) (Int.toNat (x1.2.2.2.length:Int))),(6,vI s2.1),(20,vS a2 p0.2.2 c2),(21,vI (p0.2.2.length:Int)),(22,vI s1)]∧m.le m8∧St m8 (kB b3 (V7 x1 a3 c3 a4 c4) 62:: .blk b4 (.cells (qEy (fun x:Int=>Value.int .i64 x) o5 []) 3 (0,0))::O) w'∧RepS C4 m8 a2 c2 p0.2.2∧RepS cStr m8 a3 c3 x1.2.2.1∧RepS C3 m8 a4 c4 x1.2.2.2∧List.length o5=(Int.toNat (x1.2.2.2.length:Int))) ?_ ?_
         ·have i:=j3;rintro _ w11 ⟨m8,rfl,q,g,r2,r3,r4,hn4⟩;refine qAh (qAp (W_sr (qAb 2 [(56,.slice (aP b4) (Int.toNat (x1.2.2.2.length:Int)) (Int.toNat (x1.2.2.2.length:Int))),(57,vI s2.1)] ?_)));have⟨x4,d5,i⟩:=qAo i;refine qAa rfl (qDq (d:=58) (t:=22) (e:=3) (x:=(.tmp 56)) (y:=(.tmp 57)) kr rfl (ev (.slice (aP b4) (Int.toNat (x1.2.2.2.length:Int)) (Int.toNat (x1.2.2.2.length:Int)))) (ev (vI s2.1)) kr hn4 d5 (qAa rfl (qIm (d:=59) (t:=3) (x:=(.tmp 58)) kr rfl (ev (.pointer (some ⟨b4,Int.toNat s2.1,none⟩))) g.t.h d5 kr (qAf 1 [(60,vB (decide (x4>32)))] (W_if i ?_ ?_)))))
          ·intro A i;refine W_sr (qAf 1 [(2,vB true)] (qAy (qAc (qAg (qAc ?_)))));cases i;have ho:=hBu2 _ rfl;subst ho;have i:=j2;refine qAc (qAg (qAg (qAc ?_)));cases i;have ho:=hBu1 _ rfl;subst ho;have i:=j1;refine qAc (qAg (qAc ?_));cases i;exact X_rt [2] [vB true] ⟨m8,rfl,q,g.t.t⟩
          ·intro A i;refine qAn (qAh (W_sr (qFr 1 62 60 61 3 (vS a4 x1.2.2.2 c4) g.h (qAb 1 [(63,vI s2.1)] (qAa rfl (qDn 64 60 117 62 63 r4 i ?_))))));rintro x5 i b5 f2 cs2 ⟨_,_,rfl,rfl,⟨_,_,rfl,rfl,⟨_,_,rfl,rfl,⟨_,_,rfl,rfl,⟨a5,c5,rfl,r5⟩⟩⟩⟩⟩ hq2;refine qAb 1 [(65,.pointer (some ⟨b5,f2+4,none⟩))] (qAa rfl (qAl (d:=66) (t:=22) (x:=(.tmp 65)) (vS a5 x5.2.2.2.2 c5) kr rfl (ev (.pointer (some ⟨b5,f2+4,none⟩))) g (hq2.drop 4) kr (qAf 2 [(67,vI (x5.2.2.2.2.length:Int)),(68,vI 0)] (qAt ?_))));have⟨out3,i,j4⟩:=qAo i;refine qCr (.exit 4) (fun L' w'=>∃(o6:T7),∃m9,o6=out3∧L'=[(4,vP b3 0),(5,.slice (aP b4) (Int.toNat (x1.2.2.2.length:Int)) (Int.toNat (x1.2.2.2.length:Int))),(6,vI s2.1),(20,vS a2 p0.2.2 c2),(21,vI (p0.2.2.length:Int)),(22,vI s1)]∧m.le m9∧St m9 (kB b3 (V7 x1 a3 c3 a4 c4) 62:: .blk b4 (.cells (qEy (fun x:Int=>Value.int .i64 x) o6 []) 3 (0,0))::O) w'∧RepS C4 m9 a2 c2 p0.2.2∧RepS cStr m9 a3 c3 x1.2.2.1∧RepS C3 m9 a4 c4 x1.2.2.2∧List.length o6=(Int.toNat (x1.2.2.2.length:Int))) ?_ ?_
           ·rintro _ w13 ⟨o6,m9,rfl,rfl,q,g,r2,r3,r4,hn6⟩;have i:=j4;refine qBl (qBf (qAh (qAm (qAb 3 [(6,vI (wr (s2.1-1)))] (qAv rfl ?_)))));obtain rfl:=sI i;have hL:=hSu2 _ rfl;exact xE (qCk k2 (jE _) ⟨(wr (s2.1-1),o6),m9,hL,rfl,q,g.f1.f1,r2,r3,r4,hn6⟩)
           intro K4_u4;refine qHd _ kr (qEn (fun k3 L' w'=>∃(s3:T1b),∃m10,qBa (qHi N x1 s2 x5) k3 s3=some out3∧L'=[(4,vP b3 0),(5,.slice (aP b4) (Int.toNat (x1.2.2.2.length:Int)) (Int.toNat (x1.2.2.2.length:Int))),(6,vI s2.1),(20,vS a2 p0.2.2 c2),(21,vI (p0.2.2.length:Int)),(22,vI s1),(66,vS a5 x5.2.2.2.2 c5),(67,vI (x5.2.2.2.2.length:Int)),(68,vI s3.1)]∧m.le m10∧St m10 (kB b3 (V7 x1 a3 c3 a4 c4) 62:: .blk b4 (.cells (qEy (fun x:Int=>Value.int .i64 x) s3.2 []) 3 (0,0))::O) w'∧RepS C4 m10 a2 c2 p0.2.2∧RepS (cInt .i64) m10 a5 c5 x5.2.2.2.2∧RepS cStr m10 a3 c3 x1.2.2.1∧RepS C3 m10 a4 c4 x1.2.2.2∧List.length s3.2=(Int.toNat (x1.2.2.2.length:Int))) N ⟨(0,o5),m8,i,rfl,q,g.f1.f1,r2,r5,r3,r4,hn4⟩ ?_);rintro k3 _ w14 ⟨s3,m10,hL,rfl,q,g,r2,r5,r3,r4,hn7⟩;rcases k3 with _|k3
           ·exact qBk hL
           ·obtain⟨qu4,i,hSu4,hBu4⟩:=qBm hL;clear hL;unfold qHi at i;refine W_sr (qAf 1 [(69,vB (decide (s3.1<(x5.2.2.2.2.length:Int))))] (qAp (W_if i ?_ ?_)))
            ·intro A i;refine qAn (qAh (qAp ?_));have⟨o7,i,j5⟩:=qAo i;refine qCr .normal (fun L' w'=>∃m11,L'=[(4,vP b3 0),(5,.slice (aP b4) (Int.toNat (x1.2.2.2.length:Int)) (Int.toNat (x1.2.2.2.length:Int))),(6,vI s2.1),(20,vS a2 p0.2.2 c2),(21,vI (p0.2.2.length:Int)),(22,vI s1),(66,vS a5 x5.2.2.2.2 c5),(67,vI (x5.2.2.2.2.length:Int)),(68,vI s3.1)]∧m.le m11∧St m11 (kB b3 (V7 x1 a3 c3 a4 c4) 62:: .blk b4 (.cells (qEy (fun x:Int=>Value.int .i64 x) o7 []) 3 (0,0))::O) w'∧RepS C4 m11 a2 c2 p0.2.2∧RepS (cInt .i64) m11 a5 c5 x5.2.2.2.2∧RepS cStr m11 a3 c3 x1.2.2.1∧RepS C3 m11 a4 c4 x1.2.2.2∧List.length o7=(Int.toNat (x1.2.2.2.length:Int))) ?_ ?_
             ·have i:=j5;rintro _ w15 ⟨m11,rfl,q,g,r2,r5,r3,r4,hn8⟩;refine qAh (qAm (qAb 2 [(68,vI (wr (s3.1+1)))] (qAv rfl ?_)));obtain rfl:=sI i;have hL:=hSu4 _ rfl;exact xE (qCk k3 (jE _) ⟨(wr (s3.1+1),o7),m11,hL,rfl,q,g.f1.f1,r2,r5,r3,r4,hn8⟩)
             ·intro Ku5;refine qAt (W_sr (qAa rfl (qDn 70 22 3 66 68 r5 i ?_)));rintro x6 i b6 f3 cs3 rfl hq3;refine qFs 71 3 70 f3 (vI x6) g hq3 (qAf 1 [(8,vI x6)] (W_sr (qAb 4 [(72,.slice (aP b4) (Int.toNat (x1.2.2.2.length:Int)) (Int.toNat (x1.2.2.2.length:Int))),(73,vI x6),(74,.slice (aP b4) (Int.toNat (x1.2.2.2.length:Int)) (Int.toNat (x1.2.2.2.length:Int))),(75,vI s2.1)] ?_)));have⟨x7,d8,i⟩:=qAo i;refine qAa rfl (qDq (d:=76) (t:=22) (e:=3) (x:=(.tmp 74)) (y:=(.tmp 75)) kr rfl (ev (.slice (aP b4) (Int.toNat (x1.2.2.2.length:Int)) (Int.toNat (x1.2.2.2.length:Int)))) (ev (vI s2.1)) kr hn7 d8 (qAa rfl (qIm (d:=77) (t:=3) (x:=(.tmp 76)) kr rfl (ev (.pointer (some ⟨b4,Int.toNat s2.1,none⟩))) g.t.h d8 kr ?_)));have⟨x8,d9,i⟩:=qAo i;refine qAa rfl (qDq (d:=78) (t:=22) (e:=3) (x:=(.tmp 72)) (y:=(.tmp 73)) kr rfl (ev (.slice (aP b4) (Int.toNat (x1.2.2.2.length:Int)) (Int.toNat (x1.2.2.2.length:Int)))) (ev (vI x6)) kr hn7 d9 (qAa rfl (qHp (f:=(fun x:Int=>Value.int .i64 x)) (u:=x7) (t:=3) (x:=(.tmp 78)) (y:=(.tmp 77)) kr (ev (.pointer (some ⟨b4,Int.toNat x6,none⟩))) (ev (vI x7)) g.f1 d9 rfl kr fun w16 g=> ?_)));have hn9:List.length (List.set s3.2 (Int.toNat x6) x7)=(Int.toNat (x1.2.2.2.length:Int)):=qOg hn7 _ _
              refine WO_e (W_sr (qFr 1 80 60 79 3 (vS a4 x1.2.2.2 c4) g.t.h (qAb 1 [(81,vI s2.1)] (qAa rfl (qDn 82 60 117 80 81 r4 i ?_)))));rintro x9 i b7 f4 cs4 ⟨_,_,rfl,rfl,⟨_,_,rfl,rfl,⟨_,_,rfl,rfl,⟨_,_,rfl,rfl,⟨a6,c6,rfl,r6⟩⟩⟩⟩⟩ hq4;refine qAb 1 [(83,vP b7 f4)] (qFs 84 3 83 f4 (vI x9.1) g hq4 (qAf 1 [(85,vB (x9.1 !=4))] (W_if i ?_ ?_)))
              ·intro A i;refine qAm (qAb 2 [(86,.slice (aP b4) (Int.toNat (x1.2.2.2.length:Int)) (Int.toNat (x1.2.2.2.length:Int))),(87,vI x6)] ?_);have⟨x10,d11,i⟩:=qAo i;refine qAa rfl (qDq (d:=88) (t:=22) (e:=3) (x:=(.tmp 86)) (y:=(.tmp 87)) kr rfl (ev (.slice (aP b4) (Int.toNat (x1.2.2.2.length:Int)) (Int.toNat (x1.2.2.2.length:Int)))) (ev (vI x6)) kr hn9 d11 (qAa rfl (qIm (d:=89) (t:=3) (x:=(.tmp 88)) kr rfl (ev (.pointer (some ⟨b4,Int.toNat x6,none⟩))) g.h d11 kr (qAb 1 [(90,vI (wr (x10+1)))] ?_))));have⟨x11,d12,i⟩:=qAo i;refine qAa rfl (qDq (d:=91) (t:=22) (e:=3) (x:=(.tmp 86)) (y:=(.tmp 87)) kr rfl (ev (.slice (aP b4) (Int.toNat (x1.2.2.2.length:Int)) (Int.toNat (x1.2.2.2.length:Int)))) (ev (vI x6)) kr hn9 d12 (qAa rfl (qHp (f:=(fun x:Int=>Value.int .i64 x)) (u:=wr (x10+1)) (t:=3) (x:=(.tmp 91)) (y:=(.tmp 90)) kr (ev (.pointer (some ⟨b4,Int.toNat x6,none⟩))) (ev (vI (wr (x10+1)))) g d12 rfl kr fun w17 g=> ?_)));have hn10:List.length (List.set (List.set s3.2 (Int.toNat x6) x7) (Int.toNat x6) (wr (x10+1)))=(Int.toNat (x1.2.2.2.length:Int)):=qOg hn9 _ _;refine qAv rfl (qBf ?_);cases i;exact xE (Ku5 _ _ ⟨m10,rfl,q,g.f1,r2,r5,r3,r4,hn10⟩)
              ·intro A i;refine qAn (qBf ?_);cases i;exact xE (Ku5 _ _ ⟨m10,rfl,q,g.f1,r2,r5,r3,r4,hn9⟩)
            ·intro A i;refine qEo (qAk ?_);cases i;have ho:=hBu4 _ rfl;have g:=g.f1.f1;refine qAk ?_;exact xE (K4_u4 _ _ ⟨s3.2,m10,ho,rfl,q,g,r2,r3,r4,hn7⟩)
         ·intro Ku3;refine W_if i ?_ ?_
          ·intro A i;refine qAm (qAb 2 [(53,.slice (aP b4) (Int.toNat (x1.2.2.2.length:Int)) (Int.toNat (x1.2.2.2.length:Int))),(54,vI s2.1)] ?_);have⟨x3,d4,i⟩:=qAo i;refine qAa rfl (qDq (d:=55) (t:=22) (e:=3) (x:=(.tmp 53)) (y:=(.tmp 54)) kr rfl (ev (.slice (aP b4) (Int.toNat (x1.2.2.2.length:Int)) (Int.toNat (x1.2.2.2.length:Int)))) (ev (vI s2.1)) kr hn3 d4 (qAa rfl (qHp (f:=(fun x:Int=>Value.int .i64 x)) (u:=1) (t:=3) (x:=(.tmp 55)) (y:=(.const (vI 1))) kr (ev (.pointer (some ⟨b4,Int.toNat s2.1,none⟩))) (ev (vI 1)) g.f1 d4 rfl kr fun w12 g=> ?_)));have hn5:List.length (List.set s2.2 (Int.toNat s2.1) 1)=(Int.toNat (x1.2.2.2.length:Int)):=qOg hn3 _ _;refine qAv rfl ?_;cases i;exact xE (Ku3 _ _ ⟨m7,rfl,q,g.f1,r2,r3,r4,hn5⟩)
          ·intro A i;refine qAn ?_;cases i;exact xE (Ku3 _ _ ⟨m7,rfl,q,g.f1.f1,r2,r3,r4,hn3⟩)
        ·intro A i;refine qEo (qAk ?_);cases i;have ho:=hBu2 _ rfl;have g:=g.f1.f1;refine qAk ?_;exact xE (K2_u2 _ _ ⟨s2.2,m7,ho,rfl,q,g,r2,r3,r4,hn3⟩)
     ·intro K;refine qFr 1 27 43 26 2 (vS a3 x1.2.2.1 c3) g.h (qAb 3 [(30,vB (decide ((x1.2.2.1.length:Int)>8)))] (qCl 30 i ?_ ?_))
      ·intro A i;refine qAb 5 [(35,vB true)] ?_;cases i;exact qAw _ kr (K _ _ ⟨m4,rfl,q,g,r2,r3,r4⟩)
      ·intro A i;refine qFr 1 32 60 31 3 (vS a4 x1.2.2.2 c4) g.h (qAb 3 [(35,vB (decide ((x1.2.2.2.length:Int)>256)))] ?_);cases i;exact qAw _ kr (K _ _ ⟨m4,rfl,q,g,r2,r3,r4⟩)
    ·intro A i;refine qEo (qAk ?_);cases i;have ho:=hBu1 _ rfl;refine qAk ?_;exact xE (K0_u1 _ _ ⟨(),m4,ho,rfl,q,g⟩)
 ·intro K;refine qAb 1 [(9,vP b1 1)] (qAa rfl (qAl (d:=10) (t:=43) (x:=(.tmp 9)) (vS a1 p0.2.1 c1) kr rfl (ev (vP b1 1)) g (hb1.drop 1) kr (qAb 3 [(13,vB (decide ((p0.2.1.length:Int)>8)))] (qCl 13 i ?_ ?_))))
  ·intro A i;refine qAb 5 [(18,vB true)] ?_;cases i;exact qAw _ kr (K _ _ ⟨m1,rfl,q.t e1,g,hb1,r1.mono e1,r2.mono e1⟩)
  ·intro A i;refine qAb 1 [(14,vP b1 2)] (qAa rfl (qAl (d:=15) (t:=50) (x:=(.tmp 14)) (vS a2 p0.2.2 c2) kr rfl (ev (vP b1 2)) g (hb1.drop 2) kr (qAb 3 [(18,vB (decide ((p0.2.2.length:Int)>64)))] ?_)));cases i;exact qAw _ kr (K _ _ ⟨m1,rfl,q.t e1,g,hb1,r1.mono e1,r2.mono e1⟩)
def qGg(N:Nat)(p0:T17):T9:=
 (qHz N p0).bind fun y1=>if(!y1)=true then(some 9) else((qIo N p0).bind fun y2=>if y2=true then(some 10) else((qJi N p0).bind fun y3=>if y3=true then(some 2) else(some 0)))
theorem qMz{p0:T17}{r:Int}(g:St m (O) w)(r1:RepS cStr m a1 c1 p0.2.1)(r2:RepS C4 m a2 c2 p0.2.2)(i:qGg N p0=some r):Calls Tryz.prog 71 #[.agg (V9 p0 a1 c1 a2 c2)] w fun e w'=>∃m',e= .returned (vI r)∧m.le m'∧St m' (O) w':=by
 unfold qGg at i;have q:=m.le_refl;refine W_cA Tryz.func71 rfl Tryz.ntmps71 ?_;refine W_sr (qAa rfl (qIe 1 52 0 (.agg (V9 p0 a1 c1 a2 c2)) g fun b1 m1 w1 e1 g hb1=> ?_));have r1:=r1.mono e1;have r2:=r2.mono e1;refine qAf 1 [] (qAp (qAt (W_sr (qFs 4 52 1 0 (.agg (V9 p0 a1 c1 a2 c2)) g hb1 (qAz 5 i (fun _ h=>qPv g r1 r2 h) ?_)))));rintro y1 i _ w2 ⟨m2,rfl,e2,g⟩;refine qAf 2 [(3,vB (!y1))] (W_if i ?_ ?_)
 ·intro A i;refine W_sr (qAf 1 [(2,vI 9)] (qAy (qAg (qAc ?_))));cases i;exact X_rt [2] [vI 9] ⟨m2,rfl,(q.t e1).t e2,g⟩
 ·intro A i;refine W_sr (qFs 8 52 1 0 (.agg (V9 p0 a1 c1 a2 c2)) g (hb1.mono e2) (qAz 9 i (fun _ h=>qRe g (r1.mono e2) (r2.mono e2) h) ?_));rintro y2 i _ w3 ⟨m3,rfl,e3,g⟩;have q:=((q.t e1).t e2).t e3;refine qAf 1 [(7,vB y2)] (W_if i ?_ ?_)
  ·intro A i;refine W_sr (qAf 1 [(2,vI 10)] (qAy (qAg (qAc ?_))));cases i;exact X_rt [2] [vI 10] ⟨m3,rfl,q,g⟩
  ·intro A i;refine W_sr (qFs 11 52 1 0 (.agg (V9 p0 a1 c1 a2 c2)) g ((hb1.mono e2).mono e3) (qAz 12 i (fun _ h=>qSh g ((r1.mono e2).mono e3) ((r2.mono e2).mono e3) h) ?_));rintro y3 i _ w4 ⟨m4,rfl,e4,g⟩;refine qAf 1 [(10,vB y3)] (W_if i ?_ ?_)
   ·intro A i;refine W_sr (qAf 1 [(2,vI 2)] (qAy (qAg (qAc ?_))));cases i;exact X_rt [2] [vI 2] ⟨m4,rfl,q.t e4,g⟩
   ·intro A i;refine qAn (qBf (qAh (W_sr (qAf 1 [(2,vI 0)] (qAy ?_)))));cases i;exact X_rt [2] [vI 0] ⟨m4,rfl,q.t e4,g⟩
theorem bcc_true{b:Nat}{R:List Value}{e:Nat}(g:St m (.blk b (.cells ⟨vP b 0::R⟩ e (0,0))::O) w):
  Calls Tryz.prog 140 #[vP b 0] w fun ex w'=>∃m':Mem,ex= .returned (.tuple #[])∧m.le m'∧St m' (.blk b (.cells ⟨vP b 0::R⟩ e (0,0))::O) w':=by
 have q:=m.le_refl;refine qXe Tryz.func140 rfl Tryz.ntmps140 [(0,vP b 0)] kr rfl ?_;refine W_sr (qNd 3 [(4,vP b 0)] kr kr (qAa rfl (qJr (d:=5) (t:=119) (x:=(.tmp 4)) (vP b 0) kr rfl (ev (vP b 0)) g.h kr (qNd 1 [(6,vB false)] kr kr (zBx rfl (qNc false kr (fun h=>Bool.noConfusion h) fun _=>(W_sr (qNd 3 [(16,vP b 0)] kr kr (qAa rfl (qJr (d:=17) (t:=119) (x:=(.tmp 16)) (vP b 0) kr rfl (ev (vP b 0)) g.h kr (qNd 1 [(18,vP b 0)] kr kr (qAa rfl (qXu (d:=19) (t:=119) (t2:=119) (r:=122) (x:=(.tmp 17)) (y:=(.tmp 18)) (a:=⟨b,0,none⟩) kr rfl (ev (vP b 0)) (ev (vP b 0)) kr kr (zBx rfl (qNc false kr (fun h=>Bool.noConfusion h) fun _=>(qAn (qKr [] [] rfl ResAll.nil ?_)))))))))))))))));exact⟨m,rfl,q,g⟩
theorem zAx{b:Nat}{R:List Value}{e:Nat}(hl:liesAt Tryz.prog Tryz.prog.depth e ((⟨.pointer none::R⟩:Array Value).size/Tryz.prog.cellsOf e) 0 122 1=true)(g:St m (.blk b (.cells ⟨.pointer none::R⟩ e (0,0))::O) w):
  Calls Tryz.prog 140 #[vP b 0] w fun ex w'=>∃m':Mem,ex= .returned (.tuple #[])∧m.le m'∧St m' (.blk b (.cells ⟨vP b 0::R⟩ e (0,0))::O) w':=by
 have q:=m.le_refl;refine qXe Tryz.func140 rfl Tryz.ntmps140 [(0,vP b 0)] kr rfl ?_;refine W_sr (qNd 3 [(4,vP b 0)] kr kr (qAa rfl (qJr (d:=5) (t:=119) (x:=(.tmp 4)) (.pointer none) kr rfl (ev (vP b 0)) g.h kr (qNd 1 [(6,vB true)] kr kr (zBx rfl (qNc true kr (fun _=> ?_) (fun h=>Bool.noConfusion h)))))));refine qAm (qNd 2 [(7,vP b 0),(8,vP b 0)] kr kr (qAa rfl (qVn (d:=9) (src:=119) (dst:=244) (t:=122) (x:=(.tmp 8)) kr rfl (ev (vP b 0)) g.h kr kr kr (by simp) (qAa rfl (qUr (d:=10) (f:=198) (ts:= #[244]) (x:=(.tmp 9)) (v:=vP b 0) kr rfl (ev (vP b 0)) Tryz.func198 kr kr (qAa rfl (qSc (d:=11) (src:=244) (dst:=119) (u:=122) (x:=(.tmp 10)) kr rfl (ev (vP b 0)) g.h kr kr kr hl (qNd 2 [(13,vP b 0)] kr kr (qAa rfl (qRu (t:=119) (x:=(.tmp 13)) (y:=(.tmp 11)) (v:=vP b 0) (c':=⟨vP b 0::R⟩) kr (ev (vP b 0)) (ev (vP b 0)) g kr kr ?_))))))))));clear g;intro w1 g;refine qAv rfl (qKr [] [] rfl ResAll.nil ?_);exact⟨m,rfl,q,g⟩
theorem qAx{b:Nat}{c0:Option Addr}{R:List Value}{e:Nat}(A:(c0=none∧liesAt Tryz.prog Tryz.prog.depth e ((⟨.pointer none::R⟩:Array Value).size/Tryz.prog.cellsOf e) 0 122 1=true)∨c0=some ⟨b,0,none⟩)(g:St m (.blk b (.cells ⟨.pointer c0::R⟩ e (0,0))::O) w):
  Calls Tryz.prog 140 #[vP b 0] w fun ex w'=>∃m':Mem,ex= .returned (.tuple #[])∧m.le m'∧St m' (.blk b (.cells ⟨vP b 0::R⟩ e (0,0))::O) w':=by
 rcases A with ⟨rfl,hl⟩|rfl
 ·exact zAx hl g
 ·exact bcc_true g
def qGz(N:Nat)(p0:Td):T9:=
 if(p0.1==5)=true then(some 0) else(if(p0.1==4)=true then((qGq N p0.2.2.1).bind fun y1=>some y1) else(some 4))
theorem qMo{p0:Td}{r:Int}(g:St m (O) w)(r1:RepS (cInt .i64) m a1 c1 p0.2.2.2.2)(i:qGz N p0=some r):Calls Tryz.prog 199 #[.agg (V5 p0 a1 c1)] w fun e w'=>∃m',e= .returned (vI r)∧m.le m'∧St m' (O) w':=by
 unfold qGz at i;have q:=m.le_refl;refine W_cA Tryz.func199 rfl Tryz.ntmps199 ?_;refine W_sr (qAa rfl (qIe 1 117 0 (.agg (V5 p0 a1 c1)) g fun b1 m1 w1 e1 g hb1=> ?_));have q:=q.t e1;refine qAf 1 [] (qAp (W_sr (qAb 1 [(3,vP b1 0)] (qFs 4 3 3 0 (vI p0.1) g hb1 (WO_e (qAt (W_sr (qAf 2 [(5,vB (p0.1==5))] (W_if i ?_ ?_)))))))))
 ·intro A i;refine W_sr (qAf 1 [(2,vI 0)] (qAy (qAg (qAc ?_))));cases i;exact X_rt [2] [vI 0] ⟨m1,rfl,q,g⟩
 ·intro A i;refine W_sr (qAf 2 [(7,vB (p0.1==4))] (W_if i ?_ ?_))
  ·intro A i;refine W_sr (qAb 1 [(9,vP b1 2)] (qAa rfl (qAl (d:=10) (t:=3) (x:=(.tmp 9)) (vI p0.2.2.1) kr rfl (ev (vP b1 2)) g (hb1.drop 2) kr (qAz 11 i (fun _ h=>qLm g h) ?_))));rintro y1 i _ w2 ⟨m2,rfl,e2,g⟩;refine qAf 1 [(2,vI y1)] (qAy (qAg (qAc ?_)));obtain rfl:=sI i;exact X_rt [2] [vI y1] ⟨m2,rfl,q.t e2,g⟩
  ·intro A i;refine qAn (qBf (qAh (W_sr (qAf 1 [(2,vI 4)] (qAy ?_)))));cases i;exact X_rt [2] [vI 4] ⟨m1,rfl,q,g⟩
def strconv_Itoa(_:Nat)(p0:Int):T1c:=
 zEe p0
def qSd:Go.Shelf.Ren:=⟨fun|171=>201|243=>258|246=>284|283=>296|284=>297|285=>298|286=>299|129=>222|317=>305|318=>306|319=>307|320=>308|337=>314|338=>315|n=>n,fun|3=>3|9=>9|2=>2|4=>4|171=>307|0=>0|53=>232|37=>120|5=>5|173=>309|212=>315|51=>262|20=>20|213=>316|46=>215|232=>323|233=>324|n=>n,fun|17=>1|18=>4|19=>5|n=>n⟩
theorem zAe:Go.Proofs.LaysM.n171 Tryz.prog qSd where
 mixed:=kr
 f129:=Tryz.func222.trans (congrArg some kr)
 f171:=Tryz.func201.trans (congrArg some kr)
 f243:=Tryz.func258.trans (congrArg some kr)
 f246:=Tryz.func284.trans (congrArg some kr)
 f283:=Tryz.func296.trans (congrArg some kr)
 f284:=Tryz.func297.trans (congrArg some kr)
 f285:=Tryz.func298.trans (congrArg some kr)
 f286:=Tryz.func299.trans (congrArg some kr)
 f317:=Tryz.func305.trans (congrArg some kr)
 f318:=Tryz.func306.trans (congrArg some kr)
 f319:=Tryz.func307.trans (congrArg some kr)
 f320:=Tryz.func308.trans (congrArg some kr)
 f337:=Tryz.func314.trans (congrArg some kr)
 f338:=Tryz.func315.trans (congrArg some kr)
 t0:=Tryz.underlying0
 a0:=Tryz.isAgg0
 z0:=Tryz.sizeOf0
 v0:=Tryz.zeroValue0
 t2:=Tryz.underlying2
 a2:=Tryz.isAgg2
 z2:=Tryz.sizeOf2
 v2:=Tryz.zeroValue2
 t3:=Tryz.underlying3
 a3:=Tryz.isAgg3
 z3:=Tryz.sizeOf3
 v3:=Tryz.zeroValue3
 t4:=Tryz.underlying4
 a4:=Tryz.isAgg4
 z4:=Tryz.sizeOf4
 v4:=Tryz.zeroValue4
 t5:=Tryz.underlying5
 a5:=Tryz.isAgg5
 z5:=Tryz.sizeOf5
 v5:=Tryz.zeroValue5
 t9:=Tryz.underlying9
 a9:=Tryz.isAgg9
 z9:=Tryz.sizeOf9
 v9:=Tryz.zeroValue9
 t20:=Tryz.underlying20
 a20:=Tryz.isAgg20
 z20:=Tryz.sizeOf20
 v20:=Tryz.zeroValue20
 t37:=Tryz.underlying120
 a37:=Tryz.isAgg120
 z37:=Tryz.sizeOf120
 v37:=Tryz.zeroValue120
 t46:=Tryz.underlying215
 a46:=Tryz.isAgg215
 z46:=Tryz.sizeOf215
 v46:=Tryz.zeroValue215
 t51:=Tryz.underlying262
 a51:=Tryz.isAgg262
 z51:=Tryz.sizeOf262
 v51:=Tryz.zeroValue262
 t53:=Tryz.underlying232
 a53:=Tryz.isAgg232
 z53:=Tryz.sizeOf232
 v53:=Tryz.zeroValue232
 t171:=Tryz.underlying307
 a171:=Tryz.isAgg307
 z171:=Tryz.sizeOf307
 v171:=Tryz.zeroValue307
 t173:=Tryz.underlying309
 a173:=Tryz.isAgg309
 z173:=Tryz.sizeOf309
 v173:=Tryz.zeroValue309
 t212:=Tryz.underlying315
 a212:=Tryz.isAgg315
 z212:=Tryz.sizeOf315
 v212:=Tryz.zeroValue315
 t213:=Tryz.underlying316
 a213:=Tryz.isAgg316
 z213:=Tryz.sizeOf316
 t232:=Tryz.underlying323
 a232:=Tryz.isAgg323
 z232:=Tryz.sizeOf323
 v232:=Tryz.zeroValue323
 t233:=Tryz.underlying324
 a233:=Tryz.isAgg324
 z233:=Tryz.sizeOf324
 v233:=Tryz.zeroValue324
 g17:=kr
 g18:=kr
 g19:=kr
 i0:=kr
 i2:=kr
 i3:=kr
 i4:=kr
 i5:=kr
 i9:=kr
 i20:=kr
 i37:=kr
 i46:=kr
 i51:=kr
 i53:=kr
 i171:=kr
 i173:=kr
 i212:=kr
 i232:=kr
 i233:=kr
 m17:=kr
 m18:=kr
 m19:=kr
theorem qNa{p0:Int}{r:ByteArray}(g:St m (O) w)(i:strconv_Itoa N p0=some r):Calls Tryz.prog 201 #[vI p0] w fun e w'=>∃m',e= .returned (vT r)∧m.le m'∧St m' (O) w':=zAi zAe kr g i
end
section
open Go Go.Dc
set_option maxHeartbeats 4000000
set_option maxRecDepth 100000
variable {N bp0 c1 c2 c3:Nat} {m:Mem} {O:List Piece} {w:World} {a1 a2 a3:Option Addr}
def qGi(N:Nat)(R6:T1d→(Int)→(Int)→(Int)→T1e)(p3:Int)(x1:Td)(s3:T1g):Option (T1g⊕T1f):=
 if(decide (s3.1<(List.length ([(⟨#[105,102,32]⟩:ByteArray),(⟨#[32,116,104,101,110,32]⟩:ByteArray),(⟨#[32,101,108,115,101,32]⟩:ByteArray)]):Int)))=true then((idx ([(⟨#[105,102,32]⟩:ByteArray),(⟨#[32,116,104,101,110,32]⟩:ByteArray),(⟨#[32,101,108,115,101,32]⟩:ByteArray)]) s3.1).bind fun x5=>(qCd 1 s3.2.2.1 x5.data.toList).bind fun l6=>(idx x1.2.2.2.2 s3.1).bind fun x6=>(R6 ((true,l6),s3.2.2.2.1,s3.2.2.2.2.1,s3.2.2.2.2.2) x6 0 (IntKind.wrap .i64 (p3+1))).bind fun y8=>some (.inl (IntKind.wrap .i64 (s3.1+1),y8.1.1,y8.1.2,y8.2.1,y8.2.2.1,y8.2.2.2))) else(some (.inr s3.2))
def qDy(N:Nat)(R6:T1d→(Int)→(Int)→(Int)→T1e)(p3:Int)(x1:Td)(s5:T1g):Option (T1g⊕T1f):=
 if(decide (s5.1<(List.length x1.2.2.2.2:Int)))=true then((idx x1.2.2.2.2 s5.1).bind fun x7=>(if(decide (s5.1>0))=true then((qCd 1 s5.2.2.1 ((⟨#[44,32]⟩:ByteArray).data.toList)).bind fun l8=>some (true,l8)) else(some (s5.2.1,s5.2.2.1)):Option (Bool×T3)).bind fun o4=>(R6 (o4,s5.2.2.2.1,s5.2.2.2.2.1,s5.2.2.2.2.2) x7 0 (IntKind.wrap .i64 (p3+1))).bind fun y9=>some (.inl (IntKind.wrap .i64 (s5.1+1),y9.1.1,y9.1.2,y9.2.1,y9.2.2.1,y9.2.2.2))) else(some (.inr s5.2))
def qDo(N:Nat)(R6:T1d→(Int)→(Int)→(Int)→T1e)(p0:T1d)(p1:Int)(p2:Int)(p3:Int):T1e:=
 (idx p0.2.1 p1).bind fun x1=>(qGz N x1).bind fun y1=>if(decide (y1<p2))=true then((qCd 1 p0.1.2 ([(40:UInt8)])).bind fun l1=>(R6 ((true,l1),p0.2.1,p0.2.2.1,p0.2.2.2) p1 0 (IntKind.wrap .i64 (p3+1))).bind fun y2=>(qCd 1 y2.1.2 ([(41:UInt8)])).bind fun l2=>some ((true,l2),y2.2.1,y2.2.2.1,y2.2.2.2)) else(if(x1.1==1)=true then((strconv_Itoa N x1.2.1).bind fun y3=>(qCd 1 p0.1.2 y3.data.toList).bind fun l3=>some ((true,l3),p0.2.1,p0.2.2.1,if p3>p0.2.2.2 then p3 else p0.2.2.2)) else(if(x1.1==2)=true then((idx p0.2.2.1 x1.2.1).bind fun x2=>(qCd 1 p0.1.2 x2.data.toList).bind fun l4=>some ((true,l4),p0.2.1,p0.2.2.1,if p3>p0.2.2.2 then p3 else p0.2.2.2)) else(if(x1.1==4)=true then((qGz N x1).bind fun y4=>(if(y4==1)=true then(some (IntKind.wrap .i64 (y4+1))) else(some y4):T9).bind fun o1=>(idx x1.2.2.2.2 0).bind fun x3=>(R6 (p0.1,p0.2.1,p0.2.2.1,if p3>p0.2.2.2 then p3 else p0.2.2.2) x3 o1 p3).bind fun y5=>(qIp N).bind fun y6=>(catB (⟨#[32]⟩:ByteArray) ((qDe y6 x1.2.2.1).getD (⟨#[]⟩:ByteArray))).bind fun s1=>(catB s1 (⟨#[32]⟩:ByteArray)).bind fun s2=>(qCd 1 y5.1.2 s2.data.toList).bind fun l5=>(idx x1.2.2.2.2 1).bind fun x4=>(R6 ((true,l5),y5.2.1,y5.2.2.1,y5.2.2.2) x4 (IntKind.wrap .i64 (y4+1)) p3).bind fun y7=>some (y7.1,y7.2.1,y7.2.2.1,y7.2.2.2)) else(if(x1.1==5)=true then((qBa (qGi N R6 p3 x1) N (0,p0.1.1,p0.1.2,p0.2.1,p0.2.2.1,if p3>p0.2.2.2 then p3 else p0.2.2.2)).bind fun o2=>some ((o2.1,o2.2.1),o2.2.2.1,o2.2.2.2.1,o2.2.2.2.2)) else(if(x1.1==3)=true then((catB x1.2.2.2.1 (⟨#[40]⟩:ByteArray)).bind fun s4=>(qCd 1 p0.1.2 s4.data.toList).bind fun l7=>(qBa (qDy N R6 p3 x1) N (0,true,l7,p0.2.1,p0.2.2.1,if p3>p0.2.2.2 then p3 else p0.2.2.2)).bind fun o3=>(qCd 1 o3.2.1 ([(41:UInt8)])).bind fun l9=>some ((true,l9),o3.2.2.1,o3.2.2.2.1,o3.2.2.2.2)) else(if(x1.1==6)=true then((catB (⟨#[114,101,97,100,40,34]⟩:ByteArray) x1.2.2.2.1).bind fun s6=>(catB s6 (⟨#[34,44,32]⟩:ByteArray)).bind fun s7=>(qCd 1 p0.1.2 s7.data.toList).bind fun l10=>(idx x1.2.2.2.2 0).bind fun x8=>(R6 ((true,l10),p0.2.1,p0.2.2.1,if p3>p0.2.2.2 then p3 else p0.2.2.2) x8 0 (IntKind.wrap .i64 (p3+1))).bind fun y10=>(qCd 1 y10.1.2 ([(41:UInt8)])).bind fun l11=>some ((true,l11),y10.2.1,y10.2.2.1,y10.2.2.2)) else(if(x1.1==10)=true then((strconv_Itoa N x1.2.1).bind fun y11=>(catB (⟨#[102,108,105,112,40]⟩:ByteArray) y11).bind fun s8=>(catB s8 (⟨#[41]⟩:ByteArray)).bind fun s9=>(qCd 1 p0.1.2 s9.data.toList).bind fun l12=>some ((true,l12),p0.2.1,p0.2.2.1,if p3>p0.2.2.2 then p3 else p0.2.2.2)) else((qHn (some []:Option T6) 7 (⟨#[115,105,122,101]⟩:ByteArray)).bind fun mp1=>(qHn mp1 8 (⟨#[104,97,115]⟩:ByteArray)).bind fun mp2=>(qHn mp2 9 (⟨#[101,110,118]⟩:ByteArray)).bind fun mp3=>(catB ((qDe mp3 x1.1).getD (⟨#[]⟩:ByteArray)) (⟨#[40,34]⟩:ByteArray)).bind fun s10=>(catB s10 x1.2.2.2.1).bind fun s11=>(catB s11 (⟨#[34,41]⟩:ByteArray)).bind fun s12=>(qCd 1 p0.1.2 s12.data.toList).bind fun l13=>some ((true,l13),p0.2.1,p0.2.2.1,if p3>p0.2.2.2 then p3 else p0.2.2.2)))))))))
def qCq(N:Nat):Nat→(T1d→(Int)→(Int)→(Int)→T1e)
 |0=>(fun _ _ _ _=>none)
 |D+1=>qDo N (qCq N D)
def qIu(N:Nat)(p0:T1d)(p1:Int)(p2:Int)(p3:Int):T1e:=(qCq N N) p0 p1 p2 p3
abbrev qMn(F:T1d→(Int)→(Int)→(Int)→T1e):Prop:=∀{m:Mem} {O:List Piece} {w:World} {p0:T1d} {p1:Int} {p2:Int} {p3:Int} {bp0:Nat} {a1:Option Addr} {c1:Nat} {a2:Option Addr} {c2:Nat} {a3:Option Addr} {c3:Nat} {r:T1d} (g:St m (kB bp0 #[.pointer (qCe p0.1.1 bp0),vS a1 p0.1.2 c1,vS a2 p0.2.1 c2,vS a3 p0.2.2.1 c3,vI p0.2.2.2] 193::kR a1 p0.1.2 c1 5 1::O) w) (r1:RepS cU8 m a1 c1 p0.1.2) (r2:RepS C3 m a2 c2 p0.2.1) (r3:RepS cStr m a3 c3 p0.2.2.1) (i:F p0 p1 p2 p3=some r),Calls Tryz.prog 141 #[vP bp0 0,vI p1,vI p2,vI p3] w fun e w'=>∃ra1 rc1 ra2 rc2 ra3 rc3 m',e= .returned (.tuple #[])∧m.le m'∧St m' (kB bp0 #[.pointer (qCe r.1.1 bp0),vS ra1 r.1.2 rc1,vS ra2 r.2.1 rc2,vS ra3 r.2.2.1 rc3,vI r.2.2.2] 193::kR ra1 r.1.2 rc1 5 1::O) w'∧P6 m' ra1 rc1 ra2 rc2 ra3 rc3 r
theorem qMe{R6:T1d→(Int)→(Int)→(Int)→T1e}(ih_source_writer_expr:qMn R6){p0:T1d}{p1:Int}{p2:Int}{p3:Int}{r:T1d}(g:St m (kB bp0 #[.pointer (qCe p0.1.1 bp0),vS a1 p0.1.2 c1,vS a2 p0.2.1 c2,vS a3 p0.2.2.1 c3,vI p0.2.2.2] 193::kR a1 p0.1.2 c1 5 1::O) w)(r1:RepS cU8 m a1 c1 p0.1.2)(r2:RepS C3 m a2 c2 p0.2.1)(r3:RepS cStr m a3 c3 p0.2.2.1)(i:qDo N R6 p0 p1 p2 p3=some r):Calls Tryz.prog 141 #[vP bp0 0,vI p1,vI p2,vI p3] w fun e w'=>∃ra1 rc1 ra2 rc2 ra3 rc3 m',e= .returned (.tuple #[])∧m.le m'∧St m' (kB bp0 #[.pointer (qCe r.1.1 bp0),vS ra1 r.1.2 rc1,vS ra2 r.2.1 rc2,vS ra3 r.2.2.1 rc3,vI r.2.2.2] 193::kR ra1 r.1.2 rc1 5 1::O) w'∧P6 m' ra1 rc1 ra2 rc2 ra3 rc3 r:=by
 unfold qDo at i;have q:=m.le_refl;refine W_cA Tryz.func141 rfl Tryz.ntmps141 ?_;refine W_sr (qFr 3 19 60 18 2 (vS a2 p0.2.1 c2) g.h (qAb 1 [(20,vI p1)] (qAa rfl (qDn 21 60 117 19 20 r2 i ?_))));rintro x1 i b1 f1 cs1 ⟨_,_,rfl,rfl,⟨_,_,rfl,rfl,⟨_,_,rfl,rfl,⟨_,_,rfl,rfl,⟨a4,c4,rfl,r4⟩⟩⟩⟩⟩ hq1;refine qFs 22 117 21 f1 (.agg (V5 x1 a4 c4)) g hq1 (qAa rfl (qDu 8 117 (.agg #[vI 0,vI 0,vI 0,vT eB,v7]) g fun b2 w1 g=>(qAa rfl (qBz 117 8 22 (.agg (V5 x1 a4 c4)) g fun w2 g=>(WO_e (qAp (W_sr (qAa rfl (qBo 23 117 8 0 (.agg (V5 x1 a4 c4)) g.h (qAz 24 i (fun _ h=>qMo g r4 h) ?_))))))))));rintro y1 i _ w3 ⟨m1,rfl,e1,g⟩;have q:=q.t e1;have r4:=r4.mono e1;have r1:=r1.mono e1;have r2:=r2.mono e1;have r3:=r3.mono e1;refine qAf 2 [(26,vB (decide (y1<p2)))] (W_if i ?_ ?_)
 ·intro A i;refine W_sr (qAb 3 [(29,vP bp0 0)] (qAa rfl (qDf 30 200 #[vP bp0 0,.int .u8 40] kr rfl (W_cA Tryz.func200 rfl Tryz.ntmps200 (W_sr (qAf 1 [] (W_sr (qAb 1 [(5,vP bp0 0)] ?_))))))));have g:=g.f1;refine qAa rfl (qDf 6 140 #[vP bp0 0] kr rfl ((qAx (c0:=(qCe p0.1.1 bp0)) (R:=[vS a1 p0.1.2 c1,vS a2 p0.2.1 c2,vS a3 p0.2.2.1 c3,vI p0.2.2.2]) (qFt p0.1.1 bp0 kr) g).mono ?_));rintro _ w4 ⟨m2,rfl,e2,g⟩;refine⟨_,rfl,?_⟩;have g:St m2 (kB bp0 #[.pointer (qCe true bp0),vS a1 p0.1.2 c1,vS a2 p0.2.1 c2,vS a3 p0.2.2.1 c3,vI p0.2.2.2] 193::kB b2 (V5 x1 a4 c4) 117::kR a1 p0.1.2 c1 5 1::O) w4:=g;refine WO_e (W_sr (qAb 4 [(7,vP bp0 0),(10,vP bp0 1)] (qAa rfl (qBo 11 120 10 1 (vS a1 p0.1.2 c1) g.h (qAb 1 [(12,.int .u8 40)] (qAa rfl (qBg (d:=13) (t:=120) (e:=5) (len:=1) (parts:= #[(0,(.tmp 12))]) cU8 (xs:=[(40:UInt8)]) [.int .u8 40] kr rfl (fun _=>qBh kr _) rfl rfl g ⟨[.int .u8 40],_,rfl,rfl,rfl⟩ fun b3 m3 w5 e3 g r5=>(qAa rfl (qEx 14 120 120 5 1 11 13 g.f3 (.inl kr) ((r1.mono e2).mono e3) r5.src i fun l1 i a5 c5 m4 w6 e4 g r6=>(qAb 2 [(16,vP bp0 1)] (qAa rfl (qEf 120 16 14 1 (vS a5 l1 c5) #[.pointer (qCe true bp0),vS a5 l1 c5,vS a2 p0.2.1 c2,vS a3 p0.2.2.1 c3,vI p0.2.2.2] g.f2 fun w7 g=>(qAv rfl ?_)))))))))))));have g:=g.f2.t;refine qAh (W_sr (qAf 1 [(4,.nilIface)] (qAy (X_rt [4] [.nilIface] (⟨_,rfl,?_⟩)))))
  refine WO_e (W_sr (qAb 4 [(31,vP bp0 0),(32,vI p1),(34,vI (wr (p3+1)))] (qAz 35 i (fun _ h=>ih_source_writer_expr (p0:=((true,l1),p0.2.1,p0.2.2.1,p0.2.2.2)) g.f1.f1 r6 (((r2.mono e2).mono e3).mono e4) (((r3.mono e2).mono e3).mono e4) h) ?_)));rintro y2 i _ w8 ⟨a6,c6,a7,c7,a8,c8,m5,rfl,e5,g,r7,r8,r9⟩;refine WO_e (W_sr (qAb 3 [(38,vP bp0 0)] (qAa rfl (qDf 39 200 #[vP bp0 0,.int .u8 41] kr rfl (W_cA Tryz.func200 rfl Tryz.ntmps200 (W_sr (qAf 1 [] (W_sr (qAb 1 [(5,vP bp0 0)] (qAa rfl (qDf 6 140 #[vP bp0 0] kr rfl ((qAx (c0:=(qCe y2.1.1 bp0)) (R:=[vS a6 y2.1.2 c6,vS a7 y2.2.1 c7,vS a8 y2.2.2.1 c8,vI y2.2.2.2]) (qFt y2.1.1 bp0 kr) g).mono ?_))))))))))));rintro _ w9 ⟨m6,rfl,e6,g⟩;refine⟨_,rfl,?_⟩;have g:St m6 (kB bp0 #[.pointer (qCe true bp0),vS a6 y2.1.2 c6,vS a7 y2.2.1 c7,vS a8 y2.2.2.1 c8,vI y2.2.2.2] 193::kR a6 y2.1.2 c6 5 1::kB b2 (V5 x1 a4 c4) 117::O) w9:=g
  refine WO_e (W_sr (qAb 4 [(7,vP bp0 0),(10,vP bp0 1)] (qAa rfl (qBo 11 120 10 1 (vS a6 y2.1.2 c6) g.h (qAb 1 [(12,.int .u8 41)] (qAa rfl (qBg (d:=13) (t:=120) (e:=5) (len:=1) (parts:= #[(0,(.tmp 12))]) cU8 (xs:=[(41:UInt8)]) [.int .u8 41] kr rfl (fun _=>qBh kr _) rfl rfl g ⟨[.int .u8 41],_,rfl,rfl,rfl⟩ fun b4 m7 w10 e7 g r10=>(qAa rfl (qEx 14 120 120 5 1 11 13 g.f2 (.inl kr) ((r7.mono e6).mono e7) r10.src i fun l2 i a9 c9 m8 w11 e8 g r11=>(qAb 2 [(16,vP bp0 1)] (qAa rfl (qEf 120 16 14 1 (vS a9 l2 c9) #[.pointer (qCe true bp0),vS a9 l2 c9,vS a7 y2.2.1 c7,vS a8 y2.2.2.1 c8,vI y2.2.2.2] g.f2 fun w12 g=>(qAv rfl ?_)))))))))))));have g:=g.f2.t;refine qAh (W_sr (qAf 1 [(4,.nilIface)] (qAy (X_rt [4] [.nilIface] (⟨_,rfl,?_⟩)))));refine WO_e (qAy (qAc ?_));cases i;exact qLk [] [] rfl ResAll.nil ⟨a9,c9,a7,c7,a8,c8,m8,rfl,((((((q.t e2).t e3).t e4).t e5).t e6).t e7).t e8,g.f2.t.f1.f1,r11,((r8.mono e6).mono e7).mono e8,((r9.mono e6).mono e7).mono e8⟩
 ·intro A i;refine qAn (qAh (W_sr (qAb 4 [(40,vP bp0 0),(43,vP bp0 4)] (qAa rfl (qBo 44 3 43 4 (vI p0.2.2.2) g.t.h (qAb 4 [(46,vI (if p3>p0.2.2.2 then p3 else p0.2.2.2)),(48,vP bp0 4)] (qAa rfl (qEf 3 48 46 4 (vI (if p3>p0.2.2.2 then p3 else p0.2.2.2)) #[.pointer (qCe p0.1.1 bp0),vS a1 p0.1.2 c1,vS a2 p0.2.1 c2,vS a3 p0.2.2.1 c3,vI (if p3>p0.2.2.2 then p3 else p0.2.2.2)] g.f1 fun w13 g=>(WO_e (W_sr (qFr 1 50 3 49 0 (vI x1.1) g.t.h (WO_e (qAt (W_sr (qAf 2 [(66,vB (x1.1==1))] (W_if i ?_ ?_))))))))))))))))
  ·intro A i;refine qFq [(7,fun w'=>Inv m1 w'∧Piece.holds m1 w' (kB b2 (V5 x1 a4 c4) 117)∧True)] kr g fun w14 _ g=> ?_;have hmS1:=m1.le_refl;refine⟨⟨.inr ⟨Inv.anti g.inv hmS1,Piece.holds_anti g.t.h hmS1,trivial⟩,trivial⟩,?_⟩;refine qAs 0 68 (vP bp0 0) (.head _) (qAs 1 69 (vP bp0 0) (.head _) (qAs 2 70 (vP bp0 0) (.head _) (qAs 3 71 (vP b2 1) (.head _) (qIl 3 71 4 72 1 (vI x1.2.1) (.head _) (fun _ h=>h.2.1) (qCw 5 kr (qKx 73 i (fun _ h=>qNa g h) ?_))))));rintro y3 i _ w15 ⟨m9,rfl,e9,g⟩;refine⟨_,rfl,?_⟩;have hmS1:=Mem.le_trans hmS1 e9;refine⟨⟨.inr ⟨Inv.anti g.inv hmS1,Piece.holds_anti g.t.h hmS1,trivial⟩,trivial⟩,?_⟩;refine qCw 6 kr (qDf 74 72 #[vP bp0 0,vT y3] kr rfl (W_cA Tryz.func72 rfl Tryz.ntmps72 (W_sr (qAf 2 [] (W_sr (qAb 1 [(6,vP bp0 0)] (qAa rfl (qDf 7 140 #[vP bp0 0] kr rfl ((qAx (c0:=(qCe p0.1.1 bp0)) (R:=[vS a1 p0.1.2 c1,vS a2 p0.2.1 c2,vS a3 p0.2.2.1 c3,vI (if p3>p0.2.2.2 then p3 else p0.2.2.2)]) (qFt p0.1.1 bp0 kr) g).mono ?_)))))))));rintro _ w16 ⟨m10,rfl,e10,g⟩;refine⟨_,rfl,?_⟩;have hmS1:=Mem.le_trans hmS1 e10;have g:St m10 (kB bp0 #[.pointer (qCe true bp0),vS a1 p0.1.2 c1,vS a2 p0.2.1 c2,vS a3 p0.2.2.1 c3,vI (if p3>p0.2.2.2 then p3 else p0.2.2.2)] 193::kB b2 (V5 x1 a4 c4) 117::kR a1 p0.1.2 c1 5 1::O) w16:=g
   refine WO_e (W_sr (qAb 4 [(8,vP bp0 0),(11,vP bp0 1)] (qAa rfl (qBo 12 120 11 1 (vS a1 p0.1.2 c1) g.h (qAb 1 [(13,vT y3)] (qAa rfl (qEx 14 120 9 5 1 12 13 g.f2 (.inr kr) ((r1.mono e9).mono e10) (Gives.str _) i fun l3 i a10 c10 m11 w17 e11 g r12=> ?_)))))));have hmS1:=Mem.le_trans hmS1 e11;refine qAb 2 [(16,vP bp0 1)] (qAa rfl (qEf 120 16 14 1 (vS a10 l3 c10) #[.pointer (qCe true bp0),vS a10 l3 c10,vS a2 p0.2.1 c2,vS a3 p0.2.2.1 c3,vI (if p3>p0.2.2.2 then p3 else p0.2.2.2)] g.f1 fun w18 g=>(WO_e (W_sr (qAf 4 [(4,vI (y3.size:Int)),(5,.nilIface)] (qAy (X_rt [4,5] [vI (y3.size:Int),.nilIface] (⟨_,rfl,?_⟩))))))));refine⟨⟨.inr ⟨Inv.anti g.inv hmS1,Piece.holds_anti g.t.t.h hmS1,trivial⟩,trivial⟩,?_⟩;refine qDa kr ?_;refine qBf ?_;cases i;exact qKr [] [] rfl ResAll.nil ⟨a10,c10,a2,c2,a3,c3,m11,rfl,((q.t e9).t e10).t e11,g.f2.t.f1.f1,r12,((r2.mono e9).mono e10).mono e11,((r3.mono e9).mono e10).mono e11⟩
  ·intro A i;refine W_sr (qAf 2 [(75,vB (x1.1==2))] (W_if i ?_ ?_))
   ·intro A i;refine qFq [(12,fun w'=>Inv m1 w'∧Piece.holds m1 w' (kB b2 (V5 x1 a4 c4) 117)∧True),(11,fun w'=>Inv m1 w'∧Piece.holds m1 w' (kB bp0 #[.pointer (qCe p0.1.1 bp0),vS a1 p0.1.2 c1,vS a2 p0.2.1 c2,vS a3 p0.2.2.1 c3,vI (if p3>p0.2.2.2 then p3 else p0.2.2.2)] 193)∧True)] kr g fun w19 _ g=> ?_;have hmS2:=m1.le_refl;refine⟨⟨.inr ⟨Inv.anti g.inv hmS2,Piece.holds_anti g.t.h hmS2,trivial⟩,⟨.inr ⟨Inv.anti g.inv hmS2,Piece.holds_anti g.h hmS2,trivial⟩,trivial⟩⟩,?_⟩;refine qAs 0 77 (vP bp0 0) (.head _) (qAs 1 78 (vP bp0 0) (.head _) (qAs 2 79 (vP bp0 0) (.head _) (qAs 3 80 (vP bp0 0) (.head _) (qAs 4 81 (vP bp0 0) (.head _) (qAs 5 82 (vP bp0 3) (.head _) (qAs 7 84 (vP b2 1) (.head _) (qIl 3 84 8 85 1 (vI x1.2.1) (.head _) (fun _ h=>h.2.1) (qCw 6 kr (qBo 83 43 82 3 (vS a3 p0.2.2.1 c3) g.h (⟨⟨.inr ⟨Inv.anti g.inv hmS2,Piece.holds_anti g.t.h hmS2,trivial⟩,⟨.inr ⟨Inv.anti g.inv hmS2,Piece.holds_anti g.h hmS2,trivial⟩,trivial⟩⟩,?_⟩))))))))));have⟨x2,d8,i⟩:=qAo i;refine qEe (t:=43) (e:=9) (x:=(.tmp 83)) (y:=(.tmp 85)) 9 86 cStr kr rfl kr (.head _) (qCm qFp) (ev (vS a3 p0.2.2.1 c3)) (ev (vI x1.2.1)) kr r3 d8 ?_;rintro b5 f2 cs2 rfl hq2
    refine qHs 9 86 10 87 f2 (vT x2) (.head _) (fun _ h=>h.1) hq2 (qCw 11 kr (qDf 88 72 #[vP bp0 0,vT x2] kr rfl (W_cA Tryz.func72 rfl Tryz.ntmps72 (W_sr (qAf 2 [] (W_sr (qAb 1 [(6,vP bp0 0)] (qAa rfl (qDf 7 140 #[vP bp0 0] kr rfl ((qAx (c0:=(qCe p0.1.1 bp0)) (R:=[vS a1 p0.1.2 c1,vS a2 p0.2.1 c2,vS a3 p0.2.2.1 c3,vI (if p3>p0.2.2.2 then p3 else p0.2.2.2)]) (qFt p0.1.1 bp0 kr) g).mono ?_))))))))));rintro _ w20 ⟨m12,rfl,e12,g⟩;refine⟨_,rfl,?_⟩;have hmS2:=Mem.le_trans hmS2 e12;have g:St m12 (kB bp0 #[.pointer (qCe true bp0),vS a1 p0.1.2 c1,vS a2 p0.2.1 c2,vS a3 p0.2.2.1 c3,vI (if p3>p0.2.2.2 then p3 else p0.2.2.2)] 193::kB b2 (V5 x1 a4 c4) 117::kR a1 p0.1.2 c1 5 1::O) w20:=g;refine WO_e (W_sr (qAb 4 [(8,vP bp0 0),(11,vP bp0 1)] (qAa rfl (qBo 12 120 11 1 (vS a1 p0.1.2 c1) g.h (qAb 1 [(13,vT x2)] (qAa rfl (qEx 14 120 9 5 1 12 13 g.f2 (.inr kr) (r1.mono e12) (Gives.str _) i fun l4 i a11 c11 m13 w21 e13 g r13=> ?_)))))));have hmS2:=Mem.le_trans hmS2 e13;refine qAb 2 [(16,vP bp0 1)] (qAa rfl (qEf 120 16 14 1 (vS a11 l4 c11) #[.pointer (qCe true bp0),vS a11 l4 c11,vS a2 p0.2.1 c2,vS a3 p0.2.2.1 c3,vI (if p3>p0.2.2.2 then p3 else p0.2.2.2)] g.f1 fun w22 g=>(WO_e (W_sr (qAf 4 [(4,vI (x2.size:Int)),(5,.nilIface)] (qAy (X_rt [4,5] [vI (x2.size:Int),.nilIface] (⟨_,rfl,?_⟩))))))))
    refine⟨⟨.inr ⟨Inv.anti g.inv hmS2,Piece.holds_anti g.t.t.h hmS2,trivial⟩,⟨.inl rfl,trivial⟩⟩,?_⟩;refine qDa kr ?_;refine qBf ?_;cases i;exact qKr [] [] rfl ResAll.nil ⟨a11,c11,a2,c2,a3,c3,m13,rfl,(q.t e12).t e13,g.f2.t.f1.f1,r13,(r2.mono e12).mono e13,(r3.mono e12).mono e13⟩
   ·intro A i;refine W_sr (qAf 2 [(89,vB (x1.1==4))] (W_if i ?_ ?_))
    ·intro A i;refine W_sr (qAa rfl (qBo 91 117 8 0 (.agg (V5 x1 a4 c4)) g.t.h (qAz 92 i (fun _ h=>qMo g r4 h) ?_)));rintro y4 i _ w23 ⟨m14,rfl,e14,g⟩;have r4:=r4.mono e14;have r1:=r1.mono e14;have r2:=r2.mono e14;have r3:=r3.mono e14;refine qAf 1 [(9,vI y4)] (W_sr (qAf 2 [(10,vI y4)] (qAp (W_sr (qAf 2 [(95,vB (y4==1))] ?_)))));have⟨o1,i,j1⟩:=qAo i;refine qCr .normal (fun L' w'=>∃m15,L'=[(0,vP bp0 0),(3,vI p3),(8,vP b2 0),(9,vI y4),(10,vI o1)]∧m.le m15∧St m15 (kB bp0 #[.pointer (qCe p0.1.1 bp0),vS a1 p0.1.2 c1,vS a2 p0.2.1 c2,vS a3 p0.2.2.1 c3,vI (if p3>p0.2.2.2 then p3 else p0.2.2.2)] 193::kB b2 (V5 x1 a4 c4) 117::kR a1 p0.1.2 c1 5 1::O) w'∧RepS cU8 m15 a1 c1 p0.1.2∧RepS C3 m15 a2 c2 p0.2.1∧RepS cStr m15 a3 c3 p0.2.2.1∧RepS (cInt .i64) m15 a4 c4 x1.2.2.2.2) ?_ ?_
     ·have i:=j1;rintro _ w24 ⟨m15,rfl,q,g,r1,r2,r3,r4⟩;refine qAh (W_sr (qAb 2 [(98,vP bp0 0),(99,vP b2 4)] (qAa rfl (qBo 100 22 99 4 (vS a4 x1.2.2.2.2 c4) g.t.h (qAa rfl (qDn 101 22 3 100 ((.const (vI 0))) r4 i ?_))))));rintro x3 i b6 f3 cs3 rfl hq3;refine qFs 102 3 101 f3 (vI x3) g hq3 (qAb 2 [(103,vI o1),(104,vI p3)] (qAz 105 i (fun _ h=>ih_source_writer_expr (p0:=(p0.1,p0.2.1,p0.2.2.1,if p3>p0.2.2.2 then p3 else p0.2.2.2)) g.f2.f1 r1 r2 r3 h) ?_));rintro y5 i _ w25 ⟨a12,c12,a13,c13,a14,c14,m16,rfl,e15,g,r14,r15,r16⟩;refine WO_e (qAp (qFq [(10,fun w'=>Inv m16 w'∧Piece.holds m16 w' (kB b2 (V5 x1 a4 c4) 117)∧True)] kr g fun w26 _ g=> ?_));have hmS3:=m16.le_refl;refine⟨⟨.inr ⟨Inv.anti g.inv hmS3,Piece.holds_anti g.t.t.h hmS3,trivial⟩,trivial⟩,?_⟩;refine qAs 0 106 (vP bp0 0) (.head _) (qAs 1 107 (vP bp0 0) (.head _) (qAs 2 108 (vP bp0 0) (.head _) (qAs 4 110 (vP b2 2) (.head _) (qIl 3 110 5 111 2 (vI x1.2.2.1) (.head _) (fun _ h=>h.2.1) (qCw 3 kr (qKx 109 i (fun _ h=>qNe g h) ?_))))));rintro y6 i _ w27 ⟨q1,es1,ck1,m17,rfl,e16,g,r17⟩;refine⟨_,rfl,?_⟩;have hmS3:=Mem.le_trans hmS3 e16;refine⟨⟨.inr ⟨Inv.anti g.inv hmS3,Piece.holds_anti g.t.t.t.h hmS3,trivial⟩,trivial⟩,?_⟩
      refine qCw 6 kr (qJj (ek:=(fun n:Int=>Value.int .i64 n)) (c:=cStr) (agg:=false) (k:=x1.2.2.1) (zx:=eB) (zcs:=[vT eB]) (z:=(vT eB)) (kt:=3) (et:=9) (d:=112) (t:=234) (x:=(.tmp 109)) (y:=(.tmp 111)) (ok:=false) kr rfl (ev (.map q1)) (ev (vI x1.2.2.1)) kr (qHe kr) g.h r17 rfl rfl ?_);rintro cs4 rfl;refine⟨⟨.inr ⟨Inv.anti g.inv hmS3,Piece.holds_anti g.t.t.t.h hmS3,trivial⟩,trivial⟩,?_⟩;refine qEp 9 9 ((.const (vT bw))) 112 7 113 (.head _) i fun s1 i=> ?_;refine qEp 9 9 113 ((.const (vT bw))) 8 114 (.head _) i fun s2 i=> ?_;refine qCw 9 kr (qDf 115 72 #[vP bp0 0,vT s2] kr rfl (W_cA Tryz.func72 rfl Tryz.ntmps72 (W_sr (qAf 2 [] (W_sr (qAb 1 [(6,vP bp0 0)] ?_))))));have g:=g.f1;refine qAa rfl (qDf 7 140 #[vP bp0 0] kr rfl ((qAx (c0:=(qCe y5.1.1 bp0)) (R:=[vS a12 y5.1.2 c12,vS a13 y5.2.1 c13,vS a14 y5.2.2.1 c14,vI y5.2.2.2]) (qFt y5.1.1 bp0 kr) g).mono ?_));rintro _ w28 ⟨m18,rfl,e17,g⟩;refine⟨_,rfl,?_⟩;have hmS3:=Mem.le_trans hmS3 e17;have g:St m18 (kB bp0 #[.pointer (qCe true bp0),vS a12 y5.1.2 c12,vS a13 y5.2.1 c13,vS a14 y5.2.2.1 c14,vI y5.2.2.2] 193::qCc q1 es1 ck1::kR a12 y5.1.2 c12 5 1::kB b2 (V5 x1 a4 c4) 117::O) w28:=g
      refine WO_e (W_sr (qAb 4 [(8,vP bp0 0),(11,vP bp0 1)] (qAa rfl (qBo 12 120 11 1 (vS a12 y5.1.2 c12) g.h (qAb 1 [(13,vT s2)] (qAa rfl (qEx 14 120 9 5 1 12 13 g.f2 (.inr kr) ((r14.mono e16).mono e17) (Gives.str _) i fun l5 i a15 c15 m19 w29 e18 g r18=> ?_)))))));have hmS3:=Mem.le_trans hmS3 e18;refine qAb 2 [(16,vP bp0 1)] (qAa rfl (qEf 120 16 14 1 (vS a15 l5 c15) #[.pointer (qCe true bp0),vS a15 l5 c15,vS a13 y5.2.1 c13,vS a14 y5.2.2.1 c14,vI y5.2.2.2] g.f1 fun w30 g=>(WO_e (W_sr (qAf 4 [(4,vI (s2.size:Int)),(5,.nilIface)] (qAy (X_rt [4,5] [vI (s2.size:Int),.nilIface] (⟨_,rfl,?_⟩))))))));refine⟨⟨.inr ⟨Inv.anti g.inv hmS3,Piece.holds_anti g.t.t.t.h hmS3,trivial⟩,trivial⟩,?_⟩;refine qDa kr ?_;refine qAh (qAm (qAb 2 [(116,vP bp0 0),(117,vP b2 4)] (qAa rfl (qBo 118 22 117 4 (vS a4 x1.2.2.2.2 c4) g.t.t.t.h (qAa rfl (qDn 119 22 3 118 ((.const (vI 1))) ((((r4.mono e15).mono e16).mono e17).mono e18) i ?_))))));rintro x4 i b7 f4 cs5 rfl hq4;refine qFs 120 3 119 f4 (vI x4) g hq4 (qAb 3 [(122,vI (wr (y4+1))),(123,vI p3)] (qAz 124 i (fun _ h=>ih_source_writer_expr (p0:=((true,l5),y5.2.1,y5.2.2.1,y5.2.2.2)) g.f1.f1 r18 (((r15.mono e16).mono e17).mono e18) (((r16.mono e16).mono e17).mono e18) h) ?_));rintro y7 i _ w31 ⟨a16,c16,a17,c17,a18,c18,m20,rfl,e19,g,r19,r20,r21⟩;refine qAv rfl (qBf ?_);cases i
      exact qKr [] [] rfl ResAll.nil ⟨a16,c16,a17,c17,a18,c18,m20,rfl,((((q.t e15).t e16).t e17).t e18).t e19,g.f2.t.f2.t.f1.f1,r19,r20,r21⟩
     ·intro Ku1;refine W_if i ?_ ?_
      ·intro A i;refine qAm (qAb 3 [(10,vI (wr (y4+1)))] (qAv rfl ?_));cases i;exact xE (Ku1 _ _ ⟨m14,rfl,q.t e14,g.f2.f2.f2,r1,r2,r3,r4⟩)
      ·intro A i;refine qAn ?_;cases i;exact xE (Ku1 _ _ ⟨m14,rfl,q.t e14,g.f2.f2.f2,r1,r2,r3,r4⟩)
    ·intro A i;refine W_sr (qAf 2 [(125,vB (x1.1==5))] (W_if i ?_ ?_))
     ·intro A i;refine W_sr (qAa rfl (qBg (d:=127) (t:=43) (e:=9) (len:=3) (parts:= #[(0,(.const (vT bx))),(1,(.const (vT bz))),(2,(.const (vT b18)))]) cStr (xs:=[bx,bz,b18]) [vT bx,vT bz,vT b18] kr rfl (fun _=>qBh kr _) rfl rfl g ⟨[vT bx],_,rfl,rfl,⟨[vT bz],_,rfl,rfl,⟨[vT b18],_,rfl,rfl,rfl⟩⟩⟩ fun b8 m21 w32 e20 g r22=>(qAf 2 [(128,vI (List.length ([bx,bz,b18]):Int)),(129,vI 0)] (qAt ?_))));have⟨out1,i,j2⟩:=qAo i;refine qCr (.exit 1) (fun L' w'=>∃(o2:T1f),∃a19 c19 a20 c20 a21 c21 m22,o2=out1∧L'=[]∧m.le m22∧St m22 (kB bp0 #[.pointer (qCe o2.1 bp0),vS a19 o2.2.1 c19,vS a20 o2.2.2.1 c20,vS a21 o2.2.2.2.1 c21,vI o2.2.2.2.2] 193::kB b2 (V5 x1 a4 c4) 117:: .room (aP b8) (List.length ([bx,bz,b18])) 3 9 1::kR a19 o2.2.1 c19 5 1::O) w'∧RepS cU8 m22 a19 c19 o2.2.1∧RepS C3 m22 a20 c20 o2.2.2.1∧RepS cStr m22 a21 c21 o2.2.2.2.1∧RepS (cInt .i64) m22 a4 c4 x1.2.2.2.2) ?_ ?_
      ·rintro _ w33 ⟨o2,a19,c19,a20,c20,a21,c21,m22,rfl,rfl,q,g,r23,r24,r25,r4⟩;have i:=j2;refine qBl (qBf ?_);cases i;exact qKr [] [] rfl ResAll.nil ⟨a19,c19,a20,c20,a21,c21,m22,rfl,q,g.f1.t.f1.t.f1.f1,r23,r24,r25⟩
      intro K1_u2;refine qHd _ kr (qEn (fun k1 L' w'=>∃(s3:T1g),∃a22 c22 a23 c23 a24 c24 m23,qBa (qGi N R6 p3 x1) k1 s3=some out1∧L'=[(0,vP bp0 0),(3,vI p3),(8,vP b2 0),(127,.slice (aP b8) (List.length ([bx,bz,b18])) 3),(128,vI (List.length ([bx,bz,b18]):Int)),(129,vI s3.1)]∧m.le m23∧St m23 (kB bp0 #[.pointer (qCe s3.2.1 bp0),vS a22 s3.2.2.1 c22,vS a23 s3.2.2.2.1 c23,vS a24 s3.2.2.2.2.1 c24,vI s3.2.2.2.2.2] 193::kB b2 (V5 x1 a4 c4) 117:: .room (aP b8) (List.length ([bx,bz,b18])) 3 9 1::kR a22 s3.2.2.1 c22 5 1::O) w'∧RepS cStr m23 (aP b8) 3 ([bx,bz,b18])∧RepS cU8 m23 a22 c22 s3.2.2.1∧RepS C3 m23 a23 c23 s3.2.2.2.1∧RepS cStr m23 a24 c24 s3.2.2.2.2.1∧RepS (cInt .i64) m23 a4 c4 x1.2.2.2.2) N ⟨(0,p0.1.1,p0.1.2,p0.2.1,p0.2.2.1,if p3>p0.2.2.2 then p3 else p0.2.2.2),a1,c1,a2,c2,a3,c3,m21,i,rfl,q.t e20,g.f3.f1.f3.f3,r22,r1.mono e20,r2.mono e20,r3.mono e20,r4.mono e20⟩ ?_);rintro k1 _ w34 ⟨s3,a22,c22,a23,c23,a24,c24,m23,hL,rfl,q,g,r22,r26,r27,r28,r4⟩;rcases k1 with _|k1
      ·exact qBk hL
      ·obtain⟨qu2,i,hSu2,hBu2⟩:=qBm hL;clear hL;unfold qGi at i;refine W_sr (qAf 1 [(130,vB (decide (s3.1<(List.length ([bx,bz,b18]):Int))))] (qAp (W_if i ?_ ?_)))
       ·intro A i;refine qAn (qAh (qAp (qAt (W_sr (qAb 1 [(131,vI s3.1)] (qAa rfl (qDn 132 43 9 127 129 r22 i ?_)))))));rintro x5 i b9 f5 cs6 rfl hq5;refine qFs 133 9 132 f5 (vT x5) g hq5 (qAf 2 [(11,vI s3.1),(12,vT x5)] (W_sr (qAb 4 [(136,vP bp0 0),(137,vT x5)] (qAa rfl (qDf 138 72 #[vP bp0 0,vT x5] kr rfl (W_cA Tryz.func72 rfl Tryz.ntmps72 (W_sr (qAf 2 [] (W_sr (qAb 1 [(6,vP bp0 0)] (qAa rfl (qDf 7 140 #[vP bp0 0] kr rfl ((qAx (c0:=(qCe s3.2.1 bp0)) (R:=[vS a22 s3.2.2.1 c22,vS a23 s3.2.2.2.1 c23,vS a24 s3.2.2.2.2.1 c24,vI s3.2.2.2.2.2]) (qFt s3.2.1 bp0 kr) g).mono ?_)))))))))))));rintro _ w35 ⟨m24,rfl,e21,g⟩;refine⟨_,rfl,?_⟩;have g:St m24 (kB bp0 #[.pointer (qCe true bp0),vS a22 s3.2.2.1 c22,vS a23 s3.2.2.2.1 c23,vS a24 s3.2.2.2.2.1 c24,vI s3.2.2.2.2.2] 193::kB b2 (V5 x1 a4 c4) 117:: .room (aP b8) (List.length ([bx,bz,b18])) 3 9 1::kR a22 s3.2.2.1 c22 5 1::O) w35:=g;refine WO_e (W_sr (qAb 4 [(8,vP bp0 0),(11,vP bp0 1)] (qAa rfl (qBo 12 120 11 1 (vS a22 s3.2.2.1 c22) g.h (qAb 1 [(13,vT x5)] (qAa rfl (qEx 14 120 9 5 1 12 13 g.f3 (.inr kr) (r26.mono e21) (Gives.str _) i fun l6 i a25 c25 m25 w36 e22 g r29=> ?_)))))));have r4:=(r4.mono e21).mono e22
        refine qAb 2 [(16,vP bp0 1)] (qAa rfl (qEf 120 16 14 1 (vS a25 l6 c25) #[.pointer (qCe true bp0),vS a25 l6 c25,vS a23 s3.2.2.2.1 c23,vS a24 s3.2.2.2.2.1 c24,vI s3.2.2.2.2.2] g.f1 fun w37 g=>(WO_e (W_sr (qAf 4 [(4,vI (x5.size:Int)),(5,.nilIface)] (qAy (X_rt [4,5] [vI (x5.size:Int),.nilIface] (⟨_,rfl,?_⟩))))))));refine WO_e (qAm (qAb 2 [(139,vP bp0 0),(140,vP b2 4)] (qAa rfl (qBo 141 22 140 4 (vS a4 x1.2.2.2.2 c4) g.t.t.h (qAb 1 [(142,vI s3.1)] (qAa rfl (qDn 143 22 3 141 142 r4 i ?_)))))));rintro x6 i b10 f6 cs7 rfl hq6;refine qFs 144 3 143 f6 (vI x6) g hq6 (qAb 2 [(146,vI (wr (p3+1)))] (qAz 147 i (fun _ h=>ih_source_writer_expr (p0:=((true,l6),s3.2.2.2.1,s3.2.2.2.2.1,s3.2.2.2.2.2)) g.f1.f1 r29 ((r27.mono e21).mono e22) ((r28.mono e21).mono e22) h) ?_));rintro y8 i _ w38 ⟨a26,c26,a27,c27,a28,c28,m26,rfl,e23,g,r30,r31,r32⟩;refine qAv rfl (qBf (qAh (qAm (qAb 2 [(129,vI (wr (s3.1+1)))] (qAv rfl ?_)))));obtain rfl:=sI i;have hL:=hSu2 _ rfl;exact xE (qCk k1 (jE _) ⟨(wr (s3.1+1),y8.1.1,y8.1.2,y8.2.1,y8.2.2.1,y8.2.2.2),a26,c26,a27,c27,a28,c28,m26,hL,rfl,((q.t e21).t e22).t e23,g.f1.f3.f3.f3,((r22.mono e21).mono e22).mono e23,r30,r31,r32,r4.mono e23⟩)
       ·intro A i;refine qEo (qAk ?_);cases i;have ho:=hBu2 _ rfl;have g:=g.f3.f3.f3.f3;refine qAk ?_;exact xE (K1_u2 _ _ ⟨s3.2,a22,c22,a23,c23,a24,c24,m23,ho,rfl,q,g,r26,r27,r28,r4⟩)
     ·intro A i;refine W_sr (qAf 2 [(149,vB (x1.1==3))] (W_if i ?_ ?_))
      ·intro A i;refine qAp (qFq [(7,fun w'=>Inv m1 w'∧Piece.holds m1 w' (kB b2 (V5 x1 a4 c4) 117)∧True)] kr g fun w39 _ g=> ?_);have hmS4:=m1.le_refl;refine⟨⟨.inr ⟨Inv.anti g.inv hmS4,Piece.holds_anti g.t.h hmS4,trivial⟩,trivial⟩,?_⟩;refine qAs 0 151 (vP bp0 0) (.head _) (qAs 1 152 (vP bp0 0) (.head _) (qAs 2 153 (vP bp0 0) (.head _) (qAs 3 154 (vP b2 3) (.head _) (qIl 9 154 4 155 3 (vT x1.2.2.2.1) (.head _) (fun _ h=>h.2.1) (qEp 9 9 155 ((.const (vT b19))) 5 156 (.head _) i fun s4 i=>(qCw 6 kr (qDf 157 72 #[vP bp0 0,vT s4] kr rfl (W_cA Tryz.func72 rfl Tryz.ntmps72 (W_sr (qAf 2 [] (W_sr (qAb 1 [(6,vP bp0 0)] (qAa rfl (qDf 7 140 #[vP bp0 0] kr rfl ((qAx (c0:=(qCe p0.1.1 bp0)) (R:=[vS a1 p0.1.2 c1,vS a2 p0.2.1 c2,vS a3 p0.2.2.1 c3,vI (if p3>p0.2.2.2 then p3 else p0.2.2.2)]) (qFt p0.1.1 bp0 kr) g).mono ?_)))))))))))))));rintro _ w40 ⟨m27,rfl,e24,g⟩;refine⟨_,rfl,?_⟩;have hmS4:=Mem.le_trans hmS4 e24;have g:St m27 (kB bp0 #[.pointer (qCe true bp0),vS a1 p0.1.2 c1,vS a2 p0.2.1 c2,vS a3 p0.2.2.1 c3,vI (if p3>p0.2.2.2 then p3 else p0.2.2.2)] 193::kB b2 (V5 x1 a4 c4) 117::kR a1 p0.1.2 c1 5 1::O) w40:=g;refine WO_e (W_sr (qAb 4 [(8,vP bp0 0),(11,vP bp0 1)] (qAa rfl (qBo 12 120 11 1 (vS a1 p0.1.2 c1) g.h (qAb 1 [(13,vT s4)] (qAa rfl (qEx 14 120 9 5 1 12 13 g.f2 (.inr kr) (r1.mono e24) (Gives.str _) i fun l7 i a29 c29 m28 w41 e25 g r33=> ?_)))))))
       have hmS4:=Mem.le_trans hmS4 e25;refine qAb 2 [(16,vP bp0 1)] (qAa rfl (qEf 120 16 14 1 (vS a29 l7 c29) #[.pointer (qCe true bp0),vS a29 l7 c29,vS a2 p0.2.1 c2,vS a3 p0.2.2.1 c3,vI (if p3>p0.2.2.2 then p3 else p0.2.2.2)] g.f1 fun w42 g=>(WO_e (W_sr (qAf 4 [(4,vI (s4.size:Int)),(5,.nilIface)] (qAy (X_rt [4,5] [vI (s4.size:Int),.nilIface] (⟨_,rfl,?_⟩))))))));refine⟨⟨.inr ⟨Inv.anti g.inv hmS4,Piece.holds_anti g.t.t.h hmS4,trivial⟩,trivial⟩,?_⟩;refine qDa kr ?_;refine qAh (qAp (W_sr (qFr 1 159 22 158 4 (vS a4 x1.2.2.2.2 c4) g.t.t.h (qAf 2 [(160,vI (x1.2.2.2.2.length:Int)),(161,vI 0)] (qAt ?_)))));have⟨out2,i,j3⟩:=qAo i;refine qCr (.exit 3) (fun L' w'=>∃(o3:T1f),∃a30 c30 a31 c31 a32 c32 m29,o3=out2∧L'=[(0,vP bp0 0)]∧m.le m29∧St m29 (kB bp0 #[.pointer (qCe o3.1 bp0),vS a30 o3.2.1 c30,vS a31 o3.2.2.1 c31,vS a32 o3.2.2.2.1 c32,vI o3.2.2.2.2] 193::kB b2 (V5 x1 a4 c4) 117::kR a30 o3.2.1 c30 5 1::O) w'∧RepS cU8 m29 a30 c30 o3.2.1∧RepS C3 m29 a31 c31 o3.2.2.1∧RepS cStr m29 a32 c32 o3.2.2.2.1∧RepS (cInt .i64) m29 a4 c4 x1.2.2.2.2) ?_ ?_
       ·rintro _ w43 ⟨o3,a30,c30,a31,c31,a32,c32,m29,rfl,rfl,q,g,r34,r35,r36,r4⟩;have i:=j3;refine qBl (qAh (qAm (qAb 3 [(180,vP bp0 0)] (qAa rfl (qDf 181 200 #[vP bp0 0,.int .u8 41] kr rfl (W_cA Tryz.func200 rfl Tryz.ntmps200 (W_sr (qAf 1 [] (W_sr (qAb 1 [(5,vP bp0 0)] (qAa rfl (qDf 6 140 #[vP bp0 0] kr rfl ((qAx (c0:=(qCe o3.1 bp0)) (R:=[vS a30 o3.2.1 c30,vS a31 o3.2.2.1 c31,vS a32 o3.2.2.2.1 c32,vI o3.2.2.2.2]) (qFt o3.1 bp0 kr) g).mono ?_)))))))))))));rintro _ w50 ⟨m35,rfl,e29,g⟩;refine⟨_,rfl,?_⟩;have g:St m35 (kB bp0 #[.pointer (qCe true bp0),vS a30 o3.2.1 c30,vS a31 o3.2.2.1 c31,vS a32 o3.2.2.2.1 c32,vI o3.2.2.2.2] 193::kB b2 (V5 x1 a4 c4) 117::kR a30 o3.2.1 c30 5 1::O) w50:=g
        refine WO_e (W_sr (qAb 4 [(7,vP bp0 0),(10,vP bp0 1)] (qAa rfl (qBo 11 120 10 1 (vS a30 o3.2.1 c30) g.h (qAb 1 [(12,.int .u8 41)] (qAa rfl (qBg (d:=13) (t:=120) (e:=5) (len:=1) (parts:= #[(0,(.tmp 12))]) cU8 (xs:=[(41:UInt8)]) [.int .u8 41] kr rfl (fun _=>qBh kr _) rfl rfl g ⟨[.int .u8 41],_,rfl,rfl,rfl⟩ fun b12 m36 w51 e30 g r45=>(qAa rfl (qEx 14 120 120 5 1 11 13 g.f3 (.inl kr) ((r34.mono e29).mono e30) r45.src i fun l9 i a41 c41 m37 w52 e31 g r46=>(qAb 2 [(16,vP bp0 1)] (qAa rfl (qEf 120 16 14 1 (vS a41 l9 c41) #[.pointer (qCe true bp0),vS a41 l9 c41,vS a31 o3.2.2.1 c31,vS a32 o3.2.2.2.1 c32,vI o3.2.2.2.2] g.f2 fun w53 g=>(qAv rfl ?_)))))))))))));have g:=g.f2.t;refine qAh (W_sr (qAf 1 [(4,.nilIface)] (qAy (X_rt [4] [.nilIface] (⟨_,rfl,?_⟩)))));refine qAv rfl (qBf ?_);cases i;exact qKr [] [] rfl ResAll.nil ⟨a41,c41,a31,c31,a32,c32,m37,rfl,((q.t e29).t e30).t e31,g.f2.t.f1.f1,r46,((r35.mono e29).mono e30).mono e31,((r36.mono e29).mono e30).mono e31⟩
       intro K3_u3;refine qHd _ kr (qEn (fun k2 L' w'=>∃(s5:T1g),∃a33 c33 a34 c34 a35 c35 m30,qBa (qDy N R6 p3 x1) k2 s5=some out2∧L'=[(0,vP bp0 0),(3,vI p3),(159,vS a4 x1.2.2.2.2 c4),(160,vI (x1.2.2.2.2.length:Int)),(161,vI s5.1)]∧m.le m30∧St m30 (kB bp0 #[.pointer (qCe s5.2.1 bp0),vS a33 s5.2.2.1 c33,vS a34 s5.2.2.2.1 c34,vS a35 s5.2.2.2.2.1 c35,vI s5.2.2.2.2.2] 193::kB b2 (V5 x1 a4 c4) 117::kR a33 s5.2.2.1 c33 5 1::O) w'∧RepS (cInt .i64) m30 a4 c4 x1.2.2.2.2∧RepS cU8 m30 a33 c33 s5.2.2.1∧RepS C3 m30 a34 c34 s5.2.2.2.1∧RepS cStr m30 a35 c35 s5.2.2.2.2.1) N ⟨(0,true,l7,p0.2.1,p0.2.2.1,if p3>p0.2.2.2 then p3 else p0.2.2.2),a29,c29,a2,c2,a3,c3,m28,i,rfl,(q.t e24).t e25,g.f1.f2.f2,(r4.mono e24).mono e25,r33,(r2.mono e24).mono e25,(r3.mono e24).mono e25⟩ ?_);rintro k2 _ w44 ⟨s5,a33,c33,a34,c34,a35,c35,m30,hL,rfl,q,g,r4,r37,r38,r39⟩;rcases k2 with _|k2
       ·exact qBk hL
       ·obtain⟨qu3,i,hSu3,hBu3⟩:=qBm hL;clear hL;unfold qDy at i;refine W_sr (qAf 1 [(162,vB (decide (s5.1<(x1.2.2.2.2.length:Int))))] (qAp (W_if i ?_ ?_)))
        ·intro A i;refine qAn (qAh (qAp (qAt (W_sr (qAb 1 [(163,vI s5.1)] (qAa rfl (qDn 164 22 3 159 161 r4 i ?_)))))));rintro x7 i b11 f7 cs8 rfl hq7;refine qFs 165 3 164 f7 (vI x7) g hq7 (qAf 2 [(13,vI s5.1),(14,vI x7)] (qAp (W_sr (qAf 2 [(167,vB (decide (s5.1>0)))] ?_))));have⟨o4,i,j4⟩:=qAo i;refine qCr .normal (fun L' w'=>∃a36 c36 m31,L'=[(0,vP bp0 0),(3,vI p3),(14,vI x7),(159,vS a4 x1.2.2.2.2 c4),(160,vI (x1.2.2.2.2.length:Int)),(161,vI s5.1)]∧m.le m31∧St m31 (kB bp0 #[.pointer (qCe o4.1 bp0),vS a36 o4.2 c36,vS a34 s5.2.2.2.1 c34,vS a35 s5.2.2.2.2.1 c35,vI s5.2.2.2.2.2] 193::kB b2 (V5 x1 a4 c4) 117::kR a36 o4.2 c36 5 1::O) w'∧RepS (cInt .i64) m31 a4 c4 x1.2.2.2.2∧RepS cU8 m31 a36 c36 o4.2∧RepS C3 m31 a34 c34 s5.2.2.2.1∧RepS cStr m31 a35 c35 s5.2.2.2.2.1) ?_ ?_
         ·have i:=j4;rintro _ w45 ⟨a36,c36,m31,rfl,q,g,r4,r40,r38,r39⟩;refine qAh (qAm (qAb 4 [(172,vP bp0 0),(173,vI x7),(175,vI (wr (p3+1)))] (qAz 176 i (fun _ h=>ih_source_writer_expr (p0:=(o4,s5.2.2.2.1,s5.2.2.2.2.1,s5.2.2.2.2.2)) g.f2.f1 r40 r38 r39 h) ?_)));rintro y9 i _ w49 ⟨a38,c38,a39,c39,a40,c40,m34,rfl,e28,g,r42,r43,r44⟩;refine qAv rfl (qBf (qAh (qAm (qAb 2 [(161,vI (wr (s5.1+1)))] (qAv rfl ?_)))));obtain rfl:=sI i;have hL:=hSu3 _ rfl;exact xE (qCk k2 (jE _) ⟨(wr (s5.1+1),y9.1.1,y9.1.2,y9.2.1,y9.2.2.1,y9.2.2.2),a38,c38,a39,c39,a40,c40,m34,hL,rfl,q.t e28,g.f1.f2.f2,r4.mono e28,r42,r43,r44⟩)
         ·intro Ku4;refine W_if i ?_ ?_
          ·intro A i;refine qAm (qAb 3 [(170,vP bp0 0)] (qAa rfl (qDf 171 72 #[vP bp0 0,vT b1a] kr rfl (W_cA Tryz.func72 rfl Tryz.ntmps72 (W_sr (qAf 2 [] (W_sr (qAb 1 [(6,vP bp0 0)] (qAa rfl (qDf 7 140 #[vP bp0 0] kr rfl ((qAx (c0:=(qCe s5.2.1 bp0)) (R:=[vS a33 s5.2.2.1 c33,vS a34 s5.2.2.2.1 c34,vS a35 s5.2.2.2.2.1 c35,vI s5.2.2.2.2.2]) (qFt s5.2.1 bp0 kr) g).mono ?_)))))))))));rintro _ w46 ⟨m32,rfl,e26,g⟩;refine⟨_,rfl,?_⟩;have g:St m32 (kB bp0 #[.pointer (qCe true bp0),vS a33 s5.2.2.1 c33,vS a34 s5.2.2.2.1 c34,vS a35 s5.2.2.2.2.1 c35,vI s5.2.2.2.2.2] 193::kB b2 (V5 x1 a4 c4) 117::kR a33 s5.2.2.1 c33 5 1::O) w46:=g;refine WO_e (W_sr (qAb 4 [(8,vP bp0 0),(11,vP bp0 1)] (qAa rfl (qBo 12 120 11 1 (vS a33 s5.2.2.1 c33) g.h (qAb 1 [(13,vT b1a)] (qAa rfl (qEx 14 120 9 5 1 12 13 g.f2 (.inr kr) (r37.mono e26) (Gives.str _) i fun l8 i a37 c37 m33 w47 e27 g r41=>(qAb 2 [(16,vP bp0 1)] (qAa rfl (qEf 120 16 14 1 (vS a37 l8 c37) #[.pointer (qCe true bp0),vS a37 l8 c37,vS a34 s5.2.2.2.1 c34,vS a35 s5.2.2.2.2.1 c35,vI s5.2.2.2.2.2] g.f1 fun w48 g=>(WO_e (W_sr (qAf 4 [(4,vI (b1a.size:Int)),(5,.nilIface)] (qAy (X_rt [4,5] [vI (b1a.size:Int),.nilIface] (⟨_,rfl,?_⟩))))))))))))))));refine qAv rfl ?_;cases i;exact xE (Ku4 _ _ ⟨a37,c37,m33,rfl,(q.t e26).t e27,g.f1.f2.f2,(r4.mono e26).mono e27,r41,(r38.mono e26).mono e27,(r39.mono e26).mono e27⟩)
          ·intro A i;refine qAn ?_;cases i;exact xE (Ku4 _ _ ⟨a33,c33,m30,rfl,q,g.f2.f2.f2,r4,r37,r38,r39⟩)
        ·intro A i;refine qEo (qAk ?_);cases i;have ho:=hBu3 _ rfl;have g:=g.f2.f2.f2;refine qAk ?_;exact xE (K3_u3 _ _ ⟨s5.2,a33,c33,a34,c34,a35,c35,m30,ho,rfl,q,g,r37,r38,r39,r4⟩)
      ·intro A i;refine W_sr (qAf 2 [(182,vB (x1.1==6))] (W_if i ?_ ?_))
       ·intro A i;refine qAp (qFq [(8,fun w'=>Inv m1 w'∧Piece.holds m1 w' (kB b2 (V5 x1 a4 c4) 117)∧True)] kr g fun w54 _ g=> ?_);have hmS5:=m1.le_refl;refine⟨⟨.inr ⟨Inv.anti g.inv hmS5,Piece.holds_anti g.t.h hmS5,trivial⟩,trivial⟩,?_⟩;refine qAs 0 184 (vP bp0 0) (.head _) (qAs 1 185 (vP bp0 0) (.head _) (qAs 2 186 (vP bp0 0) (.head _) (qAs 3 187 (vP b2 3) (.head _) (qIl 9 187 4 188 3 (vT x1.2.2.2.1) (.head _) (fun _ h=>h.2.1) (qEp 9 9 ((.const (vT (⟨#[114,101,97,100,40,34]⟩:ByteArray)))) 188 5 189 (.head _) i fun s6 i=>(qEp 9 9 189 ((.const (vT (⟨#[34,44,32]⟩:ByteArray)))) 6 190 (.head _) i fun s7 i=>(qCw 7 kr (qDf 191 72 #[vP bp0 0,vT s7] kr rfl (W_cA Tryz.func72 rfl Tryz.ntmps72 (W_sr (qAf 2 [] (W_sr (qAb 1 [(6,vP bp0 0)] (qAa rfl (qDf 7 140 #[vP bp0 0] kr rfl ((qAx (c0:=(qCe p0.1.1 bp0)) (R:=[vS a1 p0.1.2 c1,vS a2 p0.2.1 c2,vS a3 p0.2.2.1 c3,vI (if p3>p0.2.2.2 then p3 else p0.2.2.2)]) (qFt p0.1.1 bp0 kr) g).mono ?_))))))))))))))));rintro _ w55 ⟨m38,rfl,e32,g⟩;refine⟨_,rfl,?_⟩;have hmS5:=Mem.le_trans hmS5 e32;have g:St m38 (kB bp0 #[.pointer (qCe true bp0),vS a1 p0.1.2 c1,vS a2 p0.2.1 c2,vS a3 p0.2.2.1 c3,vI (if p3>p0.2.2.2 then p3 else p0.2.2.2)] 193::kB b2 (V5 x1 a4 c4) 117::kR a1 p0.1.2 c1 5 1::O) w55:=g
        refine WO_e (W_sr (qAb 4 [(8,vP bp0 0),(11,vP bp0 1)] (qAa rfl (qBo 12 120 11 1 (vS a1 p0.1.2 c1) g.h (qAb 1 [(13,vT s7)] (qAa rfl (qEx 14 120 9 5 1 12 13 g.f2 (.inr kr) (r1.mono e32) (Gives.str _) i fun l10 i a42 c42 m39 w56 e33 g r47=> ?_)))))));have hmS5:=Mem.le_trans hmS5 e33;refine qAb 2 [(16,vP bp0 1)] (qAa rfl (qEf 120 16 14 1 (vS a42 l10 c42) #[.pointer (qCe true bp0),vS a42 l10 c42,vS a2 p0.2.1 c2,vS a3 p0.2.2.1 c3,vI (if p3>p0.2.2.2 then p3 else p0.2.2.2)] g.f1 fun w57 g=>(WO_e (W_sr (qAf 4 [(4,vI (s7.size:Int)),(5,.nilIface)] (qAy (X_rt [4,5] [vI (s7.size:Int),.nilIface] (⟨_,rfl,?_⟩))))))));refine⟨⟨.inr ⟨Inv.anti g.inv hmS5,Piece.holds_anti g.t.t.h hmS5,trivial⟩,trivial⟩,?_⟩;refine qDa kr ?_;refine qAh (W_sr (qAb 2 [(192,vP bp0 0),(193,vP b2 4)] (qAa rfl (qBo 194 22 193 4 (vS a4 x1.2.2.2.2 c4) g.t.t.h (qAa rfl (qDn 195 22 3 194 ((.const (vI 0))) ((r4.mono e32).mono e33) i ?_))))));rintro x8 i b13 f8 cs9 rfl hq8;refine qFs 196 3 195 f8 (vI x8) g hq8 (qAb 2 [(198,vI (wr (p3+1)))] (qAz 199 i (fun _ h=>ih_source_writer_expr (p0:=((true,l10),p0.2.1,p0.2.2.1,if p3>p0.2.2.2 then p3 else p0.2.2.2)) g.f1.f1 r47 ((r2.mono e32).mono e33) ((r3.mono e32).mono e33) h) ?_));rintro y10 i _ w58 ⟨a43,c43,a44,c44,a45,c45,m40,rfl,e34,g,r48,r49,r50⟩
        refine WO_e (qAm (qAb 3 [(202,vP bp0 0)] (qAa rfl (qDf 203 200 #[vP bp0 0,.int .u8 41] kr rfl (W_cA Tryz.func200 rfl Tryz.ntmps200 (W_sr (qAf 1 [] (W_sr (qAb 1 [(5,vP bp0 0)] (qAa rfl (qDf 6 140 #[vP bp0 0] kr rfl ((qAx (c0:=(qCe y10.1.1 bp0)) (R:=[vS a43 y10.1.2 c43,vS a44 y10.2.1 c44,vS a45 y10.2.2.1 c45,vI y10.2.2.2]) (qFt y10.1.1 bp0 kr) g).mono ?_))))))))))));rintro _ w59 ⟨m41,rfl,e35,g⟩;refine⟨_,rfl,?_⟩;have g:St m41 (kB bp0 #[.pointer (qCe true bp0),vS a43 y10.1.2 c43,vS a44 y10.2.1 c44,vS a45 y10.2.2.1 c45,vI y10.2.2.2] 193::kR a43 y10.1.2 c43 5 1::kB b2 (V5 x1 a4 c4) 117::O) w59:=g;refine WO_e (W_sr (qAb 4 [(7,vP bp0 0),(10,vP bp0 1)] (qAa rfl (qBo 11 120 10 1 (vS a43 y10.1.2 c43) g.h (qAb 1 [(12,.int .u8 41)] (qAa rfl (qBg (d:=13) (t:=120) (e:=5) (len:=1) (parts:= #[(0,(.tmp 12))]) cU8 (xs:=[(41:UInt8)]) [.int .u8 41] kr rfl (fun _=>qBh kr _) rfl rfl g ⟨[.int .u8 41],_,rfl,rfl,rfl⟩ fun b14 m42 w60 e36 g r51=>(qAa rfl (qEx 14 120 120 5 1 11 13 g.f2 (.inl kr) ((r48.mono e35).mono e36) r51.src i fun l11 i a46 c46 m43 w61 e37 g r52=>(qAb 2 [(16,vP bp0 1)] (qAa rfl (qEf 120 16 14 1 (vS a46 l11 c46) #[.pointer (qCe true bp0),vS a46 l11 c46,vS a44 y10.2.1 c44,vS a45 y10.2.2.1 c45,vI y10.2.2.2] g.f2 fun w62 g=>(qAv rfl ?_)))))))))))));have g:=g.f2.t
        refine qAh (W_sr (qAf 1 [(4,.nilIface)] (qAy (X_rt [4] [.nilIface] (⟨_,rfl,?_⟩)))));refine qAv rfl (qBf ?_);cases i;exact qKr [] [] rfl ResAll.nil ⟨a46,c46,a44,c44,a45,c45,m43,rfl,(((((q.t e32).t e33).t e34).t e35).t e36).t e37,g.f2.t.f1.f1,r52,((r49.mono e35).mono e36).mono e37,((r50.mono e35).mono e36).mono e37⟩
       ·intro A i;refine W_sr (qAf 2 [(204,vB (x1.1==10))] (W_if i ?_ ?_))
        ·intro A i;refine qFq [(9,fun w'=>Inv m1 w'∧Piece.holds m1 w' (kB b2 (V5 x1 a4 c4) 117)∧True)] kr g fun w63 _ g=> ?_;have hmS6:=m1.le_refl;refine⟨⟨.inr ⟨Inv.anti g.inv hmS6,Piece.holds_anti g.t.h hmS6,trivial⟩,trivial⟩,?_⟩;refine qAs 0 206 (vP bp0 0) (.head _) (qAs 1 207 (vP bp0 0) (.head _) (qAs 2 208 (vP bp0 0) (.head _) (qAs 3 209 (vP b2 1) (.head _) (qIl 3 209 4 210 1 (vI x1.2.1) (.head _) (fun _ h=>h.2.1) (qCw 5 kr (qKx 211 i (fun _ h=>qNa g h) ?_))))));rintro y11 i _ w64 ⟨m44,rfl,e38,g⟩;refine⟨_,rfl,?_⟩;have hmS6:=Mem.le_trans hmS6 e38;refine⟨⟨.inr ⟨Inv.anti g.inv hmS6,Piece.holds_anti g.t.h hmS6,trivial⟩,trivial⟩,?_⟩;refine qEp 9 9 ((.const (vT (⟨#[102,108,105,112,40]⟩:ByteArray)))) 211 6 212 (.head _) i fun s8 i=> ?_;refine qEp 9 9 212 ((.const (vT b1b))) 7 213 (.head _) i fun s9 i=> ?_;refine qCw 8 kr (qDf 214 72 #[vP bp0 0,vT s9] kr rfl (W_cA Tryz.func72 rfl Tryz.ntmps72 (W_sr (qAf 2 [] (W_sr (qAb 1 [(6,vP bp0 0)] (qAa rfl (qDf 7 140 #[vP bp0 0] kr rfl ((qAx (c0:=(qCe p0.1.1 bp0)) (R:=[vS a1 p0.1.2 c1,vS a2 p0.2.1 c2,vS a3 p0.2.2.1 c3,vI (if p3>p0.2.2.2 then p3 else p0.2.2.2)]) (qFt p0.1.1 bp0 kr) g).mono ?_)))))))));rintro _ w65 ⟨m45,rfl,e39,g⟩;refine⟨_,rfl,?_⟩;have hmS6:=Mem.le_trans hmS6 e39
         have g:St m45 (kB bp0 #[.pointer (qCe true bp0),vS a1 p0.1.2 c1,vS a2 p0.2.1 c2,vS a3 p0.2.2.1 c3,vI (if p3>p0.2.2.2 then p3 else p0.2.2.2)] 193::kB b2 (V5 x1 a4 c4) 117::kR a1 p0.1.2 c1 5 1::O) w65:=g;refine WO_e (W_sr (qAb 4 [(8,vP bp0 0),(11,vP bp0 1)] (qAa rfl (qBo 12 120 11 1 (vS a1 p0.1.2 c1) g.h (qAb 1 [(13,vT s9)] (qAa rfl (qEx 14 120 9 5 1 12 13 g.f2 (.inr kr) ((r1.mono e38).mono e39) (Gives.str _) i fun l12 i a47 c47 m46 w66 e40 g r53=> ?_)))))));have hmS6:=Mem.le_trans hmS6 e40;refine qAb 2 [(16,vP bp0 1)] (qAa rfl (qEf 120 16 14 1 (vS a47 l12 c47) #[.pointer (qCe true bp0),vS a47 l12 c47,vS a2 p0.2.1 c2,vS a3 p0.2.2.1 c3,vI (if p3>p0.2.2.2 then p3 else p0.2.2.2)] g.f1 fun w67 g=>(WO_e (W_sr (qAf 4 [(4,vI (s9.size:Int)),(5,.nilIface)] (qAy (X_rt [4,5] [vI (s9.size:Int),.nilIface] (⟨_,rfl,?_⟩))))))));refine⟨⟨.inr ⟨Inv.anti g.inv hmS6,Piece.holds_anti g.t.t.h hmS6,trivial⟩,trivial⟩,?_⟩;refine qDa kr ?_;refine qBf ?_;cases i;exact qKr [] [] rfl ResAll.nil ⟨a47,c47,a2,c2,a3,c3,m46,rfl,((q.t e38).t e39).t e40,g.f2.t.f1.f1,r53,((r2.mono e38).mono e39).mono e40,((r3.mono e38).mono e39).mono e40⟩
        ·intro A i;refine W_sr (qAa rfl (qKl (d:=51) (t:=234) kr rfl g fun b15 w68 g=> ?_));have⟨mp1,d39,i⟩:=qAo i;refine qAa rfl (qCn (ek:=(fun n:Int=>Value.int .i64 n)) (c:=cStr) (agg:=false) (k:=7) (yv:=bm) (cs:=[vT bm]) (z:=(vT eB)) (v:=(vT bm)) (kt:=3) (et:=9) (t:=234) (x:=(.tmp 51)) (y:=(.const (vI 7))) (u:=(.const (vT bm))) kr (ev (.map (some b15))) (ev (vI 7)) (ev (vT bm)) kr (qHe kr) g (MapQ.new (fun n:Int=>Value.int .i64 n) cStr false _ _) rfl rfl d39 fun es2 ck2 w69 g r54=> ?_);have⟨mp2,d40,i⟩:=qAo i;refine qAa rfl (qCn (ek:=(fun n:Int=>Value.int .i64 n)) (c:=cStr) (agg:=false) (k:=8) (yv:=bn) (cs:=[vT bn]) (z:=(vT eB)) (v:=(vT bn)) (kt:=3) (et:=9) (t:=234) (x:=(.tmp 51)) (y:=(.const (vI 8))) (u:=(.const (vT bn))) kr (ev (.map (some b15))) (ev (vI 8)) (ev (vT bn)) kr (qHe kr) g r54 rfl rfl d40 fun es3 ck3 w70 g r55=> ?_);have⟨mp3,d41,i⟩:=qAo i
         refine qAa rfl (qCn (ek:=(fun n:Int=>Value.int .i64 n)) (c:=cStr) (agg:=false) (k:=9) (yv:=bo) (cs:=[vT bo]) (z:=(vT eB)) (v:=(vT bo)) (kt:=3) (et:=9) (t:=234) (x:=(.tmp 51)) (y:=(.const (vI 9))) (u:=(.const (vT bo))) kr (ev (.map (some b15))) (ev (vI 9)) (ev (vT bo)) kr (qHe kr) g r55 rfl rfl d41 fun es4 ck4 w71 g r56=>(qAb 2 [(52,.map (some b15)),(53,vP b2 0)] (qAa rfl (qBo 54 3 53 0 (vI x1.1) g.t.t.h (qAa rfl (qJj (ek:=(fun n:Int=>Value.int .i64 n)) (c:=cStr) (agg:=false) (k:=x1.1) (zx:=eB) (zcs:=[vT eB]) (z:=(vT eB)) (kt:=3) (et:=9) (d:=55) (t:=234) (x:=(.tmp 52)) (y:=(.tmp 54)) (ok:=false) kr rfl (ev (.map (some b15))) (ev (vI x1.1)) kr (qHe kr) g.h r56 rfl rfl ?_))))));rintro cs10 rfl;refine qAf 1 [(15,vT ((qDe mp3 x1.1).getD eB))] (qFq [(10,fun w'=>Inv m1 w'∧Piece.holds m1 w' (kB b2 (V5 x1 a4 c4) 117)∧True)] kr g fun w72 _ g=> ?_);have hmS7:=m1.le_refl;refine⟨⟨.inr ⟨Inv.anti g.inv hmS7,Piece.holds_anti g.t.t.h hmS7,trivial⟩,trivial⟩,?_⟩
         refine qAs 0 56 (vP bp0 0) (.head _) (qAs 1 57 (vP bp0 0) (.head _) (qAs 2 58 (vP bp0 0) (.head _) (qAs 3 59 (vT ((qDe mp3 x1.1).getD eB)) (.head _) (qEp 9 9 59 ((.const (vT (⟨#[40,34]⟩:ByteArray)))) 4 60 (.head _) i fun s10 i=>(qAs 5 61 (vP b2 3) (.head _) (qIl 9 61 6 62 3 (vT x1.2.2.2.1) (.head _) (fun _ h=>h.2.1) (qEp 9 9 60 62 7 63 (.head _) i fun s11 i=>(qEp 9 9 63 ((.const (vT (⟨#[34,41]⟩:ByteArray)))) 8 64 (.head _) i fun s12 i=>(qCw 9 kr (qDf 65 72 #[vP bp0 0,vT s12] kr rfl (W_cA Tryz.func72 rfl Tryz.ntmps72 (W_sr (qAf 2 [] (W_sr (qAb 1 [(6,vP bp0 0)] ?_)))))))))))))));have g:=g.f1;refine qAa rfl (qDf 7 140 #[vP bp0 0] kr rfl ((qAx (c0:=(qCe p0.1.1 bp0)) (R:=[vS a1 p0.1.2 c1,vS a2 p0.2.1 c2,vS a3 p0.2.2.1 c3,vI (if p3>p0.2.2.2 then p3 else p0.2.2.2)]) (qFt p0.1.1 bp0 kr) g).mono ?_));rintro _ w73 ⟨m47,rfl,e41,g⟩;refine⟨_,rfl,?_⟩;have hmS7:=Mem.le_trans hmS7 e41;have g:St m47 (kB bp0 #[.pointer (qCe true bp0),vS a1 p0.1.2 c1,vS a2 p0.2.1 c2,vS a3 p0.2.2.1 c3,vI (if p3>p0.2.2.2 then p3 else p0.2.2.2)] 193::qCc (some b15) es4 ck4::kB b2 (V5 x1 a4 c4) 117::kR a1 p0.1.2 c1 5 1::O) w73:=g
         refine WO_e (W_sr (qAb 4 [(8,vP bp0 0),(11,vP bp0 1)] (qAa rfl (qBo 12 120 11 1 (vS a1 p0.1.2 c1) g.h (qAb 1 [(13,vT s12)] (qAa rfl (qEx 14 120 9 5 1 12 13 g.f3 (.inr kr) (r1.mono e41) (Gives.str _) i fun l13 i a48 c48 m48 w74 e42 g r57=> ?_)))))));have hmS7:=Mem.le_trans hmS7 e42;refine qAb 2 [(16,vP bp0 1)] (qAa rfl (qEf 120 16 14 1 (vS a48 l13 c48) #[.pointer (qCe true bp0),vS a48 l13 c48,vS a2 p0.2.1 c2,vS a3 p0.2.2.1 c3,vI (if p3>p0.2.2.2 then p3 else p0.2.2.2)] g.f1 fun w75 g=>(WO_e (W_sr (qAf 4 [(4,vI (s12.size:Int)),(5,.nilIface)] (qAy (X_rt [4,5] [vI (s12.size:Int),.nilIface] (⟨_,rfl,?_⟩))))))));refine⟨⟨.inr ⟨Inv.anti g.inv hmS7,Piece.holds_anti g.t.t.t.h hmS7,trivial⟩,trivial⟩,?_⟩;refine qDa kr ?_;refine qBf ?_;cases i;exact qKr [] [] rfl ResAll.nil ⟨a48,c48,a2,c2,a3,c3,m48,rfl,(q.t e41).t e42,g.f2.t.f2.t.f1.f1,r57,(r2.mono e41).mono e42,(r3.mono e41).mono e42⟩
theorem qJg(N:Nat):∀D:Nat,(∀{m:Mem} {O:List Piece} {w:World} {p0:T1d} {p1:Int} {p2:Int} {p3:Int} {bp0:Nat} {a1:Option Addr} {c1:Nat} {a2:Option Addr} {c2:Nat} {a3:Option Addr} {c3:Nat} {r:T1d} (g:St m (kB bp0 #[.pointer (qCe p0.1.1 bp0),vS a1 p0.1.2 c1,vS a2 p0.2.1 c2,vS a3 p0.2.2.1 c3,vI p0.2.2.2] 193::kR a1 p0.1.2 c1 5 1::O) w) (r1:RepS cU8 m a1 c1 p0.1.2) (r2:RepS C3 m a2 c2 p0.2.1) (r3:RepS cStr m a3 c3 p0.2.2.1) (i:(qCq N D) p0 p1 p2 p3=some r),Calls Tryz.prog 141 #[vP bp0 0,vI p1,vI p2,vI p3] w fun e w'=>∃ra1 rc1 ra2 rc2 ra3 rc3 m',e= .returned (.tuple #[])∧m.le m'∧St m' (kB bp0 #[.pointer (qCe r.1.1 bp0),vS ra1 r.1.2 rc1,vS ra2 r.2.1 rc2,vS ra3 r.2.2.1 rc3,vI r.2.2.2] 193::kR ra1 r.1.2 rc1 5 1::O) w'∧P6 m' ra1 rc1 ra2 rc2 ra3 rc3 r)
 |0=>fun _ _ _ _ i=>(by cases i)
 |D+1=>fun g r1 r2 r3 i=>qMe (qJg N D) g r1 r2 r3 i
theorem qMr{p0:T1d}{p1:Int}{p2:Int}{p3:Int}{r:T1d}(g:St m (kB bp0 #[.pointer (qCe p0.1.1 bp0),vS a1 p0.1.2 c1,vS a2 p0.2.1 c2,vS a3 p0.2.2.1 c3,vI p0.2.2.2] 193::kR a1 p0.1.2 c1 5 1::O) w)(r1:RepS cU8 m a1 c1 p0.1.2)(r2:RepS C3 m a2 c2 p0.2.1)(r3:RepS cStr m a3 c3 p0.2.2.1)(i:qIu N p0 p1 p2 p3=some r):Calls Tryz.prog 141 #[vP bp0 0,vI p1,vI p2,vI p3] w fun e w'=>∃ra1 rc1 ra2 rc2 ra3 rc3 m',e= .returned (.tuple #[])∧m.le m'∧St m' (kB bp0 #[.pointer (qCe r.1.1 bp0),vS ra1 r.1.2 rc1,vS ra2 r.2.1 rc2,vS ra3 r.2.2.1 rc3,vI r.2.2.2] 193::kR ra1 r.1.2 rc1 5 1::O) w'∧P6 m' ra1 rc1 ra2 rc2 ra3 rc3 r:=
 (qJg N N) g r1 r2 r3 i
def qJo(N:Nat)(p0:Te)(p1:Tc):Option Tl:=
 (qIu N ((false,([]:T3)),p0,p1,0) (IntKind.wrap .i64 ((List.length p0:Int)-1)) 0 1).bind fun y1=>(nonE y1.1.2).bind fun u1=>some (qIx y1.1.2,y1.2.2.2)
theorem qQj{p0:Te}{p1:Tc}{r:Tl}(g:St m (O) w)(r1:RepS C3 m a1 c1 p0)(r2:RepS cStr m a2 c2 p1)(i:qJo N p0 p1=some r):Calls Tryz.prog 73 #[vS a1 p0 c1,vS a2 p1 c2] w fun e w'=>∃m',e= .returned (.tuple #[vT r.1,vI r.2])∧m.le m'∧St m' (O) w':=by
 unfold qJo at i;have q:=m.le_refl;refine W_cA Tryz.func73 rfl Tryz.ntmps73 ?_;refine W_sr (qAf 2 [] (W_sr (qAb 3 [(9,.agg #[.pointer none,vc,vS a1 p0 c1,vS a2 p1 c2,vI 0])] (qAa rfl (zEs 10 193 9 (.agg #[.pointer none,vc,vS a1 p0 c1,vS a2 p1 c2,vI 0]) g fun b1 w1 g=>(qAf 1 [(6,vP b1 0)] (W_sr (qAb 4 [(11,vP b1 0),(14,vI (wr ((p0.length:Int)-1)))] ?_))))))));have g:=(g.nilroom 5 1).front1;refine qAz 15 i (fun _ h=>qMr (p0:=((false,([]:T3)),p0,p1,0)) g (RepS.nil _ _) r1 r2 h) ?_;rintro y1 i _ w2 ⟨a3,c3,a4,c4,a5,c5,m2,rfl,e2,g,r3,r4,r5⟩;refine WO_e (qAp (qFq [(10,fun w'=>Inv m2 w'∧Piece.holds m2 w' (kB b1 #[.pointer (qCe y1.1.1 b1),vS a3 y1.1.2 c3,vS a4 y1.2.1 c4,vS a5 y1.2.2.1 c5,vI y1.2.2.2] 193)∧True)] kr g fun w3 _ g=> ?_));have hmS1:=m2.le_refl;refine⟨⟨.inr ⟨Inv.anti g.inv hmS1,Piece.holds_anti g.h hmS1,trivial⟩,trivial⟩,?_⟩
 refine qAs 0 16 (vP b1 0) (.head _) (qAs 1 17 (vP b1 0) (.head _) (qAs 2 18 (vP b1 0) (.head _) (qAs 4 20 (vP b1 0) (.head _) (qAs 5 21 (vP b1 0) (.head _) (qAs 6 22 (vP b1 4) (.head _) (qIl 3 22 7 23 4 (vI y1.2.2.2) (.head _) (fun _ h=>h.2.1) (qCw 3 kr (qDf 19 76 #[vP b1 0] kr rfl (W_cA Tryz.func76 rfl Tryz.ntmps76 (W_sr (qAf 1 [] (qAp (qFq [(12,fun w'=>Inv m2 w'∧Piece.holds m2 w' (kB b1 #[.pointer (qCe y1.1.1 b1),vS a3 y1.1.2 c3,vS a4 y1.2.1 c4,vS a5 y1.2.2.1 c5,vI y1.2.2.2] 193)∧True)] kr g fun w4 _ g=> ?_)))))))))))));have hmS2:=m2.le_refl;refine⟨⟨.inr ⟨Inv.anti g.inv hmS2,Piece.holds_anti g.h hmS2,trivial⟩,trivial⟩,?_⟩;refine qAs 0 3 (vP b1 0) (.head _) (qAs 1 4 (vP b1 0) (.head _) (qAs 2 5 (vP b1 1) (.head _) (qIl 120 5 3 6 1 (vS a3 y1.1.2 c3) (.head _) (fun _ h=>h.2.1) (qAs 5 8 (vP b1 0) (.head _) (qAs 6 9 (vP b1 0) (.head _) (qAs 7 10 (vP b1 1) (.head _) (qIl 120 10 8 11 1 (vS a3 y1.1.2 c3) (.head _) (fun _ h=>h.2.1) (qAs 9 12 (vI (y1.1.2.length:Int)) (.head _) ?_))))))));have⟨u1,d2,i⟩:=qAo i;have hne1:=zBm d2;refine qCw 4 kr (qOw (d:=7) (t:=120) (x:=(.tmp 6)) kr rfl (ev (vS a3 y1.1.2 c3)) r3 hne1 (⟨⟨.inr ⟨Inv.anti g.inv hmS2,Piece.holds_anti g.h hmS2,trivial⟩,trivial⟩,?_⟩))
 refine qCw 10 kr (qMh (d:=13) (pt:=196) (it:=3) (e:=5) (x:=(.tmp 7)) (y:=(.tmp 12)) kr rfl (ev (.pointer a3)) (ev (vI (y1.1.2.length:Int))) g.f1 r3 hne1 kr kr fun w5 g=>(⟨⟨.inr ⟨Inv.anti g.inv hmS2,Piece.holds_anti g.h hmS2,trivial⟩,trivial⟩,?_⟩));refine qAs 11 2 (vT (qIx y1.1.2)) (.head _) (qDa kr (qAh (qAy (X_rt [2] [vT (qIx y1.1.2)] (⟨_,rfl,?_⟩)))));refine⟨⟨.inr ⟨Inv.anti g.inv hmS1,Piece.holds_anti g.h hmS1,trivial⟩,trivial⟩,?_⟩;refine qAs 8 4 (vT (qIx y1.1.2)) (.head _) (qAs 9 5 (vI y1.2.2.2) (.head _) (qDa kr (qAh (qAy ?_))));obtain rfl:=sI i;exact X_rt [4,5] [vT (qIx y1.1.2),vI y1.2.2.2] ⟨m2,rfl,q.t e2,g.t⟩
def qFw(N:Nat)(p0:Tc)(p1:ByteArray):T1c:=
 if((List.length p0:Int)==0)=true then(some (⟨#[]⟩:ByteArray)) else(if((List.length p0:Int)==1)=true then((idx p0 0).bind fun x1=>some x1) else none)
theorem qQn{p0:Tc}{p1:ByteArray}{r:ByteArray}(g:St m (O) w)(r1:RepS cStr m a1 c1 p0)(i:qFw N p0 p1=some r):Calls Tryz.prog 74 #[vS a1 p0 c1,vT p1] w fun e w'=>∃m',e= .returned (vT r)∧m.le m'∧St m' (O) w':=by
 unfold qFw at i;have q:=m.le_refl;refine W_cA Tryz.func74 rfl Tryz.ntmps74 ?_;refine W_sr (qAf 1 [] (qAp (W_sr (qAf 2 [(12,vI (p0.length:Int))] (qAt (W_sr (qAf 2 [(13,vB ((p0.length:Int)==0))] (W_if i ?_ ?_))))))))
 ·intro A i;refine W_sr (qAf 1 [(4,vT eB)] (qAy (qAg (qAc ?_))));cases i;exact X_rt [4] [vT eB] ⟨m,rfl,q,g⟩
 ·intro A i;refine W_sr (qAf 2 [(15,vB ((p0.length:Int)==1))] (W_if i ?_ ?_))
  ·intro A i;refine W_sr (qAb 1 [(17,vS a1 p0 c1)] (qAa rfl (qDn 18 43 9 17 ((.const (vI 0))) r1 i ?_)));rintro x1 i b1 f1 cs1 rfl hq1;refine qFs 19 9 18 f1 (vT x1) g hq1 (qAf 1 [(4,vT x1)] (qAy (qAg (qAc ?_))));obtain rfl:=sI i;exact X_rt [4] [vT x1] ⟨m,rfl,q,g⟩
  ·intro A i;cases i
def qFo(N:Nat)(p0:T17)(s3:T1h):Option (T1h⊕T3):=
 if(decide (s3.1<(List.length p0.2.1:Int)))=true then((idx p0.2.1 s3.1).bind fun x1=>(catB (⟨#[105,109,112,111,114,116,32]⟩:ByteArray) x1).bind fun s4=>(catB s4 (⟨#[59,10]⟩:ByteArray)).bind fun s5=>(qCd 1 s3.2 s5.data.toList).bind fun l2=>some (.inl (IntKind.wrap .i64 (s3.1+1),l2))) else(some (.inr s3.2))
def qFm(N:Nat)(p0:T17)(s6:T1h):Option (T1h⊕T3⊕Tl):=
 if(decide (s6.1<(List.length p0.2.2:Int)))=true then((idx p0.2.2 s6.1).bind fun x2=>(qJo N x2.2.2.2 x2.2.2.1).bind fun y2=>if(decide (y2.2>32))=true then(some (.inr (.inr (((⟨#[]⟩:ByteArray),2))))) else((if(x2.1==1)=true then((catB (⟨#[102,117,110,99,32]⟩:ByteArray) x2.2.1).bind fun s7=>(catB s7 (⟨#[40]⟩:ByteArray)).bind fun s8=>(qFw N x2.2.2.1 (⟨#[44,32]⟩:ByteArray)).bind fun y3=>(catB s8 y3).bind fun s9=>(catB s9 (⟨#[41]⟩:ByteArray)).bind fun s10=>(qCd 1 s6.2 s10.data.toList).bind fun l3=>some l3) else(if(x2.1==2)=true then((catB (⟨#[116,101,115,116,32]⟩:ByteArray) x2.2.1).bind fun s11=>(qCd 1 s6.2 s11.data.toList).bind fun l4=>some l4) else((catB (⟨#[103,101,110,32,34]⟩:ByteArray) x2.2.1).bind fun s12=>(catB s12 (⟨#[34]⟩:ByteArray)).bind fun s13=>(qCd 1 s6.2 s13.data.toList).bind fun l5=>some l5)):Option T3).bind fun o3=>(catB (⟨#[32,61,32]⟩:ByteArray) y2.1).bind fun s14=>(catB s14 (⟨#[59,10]⟩:ByteArray)).bind fun s15=>(qCd 1 o3 s15.data.toList).bind fun l6=>some (.inl (IntKind.wrap .i64 (s6.1+1),l6)))) else(some (.inr (.inl s6.2)))
def qEg(N:Nat)(p0:T17):Option Tl:=
 (qGg N p0).bind fun y1=>if(y1 !=0)=true then(some ((⟨#[]⟩:ByteArray),y1)) else((catB (⟨#[112,97,99,107,97,103,101,32]⟩:ByteArray) p0.1).bind fun s1=>(catB s1 (⟨#[59,10]⟩:ByteArray)).bind fun s2=>(qCd 1 ([]:T3) s2.data.toList).bind fun l1=>(qBa (qFo N p0) N (0,l1)).bind fun o1=>(qBa (qFm N p0) N (0,o1)).bind fun out2=>(match out2 with| .inl o2=>if(decide ((List.length o2:Int)>16384))=true then(some ((⟨#[]⟩:ByteArray),2)) else((nonE o2).bind fun u4=>some (qIx o2,0))| .inr (z)=>some z))
theorem qMj{p0:T17}{r:Tl}(g:St m (O) w)(r1:RepS cStr m a1 c1 p0.2.1)(r2:RepS C4 m a2 c2 p0.2.2)(i:qEg N p0=some r):Calls Tryz.prog 22 #[.agg (V9 p0 a1 c1 a2 c2)] w fun e w'=>∃m',e= .returned (.tuple #[vT r.1,vI r.2])∧m.le m'∧St m' (O) w':=by
 unfold qEg at i;have q:=m.le_refl;refine W_cA Tryz.func22 rfl Tryz.ntmps22 ?_;refine W_sr (qAa rfl (qIe 1 52 0 (.agg (V9 p0 a1 c1 a2 c2)) g fun b1 m1 w1 e1 g hb1=>(qAf 2 [] (qAp (W_sr (qFs 12 52 1 0 (.agg (V9 p0 a1 c1 a2 c2)) g hb1 (qAz 13 i (fun _ h=>qMz g (r1.mono e1) (r2.mono e1) h) ?_)))))));rintro y1 i _ w2 ⟨m2,rfl,e2,g⟩;have hb1:=hb1.mono e2;refine qAf 1 [(4,vI y1)] (W_sr (qAf 2 [(15,vB (y1 !=0))] (W_if i ?_ ?_)))
 ·intro A i;refine W_sr (qAf 3 [(2,vT eB),(3,vI y1)] (qAy (qAc ?_)));obtain rfl:=sI i;exact X_rt [2,3] [vT eB,vI y1] ⟨m2,rfl,(q.t e1).t e2,g⟩
 ·intro A i;refine qAn (qAh (W_sr (qAa rfl (qDu 5 122 (.agg #[.pointer none,v7]) g fun b2 w3 g=>(WO_e (W_sr (qAb 1 [(17,vP b1 0)] (qFs 18 9 17 0 (vT p0.1) g hb1 (qAa rfl (qIc 19 9 9 ((.const (vT (⟨#[112,97,99,107,97,103,101,32]⟩:ByteArray)))) 18 i fun s1 i=>(qAa rfl (qIc 20 9 9 19 ((.const (vT b1c))) i fun s2 i=>(qAa rfl (qDf 21 72 #[vP b2 0,vT s2] kr rfl (W_cA Tryz.func72 rfl Tryz.ntmps72 (W_sr (qAf 2 [] (W_sr (qAb 1 [(6,vP b2 0)] (qAa rfl (qDf 7 140 #[vP b2 0] kr rfl ((qAx (c0:=(qCe false b2)) (R:=[vc]) (qFt false b2 kr) g).mono ?_))))))))))))))))))))));rintro _ w4 ⟨m3,rfl,e3,g⟩;refine⟨_,rfl,?_⟩;have g:St m3 (kB b2 #[.pointer (qCe true b2),vc] 122::O) w4:=g;refine WO_e (W_sr (qAb 4 [(8,vP b2 0),(11,vP b2 1)] (qAa rfl (qBo 12 120 11 1 (vc) g.h (qAb 1 [(13,vT s2)] (qAa rfl (qEx 14 120 9 5 1 12 13 (g.nilroom 5 1) (.inr kr) (RepS.nil _ _) (Gives.str _) i fun l1 i a3 c3 m4 w5 e4 g r3=>(qAb 2 [(16,vP b2 1)] (qAa rfl (qEf 120 16 14 1 (vS a3 l1 c3) #[.pointer (qCe true b2),vS a3 l1 c3] g.f1 fun w6 g=>(WO_e (W_sr (qAf 4 [(4,vI (s2.size:Int)),(5,.nilIface)] (qAy (X_rt [4,5] [vI (s2.size:Int),.nilIface] (⟨_,rfl,?_⟩))))))))))))))))
  refine WO_e (qAp (W_sr (qAb 1 [(22,vP b1 1)] (qAa rfl (qAl (d:=23) (t:=43) (x:=(.tmp 22)) (vS a1 p0.2.1 c1) kr rfl (ev (vP b1 1)) g (((hb1.mono e3).mono e4).drop 1) kr (qAf 2 [(24,vI (p0.2.1.length:Int)),(25,vI 0)] (qAt ?_)))))));have⟨out1,i,j1⟩:=qAo i;refine qCr (.exit 0) (fun L' w'=>∃(o1:T3),∃a4 c4 m5,o1=out1∧L'=[(1,vP b1 0),(5,vP b2 0)]∧m.le m5∧St m5 (kB b2 #[.pointer (qCe true b2),vS a4 o1 c4] 122::kR a4 o1 c4 5 1::O) w'∧MRow m5 b1 0 (Va p0 a1 c1 a2 c2)∧RepS cStr m5 a1 c1 p0.2.1∧RepS C4 m5 a2 c2 p0.2.2∧RepS cU8 m5 a4 c4 o1) ?_ ?_
  ·rintro _ w7 ⟨o1,a4,c4,m5,rfl,rfl,q,g,hb1,r1,r2,r4⟩;have i:=j1;refine qBl (qAh (qAp (W_sr (qAb 1 [(34,vP b1 2)] (qAa rfl (qAl (d:=35) (t:=50) (x:=(.tmp 34)) (vS a2 p0.2.2 c2) kr rfl (ev (vP b1 2)) g (hb1.drop 2) kr (qAf 2 [(36,vI (p0.2.2.length:Int)),(37,vI 0)] (qAt ?_))))))));have⟨out2,i,j2⟩:=qAo i;refine qCr (.exit 2) (fun L' w'=>∃(o2:T3),∃a7 c7 m9,(.inl o2)=out2∧L'=[(5,vP b2 0)]∧m.le m9∧St m9 (kB b2 #[.pointer (qCe true b2),vS a7 o2 c7] 122::kR a7 o2 c7 5 1::O) w'∧RepS cU8 m9 a7 c7 o2) ?_ ?_
   ·rintro _ w12 ⟨o2,a7,c7,m9,rfl,rfl,q,g,r7⟩;have i:=j2;refine qBl (qAh (qAp (W_sr (qAa rfl (qDf 81 75 #[vP b2 0] kr rfl (W_cA Tryz.func75 rfl Tryz.ntmps75 (W_sr (qAf 1 [] (W_sr (qFr 3 6 120 5 1 (vS a7 o2 c7) g.h (qAf 2 [(2,vI (o2.length:Int))] (qAy (X_rt [2] [vI (o2.length:Int)] (⟨_,rfl,?_⟩))))))))))))));refine qAf 1 [(82,vB (decide ((o2.length:Int)>16384)))] (W_if i ?_ ?_)
    ·intro A i;refine W_sr (qAf 2 [(2,vT eB),(3,vI 2)] (qAy (qAc ?_)));cases i;exact X_rt [2,3] [vT eB,vI 2] ⟨m9,rfl,q,g.t.t⟩
    ·intro A i;refine qAn (qAh (W_sr (qAa rfl (qDf 83 76 #[vP b2 0] kr rfl (W_cA Tryz.func76 rfl Tryz.ntmps76 (W_sr (qAf 1 [] (qAp (qFq [(12,fun w'=>Inv m9 w'∧Piece.holds m9 w' (kB b2 #[.pointer (qCe true b2),vS a7 o2 c7] 122)∧True)] kr g fun w32 _ g=> ?_)))))))));have hmS2:=m9.le_refl;refine⟨⟨.inr ⟨Inv.anti g.inv hmS2,Piece.holds_anti g.h hmS2,trivial⟩,trivial⟩,?_⟩;refine qAs 0 3 (vP b2 0) (.head _) (qAs 1 4 (vP b2 0) (.head _) (qAs 2 5 (vP b2 1) (.head _) (qIl 120 5 3 6 1 (vS a7 o2 c7) (.head _) (fun _ h=>h.2.1) (qAs 5 8 (vP b2 0) (.head _) (qAs 6 9 (vP b2 0) (.head _) (qAs 7 10 (vP b2 1) (.head _) (qIl 120 10 8 11 1 (vS a7 o2 c7) (.head _) (fun _ h=>h.2.1) (qAs 9 12 (vI (o2.length:Int)) (.head _) ?_))))))));have⟨u4,d25,i⟩:=qAo i;have hne1:=zBm d25;refine qCw 4 kr (qOw (d:=7) (t:=120) (x:=(.tmp 6)) kr rfl (ev (vS a7 o2 c7)) r7 hne1 (⟨⟨.inr ⟨Inv.anti g.inv hmS2,Piece.holds_anti g.h hmS2,trivial⟩,trivial⟩,?_⟩));refine qCw 10 kr (qMh (d:=13) (pt:=196) (it:=3) (e:=5) (x:=(.tmp 7)) (y:=(.tmp 12)) kr rfl (ev (.pointer a7)) (ev (vI (o2.length:Int))) g.f1 r7 hne1 kr kr fun w33 g=>(⟨⟨.inr ⟨Inv.anti g.inv hmS2,Piece.holds_anti g.h hmS2,trivial⟩,trivial⟩,?_⟩));refine qAs 11 2 (vT (qIx o2)) (.head _) (qDa kr (qAh (qAy (X_rt [2] [vT (qIx o2)] (⟨_,rfl,?_⟩)))));refine qAf 2 [(2,vT (qIx o2)),(3,vI 0)] (qAy ?_);obtain rfl:=sI i
     exact X_rt [2,3] [vT (qIx o2),vI 0] ⟨m9,rfl,q,g.t⟩
   intro K2_u2;refine qHd _ kr (qEn (fun k2 L' w'=>∃(s6:T1h),∃a8 c8 m10,qBa (qFm N p0) k2 s6=some out2∧L'=[(5,vP b2 0),(35,vS a2 p0.2.2 c2),(36,vI (p0.2.2.length:Int)),(37,vI s6.1)]∧m.le m10∧St m10 (kB b2 #[.pointer (qCe true b2),vS a8 s6.2 c8] 122::kR a8 s6.2 c8 5 1::O) w'∧RepS C4 m10 a2 c2 p0.2.2∧RepS cU8 m10 a8 c8 s6.2) N ⟨(0,o1),a4,c4,m5,i,rfl,q,g.f1.f1,r2,r4⟩ ?_);rintro k2 _ w13 ⟨s6,a8,c8,m10,hL,rfl,q,g,r2,r8⟩;rcases k2 with _|k2
   ·exact qBk hL
   ·obtain⟨qu2,i,hSu2,hBu2⟩:=qBm hL;clear hL;unfold qFm at i;refine W_sr (qAf 1 [(38,vB (decide (s6.1<(p0.2.2.length:Int))))] (qAp (W_if i ?_ ?_)))
    ·intro A i;refine qAn (qAh (qAp (qAt (W_sr (qAa rfl (qDn 39 50 62 35 37 r2 i ?_))))));rintro x2 i b4 f2 cs2 ⟨_,_,rfl,rfl,⟨_,_,rfl,rfl,⟨_,_,rfl,⟨a9,c9,rfl,r9⟩,⟨a10,c10,rfl,r10⟩⟩⟩⟩ hq2;refine qFs 40 62 39 f2 (.agg (V7 x2 a9 c9 a10 c10)) g hq2 (qAa rfl (qDu 9 62 (.agg #[vI 0,vT eB,v7,v7]) g fun b5 w14 g=>(qAa rfl (qBz 62 9 40 (.agg (V7 x2 a9 c9 a10 c10)) g fun w15 g=>(WO_e (W_sr (qFr 1 43 60 42 3 (vS a10 x2.2.2.2 c10) g.h (qFr 1 45 43 44 2 (vS a9 x2.2.2.1 c9) g.h (qAz 46 i (fun _ h=>qQj g r10 r9 h) ?_)))))))));rintro y2 i _ w16 ⟨m11,rfl,e7,g⟩;have q:=q.t e7;have r2:=r2.mono e7;have r10:=r10.mono e7;have r9:=r9.mono e7;have r8:=r8.mono e7;refine qAf 5 [(10,vT y2.1),(11,vI y2.2)] (qAp (W_sr (qAf 2 [(50,vB (decide (y2.2>32)))] (W_if i ?_ ?_))))
     ·intro A i;refine W_sr (qAf 2 [(2,vT eB),(3,vI 2)] (qAy (qAc (qAg (qAc ?_)))));cases i;have ho:=hBu2 _ rfl;subst ho;have i:=j2;refine qAc (qAg (qAc ?_));cases i;exact X_rt [2,3] [vT eB,vI 2] ⟨m11,rfl,q,g.t.t.t⟩
     ·intro A i;refine qAn (qAh (qAp (W_sr (qFr 1 52 3 51 0 (vI x2.1) g.h (WO_e ?_)))));have⟨o3,i,j3⟩:=qAo i;refine qCr .normal (fun L' w'=>∃a11 c11 m12,L'=[(5,vP b2 0),(10,vT y2.1),(35,vS a2 p0.2.2 c2),(36,vI (p0.2.2.length:Int)),(37,vI s6.1)]∧m.le m12∧St m12 (kB b5 (V7 x2 a9 c9 a10 c10) 62::kB b2 #[.pointer (qCe true b2),vS a11 o3 c11] 122::kR a11 o3 c11 5 1::O) w'∧RepS C4 m12 a2 c2 p0.2.2∧RepS cStr m12 a9 c9 x2.2.2.1∧RepS C3 m12 a10 c10 x2.2.2.2∧RepS cU8 m12 a11 c11 o3) ?_ ?_
      ·have i:=j3;rintro _ w17 ⟨a11,c11,m12,rfl,q,g,r2,r9,r10,r11⟩;refine qAh (qAm (qAb 1 [(76,vT y2.1)] (qAa rfl (qIc 77 9 9 ((.const (vT (⟨#[32,61,32]⟩:ByteArray)))) 76 i fun s14 i=>(qAa rfl (qIc 78 9 9 77 ((.const (vT b1c))) i fun s15 i=>(qAa rfl (qDf 79 72 #[vP b2 0,vT s15] kr rfl (W_cA Tryz.func72 rfl Tryz.ntmps72 (W_sr (qAf 2 [] (W_sr (qAb 1 [(6,vP b2 0)] ?_)))))))))))));have g:=g.f1;refine qAa rfl (qDf 7 140 #[vP b2 0] kr rfl ((qAx (c0:=(qCe true b2)) (R:=[vS a11 o3 c11]) (qFt true b2 kr) g).mono ?_));rintro _ w29 ⟨m20,rfl,e15,g⟩;refine⟨_,rfl,?_⟩;have g:St m20 (kB b2 #[.pointer (qCe true b2),vS a11 o3 c11] 122::kB b5 (V7 x2 a9 c9 a10 c10) 62::kR a11 o3 c11 5 1::O) w29:=g;refine WO_e (W_sr (qAb 4 [(8,vP b2 0),(11,vP b2 1)] (qAa rfl (qBo 12 120 11 1 (vS a11 o3 c11) g.h (qAb 1 [(13,vT s15)] (qAa rfl (qEx 14 120 9 5 1 12 13 g.f2 (.inr kr) (r11.mono e15) (Gives.str _) i fun l6 i a15 c15 m21 w30 e16 g r15=>(qAb 2 [(16,vP b2 1)] (qAa rfl (qEf 120 16 14 1 (vS a15 l6 c15) #[.pointer (qCe true b2),vS a15 l6 c15] g.f1 fun w31 g=>(WO_e (W_sr (qAf 4 [(4,vI (s15.size:Int)),(5,.nilIface)] (qAy (X_rt [4,5] [vI (s15.size:Int),.nilIface] (⟨_,rfl,?_⟩))))))))))))))));refine qAv rfl (qBf (qAh (qAm (qAb 2 [(37,vI (wr (s6.1+1)))] (qAv rfl ?_)))));obtain rfl:=sI i;have hL:=hSu2 _ rfl
       exact xE (qCk k2 (jE _) ⟨(wr (s6.1+1),l6),a15,c15,m21,hL,rfl,(q.t e15).t e16,g.f2.t.f1.f1,(r2.mono e15).mono e16,r15⟩)
      ·intro Ku3;refine qAt (W_sr (qAf 2 [(58,vB (x2.1==1))] (W_if i ?_ ?_)))
       ·intro A i;refine qFq [(10,fun w'=>Inv m11 w'∧Piece.holds m11 w' (kB b5 (V7 x2 a9 c9 a10 c10) 62)∧True)] kr g fun w18 _ g=> ?_;have hmS1:=m11.le_refl;refine⟨⟨.inr ⟨Inv.anti g.inv hmS1,Piece.holds_anti g.h hmS1,trivial⟩,trivial⟩,?_⟩;refine qAs 0 60 (vP b5 1) (.head _) (qIl 9 60 1 61 1 (vT x2.2.1) (.head _) (fun _ h=>h.2.1) (qEp 9 9 ((.const (vT (⟨#[102,117,110,99,32]⟩:ByteArray)))) 61 2 62 (.head _) i fun s7 i=>(qEp 9 9 62 ((.const (vT b19))) 3 63 (.head _) i fun s8 i=>(qAs 4 64 (vP b5 2) (.head _) (qIl 43 64 5 65 2 (vS a9 x2.2.2.1 c9) (.head _) (fun _ h=>h.2.1) (qCw 6 kr (qKx 66 i (fun _ h=>qQn g r9 h) ?_)))))));rintro y3 i _ w19 ⟨m13,rfl,e8,g⟩;refine⟨_,rfl,?_⟩;have hmS1:=Mem.le_trans hmS1 e8;refine⟨⟨.inr ⟨Inv.anti g.inv hmS1,Piece.holds_anti g.h hmS1,trivial⟩,trivial⟩,?_⟩;refine qEp 9 9 63 66 7 67 (.head _) i fun s9 i=> ?_;refine qEp 9 9 67 ((.const (vT b1b))) 8 68 (.head _) i fun s10 i=> ?_;refine qCw 9 kr (qDf 69 72 #[vP b2 0,vT s10] kr rfl (W_cA Tryz.func72 rfl Tryz.ntmps72 (W_sr (qAf 2 [] (W_sr (qAb 1 [(6,vP b2 0)] ?_))))));have g:=g.f1;refine qAa rfl (qDf 7 140 #[vP b2 0] kr rfl ((qAx (c0:=(qCe true b2)) (R:=[vS a8 s6.2 c8]) (qFt true b2 kr) g).mono ?_));rintro _ w20 ⟨m14,rfl,e9,g⟩;refine⟨_,rfl,?_⟩;have hmS1:=Mem.le_trans hmS1 e9
        have g:St m14 (kB b2 #[.pointer (qCe true b2),vS a8 s6.2 c8] 122::kB b5 (V7 x2 a9 c9 a10 c10) 62::kR a8 s6.2 c8 5 1::O) w20:=g;refine WO_e (W_sr (qAb 4 [(8,vP b2 0),(11,vP b2 1)] (qAa rfl (qBo 12 120 11 1 (vS a8 s6.2 c8) g.h (qAb 1 [(13,vT s10)] (qAa rfl (qEx 14 120 9 5 1 12 13 g.f2 (.inr kr) ((r8.mono e8).mono e9) (Gives.str _) i fun l3 i a12 c12 m15 w21 e10 g r12=> ?_)))))));have hmS1:=Mem.le_trans hmS1 e10;refine qAb 2 [(16,vP b2 1)] (qAa rfl (qEf 120 16 14 1 (vS a12 l3 c12) #[.pointer (qCe true b2),vS a12 l3 c12] g.f1 fun w22 g=>(WO_e (W_sr (qAf 4 [(4,vI (s10.size:Int)),(5,.nilIface)] (qAy (X_rt [4,5] [vI (s10.size:Int),.nilIface] (⟨_,rfl,?_⟩))))))));refine⟨⟨.inr ⟨Inv.anti g.inv hmS1,Piece.holds_anti g.t.t.h hmS1,trivial⟩,trivial⟩,?_⟩;refine qDa kr ?_;refine qBf ?_;cases i;exact xE (Ku3 _ _ ⟨a12,c12,m15,rfl,((q.t e8).t e9).t e10,g.f1.f1.f2,((r2.mono e8).mono e9).mono e10,((r9.mono e8).mono e9).mono e10,((r10.mono e8).mono e9).mono e10,r12⟩)
       ·intro A i;refine W_sr (qAf 2 [(70,vB (x2.1==2))] (W_if i ?_ ?_))
        ·intro A i;refine qAm (qFr 1 73 9 72 1 (vT x2.2.1) g.h (qAa rfl (qIc 74 9 9 ((.const (vT (⟨#[116,101,115,116,32]⟩:ByteArray)))) 73 i fun s11 i=>(qAa rfl (qDf 75 72 #[vP b2 0,vT s11] kr rfl (W_cA Tryz.func72 rfl Tryz.ntmps72 (W_sr (qAf 2 [] (W_sr (qAb 1 [(6,vP b2 0)] ?_))))))))));have g:=g.f1;refine qAa rfl (qDf 7 140 #[vP b2 0] kr rfl ((qAx (c0:=(qCe true b2)) (R:=[vS a8 s6.2 c8]) (qFt true b2 kr) g).mono ?_));rintro _ w23 ⟨m16,rfl,e11,g⟩;refine⟨_,rfl,?_⟩;have g:St m16 (kB b2 #[.pointer (qCe true b2),vS a8 s6.2 c8] 122::kB b5 (V7 x2 a9 c9 a10 c10) 62::kR a8 s6.2 c8 5 1::O) w23:=g;refine WO_e (W_sr (qAb 4 [(8,vP b2 0),(11,vP b2 1)] (qAa rfl (qBo 12 120 11 1 (vS a8 s6.2 c8) g.h (qAb 1 [(13,vT s11)] (qAa rfl (qEx 14 120 9 5 1 12 13 g.f2 (.inr kr) (r8.mono e11) (Gives.str _) i fun l4 i a13 c13 m17 w24 e12 g r13=>(qAb 2 [(16,vP b2 1)] (qAa rfl (qEf 120 16 14 1 (vS a13 l4 c13) #[.pointer (qCe true b2),vS a13 l4 c13] g.f1 fun w25 g=>(WO_e (W_sr (qAf 4 [(4,vI (s11.size:Int)),(5,.nilIface)] (qAy (X_rt [4,5] [vI (s11.size:Int),.nilIface] (⟨_,rfl,?_⟩))))))))))))))));refine qAv rfl (qBf ?_);cases i;exact xE (Ku3 _ _ ⟨a13,c13,m17,rfl,(q.t e11).t e12,g.f1.f1.f2,(r2.mono e11).mono e12,(r9.mono e11).mono e12,(r10.mono e11).mono e12,r13⟩)
        ·intro A i;refine qAm (qFr 1 54 9 53 1 (vT x2.2.1) g.h (qAa rfl (qIc 55 9 9 ((.const (vT (⟨#[103,101,110,32,34]⟩:ByteArray)))) 54 i fun s12 i=>(qAa rfl (qIc 56 9 9 55 ((.const (vT bg))) i fun s13 i=>(qAa rfl (qDf 57 72 #[vP b2 0,vT s13] kr rfl (W_cA Tryz.func72 rfl Tryz.ntmps72 (W_sr (qAf 2 [] (W_sr (qAb 1 [(6,vP b2 0)] ?_))))))))))));have g:=g.f1;refine qAa rfl (qDf 7 140 #[vP b2 0] kr rfl ((qAx (c0:=(qCe true b2)) (R:=[vS a8 s6.2 c8]) (qFt true b2 kr) g).mono ?_));rintro _ w26 ⟨m18,rfl,e13,g⟩;refine⟨_,rfl,?_⟩;have g:St m18 (kB b2 #[.pointer (qCe true b2),vS a8 s6.2 c8] 122::kB b5 (V7 x2 a9 c9 a10 c10) 62::kR a8 s6.2 c8 5 1::O) w26:=g;refine WO_e (W_sr (qAb 4 [(8,vP b2 0),(11,vP b2 1)] (qAa rfl (qBo 12 120 11 1 (vS a8 s6.2 c8) g.h (qAb 1 [(13,vT s13)] (qAa rfl (qEx 14 120 9 5 1 12 13 g.f2 (.inr kr) (r8.mono e13) (Gives.str _) i fun l5 i a14 c14 m19 w27 e14 g r14=>(qAb 2 [(16,vP b2 1)] (qAa rfl (qEf 120 16 14 1 (vS a14 l5 c14) #[.pointer (qCe true b2),vS a14 l5 c14] g.f1 fun w28 g=>(WO_e (W_sr (qAf 4 [(4,vI (s13.size:Int)),(5,.nilIface)] (qAy (X_rt [4,5] [vI (s13.size:Int),.nilIface] (⟨_,rfl,?_⟩))))))))))))))));refine qAv rfl (qBf ?_);cases i;exact xE (Ku3 _ _ ⟨a14,c14,m19,rfl,(q.t e13).t e14,g.f1.f1.f2,(r2.mono e13).mono e14,(r9.mono e13).mono e14,(r10.mono e13).mono e14,r14⟩)
    ·intro A i;refine qEo (qAk ?_);cases i;have ho:=hBu2 _ rfl;have g:=g.f1.f1;refine qAk ?_;exact xE (K2_u2 _ _ ⟨s6.2,a8,c8,m10,ho,rfl,q,g,r8⟩)
  intro K0_u1;refine qHd _ kr (qEn (fun k1 L' w'=>∃(s3:T1h),∃a5 c5 m6,qBa (qFo N p0) k1 s3=some out1∧L'=[(1,vP b1 0),(5,vP b2 0),(23,vS a1 p0.2.1 c1),(24,vI (p0.2.1.length:Int)),(25,vI s3.1)]∧m.le m6∧St m6 (kB b2 #[.pointer (qCe true b2),vS a5 s3.2 c5] 122::kR a5 s3.2 c5 5 1::O) w'∧MRow m6 b1 0 (Va p0 a1 c1 a2 c2)∧RepS cStr m6 a1 c1 p0.2.1∧RepS C4 m6 a2 c2 p0.2.2∧RepS cU8 m6 a5 c5 s3.2) N ⟨(0,l1),a3,c3,m4,i,rfl,(((q.t e1).t e2).t e3).t e4,g.f1.f1,(hb1.mono e3).mono e4,(((r1.mono e1).mono e2).mono e3).mono e4,(((r2.mono e1).mono e2).mono e3).mono e4,r3⟩ ?_);rintro k1 _ w8 ⟨s3,a5,c5,m6,hL,rfl,q,g,hb1,r1,r2,r5⟩;rcases k1 with _|k1
  ·exact qBk hL
  ·obtain⟨qu1,i,hSu1,hBu1⟩:=qBm hL;clear hL;unfold qFo at i;refine W_sr (qAf 1 [(26,vB (decide (s3.1<(p0.2.1.length:Int))))] (qAp (W_if i ?_ ?_)))
   ·intro A i;refine qAn (qAh (qAp (qAt (W_sr (qAa rfl (qDn 27 43 9 23 25 r1 i ?_))))));rintro x1 i b3 f1 cs1 rfl hq1;refine qFs 28 9 27 f1 (vT x1) g hq1 (qAf 1 [(7,vT x1)] (qAm (qAb 1 [(29,vT x1)] (qAa rfl (qIc 30 9 9 ((.const (vT (⟨#[105,109,112,111,114,116,32]⟩:ByteArray)))) 29 i fun s4 i=>(qAa rfl (qIc 31 9 9 30 ((.const (vT b1c))) i fun s5 i=>(qAa rfl (qDf 32 72 #[vP b2 0,vT s5] kr rfl (W_cA Tryz.func72 rfl Tryz.ntmps72 (W_sr (qAf 2 [] (W_sr (qAb 1 [(6,vP b2 0)] (qAa rfl (qDf 7 140 #[vP b2 0] kr rfl ((qAx (c0:=(qCe true b2)) (R:=[vS a5 s3.2 c5]) (qFt true b2 kr) g).mono ?_)))))))))))))))));rintro _ w9 ⟨m7,rfl,e5,g⟩;refine⟨_,rfl,?_⟩;have g:St m7 (kB b2 #[.pointer (qCe true b2),vS a5 s3.2 c5] 122::kR a5 s3.2 c5 5 1::O) w9:=g;refine WO_e (W_sr (qAb 4 [(8,vP b2 0),(11,vP b2 1)] (qAa rfl (qBo 12 120 11 1 (vS a5 s3.2 c5) g.h (qAb 1 [(13,vT s5)] (qAa rfl (qEx 14 120 9 5 1 12 13 g.f1 (.inr kr) (r5.mono e5) (Gives.str _) i fun l2 i a6 c6 m8 w10 e6 g r6=>(qAb 2 [(16,vP b2 1)] (qAa rfl (qEf 120 16 14 1 (vS a6 l2 c6) #[.pointer (qCe true b2),vS a6 l2 c6] g.f1 fun w11 g=>(WO_e (W_sr (qAf 4 [(4,vI (s5.size:Int)),(5,.nilIface)] (qAy (X_rt [4,5] [vI (s5.size:Int),.nilIface] (⟨_,rfl,?_⟩))))))))))))))));refine qAv rfl (qBf (qAh (qAm (qAb 2 [(25,vI (wr (s3.1+1)))] (qAv rfl ?_)))))
    obtain rfl:=sI i;have hL:=hSu1 _ rfl;exact xE (qCk k1 (jE _) ⟨(wr (s3.1+1),l2),a6,c6,m8,hL,rfl,(q.t e5).t e6,g.f1.f1,(hb1.mono e5).mono e6,(r1.mono e5).mono e6,(r2.mono e5).mono e6,r6⟩)
   ·intro A i;refine qEo (qAk ?_);cases i;have ho:=hBu1 _ rfl;have g:=g.f1.f1;refine qAk ?_;exact xE (K0_u1 _ _ ⟨s3.2,a5,c5,m6,ho,rfl,q,g,hb1,r1,r2,r5⟩)
def qDv(N:Nat):T8:=
 (qEb N (⟨#[112,97,99,107,97,103,101,32,112,59,32,102,117,110,99,32,102,40,120,41,32,61,32,120,32,43,32,50,32,42,32,51,59]⟩:ByteArray)).bind fun y1=>(qEg N y1.1).bind fun y2=>(if(y1.2.2==0)=true then(if(y2.2==0)=true then(if(y1.2.1==0)=true then(if((List.length y1.1.2.2:Int)==1)=true then((idx y1.1.2.2 0).bind fun x1=>if((List.length x1.2.2.2:Int)==5)=true then((idx y1.1.2.2 0).bind fun x2=>(idx x2.2.2.2 4).bind fun x3=>if(x3.2.2.1==1)=true then(if(y2.1.toList==(⟨#[112,97,99,107,97,103,101,32,112,59,10,102,117,110,99,32,102,40,120,41,32,61,32,120,32,43,32,50,32,42,32,51,59,10]⟩:ByteArray).toList)=true then((qGg N y1.1).bind fun y3=>some (y3==0)) else(some false)) else(some false)) else(some false)) else(some false)) else(some false)) else(some false)) else(some false):T8).bind fun o1=>some o1
theorem qHk{r:Bool}(g:St m (O) w)(i:qDv N=some r):Calls Tryz.prog 20 #[] w fun e w'=>∃m',e= .returned (vB r)∧m.le m'∧St m' (O) w':=by
 unfold qDv at i;have q:=m.le_refl;refine W_cA Tryz.func20 rfl Tryz.ntmps20 ?_;refine W_sr (qAf 1 [] (W_sr (qAz 7 i (fun _ h=>qHq g h) ?_)));rintro y1 i _ w1 ⟨a1,c1,a2,c2,m1,rfl,e1,g,r1,r2⟩;refine qAb 4 [(8,.agg (V9 y1.1 a1 c1 a2 c2)),(9,vI y1.2.1),(10,vI y1.2.2)] (qAa rfl (qDu 1 52 (.agg #[vT eB,v7,v7]) g fun b1 w2 g=>(qAa rfl (qBz 52 1 8 (.agg (V9 y1.1 a1 c1 a2 c2)) g fun w3 g=>(qAf 2 [(2,vI y1.2.1),(3,vI y1.2.2)] (W_sr (qAa rfl (qBo 12 52 1 0 (.agg (V9 y1.1 a1 c1 a2 c2)) g.h (qAz 13 i (fun _ h=>qMj g r1 r2 h) ?_)))))))));rintro y2 i _ w4 ⟨m2,rfl,e2,g⟩;have q:=(q.t e1).t e2;have r1:=r1.mono e2;have r2:=r2.mono e2;refine qAf 5 [(4,vT y2.1),(5,vI y2.2)] (W_sr ?_);have⟨o1,i,J⟩:=qAo i;refine qFf (j:=46) (fun L' w'=>∃m3,L'=[(0,vB o1)]∧m.le m3∧St m3 (kB b1 (V9 y1.1 a1 c1 a2 c2) 52::kR a1 y1.1.2.1 c1 9 1::kR a2 y1.1.2.2 c2 62 4::O) w'∧P4 m3 a1 c1 a2 c2 y1.1.2) ?_ ?_
 ·have i:=J;rintro _ w5 ⟨m3,rfl,q,g,r1,r2⟩;refine WO_e (qAy ?_);obtain rfl:=sI i;exact X_rt [0] [vB o1] ⟨m3,rfl,q,g.t.t.t⟩
 ·intro K;refine qAb 3 [(18,vB (y1.2.2==0))] (qCl 18 i ?_ ?_)
  ·intro A i;refine qAb 4 [(22,vB (y2.2==0))] (qCl 22 i ?_ ?_)
   ·intro A i;refine qAb 4 [(26,vB (y1.2.1==0))] (qCl 26 i ?_ ?_)
    ·intro A i;refine qFr 1 28 50 27 2 (vS a2 y1.1.2.2 c2) g.h (qAb 4 [(32,vB ((y1.1.2.2.length:Int)==1))] (qCl 32 i ?_ ?_))
     ·intro A i;refine qFr 1 34 50 33 2 (vS a2 y1.1.2.2 c2) g.h (qAa rfl (qDn 35 50 62 34 ((.const (vI 0))) r2 i ?_));rintro x1 i b2 f1 cs1 ⟨_,_,rfl,rfl,⟨_,_,rfl,rfl,⟨_,_,rfl,⟨a3,c3,rfl,r3⟩,⟨a4,c4,rfl,r4⟩⟩⟩⟩ hq1;refine qAb 1 [(36,.pointer (some ⟨b2,f1+3,none⟩))] (qAa rfl (qAl (d:=37) (t:=60) (x:=(.tmp 36)) (vS a4 x1.2.2.2 c4) kr rfl (ev (.pointer (some ⟨b2,f1+3,none⟩))) g (hq1.drop 3) kr (qAb 4 [(41,vB ((x1.2.2.2.length:Int)==5))] (qCl 41 i ?_ ?_))))
      ·intro A i;refine qFr 1 43 50 42 2 (vS a2 y1.1.2.2 c2) g.h (qAa rfl (qDn 44 50 62 43 ((.const (vI 0))) r2 i ?_));rintro x2 i b3 f2 cs2 ⟨_,_,rfl,rfl,⟨_,_,rfl,rfl,⟨_,_,rfl,⟨a5,c5,rfl,r5⟩,⟨a6,c6,rfl,r6⟩⟩⟩⟩ hq2;refine qAb 1 [(45,.pointer (some ⟨b3,f2+3,none⟩))] (qAa rfl (qAl (d:=46) (t:=60) (x:=(.tmp 45)) (vS a6 x2.2.2.2 c6) kr rfl (ev (.pointer (some ⟨b3,f2+3,none⟩))) g (hq2.drop 3) kr (qAa rfl (qDn 47 60 117 46 ((.const (vI 4))) r6 i ?_))));rintro x3 i b4 f3 cs3 ⟨_,_,rfl,rfl,⟨_,_,rfl,rfl,⟨_,_,rfl,rfl,⟨_,_,rfl,rfl,⟨a7,c7,rfl,r7⟩⟩⟩⟩⟩ hq3;refine qAb 1 [(48,.pointer (some ⟨b4,f3+2,none⟩))] (qAa rfl (qAl (d:=49) (t:=3) (x:=(.tmp 48)) (vI x3.2.2.1) kr rfl (ev (.pointer (some ⟨b4,f3+2,none⟩))) g (hq3.drop 2) kr (qAb 3 [(52,vB (x3.2.2.1==1))] (qCl 52 i ?_ ?_))))
       ·intro A i;refine qAb 4 [(56,vB (y2.1.toList==(⟨#[112,97,99,107,97,103,101,32,112,59,10,102,117,110,99,32,102,40,120,41,32,61,32,120,32,43,32,50,32,42,32,51,59,10]⟩:ByteArray).toList))] (qCl 56 i ?_ ?_)
        ·intro A i;refine qAa rfl (qBo 57 52 1 0 (.agg (V9 y1.1 a1 c1 a2 c2)) g.h (qAz 58 i (fun _ h=>qMz g r1 r2 h) ?_));rintro y3 i _ w6 ⟨m4,rfl,e3,g⟩;refine qAb 3 [(0,vB (y3==0))] ?_;cases i;exact qAw _ kr (K _ _ ⟨m4,rfl,q.t e3,g.f2.f2.f2,r1.mono e3,r2.mono e3⟩)
        ·intro A i;refine qAb 5 [(0,vB false)] ?_;cases i;exact qAw _ kr (K _ _ ⟨m2,rfl,q,g.f2.f2.f2,r1,r2⟩)
       ·intro A i;refine qAb 9 [(0,vB false)] ?_;cases i;exact qAw _ kr (K _ _ ⟨m2,rfl,q,g.f2.f2.f2,r1,r2⟩)
      ·intro A i;refine qAb 20 [(0,vB false)] ?_;cases i;exact qAw _ kr (K _ _ ⟨m2,rfl,q,g.f2.f2.f2,r1,r2⟩)
     ·intro A i;refine qAb 29 [(0,vB false)] ?_;cases i;exact qAw _ kr (K _ _ ⟨m2,rfl,q,g.f2.f2.f2,r1,r2⟩)
    ·intro A i;refine qAb 35 [(0,vB false)] ?_;cases i;exact qAw _ kr (K _ _ ⟨m2,rfl,q,g.f2.f2.f2,r1,r2⟩)
   ·intro A i;refine qAb 39 [(0,vB false)] ?_;cases i;exact qAw _ kr (K _ _ ⟨m2,rfl,q,g.f2.f2.f2,r1,r2⟩)
  ·intro A i;refine qAb 43 [(0,vB false)] ?_;cases i;exact qAw _ kr (K _ _ ⟨m2,rfl,q,g.f2.f2.f2,r1,r2⟩)
def qFe(N:Nat)(R7:(Int)→T1c)(p0:Int):T1c:=
 if(decide (p0<10))=true then((subB (⟨#[48,49,50,51,52,53,54,55,56,57]⟩:ByteArray) p0 (IntKind.wrap .i64 (p0+1))).bind fun s1=>some s1) else((R7 (IntKind.wrap .i64 (Int.tdiv p0 10))).bind fun y1=>(R7 (Int.tmod p0 10)).bind fun y2=>(catB y1 y2).bind fun s2=>some s2)
def qFd(N:Nat):Nat→((Int)→T1c)
 |0=>(fun _=>none)
 |D+1=>qFe N (qFd N D)
def qFz(N:Nat)(p0:Int):T1c:=(qFd N N) p0
abbrev qMm(F:(Int)→T1c):Prop:=∀{m:Mem} {O:List Piece} {w:World} {p0:Int} {r:ByteArray} (g:St m (O) w) (i:F p0=some r),Calls Tryz.prog 21 #[vI p0] w fun e w'=>∃m',e= .returned (vT r)∧m.le m'∧St m' (O) w'
theorem qLg{R7:(Int)→T1c}(ih_testgatemake_Digits:qMm R7){p0:Int}{r:ByteArray}(g:St m (O) w)(i:qFe N R7 p0=some r):Calls Tryz.prog 21 #[vI p0] w fun e w'=>∃m',e= .returned (vT r)∧m.le m'∧St m' (O) w':=by
 unfold qFe at i;have q:=m.le_refl;refine W_cA Tryz.func21 rfl Tryz.ntmps21 ?_;refine W_sr (qAf 1 [] (qAp (W_sr (qAf 2 [(4,vB (decide (p0<10)))] (W_if i ?_ ?_)))))
 ·intro A i;refine W_sr (qAb 3 [(5,vI p0),(7,vI (wr (p0+1)))] ?_);have⟨s1,d1,i⟩:=qAo i;refine qAa rfl (qFg (d:=8) (t:=9) (x:=(.const (vT bb))) (lo:=(some (.tmp 5))) (hi:=(some (.tmp 7))) kr rfl (ev (vT bb)) kr (.inr ⟨_,_,rfl,(ev (vI p0))⟩) (.inr ⟨_,_,rfl,(ev (vI (wr (p0+1))))⟩) d1 (qAf 1 [(2,vT s1)] (qAy (qAc ?_))));obtain rfl:=sI i;exact X_rt [2] [vT s1] ⟨m,rfl,q,g⟩
 ·intro A i;refine qAn (qAh (W_sr (qAb 2 [(10,vI (wr (Int.tdiv p0 10)))] (qAz 11 i (fun _ h=>ih_testgatemake_Digits g h) ?_))));rintro y1 i _ w1 ⟨m1,rfl,e1,g⟩;refine qAb 2 [(13,vI (Int.tmod p0 10))] (qAz 14 i (fun _ h=>ih_testgatemake_Digits g h) ?_);rintro y2 i _ w2 ⟨m2,rfl,e2,g⟩;refine qAa rfl (qIc 15 9 9 11 14 i fun s2 i=>(qAf 1 [(2,vT s2)] (qAy ?_)));obtain rfl:=sI i;exact X_rt [2] [vT s2] ⟨m2,rfl,(q.t e1).t e2,g⟩
theorem qIq(N:Nat):∀D:Nat,(∀{m:Mem} {O:List Piece} {w:World} {p0:Int} {r:ByteArray} (g:St m (O) w) (i:(qFd N D) p0=some r),Calls Tryz.prog 21 #[vI p0] w fun e w'=>∃m',e= .returned (vT r)∧m.le m'∧St m' (O) w')
 |0=>fun _ i=>(by cases i)
 |D+1=>fun g i=>qLg (qIq N D) g i
theorem qHl{p0:Int}{r:ByteArray}(g:St m (O) w)(i:qFz N p0=some r):Calls Tryz.prog 21 #[vI p0] w fun e w'=>∃m',e= .returned (vT r)∧m.le m'∧St m' (O) w':=
 (qIq N N) g i
def qDj(N:Nat)(p0:Tc)(p1:Tc)(s1:Int):Tn:=
 if(decide (s1<(List.length p0:Int)))=true then((idx p0 s1).bind fun x1=>(idx p1 s1).bind fun x2=>if(!(x1.toList==x2.toList))=true then(some (.inr (.inr (false)))) else(some (.inl (IntKind.wrap .i64 (s1+1))))) else(some (.inr (.inl ())))
def qDh(N:Nat)(p0:Tc)(p1:Tc):T8:=
 if((List.length p0:Int) !=(List.length p1:Int))=true then(some false) else((qBa (qDj N p0 p1) N 0).bind fun out1=>(match out1 with| .inl o1=>some true| .inr (z)=>some z))
theorem qIa{p0:Tc}{p1:Tc}{r:Bool}(g:St m (O) w)(r1:RepS cStr m a1 c1 p0)(r2:RepS cStr m a2 c2 p1)(i:qDh N p0 p1=some r):Calls Tryz.prog 77 #[vS a1 p0 c1,vS a2 p1 c2] w fun e w'=>∃m',e= .returned (vB r)∧m.le m'∧St m' (O) w':=by
 unfold qDh at i;have q:=m.le_refl;refine W_cA Tryz.func77 rfl Tryz.ntmps77 ?_;refine W_sr (qAf 1 [] (qAp (W_sr (qAf 5 [(10,vB ((p0.length:Int) !=(p1.length:Int)))] (W_if i ?_ ?_)))))
 ·intro A i;refine W_sr (qAf 1 [(4,vB false)] (qAy (qAc ?_)));cases i;exact X_rt [4] [vB false] ⟨m,rfl,q,g⟩
 ·intro A i;refine qAn (qAh (qAp (W_sr (qAf 3 [(12,vI (p0.length:Int)),(13,vI 0)] (qAt ?_)))));have⟨out1,i,j1⟩:=qAo i;refine qCr (.exit 0) (fun L' w'=>∃(o1:Unit),∃m1,(.inl o1)=out1∧L'=[]∧m.le m1∧St m1 (O) w') ?_ ?_
  ·rintro _ w1 ⟨o1,m1,rfl,rfl,q,g⟩;have i:=j1;refine qBl (qAh (W_sr (qAf 1 [(4,vB true)] (qAy ?_))));cases i;exact X_rt [4] [vB true] ⟨m1,rfl,q,g⟩
  intro K0_u1;refine qHd _ kr (qEn (fun k1 L' w'=>∃(s1:Int),∃m2,qBa (qDj N p0 p1) k1 s1=some out1∧L'=[(0,vS a1 p0 c1),(1,vS a2 p1 c2),(12,vI (p0.length:Int)),(13,vI s1)]∧m.le m2∧St m2 (O) w'∧RepS cStr m2 a1 c1 p0∧RepS cStr m2 a2 c2 p1) N ⟨0,m,i,rfl,q,g,r1,r2⟩ ?_);rintro k1 _ w2 ⟨s1,m2,hL,rfl,q,g,r1,r2⟩;rcases k1 with _|k1
  ·exact qBk hL
  ·obtain⟨qu1,i,hSu1,hBu1⟩:=qBm hL;clear hL;unfold qDj at i;refine W_sr (qAf 1 [(14,vB (decide (s1<(p0.length:Int))))] (qAp (W_if i ?_ ?_)))
   ·intro A i;refine qAn (qAh (qAp (qAt (W_sr (qAf 2 [(5,vI s1)] (qAp (qFq [(9,fun w'=>Inv m2 w'∧True)] kr g fun w3 _ g=> ?_)))))));have hmS1:=m2.le_refl;refine tA g hmS1 ?_;refine qAs 0 16 (vS a1 p0 c1) (.head _) (qAs 1 17 (vI s1) (.head _) ?_);have⟨x1,d1,i⟩:=qAo i;refine qEe (t:=43) (e:=9) (x:=(.tmp 16)) (y:=(.tmp 17)) 2 18 cStr kr rfl kr (.head _) (qBd (qCm (qBd (qBd (qCm (qBd qFp)))))) (ev (vS a1 p0 c1)) (ev (vI s1)) kr r1 d1 ?_;rintro b1 f1 cs1 rfl hq1;refine qHs 9 18 3 19 f1 (vT x1) (.head _) (fun _ h=>h.1) hq1 (qAs 4 20 (vS a2 p1 c2) (.head _) (qAs 5 21 (vI s1) (.head _) ?_));have⟨x2,d2,i⟩:=qAo i;refine qEe (t:=43) (e:=9) (x:=(.tmp 20)) (y:=(.tmp 21)) 6 22 cStr kr rfl kr (.head _) (qBd (qCm (qBd (qBd (qCm (qBd qFp)))))) (ev (vS a2 p1 c2)) (ev (vI s1)) kr r2 d2 ?_;rintro b2 f2 cs2 rfl hq2;refine qHs 9 22 7 23 f2 (vT x2) (.head _) (fun _ h=>h.1) hq2 (qAs 8 24 (vB (!(x1.toList==x2.toList))) (.head _) (qDa kr (qAh (W_if i ?_ ?_))))
    ·intro A i;refine W_sr (qAf 1 [(4,vB false)] (qAy (qAg (qAc ?_))));cases i;have ho:=hBu1 _ rfl;subst ho;have i:=j1;refine qAc (qAg (qAc ?_));cases i;exact X_rt [4] [vB false] ⟨m2,rfl,q,g⟩
    ·intro A i;refine qAn (qBf (qAh (qAm (qAb 2 [(13,vI (wr (s1+1)))] (qAv rfl ?_)))));obtain rfl:=sI i;have hL:=hSu1 _ rfl;exact xE (qCk k1 (jE _) ⟨wr (s1+1),m2,hL,rfl,q,g,r1,r2⟩)
   ·intro A i;refine qEo (qAk ?_);cases i;have ho:=hBu1 _ rfl;refine qAk ?_;exact xE (K0_u1 _ _ ⟨(),m2,ho,rfl,q,g⟩)
def qCo(N:Nat)(p0:Td)(p1:Td)(s1:Int):Tn:=
 if(decide (s1<(List.length p0.2.2.2.2:Int)))=true then((idx p0.2.2.2.2 s1).bind fun x1=>(idx p1.2.2.2.2 s1).bind fun x2=>if(x1 !=x2)=true then(some (.inr (.inr (false)))) else(some (.inl (IntKind.wrap .i64 (s1+1))))) else(some (.inr (.inl ())))
def qEt(N:Nat)(p0:Td)(p1:Td):T8:=
 (if(p0.1 !=p1.1)=true then(some true) else(if(p0.2.1 !=p1.2.1)=true then(some true) else(if(p0.2.2.1 !=p1.2.2.1)=true then(some true) else(if(!(p0.2.2.2.1.toList==p1.2.2.2.1.toList))=true then(some true) else(some ((List.length p0.2.2.2.2:Int) !=(List.length p1.2.2.2.2:Int)))))):T8).bind fun o1=>if o1=true then(some false) else((qBa (qCo N p0 p1) N 0).bind fun out1=>(match out1 with| .inl o2=>some true| .inr (z)=>some z))
theorem qLc{p0:Td}{p1:Td}{r:Bool}(g:St m (O) w)(r1:RepS (cInt .i64) m a1 c1 p0.2.2.2.2)(r2:RepS (cInt .i64) m a2 c2 p1.2.2.2.2)(i:qEt N p0 p1=some r):Calls Tryz.prog 143 #[.agg (V5 p0 a1 c1),.agg (V5 p1 a2 c2)] w fun e w'=>∃m',e= .returned (vB r)∧m.le m'∧St m' (O) w':=by
 unfold qEt at i;have q:=m.le_refl;refine W_cA Tryz.func143 rfl Tryz.ntmps143 ?_;refine W_sr (qAa rfl (qIe 2 117 0 (.agg (V5 p0 a1 c1)) g fun b1 m1 w1 e1 g hb1=>(qAa rfl (qIe 3 117 1 (.agg (V5 p1 a2 c2)) g fun b2 m2 w2 e2 g hb2=> ?_))));have q:=(q.t e1).t e2;have r1:=(r1.mono e1).mono e2;have r2:=(r2.mono e1).mono e2;have hb1:=hb1.mono e2;refine qAf 1 [] (qAp (W_sr ?_));have⟨o1,i,J⟩:=qAo i;refine qFf (j:=35) (fun L' w'=>∃m3,L'=[(2,vP b1 0),(3,vP b2 0),(40,vB o1)]∧m.le m3∧St m3 (O) w'∧MRow m3 b1 0 (V6 p0 a1 c1)∧RepS (cInt .i64) m3 a1 c1 p0.2.2.2.2∧MRow m3 b2 0 (V6 p1 a2 c2)∧RepS (cInt .i64) m3 a2 c2 p1.2.2.2.2) ?_ ?_
 ·have i:=J;rintro _ w3 ⟨m3,rfl,q,g,hb1,r1,hb2,r2⟩;refine WO_e (W_if i ?_ ?_)
  ·intro A i;refine W_sr (qAf 1 [(4,vB false)] (qAy (qAc ?_)));cases i;exact X_rt [4] [vB false] ⟨m3,rfl,q,g⟩
  ·intro A i;refine qAn (qAh (qAp (W_sr (qAb 1 [(41,vP b1 4)] (qAa rfl (qAl (d:=42) (t:=22) (x:=(.tmp 41)) (vS a1 p0.2.2.2.2 c1) kr rfl (ev (vP b1 4)) g (hb1.drop 4) kr (qAf 2 [(43,vI (p0.2.2.2.2.length:Int)),(44,vI 0)] (qAt ?_))))))));have⟨out1,i,j1⟩:=qAo i;refine qCr (.exit 0) (fun L' w'=>∃(o2:Unit),∃m4,(.inl o2)=out1∧L'=[]∧m.le m4∧St m4 (O) w') ?_ ?_
   ·rintro _ w4 ⟨o2,m4,rfl,rfl,q,g⟩;have i:=j1;refine qBl (qAh (W_sr (qAf 1 [(4,vB true)] (qAy ?_))));cases i;exact X_rt [4] [vB true] ⟨m4,rfl,q,g⟩
   intro K0_u1;refine qHd _ kr (qEn (fun k1 L' w'=>∃(s1:Int),∃m5,qBa (qCo N p0 p1) k1 s1=some out1∧L'=[(2,vP b1 0),(3,vP b2 0),(43,vI (p0.2.2.2.2.length:Int)),(44,vI s1)]∧m.le m5∧St m5 (O) w'∧MRow m5 b1 0 (V6 p0 a1 c1)∧RepS (cInt .i64) m5 a1 c1 p0.2.2.2.2∧MRow m5 b2 0 (V6 p1 a2 c2)∧RepS (cInt .i64) m5 a2 c2 p1.2.2.2.2) N ⟨0,m3,i,rfl,q,g,hb1,r1,hb2,r2⟩ ?_);rintro k1 _ w5 ⟨s1,m5,hL,rfl,q,g,hb1,r1,hb2,r2⟩;rcases k1 with _|k1
   ·exact qBk hL
   ·obtain⟨qu1,i,hSu1,hBu1⟩:=qBm hL;clear hL;unfold qCo at i;refine W_sr (qAf 1 [(45,vB (decide (s1<(p0.2.2.2.2.length:Int))))] (qAp (W_if i ?_ ?_)))
    ·intro A i;refine qAn (qAh (qAp (qAt (W_sr (qAf 2 [(5,vI s1)] (qAp (qFq [(11,fun w'=>Inv m5 w'∧True)] kr g fun w6 _ g=> ?_)))))));have hmS1:=m5.le_refl;refine tA g hmS1 ?_;refine qAs 0 47 (vP b1 4) (.head _) (qHs 22 47 1 48 4 (vS a1 p0.2.2.2.2 c1) (.head _) (fun _ h=>h.1) (hb1.drop 4) (qAs 2 49 (vI s1) (.head _) ?_));have⟨x1,d1,i⟩:=qAo i;refine qEe (t:=22) (e:=3) (x:=(.tmp 48)) (y:=(.tmp 49)) 3 50 (cInt .i64) kr rfl kr (.head _) (qBd (qCm (qBd (qBd (qCm (qBd qFp)))))) (ev (vS a1 p0.2.2.2.2 c1)) (ev (vI s1)) kr r1 d1 ?_;rintro b3 f1 cs1 rfl hq1;refine qHs 3 50 4 51 f1 (vI x1) (.head _) (fun _ h=>h.1) hq1 (qAs 5 52 (vP b2 4) (.head _) (qHs 22 52 6 53 4 (vS a2 p1.2.2.2.2 c2) (.head _) (fun _ h=>h.1) (hb2.drop 4) (qAs 7 54 (vI s1) (.head _) ?_)));have⟨x2,d2,i⟩:=qAo i;refine qEe (t:=22) (e:=3) (x:=(.tmp 53)) (y:=(.tmp 54)) 8 55 (cInt .i64) kr rfl kr (.head _) (qBd (qCm (qBd (qBd (qCm (qBd qFp)))))) (ev (vS a2 p1.2.2.2.2 c2)) (ev (vI s1)) kr r2 d2 ?_;rintro b4 f2 cs2 rfl hq2;refine qHs 3 55 9 56 f2 (vI x2) (.head _) (fun _ h=>h.1) hq2 (qAs 10 57 (vB (x1 !=x2)) (.head _) (qDa kr (qAh (W_if i ?_ ?_))))
     ·intro A i;refine W_sr (qAf 1 [(4,vB false)] (qAy (qAg (qAc ?_))));cases i;have ho:=hBu1 _ rfl;subst ho;have i:=j1;refine qAc (qAg (qAc ?_));cases i;exact X_rt [4] [vB false] ⟨m5,rfl,q,g⟩
     ·intro A i;refine qAn (qBf (qAh (qAm (qAb 2 [(44,vI (wr (s1+1)))] (qAv rfl ?_)))));obtain rfl:=sI i;have hL:=hSu1 _ rfl;exact xE (qCk k1 (jE _) ⟨wr (s1+1),m5,hL,rfl,q,g,hb1,r1,hb2,r2⟩)
    ·intro A i;refine qEo (qAk ?_);cases i;have ho:=hBu1 _ rfl;refine qAk ?_;exact xE (K0_u1 _ _ ⟨(),m5,ho,rfl,q,g⟩)
 ·intro K;refine qAb 1 [(6,vP b1 0)] (qFs 7 3 6 0 (vI p0.1) g hb1 (qAb 1 [(8,vP b2 0)] (qFs 9 3 8 0 (vI p1.1) g hb2 (qAb 2 [(11,vB (p0.1 !=p1.1))] (qCl 11 i ?_ ?_)))))
  ·intro A i;refine qAb 29 [(40,vB true)] ?_;cases i;exact qAw _ kr (K _ _ ⟨m2,rfl,q,g,hb1,r1,hb2,r2⟩)
  ·intro A i;refine qAb 1 [(12,vP b1 1)] (qAa rfl (qAl (d:=13) (t:=3) (x:=(.tmp 12)) (vI p0.2.1) kr rfl (ev (vP b1 1)) g (hb1.drop 1) kr (qAb 1 [(14,vP b2 1)] (qAa rfl (qAl (d:=15) (t:=3) (x:=(.tmp 14)) (vI p1.2.1) kr rfl (ev (vP b2 1)) g (hb2.drop 1) kr (qAb 3 [(18,vB (p0.2.1 !=p1.2.1))] (qCl 18 i ?_ ?_)))))))
   ·intro A i;refine qAb 22 [(40,vB true)] ?_;cases i;exact qAw _ kr (K _ _ ⟨m2,rfl,q,g,hb1,r1,hb2,r2⟩)
   ·intro A i;refine qAb 1 [(19,vP b1 2)] (qAa rfl (qAl (d:=20) (t:=3) (x:=(.tmp 19)) (vI p0.2.2.1) kr rfl (ev (vP b1 2)) g (hb1.drop 2) kr (qAb 1 [(21,vP b2 2)] (qAa rfl (qAl (d:=22) (t:=3) (x:=(.tmp 21)) (vI p1.2.2.1) kr rfl (ev (vP b2 2)) g (hb2.drop 2) kr (qAb 3 [(25,vB (p0.2.2.1 !=p1.2.2.1))] (qCl 25 i ?_ ?_)))))))
    ·intro A i;refine qAb 15 [(40,vB true)] ?_;cases i;exact qAw _ kr (K _ _ ⟨m2,rfl,q,g,hb1,r1,hb2,r2⟩)
    ·intro A i;refine qAb 1 [(26,vP b1 3)] (qAa rfl (qAl (d:=27) (t:=9) (x:=(.tmp 26)) (vT p0.2.2.2.1) kr rfl (ev (vP b1 3)) g (hb1.drop 3) kr (qAb 1 [(28,vP b2 3)] (qAa rfl (qAl (d:=29) (t:=9) (x:=(.tmp 28)) (vT p1.2.2.2.1) kr rfl (ev (vP b2 3)) g (hb2.drop 3) kr (qAb 3 [(32,vB (!(p0.2.2.2.1.toList==p1.2.2.2.1.toList)))] (qCl 32 i ?_ ?_)))))))
     ·intro A i;refine qAb 8 [(40,vB true)] ?_;cases i;exact qAw _ kr (K _ _ ⟨m2,rfl,q,g,hb1,r1,hb2,r2⟩)
     ·intro A i;refine qAb 1 [(33,vP b1 4)] (qAa rfl (qAl (d:=34) (t:=22) (x:=(.tmp 33)) (vS a1 p0.2.2.2.2 c1) kr rfl (ev (vP b1 4)) g (hb1.drop 4) kr (qAb 2 [(35,vI (p0.2.2.2.2.length:Int)),(36,vP b2 4)] (qAa rfl (qAl (d:=37) (t:=22) (x:=(.tmp 36)) (vS a2 p1.2.2.2.2 c2) kr rfl (ev (vP b2 4)) g (hb2.drop 4) kr (qAb 3 [(40,vB ((p0.2.2.2.2.length:Int) !=(p1.2.2.2.2.length:Int)))] ?_))))));cases i;exact qAw _ kr (K _ _ ⟨m2,rfl,q,g,hb1,r1,hb2,r2⟩)
end
section
open Go Go.Dc
set_option maxHeartbeats 4000000
set_option maxRecDepth 100000
variable {N c1 c2 c3 c4:Nat} {m:Mem} {O:List Piece} {w:World} {a1 a2 a3 a4:Option Addr}
def qCp(N:Nat)(p0:T11)(p1:T11)(s1:Int):Tn:=
 if(decide (s1<(List.length p0.2.2.2:Int)))=true then((idx p0.2.2.2 s1).bind fun x1=>(idx p1.2.2.2 s1).bind fun x2=>(qEt N x1 x2).bind fun y2=>if(!y2)=true then(some (.inr (.inr (false)))) else(some (.inl (IntKind.wrap .i64 (s1+1))))) else(some (.inr (.inl ())))
def qEu(N:Nat)(p0:T11)(p1:T11):T8:=
 (if(p0.1 !=p1.1)=true then(some true) else(if(!(p0.2.1.toList==p1.2.1.toList))=true then(some true) else((qDh N p0.2.2.1 p1.2.2.1).bind fun y1=>if(!y1)=true then(some true) else(some ((List.length p0.2.2.2:Int) !=(List.length p1.2.2.2:Int))))):T8).bind fun o1=>if o1=true then(some false) else((qBa (qCp N p0 p1) N 0).bind fun out1=>(match out1 with| .inl o2=>some true| .inr (z)=>some z))
theorem qLa{p0:T11}{p1:T11}{r:Bool}(g:St m (O) w)(r1:RepS cStr m a1 c1 p0.2.2.1)(r2:RepS C3 m a2 c2 p0.2.2.2)(r3:RepS cStr m a3 c3 p1.2.2.1)(r4:RepS C3 m a4 c4 p1.2.2.2)(i:qEu N p0 p1=some r):Calls Tryz.prog 78 #[.agg (V7 p0 a1 c1 a2 c2),.agg (V7 p1 a3 c3 a4 c4)] w fun e w'=>∃m',e= .returned (vB r)∧m.le m'∧St m' (O) w':=by
 unfold qEu at i;have q:=m.le_refl;refine W_cA Tryz.func78 rfl Tryz.ntmps78 ?_;refine W_sr (qAa rfl (qIe 2 62 0 (.agg (V7 p0 a1 c1 a2 c2)) g fun b1 m1 w1 e1 g hb1=>(qAa rfl (qIe 3 62 1 (.agg (V7 p1 a3 c3 a4 c4)) g fun b2 m2 w2 e2 g hb2=> ?_))));have q:=(q.t e1).t e2;have r1:=(r1.mono e1).mono e2;have r2:=(r2.mono e1).mono e2;have r3:=(r3.mono e1).mono e2;have r4:=(r4.mono e1).mono e2;have hb1:=hb1.mono e2;refine qAf 1 [] (qAp (W_sr ?_));have⟨o1,i,J⟩:=qAo i;refine qFf (j:=29) (fun L' w'=>∃m3,L'=[(2,vP b1 0),(3,vP b2 0),(34,vB o1)]∧m.le m3∧St m3 (O) w'∧MRow m3 b1 0 (V8 p0 a1 c1 a2 c2)∧RepS cStr m3 a1 c1 p0.2.2.1∧RepS C3 m3 a2 c2 p0.2.2.2∧MRow m3 b2 0 (V8 p1 a3 c3 a4 c4)∧P5 m3 a3 c3 a4 c4 p1.2.2) ?_ ?_
 ·have i:=J;rintro _ w3 ⟨m3,rfl,q,g,hb1,r1,r2,hb2,r3,r4⟩;refine WO_e (W_if i ?_ ?_)
  ·intro A i;refine W_sr (qAf 1 [(4,vB false)] (qAy (qAc ?_)));cases i;exact X_rt [4] [vB false] ⟨m3,rfl,q,g⟩
  ·intro A i;refine qAn (qAh (qAp (W_sr (qAb 1 [(35,vP b1 3)] (qAa rfl (qAl (d:=36) (t:=60) (x:=(.tmp 35)) (vS a2 p0.2.2.2 c2) kr rfl (ev (vP b1 3)) g (hb1.drop 3) kr (qAf 2 [(37,vI (p0.2.2.2.length:Int)),(38,vI 0)] (qAt ?_))))))));have⟨out1,i,j1⟩:=qAo i;refine qCr (.exit 0) (fun L' w'=>∃(o2:Unit),∃m5,(.inl o2)=out1∧L'=[]∧m.le m5∧St m5 (O) w') ?_ ?_
   ·rintro _ w5 ⟨o2,m5,rfl,rfl,q,g⟩;have i:=j1;refine qBl (qAh (W_sr (qAf 1 [(4,vB true)] (qAy ?_))));cases i;exact X_rt [4] [vB true] ⟨m5,rfl,q,g⟩
   intro K0_u1;refine qHd _ kr (qEn (fun k1 L' w'=>∃(s1:Int),∃m6,qBa (qCp N p0 p1) k1 s1=some out1∧L'=[(2,vP b1 0),(3,vP b2 0),(37,vI (p0.2.2.2.length:Int)),(38,vI s1)]∧m.le m6∧St m6 (O) w'∧MRow m6 b1 0 (V8 p0 a1 c1 a2 c2)∧RepS cStr m6 a1 c1 p0.2.2.1∧RepS C3 m6 a2 c2 p0.2.2.2∧MRow m6 b2 0 (V8 p1 a3 c3 a4 c4)∧P5 m6 a3 c3 a4 c4 p1.2.2) N ⟨0,m3,i,rfl,q,g,hb1,r1,r2,hb2,r3,r4⟩ ?_);rintro k1 _ w6 ⟨s1,m6,hL,rfl,q,g,hb1,r1,r2,hb2,r3,r4⟩;rcases k1 with _|k1
   ·exact qBk hL
   ·obtain⟨qu1,i,hSu1,hBu1⟩:=qBm hL;clear hL;unfold qCp at i;refine W_sr (qAf 1 [(39,vB (decide (s1<(p0.2.2.2.length:Int))))] (qAp (W_if i ?_ ?_)))
    ·intro A i;refine qAn (qAh (qAp (qAt (W_sr (qAf 2 [(5,vI s1)] (qAp (qFq [(12,fun w'=>Inv m6 w'∧True)] kr g fun w7 _ g=> ?_)))))));have hmS1:=m6.le_refl;refine tA g hmS1 ?_;refine qAs 0 41 (vP b1 3) (.head _) (qHs 60 41 1 42 3 (vS a2 p0.2.2.2 c2) (.head _) (fun _ h=>h.1) (hb1.drop 3) (qAs 2 43 (vI s1) (.head _) ?_));have⟨x1,d2,i⟩:=qAo i;refine qEe (t:=60) (e:=117) (x:=(.tmp 42)) (y:=(.tmp 43)) 3 44 C3 kr rfl kr (.head _) (qBd (qCm (qBd (qBd (qCm (qBd qFp)))))) (ev (vS a2 p0.2.2.2 c2)) (ev (vI s1)) kr r2 d2 ?_;rintro b3 f1 cs1 ⟨_,_,rfl,rfl,⟨_,_,rfl,rfl,⟨_,_,rfl,rfl,⟨_,_,rfl,rfl,⟨a5,c5,rfl,r5⟩⟩⟩⟩⟩ hq1;refine qHs 117 44 4 45 f1 (.agg (V5 x1 a5 c5)) (.head _) (fun _ h=>h.1) hq1 (qAs 5 46 (vP b2 3) (.head _) (qHs 60 46 6 47 3 (vS a4 p1.2.2.2 c4) (.head _) (fun _ h=>h.1) (hb2.drop 3) (qAs 7 48 (vI s1) (.head _) ?_)));have⟨x2,d3,i⟩:=qAo i;refine qEe (t:=60) (e:=117) (x:=(.tmp 47)) (y:=(.tmp 48)) 8 49 C3 kr rfl kr (.head _) (qBd (qCm (qBd (qBd (qCm (qBd qFp)))))) (ev (vS a4 p1.2.2.2 c4)) (ev (vI s1)) kr r4 d3 ?_;rintro b4 f2 cs2 ⟨_,_,rfl,rfl,⟨_,_,rfl,rfl,⟨_,_,rfl,rfl,⟨_,_,rfl,rfl,⟨a6,c6,rfl,r6⟩⟩⟩⟩⟩ hq2;refine qHs 117 49 9 50 f2 (.agg (V5 x2 a6 c6)) (.head _) (fun _ h=>h.1) hq2 (qCw 10 kr (qKx 51 i (fun _ h=>qLc g r5 r6 h) ?_));rintro y2 i _ w8 ⟨m7,rfl,e4,g⟩
     refine⟨_,rfl,?_⟩;have hmS1:=Mem.le_trans hmS1 e4;refine tA g hmS1 ?_;refine qAs 11 52 (vB (!y2)) (.head _) (qDa kr (qAh (W_if i ?_ ?_)))
     ·intro A i;refine W_sr (qAf 1 [(4,vB false)] (qAy (qAg (qAc ?_))));cases i;have ho:=hBu1 _ rfl;subst ho;have i:=j1;refine qAc (qAg (qAc ?_));cases i;exact X_rt [4] [vB false] ⟨m7,rfl,q.t e4,g⟩
     ·intro A i;refine qAn (qBf (qAh (qAm (qAb 2 [(38,vI (wr (s1+1)))] (qAv rfl ?_)))));obtain rfl:=sI i;have hL:=hSu1 _ rfl;exact xE (qCk k1 (jE _) ⟨wr (s1+1),m7,hL,rfl,q.t e4,g,hb1.mono e4,r1.mono e4,r2.mono e4,hb2.mono e4,r3.mono e4,r4.mono e4⟩)
    ·intro A i;refine qEo (qAk ?_);cases i;have ho:=hBu1 _ rfl;refine qAk ?_;exact xE (K0_u1 _ _ ⟨(),m6,ho,rfl,q,g⟩)
 ·intro K;refine qAb 1 [(6,vP b1 0)] (qFs 7 3 6 0 (vI p0.1) g hb1 (qAb 1 [(8,vP b2 0)] (qFs 9 3 8 0 (vI p1.1) g hb2 (qAb 2 [(11,vB (p0.1 !=p1.1))] (qCl 11 i ?_ ?_)))))
  ·intro A i;refine qAb 23 [(34,vB true)] ?_;cases i;exact qAw _ kr (K _ _ ⟨m2,rfl,q,g,hb1,r1,r2,hb2,r3,r4⟩)
  ·intro A i;refine qAb 1 [(12,vP b1 1)] (qAa rfl (qAl (d:=13) (t:=9) (x:=(.tmp 12)) (vT p0.2.1) kr rfl (ev (vP b1 1)) g (hb1.drop 1) kr (qAb 1 [(14,vP b2 1)] (qAa rfl (qAl (d:=15) (t:=9) (x:=(.tmp 14)) (vT p1.2.1) kr rfl (ev (vP b2 1)) g (hb2.drop 1) kr (qAb 3 [(18,vB (!(p0.2.1.toList==p1.2.1.toList)))] (qCl 18 i ?_ ?_)))))))
   ·intro A i;refine qAb 16 [(34,vB true)] ?_;cases i;exact qAw _ kr (K _ _ ⟨m2,rfl,q,g,hb1,r1,r2,hb2,r3,r4⟩)
   ·intro A i;refine qAb 1 [(19,vP b1 2)] (qAa rfl (qAl (d:=20) (t:=43) (x:=(.tmp 19)) (vS a1 p0.2.2.1 c1) kr rfl (ev (vP b1 2)) g (hb1.drop 2) kr (qAb 1 [(21,vP b2 2)] (qAa rfl (qAl (d:=22) (t:=43) (x:=(.tmp 21)) (vS a3 p1.2.2.1 c3) kr rfl (ev (vP b2 2)) g (hb2.drop 2) kr (qAz 23 i (fun _ h=>qIa g r1 r3 h) ?_))))));rintro y1 i _ w4 ⟨m4,rfl,e3,g⟩;have hb1:=hb1.mono e3;have hb2:=hb2.mono e3;refine qAb 3 [(26,vB (!y1))] (qCl 26 i ?_ ?_)
    ·intro A i;refine qAb 8 [(34,vB true)] ?_;cases i;exact qAw _ kr (K _ _ ⟨m4,rfl,q.t e3,g,hb1,r1.mono e3,r2.mono e3,hb2,r3.mono e3,r4.mono e3⟩)
    ·intro A i;refine qAb 1 [(27,vP b1 3)] (qAa rfl (qAl (d:=28) (t:=60) (x:=(.tmp 27)) (vS a2 p0.2.2.2 c2) kr rfl (ev (vP b1 3)) g (hb1.drop 3) kr (qAb 2 [(29,vI (p0.2.2.2.length:Int)),(30,vP b2 3)] (qAa rfl (qAl (d:=31) (t:=60) (x:=(.tmp 30)) (vS a4 p1.2.2.2 c4) kr rfl (ev (vP b2 3)) g (hb2.drop 3) kr (qAb 3 [(34,vB ((p0.2.2.2.length:Int) !=(p1.2.2.2.length:Int)))] ?_))))));cases i;exact qAw _ kr (K _ _ ⟨m4,rfl,q.t e3,g,hb1,r1.mono e3,r2.mono e3,hb2,r3.mono e3,r4.mono e3⟩)
def qEc(N:Nat)(p0:T17)(p1:T17)(s1:Int):Tn:=
 if(decide (s1<(List.length p0.2.2:Int)))=true then((idx p0.2.2 s1).bind fun x1=>(idx p1.2.2 s1).bind fun x2=>(qEu N x1 x2).bind fun y2=>if(!y2)=true then(some (.inr (.inr (false)))) else(some (.inl (IntKind.wrap .i64 (s1+1))))) else(some (.inr (.inl ())))
def qFl(N:Nat)(p0:T17)(p1:T17):T8:=
 (if(!(p0.1.toList==p1.1.toList))=true then(some true) else((qDh N p0.2.1 p1.2.1).bind fun y1=>if(!y1)=true then(some true) else(some ((List.length p0.2.2:Int) !=(List.length p1.2.2:Int)))):T8).bind fun o1=>if o1=true then(some false) else((qBa (qEc N p0 p1) N 0).bind fun out1=>(match out1 with| .inl o2=>some true| .inr (z)=>some z))
theorem qNk{p0:T17}{p1:T17}{r:Bool}(g:St m (O) w)(r1:RepS cStr m a1 c1 p0.2.1)(r2:RepS C4 m a2 c2 p0.2.2)(r3:RepS cStr m a3 c3 p1.2.1)(r4:RepS C4 m a4 c4 p1.2.2)(i:qFl N p0 p1=some r):Calls Tryz.prog 23 #[.agg (V9 p0 a1 c1 a2 c2),.agg (V9 p1 a3 c3 a4 c4)] w fun e w'=>∃m',e= .returned (vB r)∧m.le m'∧St m' (O) w':=by
 unfold qFl at i;have q:=m.le_refl;refine W_cA Tryz.func23 rfl Tryz.ntmps23 ?_;refine W_sr (qAa rfl (qIe 2 52 0 (.agg (V9 p0 a1 c1 a2 c2)) g fun b1 m1 w1 e1 g hb1=>(qAa rfl (qIe 3 52 1 (.agg (V9 p1 a3 c3 a4 c4)) g fun b2 m2 w2 e2 g hb2=> ?_))));have q:=(q.t e1).t e2;have r1:=(r1.mono e1).mono e2;have r2:=(r2.mono e1).mono e2;have r3:=(r3.mono e1).mono e2;have r4:=(r4.mono e1).mono e2;have hb1:=hb1.mono e2;refine qAf 1 [] (qAp (W_sr ?_));have⟨o1,i,J⟩:=qAo i;refine qFf (j:=22) (fun L' w'=>∃m3,L'=[(2,vP b1 0),(3,vP b2 0),(27,vB o1)]∧m.le m3∧St m3 (O) w'∧MRow m3 b1 0 (Va p0 a1 c1 a2 c2)∧RepS cStr m3 a1 c1 p0.2.1∧RepS C4 m3 a2 c2 p0.2.2∧MRow m3 b2 0 (Va p1 a3 c3 a4 c4)∧P4 m3 a3 c3 a4 c4 p1.2) ?_ ?_
 ·have i:=J;rintro _ w3 ⟨m3,rfl,q,g,hb1,r1,r2,hb2,r3,r4⟩;refine WO_e (W_if i ?_ ?_)
  ·intro A i;refine W_sr (qAf 1 [(4,vB false)] (qAy (qAc ?_)));cases i;exact X_rt [4] [vB false] ⟨m3,rfl,q,g⟩
  ·intro A i;refine qAn (qAh (qAp (W_sr (qAb 1 [(28,vP b1 2)] (qAa rfl (qAl (d:=29) (t:=50) (x:=(.tmp 28)) (vS a2 p0.2.2 c2) kr rfl (ev (vP b1 2)) g (hb1.drop 2) kr (qAf 2 [(30,vI (p0.2.2.length:Int)),(31,vI 0)] (qAt ?_))))))));have⟨out1,i,j1⟩:=qAo i;refine qCr (.exit 0) (fun L' w'=>∃(o2:Unit),∃m5,(.inl o2)=out1∧L'=[]∧m.le m5∧St m5 (O) w') ?_ ?_
   ·rintro _ w5 ⟨o2,m5,rfl,rfl,q,g⟩;have i:=j1;refine qBl (qAh (W_sr (qAf 1 [(4,vB true)] (qAy ?_))));cases i;exact X_rt [4] [vB true] ⟨m5,rfl,q,g⟩
   intro K0_u1;refine qHd _ kr (qEn (fun k1 L' w'=>∃(s1:Int),∃m6,qBa (qEc N p0 p1) k1 s1=some out1∧L'=[(2,vP b1 0),(3,vP b2 0),(30,vI (p0.2.2.length:Int)),(31,vI s1)]∧m.le m6∧St m6 (O) w'∧MRow m6 b1 0 (Va p0 a1 c1 a2 c2)∧RepS cStr m6 a1 c1 p0.2.1∧RepS C4 m6 a2 c2 p0.2.2∧MRow m6 b2 0 (Va p1 a3 c3 a4 c4)∧P4 m6 a3 c3 a4 c4 p1.2) N ⟨0,m3,i,rfl,q,g,hb1,r1,r2,hb2,r3,r4⟩ ?_);rintro k1 _ w6 ⟨s1,m6,hL,rfl,q,g,hb1,r1,r2,hb2,r3,r4⟩;rcases k1 with _|k1
   ·exact qBk hL
   ·obtain⟨qu1,i,hSu1,hBu1⟩:=qBm hL;clear hL;unfold qEc at i;refine W_sr (qAf 1 [(32,vB (decide (s1<(p0.2.2.length:Int))))] (qAp (W_if i ?_ ?_)))
    ·intro A i;refine qAn (qAh (qAp (qAt (W_sr (qAf 2 [(5,vI s1)] (qAp (qFq [(12,fun w'=>Inv m6 w'∧True)] kr g fun w7 _ g=> ?_)))))));have hmS1:=m6.le_refl;refine tA g hmS1 ?_;refine qAs 0 34 (vP b1 2) (.head _) (qHs 50 34 1 35 2 (vS a2 p0.2.2 c2) (.head _) (fun _ h=>h.1) (hb1.drop 2) (qAs 2 36 (vI s1) (.head _) ?_));have⟨x1,d2,i⟩:=qAo i;refine qEe (t:=50) (e:=62) (x:=(.tmp 35)) (y:=(.tmp 36)) 3 37 C4 kr rfl kr (.head _) (qBd (qCm (qBd (qBd (qCm (qBd qFp)))))) (ev (vS a2 p0.2.2 c2)) (ev (vI s1)) kr r2 d2 ?_;rintro b3 f1 cs1 ⟨_,_,rfl,rfl,⟨_,_,rfl,rfl,⟨_,_,rfl,⟨a5,c5,rfl,r5⟩,⟨a6,c6,rfl,r6⟩⟩⟩⟩ hq1;refine qHs 62 37 4 38 f1 (.agg (V7 x1 a5 c5 a6 c6)) (.head _) (fun _ h=>h.1) hq1 (qAs 5 39 (vP b2 2) (.head _) (qHs 50 39 6 40 2 (vS a4 p1.2.2 c4) (.head _) (fun _ h=>h.1) (hb2.drop 2) (qAs 7 41 (vI s1) (.head _) ?_)));have⟨x2,d3,i⟩:=qAo i;refine qEe (t:=50) (e:=62) (x:=(.tmp 40)) (y:=(.tmp 41)) 8 42 C4 kr rfl kr (.head _) (qBd (qCm (qBd (qBd (qCm (qBd qFp)))))) (ev (vS a4 p1.2.2 c4)) (ev (vI s1)) kr r4 d3 ?_;rintro b4 f2 cs2 ⟨_,_,rfl,rfl,⟨_,_,rfl,rfl,⟨_,_,rfl,⟨a7,c7,rfl,r7⟩,⟨a8,c8,rfl,r8⟩⟩⟩⟩ hq2;refine qHs 62 42 9 43 f2 (.agg (V7 x2 a7 c7 a8 c8)) (.head _) (fun _ h=>h.1) hq2 (qCw 10 kr (qKx 44 i (fun _ h=>qLa g r5 r6 r7 r8 h) ?_));rintro y2 i _ w8 ⟨m7,rfl,e4,g⟩
     refine⟨_,rfl,?_⟩;have hmS1:=Mem.le_trans hmS1 e4;refine tA g hmS1 ?_;refine qAs 11 45 (vB (!y2)) (.head _) (qDa kr (qAh (W_if i ?_ ?_)))
     ·intro A i;refine W_sr (qAf 1 [(4,vB false)] (qAy (qAg (qAc ?_))));cases i;have ho:=hBu1 _ rfl;subst ho;have i:=j1;refine qAc (qAg (qAc ?_));cases i;exact X_rt [4] [vB false] ⟨m7,rfl,q.t e4,g⟩
     ·intro A i;refine qAn (qBf (qAh (qAm (qAb 2 [(31,vI (wr (s1+1)))] (qAv rfl ?_)))));obtain rfl:=sI i;have hL:=hSu1 _ rfl;exact xE (qCk k1 (jE _) ⟨wr (s1+1),m7,hL,rfl,q.t e4,g,hb1.mono e4,r1.mono e4,r2.mono e4,hb2.mono e4,r3.mono e4,r4.mono e4⟩)
    ·intro A i;refine qEo (qAk ?_);cases i;have ho:=hBu1 _ rfl;refine qAk ?_;exact xE (K0_u1 _ _ ⟨(),m6,ho,rfl,q,g⟩)
 ·intro K;refine qAb 1 [(6,vP b1 0)] (qFs 7 9 6 0 (vT p0.1) g hb1 (qAb 1 [(8,vP b2 0)] (qFs 9 9 8 0 (vT p1.1) g hb2 (qAb 2 [(11,vB (!(p0.1.toList==p1.1.toList)))] (qCl 11 i ?_ ?_)))))
  ·intro A i;refine qAb 16 [(27,vB true)] ?_;cases i;exact qAw _ kr (K _ _ ⟨m2,rfl,q,g,hb1,r1,r2,hb2,r3,r4⟩)
  ·intro A i;refine qAb 1 [(12,vP b1 1)] (qAa rfl (qAl (d:=13) (t:=43) (x:=(.tmp 12)) (vS a1 p0.2.1 c1) kr rfl (ev (vP b1 1)) g (hb1.drop 1) kr (qAb 1 [(14,vP b2 1)] (qAa rfl (qAl (d:=15) (t:=43) (x:=(.tmp 14)) (vS a3 p1.2.1 c3) kr rfl (ev (vP b2 1)) g (hb2.drop 1) kr (qAz 16 i (fun _ h=>qIa g r1 r3 h) ?_))))));rintro y1 i _ w4 ⟨m4,rfl,e3,g⟩;have hb1:=hb1.mono e3;have hb2:=hb2.mono e3;refine qAb 3 [(19,vB (!y1))] (qCl 19 i ?_ ?_)
   ·intro A i;refine qAb 8 [(27,vB true)] ?_;cases i;exact qAw _ kr (K _ _ ⟨m4,rfl,q.t e3,g,hb1,r1.mono e3,r2.mono e3,hb2,r3.mono e3,r4.mono e3⟩)
   ·intro A i;refine qAb 1 [(20,vP b1 2)] (qAa rfl (qAl (d:=21) (t:=50) (x:=(.tmp 20)) (vS a2 p0.2.2 c2) kr rfl (ev (vP b1 2)) g (hb1.drop 2) kr (qAb 2 [(22,vI (p0.2.2.length:Int)),(23,vP b2 2)] (qAa rfl (qAl (d:=24) (t:=50) (x:=(.tmp 23)) (vS a4 p1.2.2 c4) kr rfl (ev (vP b2 2)) g (hb2.drop 2) kr (qAb 3 [(27,vB ((p0.2.2.length:Int) !=(p1.2.2.length:Int)))] ?_))))));cases i;exact qAw _ kr (K _ _ ⟨m4,rfl,q.t e3,g,hb1,r1.mono e3,r2.mono e3,hb2,r3.mono e3,r4.mono e3⟩)
def qDk(N:Nat)(p0:Int)(p1:Int)(p2:Int)(p3:Int)(p4:Int):T8:=
 ((idx ([(2:Int),2,3,3,3,1,1]) (IntKind.wrap .i64 (Int.tmod p0 7))).bind fun x1=>if(x1==1)=true then((idx ([(2:Int),2,3,3,3,1,1]) (IntKind.wrap .i64 (Int.tmod p1 7))).bind fun x2=>some (x2==1)) else(some false):T8).bind fun o1=>if o1=true then((idx ([(⟨#[43]⟩:ByteArray),(⟨#[45]⟩:ByteArray),(⟨#[42]⟩:ByteArray),(⟨#[47]⟩:ByteArray),(⟨#[37]⟩:ByteArray),(⟨#[60]⟩:ByteArray),(⟨#[61,61]⟩:ByteArray)]) (IntKind.wrap .i64 (Int.tmod p0 7))).bind fun x3=>(catB (⟨#[112,97,99,107,97,103,101,32,112,59,32,116,101,115,116,32,116,32,61,32,49,32]⟩:ByteArray) x3).bind fun s1=>(catB s1 (⟨#[32,50,32]⟩:ByteArray)).bind fun s2=>(idx ([(⟨#[43]⟩:ByteArray),(⟨#[45]⟩:ByteArray),(⟨#[42]⟩:ByteArray),(⟨#[47]⟩:ByteArray),(⟨#[37]⟩:ByteArray),(⟨#[60]⟩:ByteArray),(⟨#[61,61]⟩:ByteArray)]) (IntKind.wrap .i64 (Int.tmod p1 7))).bind fun x4=>(catB s2 x4).bind fun s3=>(catB s3 (⟨#[32,51,59]⟩:ByteArray)).bind fun s4=>(qEb N s4).bind fun y1=>(if(y1.2.2==9)=true then((qDv N).bind fun y2=>some y2) else(some false):T8).bind fun o2=>some o2) else((qFz N (IntKind.wrap .i64 p2)).bind fun y3=>(qFz N (IntKind.wrap .i64 p3)).bind fun y4=>(qFz N (IntKind.wrap .i64 p4)).bind fun y5=>(catB y3 (⟨#[32]⟩:ByteArray)).bind fun s5=>(idx ([(⟨#[43]⟩:ByteArray),(⟨#[45]⟩:ByteArray),(⟨#[42]⟩:ByteArray),(⟨#[47]⟩:ByteArray),(⟨#[37]⟩:ByteArray),(⟨#[60]⟩:ByteArray),(⟨#[61,61]⟩:ByteArray)]) (IntKind.wrap .i64 (Int.tmod p0 7))).bind fun x5=>(catB s5 x5).bind fun s6=>(catB s6 (⟨#[32]⟩:ByteArray)).bind fun s7=>(catB s7 y4).bind fun s8=>(catB s8 (⟨#[32]⟩:ByteArray)).bind fun s9=>(idx ([(⟨#[43]⟩:ByteArray),(⟨#[45]⟩:ByteArray),(⟨#[42]⟩:ByteArray),(⟨#[47]⟩:ByteArray),(⟨#[37]⟩:ByteArray),(⟨#[60]⟩:ByteArray),(⟨#[61,61]⟩:ByteArray)]) (IntKind.wrap .i64 (Int.tmod p1 7))).bind fun x6=>(catB s9 x6).bind fun s10=>(catB s10 (⟨#[32]⟩:ByteArray)).bind fun s11=>(catB s11 y5).bind fun s12=>(catB (⟨#[40]⟩:ByteArray) y3).bind fun s13=>(idx ([(⟨#[43]⟩:ByteArray),(⟨#[45]⟩:ByteArray),(⟨#[42]⟩:ByteArray),(⟨#[47]⟩:ByteArray),(⟨#[37]⟩:ByteArray),(⟨#[60]⟩:ByteArray),(⟨#[61,61]⟩:ByteArray)]) (IntKind.wrap .i64 (Int.tmod p0 7))).bind fun x7=>(catB s13 x7).bind fun s14=>(catB s14 y4).bind fun s15=>(catB s15 (⟨#[41]⟩:ByteArray)).bind fun s16=>(idx ([(⟨#[43]⟩:ByteArray),(⟨#[45]⟩:ByteArray),(⟨#[42]⟩:ByteArray),(⟨#[47]⟩:ByteArray),(⟨#[37]⟩:ByteArray),(⟨#[60]⟩:ByteArray),(⟨#[61,61]⟩:ByteArray)]) (IntKind.wrap .i64 (Int.tmod p1 7))).bind fun x8=>(catB s16 x8).bind fun s17=>(catB s17 y5).bind fun s18=>(idx ([(2:Int),2,3,3,3,1,1]) (IntKind.wrap .i64 (Int.tmod p1 7))).bind fun x9=>(idx ([(2:Int),2,3,3,3,1,1]) (IntKind.wrap .i64 (Int.tmod p0 7))).bind fun x10=>(if(decide (x9>x10))=true then((idx ([(⟨#[43]⟩:ByteArray),(⟨#[45]⟩:ByteArray),(⟨#[42]⟩:ByteArray),(⟨#[47]⟩:ByteArray),(⟨#[37]⟩:ByteArray),(⟨#[60]⟩:ByteArray),(⟨#[61,61]⟩:ByteArray)]) (IntKind.wrap .i64 (Int.tmod p0 7))).bind fun x11=>(catB y3 x11).bind fun s19=>(catB s19 (⟨#[40]⟩:ByteArray)).bind fun s20=>(catB s20 y4).bind fun s21=>(idx ([(⟨#[43]⟩:ByteArray),(⟨#[45]⟩:ByteArray),(⟨#[42]⟩:ByteArray),(⟨#[47]⟩:ByteArray),(⟨#[37]⟩:ByteArray),(⟨#[60]⟩:ByteArray),(⟨#[61,61]⟩:ByteArray)]) (IntKind.wrap .i64 (Int.tmod p1 7))).bind fun x12=>(catB s21 x12).bind fun s22=>(catB s22 y5).bind fun s23=>(catB s23 (⟨#[41]⟩:ByteArray)).bind fun s24=>some s24) else(some s18):T1c).bind fun o3=>(catB (⟨#[112,97,99,107,97,103,101,32,112,59,32,116,101,115,116,32,116,32,61,32]⟩:ByteArray) s12).bind fun s25=>(catB s25 (⟨#[59]⟩:ByteArray)).bind fun s26=>(qEb N s26).bind fun y6=>(catB (⟨#[112,97,99,107,97,103,101,32,112,59,32,116,101,115,116,32,116,32,61,32,40,40]⟩:ByteArray) o3).bind fun s27=>(catB s27 (⟨#[41,41,59]⟩:ByteArray)).bind fun s28=>(qEb N s28).bind fun y7=>(qEg N y7.1).bind fun y8=>(if(y6.2.2==0)=true then(if(y7.2.2==0)=true then(if(y8.2==0)=true then((qFl N y6.1 y7.1).bind fun y9=>if y9=true then((catB (⟨#[112,97,99,107,97,103,101,32,112,59,10,116,101,115,116,32,116,32,61,32]⟩:ByteArray) s12).bind fun s29=>(catB s29 (⟨#[59,10]⟩:ByteArray)).bind fun s30=>if(y8.1.toList==s30.toList)=true then((qDv N).bind fun y10=>some y10) else(some false)) else(some false)) else(some false)) else(some false)) else(some false):T8).bind fun o4=>some o4)
theorem qJv{p0:Int}{p1:Int}{p2:Int}{p3:Int}{p4:Int}{r:Bool}(g:St m (O) w)(i:qDk N p0 p1 p2 p3 p4=some r):Calls Tryz.prog 4 #[.int .u8 p0,.int .u8 p1,.int .u16 p2,.int .u16 p3,.int .u16 p4] w fun e w'=>∃m',e= .returned (vB r)∧m.le m'∧St m' (O) w':=by
 unfold qDk at i;have q:=m.le_refl;refine W_cA Tryz.func4 rfl Tryz.ntmps4 ?_
 refine W_sr (qAf 1 [] (W_sr (qAa rfl (qBg (d:=31) (t:=43) (e:=9) (len:=7) (parts:= #[(0,(.const (vT bp))),(1,(.const (vT bq))),(2,(.const (vT br))),(3,(.const (vT bs))),(4,(.const (vT bt))),(5,(.const (vT bu))),(6,(.const (vT bv)))]) cStr (xs:=[bp,bq,br,bs,bt,bu,bv]) [vT bp,vT bq,vT br,vT bs,vT bt,vT bu,vT bv] kr rfl (fun _=>qBh kr _) rfl rfl g ⟨[vT bp],_,rfl,rfl,⟨[vT bq],_,rfl,rfl,⟨[vT br],_,rfl,rfl,⟨[vT bs],_,rfl,rfl,⟨[vT bt],_,rfl,rfl,⟨[vT bu],_,rfl,rfl,⟨[vT bv],_,rfl,rfl,rfl⟩⟩⟩⟩⟩⟩⟩ fun b1 m1 w1 e1 g r1=>(qAf 1 [(11,.slice (aP b1) (List.length ([bp,bq,br,bs,bt,bu,bv])) 7)] (W_sr (qAf 8 [(12,vI (wr (Int.tmod p0 7))),(13,vI (wr (Int.tmod p1 7)))] (W_sr (qAa rfl (qBg (d:=38) (t:=22) (e:=3) (len:=7) (parts:= #[(0,(.const (vI 2))),(1,(.const (vI 2))),(2,(.const (vI 3))),(3,(.const (vI 3))),(4,(.const (vI 3))),(5,(.const (vI 1))),(6,(.const (vI 1)))]) (cInt .i64) (xs:=[(2:Int),2,3,3,3,1,1]) [vI 2,vI 2,vI 3,vI 3,vI 3,vI 1,vI 1] kr rfl (fun _=>qBh kr _) rfl rfl g ⟨[vI 2],_,rfl,rfl,⟨[vI 2],_,rfl,rfl,⟨[vI 3],_,rfl,rfl,⟨[vI 3],_,rfl,rfl,⟨[vI 3],_,rfl,rfl,⟨[vI 1],_,rfl,rfl,⟨[vI 1],_,rfl,rfl,rfl⟩⟩⟩⟩⟩⟩⟩ fun b2 m2 w2 e2 g r2=>(qAf 1 [(14,vS (aP b2) ([(2:Int),2,3,3,3,1,1]) 7)] (qAp (W_sr ?_)))))))))))));have⟨o1,i,J⟩:=qAo i
 refine qFf (j:=12) (fun L' w'=>∃m3,L'=[(2,.int .u16 p2),(3,.int .u16 p3),(4,.int .u16 p4),(11,.slice (aP b1) (List.length ([bp,bq,br,bs,bt,bu,bv])) 7),(12,vI (wr (Int.tmod p0 7))),(13,vI (wr (Int.tmod p1 7))),(14,vS (aP b2) ([(2:Int),2,3,3,3,1,1]) 7),(50,vB o1)]∧m.le m3∧St m3 (kR (aP b2) ([(2:Int),2,3,3,3,1,1]) 7 3 1:: .room (aP b1) (List.length ([bp,bq,br,bs,bt,bu,bv])) 7 9 1::O) w'∧RepS cStr m3 (aP b1) 7 ([bp,bq,br,bs,bt,bu,bv])∧RepS (cInt .i64) m3 (aP b2) 7 ([(2:Int),2,3,3,3,1,1])) ?_ ?_
 ·have i:=J;rintro _ w3 ⟨m3,rfl,q,g,r1,r2⟩;refine WO_e (W_if i ?_ ?_)
  ·intro A i;refine qAp (qFq [(21,fun w'=>Inv m3 w'∧True)] kr g fun w4 _ g=> ?_);have hmS1:=m3.le_refl;refine tA g hmS1 ?_;refine qAs 0 52 (.slice (aP b1) (List.length ([bp,bq,br,bs,bt,bu,bv])) 7) (.head _) (qAs 1 53 (vI (wr (Int.tmod p0 7))) (.head _) ?_);have⟨x3,d3,i⟩:=qAo i;refine qEe (t:=43) (e:=9) (x:=(.tmp 52)) (y:=(.tmp 53)) 2 54 cStr kr rfl kr (.head _) (qBd (qBd qFp)) (ev (.slice (aP b1) (List.length ([bp,bq,br,bs,bt,bu,bv])) 7)) (ev (vI (wr (Int.tmod p0 7)))) kr r1 d3 ?_;rintro b5 f3 cs3 rfl hq3;refine qHs 9 54 3 55 f3 (vT x3) (.head _) (fun _ h=>h.1) hq3 (qEp 9 9 ((.const (vT (⟨#[112,97,99,107,97,103,101,32,112,59,32,116,101,115,116,32,116,32,61,32,49,32]⟩:ByteArray)))) 55 4 56 (.head _) i fun s1 i=>(qEp 9 9 56 ((.const (vT (⟨#[32,50,32]⟩:ByteArray)))) 5 57 (.head _) i fun s2 i=>(qAs 6 58 (.slice (aP b1) (List.length ([bp,bq,br,bs,bt,bu,bv])) 7) (.head _) (qAs 7 59 (vI (wr (Int.tmod p1 7))) (.head _) ?_))));have⟨x4,d6,i⟩:=qAo i;refine qEe (t:=43) (e:=9) (x:=(.tmp 58)) (y:=(.tmp 59)) 8 60 cStr kr rfl kr (.head _) (qBd (qBd qFp)) (ev (.slice (aP b1) (List.length ([bp,bq,br,bs,bt,bu,bv])) 7)) (ev (vI (wr (Int.tmod p1 7)))) kr r1 d6 ?_;rintro b6 f4 cs4 rfl hq4
   refine qHs 9 60 9 61 f4 (vT x4) (.head _) (fun _ h=>h.1) hq4 (qEp 9 9 57 61 10 62 (.head _) i fun s3 i=>(qEp 9 9 62 ((.const (vT (⟨#[32,51,59]⟩:ByteArray)))) 11 63 (.head _) i fun s4 i=>(zFu [12,17] kr (by simp) (zGe ?_ ?_))))
   ·refine qKx 64 i (fun _ h=>qHq g h) ?_;rintro y1 i _ w5 ⟨a1,c1,a2,c2,m4,rfl,e3,g,r3,r4⟩;refine⟨_,rfl,?_⟩;have hmS1:=Mem.le_trans hmS1 e3;refine tA g hmS1 ?_;refine qAs 13 51 (.tuple #[.agg (V9 y1.1 a1 c1 a2 c2),vI y1.2.1,vI y1.2.2]) (.head _) (qAs 14 65 (.agg (V9 y1.1 a1 c1 a2 c2)) (.head _) (qAs 15 66 (vI y1.2.1) (.head _) (qAs 16 67 (vI y1.2.2) (.head _) (qCw 17 kr (qDu 15 52 (.agg #[vT eB,v7,v7]) g fun b7 w6 g=>(tA g hmS1 (qCw 18 kr (qBz 52 15 65 (.agg (V9 y1.1 a1 c1 a2 c2)) g fun w7 g=>(tA g hmS1 (qAs 19 16 (vI y1.2.1) (.head _) (qAs 20 17 (vI y1.2.2) (.head _) (qDa kr ?_))))))))))));have g:=g.f3.t.f3.t;refine qAh (W_sr ?_);have⟨o2,i,J⟩:=qAo i;refine qFf (j:=6) (fun L' w'=>∃m5,L'=[(10,vB o2)]∧m.le m5∧St m5 (kB b7 (V9 y1.1 a1 c1 a2 c2) 52::kR a1 y1.1.2.1 c1 9 1::kR a2 y1.1.2.2 c2 62 4::O) w'∧P4 m5 a1 c1 a2 c2 y1.1.2) ?_ ?_
    ·have i:=J;rintro _ w8 ⟨m5,rfl,q,g,r3,r4⟩;refine WO_e (qAy (qAc ?_));obtain rfl:=sI i;exact X_rt [10] [vB o2] ⟨m5,rfl,q,g.t.t.t⟩
    ·intro K;refine qAb 3 [(70,vB (y1.2.2==9))] (qCl 70 i ?_ ?_)
     ·intro A i;refine qAz 71 i (fun _ h=>qHk g h) ?_;rintro y2 i _ w9 ⟨m6,rfl,e4,g⟩;refine qAb 2 [(10,vB y2)] ?_;cases i;exact qAw _ kr (K _ _ ⟨m6,rfl,(q.t e3).t e4,g.f2.f2.f2,r3.mono e4,r4.mono e4⟩)
     ·intro A i;refine qAb 3 [(10,vB false)] ?_;cases i;exact qAw _ kr (K _ _ ⟨m4,rfl,q.t e3,g.f2.f2.f2,r3,r4⟩)
   ·refine qDu 15 52 (.agg #[vT eB,v7,v7]) g fun b7 w5 g=> ?_;refine tA g hmS1 ?_;refine qCw 12 kr (qKx 64 i (fun _ h=>qHq g h) ?_);rintro y1 i _ w6 ⟨a1,c1,a2,c2,m4,rfl,e3,g,r3,r4⟩;refine⟨_,rfl,?_⟩;have hmS1:=Mem.le_trans hmS1 e3;refine tA g hmS1 ?_;refine qAs 13 51 (.tuple #[.agg (V9 y1.1 a1 c1 a2 c2),vI y1.2.1,vI y1.2.2]) (.head _) (qAs 14 65 (.agg (V9 y1.1 a1 c1 a2 c2)) (.head _) (qAs 15 66 (vI y1.2.1) (.head _) (qAs 16 67 (vI y1.2.2) (.head _) (qCw 18 kr (qBz 52 15 65 (.agg (V9 y1.1 a1 c1 a2 c2)) g.f2 fun w7 g=>(tA g hmS1 (qAs 19 16 (vI y1.2.1) (.head _) (qAs 20 17 (vI y1.2.2) (.head _) (qDa kr ?_)))))))));have g:=g.f3.t.f3.t;refine qAh (W_sr ?_);have⟨o2,i,J⟩:=qAo i;refine qFf (j:=6) (fun L' w'=>∃m5,L'=[(10,vB o2)]∧m.le m5∧St m5 (kB b7 (V9 y1.1 a1 c1 a2 c2) 52::kR a1 y1.1.2.1 c1 9 1::kR a2 y1.1.2.2 c2 62 4::O) w'∧P4 m5 a1 c1 a2 c2 y1.1.2) ?_ ?_
    ·have i:=J;rintro _ w8 ⟨m5,rfl,q,g,r3,r4⟩;refine WO_e (qAy (qAc ?_));obtain rfl:=sI i;exact X_rt [10] [vB o2] ⟨m5,rfl,q,g.t.t.t⟩
    ·intro K;refine qAb 3 [(70,vB (y1.2.2==9))] (qCl 70 i ?_ ?_)
     ·intro A i;refine qAz 71 i (fun _ h=>qHk g h) ?_;rintro y2 i _ w9 ⟨m6,rfl,e4,g⟩;refine qAb 2 [(10,vB y2)] ?_;cases i;exact qAw _ kr (K _ _ ⟨m6,rfl,(q.t e3).t e4,g.f2.f2.f2,r3.mono e4,r4.mono e4⟩)
     ·intro A i;refine qAb 3 [(10,vB false)] ?_;cases i;exact qAw _ kr (K _ _ ⟨m4,rfl,q.t e3,g.f2.f2.f2,r3,r4⟩)
  ·intro A i;refine qAn (qAh (W_sr (qAb 2 [(74,vI (wr p2))] (qAz 75 i (fun _ h=>qHl g h) ?_))));rintro y3 i _ w10 ⟨m7,rfl,e5,g⟩;refine qAb 2 [(77,vI (wr p3))] (qAz 78 i (fun _ h=>qHl g h) ?_);rintro y4 i _ w11 ⟨m8,rfl,e6,g⟩;refine qAb 2 [(80,vI (wr p4))] (qAz 81 i (fun _ h=>qHl g h) ?_);rintro y5 i _ w12 ⟨m9,rfl,e7,g⟩;have r1:=((r1.mono e5).mono e6).mono e7;refine qAf 3 [(18,vT y3),(19,vT y4),(20,vT y5)] (qAp (qFq [(20,fun w'=>Inv m9 w'∧True)] kr g fun w13 _ g=> ?_));have hmS2:=m9.le_refl;refine tA g hmS2 ?_;refine qAs 0 82 (vT y3) (.head _) (qEp 9 9 82 ((.const (vT bw))) 1 83 (.head _) i fun s5 i=>(qAs 2 84 (.slice (aP b1) (List.length ([bp,bq,br,bs,bt,bu,bv])) 7) (.head _) (qAs 3 85 (vI (wr (Int.tmod p0 7))) (.head _) ?_)));have⟨x5,d15,i⟩:=qAo i;refine qEe (t:=43) (e:=9) (x:=(.tmp 84)) (y:=(.tmp 85)) 4 86 cStr kr rfl kr (.head _) (qBd qFp) (ev (.slice (aP b1) (List.length ([bp,bq,br,bs,bt,bu,bv])) 7)) (ev (vI (wr (Int.tmod p0 7)))) kr r1 d15 ?_;rintro b8 f5 cs5 rfl hq5
   refine qHs 9 86 5 87 f5 (vT x5) (.head _) (fun _ h=>h.1) hq5 (qEp 9 9 83 87 6 88 (.head _) i fun s6 i=>(qEp 9 9 88 ((.const (vT bw))) 7 89 (.head _) i fun s7 i=>(qAs 8 90 (vT y4) (.head _) (qEp 9 9 89 90 9 91 (.head _) i fun s8 i=>(qEp 9 9 91 ((.const (vT bw))) 10 92 (.head _) i fun s9 i=>(qAs 11 93 (.slice (aP b1) (List.length ([bp,bq,br,bs,bt,bu,bv])) 7) (.head _) (qAs 12 94 (vI (wr (Int.tmod p1 7))) (.head _) ?_)))))));have⟨x6,d20,i⟩:=qAo i;refine qEe (t:=43) (e:=9) (x:=(.tmp 93)) (y:=(.tmp 94)) 13 95 cStr kr rfl kr (.head _) (qBd qFp) (ev (.slice (aP b1) (List.length ([bp,bq,br,bs,bt,bu,bv])) 7)) (ev (vI (wr (Int.tmod p1 7)))) kr r1 d20 ?_;rintro b9 f6 cs6 rfl hq6;refine qHs 9 95 14 96 f6 (vT x6) (.head _) (fun _ h=>h.1) hq6 (qEp 9 9 92 96 15 97 (.head _) i fun s10 i=>(qEp 9 9 97 ((.const (vT bw))) 16 98 (.head _) i fun s11 i=>(qAs 17 99 (vT y5) (.head _) (qEp 9 9 98 99 18 100 (.head _) i fun s12 i=>(qAs 19 21 (vT s12) (.head _) (qDa kr (qAh (qAp (qFq [(18,fun w'=>Inv m9 w'∧True)] kr g fun w14 _ g=> ?_)))))))));have hmS3:=m9.le_refl;refine tA g hmS3 ?_;refine qAs 0 101 (vT y3) (.head _) (qEp 9 9 ((.const (vT b19))) 101 1 102 (.head _) i fun s13 i=>(qAs 2 103 (.slice (aP b1) (List.length ([bp,bq,br,bs,bt,bu,bv])) 7) (.head _) (qAs 3 104 (vI (wr (Int.tmod p0 7))) (.head _) ?_)));have⟨x7,d25,i⟩:=qAo i
   refine qEe (t:=43) (e:=9) (x:=(.tmp 103)) (y:=(.tmp 104)) 4 105 cStr kr rfl kr (.head _) (qBd qFp) (ev (.slice (aP b1) (List.length ([bp,bq,br,bs,bt,bu,bv])) 7)) (ev (vI (wr (Int.tmod p0 7)))) kr r1 d25 ?_;rintro b10 f7 cs7 rfl hq7;refine qHs 9 105 5 106 f7 (vT x7) (.head _) (fun _ h=>h.1) hq7 (qEp 9 9 102 106 6 107 (.head _) i fun s14 i=>(qAs 7 108 (vT y4) (.head _) (qEp 9 9 107 108 8 109 (.head _) i fun s15 i=>(qEp 9 9 109 ((.const (vT b1b))) 9 110 (.head _) i fun s16 i=>(qAs 10 111 (.slice (aP b1) (List.length ([bp,bq,br,bs,bt,bu,bv])) 7) (.head _) (qAs 11 112 (vI (wr (Int.tmod p1 7))) (.head _) ?_))))));have⟨x8,d29,i⟩:=qAo i;refine qEe (t:=43) (e:=9) (x:=(.tmp 111)) (y:=(.tmp 112)) 12 113 cStr kr rfl kr (.head _) (qBd qFp) (ev (.slice (aP b1) (List.length ([bp,bq,br,bs,bt,bu,bv])) 7)) (ev (vI (wr (Int.tmod p1 7)))) kr r1 d29 ?_;rintro b11 f8 cs8 rfl hq8;refine qHs 9 113 13 114 f8 (vT x8) (.head _) (fun _ h=>h.1) hq8 (qEp 9 9 110 114 14 115 (.head _) i fun s17 i=>(qAs 15 116 (vT y5) (.head _) (qEp 9 9 115 116 16 117 (.head _) i fun s18 i=>(qAs 17 22 (vT s18) (.head _) (qDa kr (qAh (qAp (qAp (qFq [(9,fun w'=>Inv m9 w'∧True)] kr g fun w15 _ g=> ?_)))))))));have hmS4:=m9.le_refl;refine tA g hmS4 ?_;refine qAs 0 118 (vS (aP b2) ([(2:Int),2,3,3,3,1,1]) 7) (.head _) (qAs 1 119 (vI (wr (Int.tmod p1 7))) (.head _) ?_)
   have⟨x9,d32,i⟩:=qAo i;refine qEe (t:=22) (e:=3) (x:=(.tmp 118)) (y:=(.tmp 119)) 2 120 (cInt .i64) kr rfl kr (.head _) (qBd (qBd qFp)) (ev (vS (aP b2) ([(2:Int),2,3,3,3,1,1]) 7)) (ev (vI (wr (Int.tmod p1 7)))) kr (((r2.mono e5).mono e6).mono e7) d32 ?_;rintro b12 f9 cs9 rfl hq9;refine qHs 3 120 3 121 f9 (vI x9) (.head _) (fun _ h=>h.1) hq9 (qAs 4 122 (vS (aP b2) ([(2:Int),2,3,3,3,1,1]) 7) (.head _) (qAs 5 123 (vI (wr (Int.tmod p0 7))) (.head _) ?_));have⟨x10,d33,i⟩:=qAo i;refine qEe (t:=22) (e:=3) (x:=(.tmp 122)) (y:=(.tmp 123)) 6 124 (cInt .i64) kr rfl kr (.head _) (qBd (qBd qFp)) (ev (vS (aP b2) ([(2:Int),2,3,3,3,1,1]) 7)) (ev (vI (wr (Int.tmod p0 7)))) kr (((r2.mono e5).mono e6).mono e7) d33 ?_;rintro b13 f10 cs10 rfl hq10;refine qHs 3 124 7 125 f10 (vI x10) (.head _) (fun _ h=>h.1) hq10 (qAs 8 126 (vB (decide (x9>x10))) (.head _) (qDa kr ?_));have g:=g.t;refine qAh ?_;have⟨o3,i,j2⟩:=qAo i;refine qCr .normal (fun L' w'=>∃m10,L'=[(21,vT s12),(22,vT o3)]∧m.le m10∧St m10 (O) w') ?_ ?_
   ·have i:=j2;rintro _ w16 ⟨m10,rfl,q,g⟩;refine qAh (W_sr (qAb 1 [(145,vT s12)] (qAa rfl (qIc 146 9 9 ((.const (vT (⟨#[112,97,99,107,97,103,101,32,112,59,32,116,101,115,116,32,116,32,61,32]⟩:ByteArray)))) 145 i fun s25 i=>(qAa rfl (qIc 147 9 9 146 ((.const (vT (⟨#[59]⟩:ByteArray)))) i fun s26 i=>(qAz 148 i (fun _ h=>qHq g h) ?_)))))));rintro y6 i _ w18 ⟨a3,c3,a4,c4,m11,rfl,e8,g,r5,r6⟩;refine qAb 4 [(149,.agg (V9 y6.1 a3 c3 a4 c4)),(150,vI y6.2.1),(151,vI y6.2.2)] (qAa rfl (qDu 23 52 (.agg #[vT eB,v7,v7]) g fun b16 w19 g=>(qAa rfl (qBz 52 23 149 (.agg (V9 y6.1 a3 c3 a4 c4)) g fun w20 g=>(qAf 2 [(25,vI y6.2.2)] (W_sr (qAb 1 [(153,vT o3)] (qAa rfl (qIc 154 9 9 ((.const (vT (⟨#[112,97,99,107,97,103,101,32,112,59,32,116,101,115,116,32,116,32,61,32,40,40]⟩:ByteArray)))) 153 i fun s27 i=>(qAa rfl (qIc 155 9 9 154 ((.const (vT (⟨#[41,41,59]⟩:ByteArray)))) i fun s28 i=>(qAz 156 i (fun _ h=>qHq g h) ?_))))))))))));rintro y7 i _ w21 ⟨a5,c5,a6,c6,m12,rfl,e9,g,r7,r8⟩
    refine qAb 4 [(157,.agg (V9 y7.1 a5 c5 a6 c6)),(158,vI y7.2.1),(159,vI y7.2.2)] (qAa rfl (qDu 26 52 (.agg #[vT eB,v7,v7]) g fun b17 w22 g=>(qAa rfl (qBz 52 26 157 (.agg (V9 y7.1 a5 c5 a6 c6)) g fun w23 g=>(qAf 2 [(28,vI y7.2.2)] (W_sr (qAa rfl (qBo 161 52 26 0 (.agg (V9 y7.1 a5 c5 a6 c6)) g.h (qAz 162 i (fun _ h=>qMj g r7 r8 h) ?_)))))))));rintro y8 i _ w24 ⟨m13,rfl,e10,g⟩;have q:=((q.t e8).t e9).t e10;have r7:=r7.mono e10;have r8:=r8.mono e10;have r5:=(r5.mono e9).mono e10;have r6:=(r6.mono e9).mono e10;refine qAf 5 [(29,vT y8.1),(30,vI y8.2)] (W_sr ?_);have⟨o4,i,J⟩:=qAo i;refine qFf (j:=26) (fun L' w'=>∃m14,L'=[(10,vB o4)]∧m.le m14∧St m14 (kB b17 (V9 y7.1 a5 c5 a6 c6) 52::kB b16 (V9 y6.1 a3 c3 a4 c4) 52::kR a5 y7.1.2.1 c5 9 1::kR a6 y7.1.2.2 c6 62 4::kR a3 y6.1.2.1 c3 9 1::kR a4 y6.1.2.2 c4 62 4::O) w'∧RepS cStr m14 a5 c5 y7.1.2.1∧RepS C4 m14 a6 c6 y7.1.2.2∧P4 m14 a3 c3 a4 c4 y6.1.2) ?_ ?_
    ·have i:=J;rintro _ w25 ⟨m14,rfl,q,g,r7,r8,r5,r6⟩;refine WO_e (qAy ?_);obtain rfl:=sI i;exact X_rt [10] [vB o4] ⟨m14,rfl,q,g.t.t.t.t.t.t⟩
    ·intro K;refine qAb 3 [(167,vB (y6.2.2==0))] (qCl 167 i ?_ ?_)
     ·intro A i;refine qAb 4 [(171,vB (y7.2.2==0))] (qCl 171 i ?_ ?_)
      ·intro A i;refine qAb 4 [(175,vB (y8.2==0))] (qCl 175 i ?_ ?_)
       ·intro A i;refine qAa rfl (qBo 176 52 23 0 (.agg (V9 y6.1 a3 c3 a4 c4)) g.t.t.t.h (qAa rfl (qBo 177 52 26 0 (.agg (V9 y7.1 a5 c5 a6 c6)) g.h (qAz 178 i (fun _ h=>qNk g r5 r6 r7 r8 h) ?_))));rintro y9 i _ w26 ⟨m15,rfl,e11,g⟩;have q:=q.t e11;have r5:=r5.mono e11;have r6:=r6.mono e11;have r7:=r7.mono e11;have r8:=r8.mono e11;refine qAb 2 [(180,vB y9)] (qCl 180 i ?_ ?_)
        ·intro A i;refine qAb 2 [(181,vT y8.1),(182,vT s12)] (qAa rfl (qIc 183 9 9 ((.const (vT (⟨#[112,97,99,107,97,103,101,32,112,59,10,116,101,115,116,32,116,32,61,32]⟩:ByteArray)))) 182 i fun s29 i=>(qAa rfl (qIc 184 9 9 183 ((.const (vT b1c))) i fun s30 i=>(qAb 3 [(187,vB (y8.1.toList==s30.toList))] (qCl 187 i ?_ ?_))))))
         ·intro A i;refine qAz 188 i (fun _ h=>qHk g h) ?_;rintro y10 i _ w27 ⟨m16,rfl,e12,g⟩;refine qAb 2 [(10,vB y10)] ?_;cases i;exact qAw _ kr (K _ _ ⟨m16,rfl,q.t e12,g.f5.f5.f4.f4.f5.f5,r7.mono e12,r8.mono e12,r5.mono e12,r6.mono e12⟩)
         ·intro A i;refine qAb 3 [(10,vB false)] ?_;cases i;exact qAw _ kr (K _ _ ⟨m15,rfl,q,g.f5.f5.f4.f4.f5.f5,r7,r8,r5,r6⟩)
        ·intro A i;refine qAb 10 [(10,vB false)] ?_;cases i;exact qAw _ kr (K _ _ ⟨m15,rfl,q,g.f5.f5.f4.f4.f5.f5,r7,r8,r5,r6⟩)
       ·intro A i;refine qAb 15 [(10,vB false)] ?_;cases i;exact qAw _ kr (K _ _ ⟨m13,rfl,q,g.f5.f5.f4.f4.f5.f5,r7,r8,r5,r6⟩)
      ·intro A i;refine qAb 19 [(10,vB false)] ?_;cases i;exact qAw _ kr (K _ _ ⟨m13,rfl,q,g.f5.f5.f4.f4.f5.f5,r7,r8,r5,r6⟩)
     ·intro A i;refine qAb 23 [(10,vB false)] ?_;cases i;exact qAw _ kr (K _ _ ⟨m13,rfl,q,g.f5.f5.f4.f4.f5.f5,r7,r8,r5,r6⟩)
   ·intro Ku2;refine W_if i ?_ ?_
    ·intro A i;refine qFq [(18,fun w'=>Inv m9 w'∧True)] kr g fun w17 _ g=> ?_;have hmS5:=m9.le_refl;refine tA g hmS5 ?_;refine qAs 0 127 (vT y3) (.head _) (qAs 1 128 (.slice (aP b1) (List.length ([bp,bq,br,bs,bt,bu,bv])) 7) (.head _) (qAs 2 129 (vI (wr (Int.tmod p0 7))) (.head _) ?_));have⟨x11,d34,i⟩:=qAo i;refine qEe (t:=43) (e:=9) (x:=(.tmp 128)) (y:=(.tmp 129)) 3 130 cStr kr rfl kr (.head _) (qBd qFp) (ev (.slice (aP b1) (List.length ([bp,bq,br,bs,bt,bu,bv])) 7)) (ev (vI (wr (Int.tmod p0 7)))) kr r1 d34 ?_;rintro b14 f11 cs11 rfl hq11;refine qHs 9 130 4 131 f11 (vT x11) (.head _) (fun _ h=>h.1) hq11 (qEp 9 9 127 131 5 132 (.head _) i fun s19 i=>(qEp 9 9 132 ((.const (vT b19))) 6 133 (.head _) i fun s20 i=>(qAs 7 134 (vT y4) (.head _) (qEp 9 9 133 134 8 135 (.head _) i fun s21 i=>(qAs 9 136 (.slice (aP b1) (List.length ([bp,bq,br,bs,bt,bu,bv])) 7) (.head _) (qAs 10 137 (vI (wr (Int.tmod p1 7))) (.head _) ?_))))));have⟨x12,d38,i⟩:=qAo i;refine qEe (t:=43) (e:=9) (x:=(.tmp 136)) (y:=(.tmp 137)) 11 138 cStr kr rfl kr (.head _) (qBd qFp) (ev (.slice (aP b1) (List.length ([bp,bq,br,bs,bt,bu,bv])) 7)) (ev (vI (wr (Int.tmod p1 7)))) kr r1 d38 ?_;rintro b15 f12 cs12 rfl hq12
     refine qHs 9 138 12 139 f12 (vT x12) (.head _) (fun _ h=>h.1) hq12 (qEp 9 9 135 139 13 140 (.head _) i fun s22 i=>(qAs 14 141 (vT y5) (.head _) (qEp 9 9 140 141 15 142 (.head _) i fun s23 i=>(qEp 9 9 142 ((.const (vT b1b))) 16 143 (.head _) i fun s24 i=>(qAs 17 22 (vT s24) (.head _) (qDa kr ?_))))));have g:=g.t;cases i;exact xE (Ku2 _ _ ⟨m9,rfl,((q.t e5).t e6).t e7,g⟩)
    ·intro A i;refine qAn ?_;cases i;exact xE (Ku2 _ _ ⟨m9,rfl,((q.t e5).t e6).t e7,g.t⟩)
 ·intro K;refine qAb 2 [(39,vS (aP b2) ([(2:Int),2,3,3,3,1,1]) 7),(40,vI (wr (Int.tmod p0 7)))] (qAa rfl (qDn 41 22 3 39 40 r2 i ?_));rintro x1 i b3 f1 cs1 rfl hq1;refine qFs 42 3 41 f1 (vI x1) g hq1 (qAb 2 [(44,vB (x1==1))] (qCl 44 i ?_ ?_))
  ·intro A i;refine qAb 2 [(45,vS (aP b2) ([(2:Int),2,3,3,3,1,1]) 7),(46,vI (wr (Int.tmod p1 7)))] (qAa rfl (qDn 47 22 3 45 46 r2 i ?_));rintro x2 i b4 f2 cs2 rfl hq2;refine qFs 48 3 47 f2 (vI x2) g hq2 (qAb 2 [(50,vB (x2==1))] ?_);cases i;exact qAw _ kr (K _ _ ⟨m2,rfl,(q.t e1).t e2,g.f1.f1,r1.mono e2,r2⟩)
  ·intro A i;refine qAb 6 [(50,vB false)] ?_;cases i;exact qAw _ kr (K _ _ ⟨m2,rfl,(q.t e1).t e2,g.f1.f1,r1.mono e2,r2⟩)
end
end Go.Proofs.YtcdpbapbpcpflaaGreatDoor
section
namespace Go.Dc
theorem qTv{σ β:Type}{f:σ→Option (σ⊕β)}(st:Nat→σ)(k:Nat)(res:β)(step:∀i,i<k→f (st i)=some (.inl (st (i+1))))(stop:f (st k)=some (.inr res)){N:Nat}(hN:k<N):qBa f N (st 0)=some res:=by
 have key:∀d i M,i+d=k→d<M→qBa f M (st i)=some res:=by
  intro d
  induction d with
  |zero=>intro i M h hM;obtain⟨M',rfl⟩:∃M',M=M'+1:=⟨M-1,by omega⟩;simp only[gS] at h;subst h;simp[qBa,stop]
  |succ d ih=>
   intro i M h hM
   obtain⟨M',rfl⟩:∃M',M=M'+1:=⟨M-1,by omega⟩
   have:=ih (i+1) M' (by omega) (by omega)
   simp[qBa,step i (by omega),this]
 exact key k 0 N (by omega) hN
section
variable {ν:Type}
theorem qXc{l:List (Int×ν)}{k c:Int}{v:ν}(h:c≠k):mget (l.map fun p=>if k=p.1 then(k,v) else p) c=mget l c:=by
 induction l with
 |nil=>rfl
 |cons p l ih=>
  simp only[jN,mget]
  by_cases hk:k=p.1
  ·subst hk;rw[if_pos rfl,if_neg h,if_neg h,ih]
  ·rw[if_neg hk,ih]
theorem qXo{l:List (Int×ν)}{k:Int}{v:ν}(h:(mget l k).isSome=true):mget (l.map fun p=>if k=p.1 then(k,v) else p) k=some v:=by
 induction l with
 |nil=>cases h
 |cons p l ih=>
  simp only[jN,mget] at h ⊢
  by_cases hk:k=p.1
  ·subst hk;simp
  ·rw[if_neg hk] at h ⊢
   rw[if_neg hk]
   exact ih h
theorem zAw{l:List (Int×ν)}{k:Int}{v:ν}(h:mget l k=none)(c:Int):mget (mins l k v) c=if c=k then some v else mget l c:=by
 induction l with
 |nil=>rfl
 |cons p l ih=>
  simp only[mget] at h
  split at h
  ·cases h
  ·rename_i hk
   simp only[mins]
   split
   ·simp only[mget]
   ·simp only[mget,ih h]
    by_cases hc:c=k
    ·subst hc;simp[hk]
    ·simp[hc]
theorem zBg(l:List (Int×ν))(k:Int)(v:ν)(c:Int):mget (mset l k v) c=if c=k then some v else mget l c:=by
 unfold mset
 split
 ·rename_i h
  split
  ·rename_i hc;subst hc;exact qXo h
  ·rename_i hc;exact qXc hc
 ·rename_i h
  exact zAw (by simpa using h) c
def Srt(l:List (Int×ν)):Prop:=(l.map (·.1)).Pairwise (· < ·)
theorem Srt.nil:Srt ([]:List (Int×ν)):=List.Pairwise.nil
theorem Srt.mins{l:List (Int×ν)}{k:Int}{v:ν}(hs:Srt l)(h:mget l k=none):Srt (mins l k v):=by
 induction l with
 |nil=>simp[Srt,Go.Dc.mins]
 |cons p l ih=>
  have hs':=hs
  simp only[Srt,jN,gZ] at hs
  simp only[mget] at h
  split at h
  ·cases h
  ·rename_i hk
   simp only[Go.Dc.mins]
   split
   ·rename_i hlt
    have hlt:k<p.1:=by simpa[KOrd.lt] using hlt
    refine gZ.2 ⟨fun a ha=> ?_,hs'⟩
    simp only[jN,jQ] at ha
    rcases ha with rfl|ha
    ·exact hlt
    ·exact Int.lt_trans hlt (hs.1 a ha)
   ·rename_i hlt
    have hlt:¬k<p.1:=by simpa[KOrd.lt] using hlt
    refine gZ.2 ⟨fun a ha=> ?_,ih hs.2 h⟩
    obtain⟨q,hq,rfl⟩:=fI.1 ha
    rcases jQ.1 ((qVf l k v).mem_iff.1 hq) with rfl|hq
    ·show p.1<k;omega
    ·exact hs.1 _ (gD hq)
theorem Srt.mset{l:List (Int×ν)}(hs:Srt l)(k:Int)(v:ν):Srt (mset l k v):=by
 unfold Go.Dc.mset
 split
 ·unfold Srt
  have:(l.map fun p=>if k=p.1 then(k,v) else p).map (·.1)=l.map (·.1):=by
   rw[List.map_map]
   refine List.map_congr_left fun p _=> ?_
   simp only[Function.comp_apply]
   split
   ·rename_i h;exact h
   ·rfl
  rw[this];exact hs
 ·rename_i h
  exact hs.mins (by simpa using h)
theorem Srt.out{l:List (Int×ν)}{c:Int}(h:∀a∈l.map (·.1),c<a):mget l c=none:=by
 rw[qQq];intro hm;exact Int.lt_irrefl _ (h c hm)
theorem Srt.ext:∀{l k:List (Int×ν)},Srt l→Srt k→(∀c,mget l c=mget k c)→l=k
 |[],[],_,_,_=>rfl
 |[],q::k,_,_,h=>by have:=h q.1;simp[mget] at this
 |p::l,[],_,_,h=>by have:=h p.1;simp[mget] at this
 |p::l,q::k,hl,hk,h=>by
  have hl':(∀a∈l.map (·.1),p.1<a)∧Srt l:=gZ.1 hl
  have hk':(∀a∈k.map (·.1),q.1<a)∧Srt k:=gZ.1 hk
  have h1:p.1=q.1:=by
   rcases Int.lt_trichotomy p.1 q.1 with hlt|he|hlt
   ·have:=h p.1
    rw[Srt.out (l:=q::k) (c:=p.1)] at this
    ·simp[mget] at this
    ·intro a ha
     rcases jQ.1 ha with rfl|ha
     ·exact hlt
     ·exact Int.lt_trans hlt (hk'.1 a ha)
   ·exact he
   ·have:=h q.1
    rw[Srt.out (l:=p::l) (c:=q.1)] at this
    ·simp[mget] at this
    ·intro a ha
     rcases jQ.1 ha with rfl|ha
     ·exact hlt
     ·exact Int.lt_trans hlt (hl'.1 a ha)
  have h2:p.2=q.2:=by have:=h p.1;simpa[mget,h1] using this
  have h3:l=k:=by
   refine Srt.ext hl'.2 hk'.2 fun c=> ?_
   by_cases hc:c=p.1
   ·rw[Srt.out (l:=l) (fun a ha=>hc▸hl'.1 a ha),Srt.out (l:=k) (fun a ha=>by rw[hc,h1];exact hk'.1 a ha)]
   ·have:=h c
    simpa[mget,hc,h1▸hc] using this
  rw[h3,Prod.ext h1 h2]
def qKv(v:ν)(m:List (Int×ν))(xs:List UInt8):List (Int×ν):=xs.foldl (fun m x=>mset m (x.toNat:Int) v) m
theorem qSt{v:ν}:∀{xs:List UInt8} {m:List (Int×ν)},Srt m→Srt (qKv v m xs)
 |[],_,h=>h
 |_::xs,_,h=>qSt (xs:=xs) (h.mset _ _)
theorem qTa{v:ν}(c:Int):∀(xs:List UInt8) (m:List (Int×ν)),mget (qKv v m xs) c=if xs.any (fun x=>decide ((x.toNat:Int)=c))=true then some v else mget m c
 |[],m=>by simp[qKv]
 |x::xs,m=>by
  have:=qTa (v:=v) c xs (mset m (x.toNat:Int) v)
  rw[show qKv v m (x::xs)=qKv v (mset m (x.toNat:Int) v) xs from rfl,this,zBg]
  by_cases h1:xs.any (fun x=>decide ((x.toNat:Int)=c))=true
  ·simp[h1]
  ·by_cases h2:(x.toNat:Int)=c
   ·subst h2;simp[h1]
   ·have h3:¬c=(x.toNat:Int):=fun e=>h2 e.symm
    simp[h1,h2,h3]
end
end Go.Dc
namespace Go.Proofs.YtcdpbapbpcpflaaGreatDoor
open Go Go.Dc
def allK:List (Int×ByteArray):=[(1,⟨#[97,98,99,100,101,102,103,104,105,106,107,108,109,110,111,112,113,114,115,116,117,118,119,120,121,122]⟩),(2,⟨#[48,49,50,51,52,53,54,55,56,57]⟩),(3,⟨#[95]⟩),(4,⟨#[46]⟩),(5,⟨#[9,10,13,32]⟩),(6,⟨#[35]⟩),(7,⟨#[34]⟩),(8,⟨#[59,44,40,41,43,45,42,47,37,60,61]⟩)]
def kdL:List (Int×Int):=[(9,5),(10,5),(13,5),(32,5),(34,7),(35,6),(37,8),(40,8),(41,8),(42,8),(43,8),(44,8),(45,8),(46,4),(47,8),(48,2),(49,2),(50,2),(51,2),(52,2),(53,2),(54,2),(55,2),(56,2),(57,2),(59,8),(60,8),(61,8),(95,3),(97,1),(98,1),(99,1),(100,1),(101,1),(102,1),(103,1),(104,1),(105,1),(106,1),(107,1),(108,1),(109,1),(110,1),(111,1),(112,1),(113,1),(114,1),(115,1),(116,1),(117,1),(118,1),(119,1),(120,1),(121,1),(122,1)]
def kdI(c:Int):Int:=(mget kdL c).getD 0
def inE(e:Int×ByteArray)(c:Int):Bool:=e.2.data.toList.any fun x=>decide ((x.toNat:Int)=c)
def layK(m:List (Int×Int))(k:List (Int×ByteArray)):List (Int×Int):=k.foldl (fun m e=>qKv e.1 m e.2.data.toList) m
theorem qZd:∀{k:List (Int×ByteArray)} {m:List (Int×Int)},Srt m→Srt (layK m k)
 |[],_,h=>h
 |_::k,_,h=>qZd (k:=k) (qSt h)
theorem qYr(c:Int):∀(k:List (Int×ByteArray)) (m:List (Int×Int)),(∀e∈k,inE e c=true→e.1=kdI c)→(∀v,mget m c=some v→v=kdI c)→
  mget (layK m k) c=if(k.any fun e=>inE e c)=true then some (kdI c) else mget m c
 |[],m,_,_=>by simp[layK]
 |e::k,m,h,hm=>by
  have hg:=qTa (v:=e.1) c e.2.data.toList m
  have:=qYr c k (qKv e.1 m e.2.data.toList) (fun e' he=>h e' (jZ _ he)) (fun v hv=>by
   rw[hg] at hv
   split at hv
   ·rename_i hi
    rw[←jD hv]
    exact h e (jL ..) hi
   ·exact hm v hv)
  rw[show layK m (e::k)=layK (qKv e.1 m e.2.data.toList) k from rfl,this,hg]
  by_cases h1:(k.any fun e=>inE e c)=true
  ·simp[h1]
  ·by_cases h2:inE e c=true
   ·have:=h e (jL ..) h2
    have h2':(e.2.data.toList.any fun x=>decide ((x.toNat:Int)=c))=true:=h2
    simp only[fM,h2,Bool.true_or,jU,h1,h2',this]
    simp
   ·have h2':(e.2.data.toList.any fun x=>decide ((x.toNat:Int)=c))=false:=by simpa[inE] using h2
    simp only[fM,h1,h2',Bool.or_false,jB,jK]
    simp[h2]
theorem qYj:(allK.all fun e=>e.2.data.toList.all fun x=>decide (e.1=kdI (x.toNat:Int)))=true∧(kdL.all fun p=>allK.any fun e=>inE e p.1)=true:=⟨by kernel_rfl,by kernel_rfl⟩
theorem kd_in{e:Int×ByteArray}{c:Int}(he:e∈allK)(h:inE e c=true):e.1=kdI c:=by
 have:=jP.1 qYj.1 e he
 obtain⟨x,hx,hc⟩:=gX.1 h
 have h2:=jP.1 this x hx
 have hc:(x.toNat:Int)=c:=by simpa using hc
 subst hc
 simpa using h2
theorem zFk(c:Int):mget kdL c=if(allK.any fun e=>inE e c)=true then some (kdI c) else none:=by
 cases h:mget kdL c with
 |none=>
  rw[if_neg]
  intro ha
  obtain⟨e,he,hi⟩:=gX.1 ha
  have h1:=kd_in he hi
  have h0:kdI c=0:=by simp[kdI,h]
  have:(allK.all fun e=>decide (e.1≠0))=true:=by kernel_rfl
  have:=jP.1 this e he
  simp[h1,h0] at this
 |some v=>
  have hm:(c,v)∈kdL:=(qTy (l:=kdL) (by
   have:decide ((kdL.map (·.1)).Nodup)=true:=by kernel_rfl
   simpa using this)).1 h
  have:=jP.1 qYj.2 _ hm
  rw[if_pos this]
  simp[kdI,h]
theorem zGn:Srt kdL:=by
 have:decide ((kdL.map (·.1)).Pairwise (· < ·))=true:=by kernel_rfl
 simpa[Srt] using this
theorem zBb{k:List (Int×ByteArray)}(h:k.Perm allK):layK [] k=kdL:=by
 refine Srt.ext (qZd Srt.nil) zGn fun c=> ?_
 rw[qYr c k [] (fun e he hi=>kd_in (h.mem_iff.1 he) hi) (fun v hv=>by cases hv),zFk]
 have:(k.any fun e=>inE e c)=(allK.any fun e=>inE e c):=by
  rw[gE,gX,gX]
  exact⟨fun⟨e,he,hi⟩=>⟨e,h.mem_iff.1 he,hi⟩,fun⟨e,he,hi⟩=>⟨e,h.mem_iff.2 he,hi⟩⟩
 rw[this]
 rfl
theorem zDe{N:Nat}{e:Int×ByteArray}(m:List (Int×Int))(he:e.2.size≤26)(hN:30<N):qEd N (some e) (some m)=some (.inl (some (qKv e.1 m e.2.data.toList))):=by
 have hsz:e.2.data.toList.length=e.2.size:=by simp
 have hb:qMw e.2=some e.2.data.toList:=by unfold qMw;rw[if_pos (by simp only[maxLen];omega)]
 simp only[qEd,hb,j0]
 have key:=qTv (f:=qHg N e e.2.data.toList) (fun i=>((i:Int),some (qKv e.1 m (e.2.data.toList.take i)))) e.2.data.toList.length (some (qKv e.1 m e.2.data.toList)) (fun i hi=> ?_) ?_ (N:=N) (by omega)
 ·simp only[Int.natCast_zero,List.take_zero] at key
  rw[show qKv e.1 m []=m from rfl] at key
  rw[key];rfl
 ·simp only[qHg]
  rw[if_pos (by simpa using hi),qDw hi]
  simp only[j0,qHn,kF]
  rw[wi64 (by omega) (by omega),kJ hi]
  simp[qKv]
 ·simp only[qHg]
  rw[if_neg (by simp),gU]
theorem qSq{N:Nat}(hN:30<N):∀(k:List (Int×ByteArray)) (m:List (Int×Int)),(∀e∈k,e.2.size≤26)→qKo (qEd N) k (some m)=some (some (layK m k))
 |[],m,_=>by simp[qKo,qEd,layK]
 |e::k,m,h=>by
  have:=qSq hN k (qKv e.1 m e.2.data.toList) (fun e' he=>h e' (jZ _ he))
  simp only[qKo,zDe m (h e (jL ..)) hN,j0,this]
  rfl
theorem qUb{N:Nat}(hN:30<N):qIj N=some (some kdL):=by
 have h8:∀e∈allK,e.2.size≤26:=by
  have:(allK.all fun e=>decide (e.2.size≤26))=true:=by kernel_rfl
  intro e he
  simpa using jP.1 this e he
 have key:qOm (qEd N) allK (some [])=some (some kdL):=qUn fun k hk=>by
  rw[qSq hN k [] (fun e he=>h8 e (hk.mem_iff.1 he)),zBb hk]
 have h1:qIj N=(qOm (qEd N) allK (some [])).bind fun o1=>some o1:=by kernel_rfl
 rw[h1,key];rfl
end Go.Proofs.YtcdpbapbpcpflaaGreatDoor
end
namespace Go.Proofs.YtcdpbapbpcpflaaGreatDoor
section
open Go Go.Dc
theorem qCg(s:ByteArray):s.data.toList.length=s.size:=by simp
theorem qLs{s:ByteArray}{i:Nat}(h:i<s.data.toList.length):idxB s (i:Int)=some (s.data.toList[i]):=by
 have h':i<s.size:=by simpa using h
 rw[zDi h']
 simp[ByteArray.getElem_eq_getElem_data]
def tw(p:UInt8→Bool)(l:List UInt8)(a:Nat):Nat:=a+((l.drop a).takeWhile p).length
section
variable {p:UInt8→Bool} {l:List UInt8} {a:Nat}
theorem qOk(h:a≤l.length):a≤tw p l a∧tw p l a≤l.length:=by
 have:=(fP p (l:=l.drop a)).length_le
 simp only[gW] at this
 unfold tw;omega
theorem qPg(h:a<l.length)(hb:p l[a]=true):tw p l (a+1)=tw p l a:=by
 unfold tw
 rw[k0 h,kT hb]
 simp only[jC];omega
theorem qRp(h:a<l.length)(hb:p l[a]=false):tw p l a=a:=by
 unfold tw
 rw[k0 h,gI (by simp[hb])]
 simp
theorem qYg(h:l.length≤a):tw p l a=a:=by
 unfold tw
 rw[kA h];rfl
theorem zCl:∀(d a:Nat),a+d=l.length→∀h:tw p l a<l.length,p (l[tw p l a]'h)=false
 |0,a,hd,h=>by rw[qYg (by omega)] at h;omega
 |d+1,a,hd,h=>by
  have ha:a<l.length:=by omega
  cases hb:p l[a] with
  |true=>
   have e:=qPg ha hb
   have:=zCl d (a+1) (by omega) (by rw[e];exact h)
   simpa only[e] using this
  |false=>
   have e:=qRp ha hb
   simpa only[e] using hb
theorem zBs{β:Type}{f:Int→Option (Int⊕β)}(out:Nat→β)(go:∀i:Nat,∀h:i<l.length,p l[i]=true→f (i:Int)=some (.inl ((i:Int)+1)))
  (no:∀i:Nat,∀h:i<l.length,p l[i]=false→f (i:Int)=some (.inr (out i))) (en:f (l.length:Int)=some (.inr (out l.length))):
  ∀(d a N:Nat),a+d=l.length→d<N→qBa f N (a:Int)=some (out (tw p l a))
 |d,a,0,_,h=>by omega
 |0,a,N+1,hd,h=>by
  have:a=l.length:=by omega
  subst this
  rw[qYg (jM _)];simp[qBa,en]
 |d+1,a,N+1,hd,h=>by
  have ha:a<l.length:=by omega
  cases hb:p l[a] with
  |true=>
   have:=zBs out go no en d (a+1) N (by omega) (by omega)
   rw[qPg ha hb] at this
   simpa[qBa,go a ha hb] using this
  |false=>
   rw[qRp ha hb];simp[qBa,no a ha hb]
end
def kd(c:UInt8):Int:=kdI (c.toNat:Int)
def inK(ks:List Int)(c:UInt8):Bool:=ks.any fun k=>kd c==k
theorem qSs{N:Nat}{s:ByteArray}{ks:List Int}{i:Nat}(h:i<s.data.toList.length)(hk:ks.length≤10)(hN:10<N):qBa (qHa N s (some kdL) ks (i:Int)) N (false,0)=some (inK ks (s.data.toList[i])):=by
 have key:=qTv (f:=qHa N s (some kdL) ks (i:Int)) (fun j=>((ks.take j).any (fun k=>kd (s.data.toList[i])==k),(j:Int))) ks.length (inK ks (s.data.toList[i])) (fun j hj=> ?_) ?_ (N:=N) (by omega)
 ·simpa using key
 ·simp only[qHa]
  rw[if_pos (by simpa using hj),qDw hj,qLs h]
  simp only[j0]
  rw[wi64 (by omega) (by omega),kJ hj,List.any_append]
  cases(ks.take j).any (fun k=>kd (s.data.toList[i])==k)
  ·simp[kd,kdI,qDe]
  ·simp
 ·simp only[qHa]
  rw[if_neg (by simp),gU]
  rfl
theorem qQr{N:Nat}{s:ByteArray}{ks:List Int}{i:Nat}(hi:i≤s.data.toList.length)(hl:s.data.toList.length<1000000)(hk:ks.length≤10)(hN:s.data.toList.length+10<N):
  qHj N s (i:Int) (some kdL) ks=some ((tw (inK ks) s.data.toList i:Nat):Int):=by
 have hs:=qCg s
 have key:=zBs (f:=qHb N s (some kdL) ks) (l:=s.data.toList) (p:=inK ks) (fun n=>(n:Int)) (fun j hj hb=>by
   simp only[qHb]
   rw[if_pos (by simp only[j9];omega),qSs hj hk (by omega),hb]
   simp only[j0]
   rw[wi64 (by omega) (by omega)]
   rfl) (fun j hj hb=>by
   simp only[qHb]
   rw[if_pos (by simp only[j9];omega),qSs hj hk (by omega),hb]
   rfl) (by
   simp only[qHb]
   rw[if_neg (by simp only[j9];omega)]) (s.data.toList.length-i) i N (by omega) (by omega)
 unfold qHj
 rw[key]
 rfl
end
section
open Go Go.Dc
theorem zBn(c:UInt8):(qDe (some kdL) (c.toNat:Int)).getD 0=kd c:=rfl
theorem qIk{l:List UInt8}{i:Nat}(h:i<l.length):l.getD i 0=l[i]:=by simp[jT,h]
theorem qYp{β:Type}{p:UInt8→Bool}{l:List UInt8}{a0:Nat}{f:Int→Option (Int⊕β)}(out:Nat→β)(go:∀i:Nat,∀h:i<l.length,p l[i]=true→f (i:Int)=some (.inl ((i:Int)+1)))
  (no:∀i:Nat,∀h:i<l.length,a0≤i→p l[i]=false→f (i:Int)=some (.inr (out i))) (en:f (l.length:Int)=some (.inr (out l.length))):
  ∀(d a N:Nat),a0≤a→a+d=l.length→d<N→qBa f N (a:Int)=some (out (tw p l a))
 |d,a,0,_,_,h=>by omega
 |0,a,N+1,_,hd,h=>by
  have:a=l.length:=by omega
  subst this
  rw[qYg (jM _)];simp[qBa,en]
 |d+1,a,N+1,h0,hd,h=>by
  have ha:a<l.length:=by omega
  cases hb:p l[a] with
  |true=>
   have:=qYp out go no en d (a+1) N (by omega) (by omega) (by omega)
   rw[qPg ha hb] at this
   simpa[qBa,go a ha hb] using this
  |false=>
   rw[qRp ha hb];simp[qBa,no a ha h0 hb]
def numS(n:Int)(c:UInt8):Int:=if 9007199254740993<10*n+((c.toNat:Int)-48) then 9007199254740993 else 10*n+((c.toNat:Int)-48)
def numL(ds:List UInt8):Int:=ds.foldl numS 0
def qPt(c:UInt8):Bool:=decide (32≤c.toNat)&&decide (c.toNat≤126)&&c !=34
def zBz:Int×ByteArray×Int×Int:=(0,⟨#[]⟩,0,0)
def qRd(l:List UInt8)(i:Nat):Nat:=if l.getD i 0=61∧l.getD (i+1) 0=61 then i+2 else i+1
def tokP(s:ByteArray)(i:Nat):(Int×ByteArray×Int×Int)×Int×Int:=
 if kd (s.data.toList.getD i 0)=1 then
  if tw (inK [1,2,3]) s.data.toList i-i>24 then(zBz,0,2) else((1,s.extract i (tw (inK [1,2,3]) s.data.toList i),0,0),((tw (inK [1,2,3]) s.data.toList i:Nat):Int),0)
 else if kd (s.data.toList.getD i 0)=2 then
  if numL ((s.data.toList.drop i).takeWhile (inK [2]))>9007199254740992 then(zBz,0,3) else((2,⟨#[]⟩,numL ((s.data.toList.drop i).takeWhile (inK [2])),0),((tw (inK [2]) s.data.toList i:Nat):Int),0)
 else if kd (s.data.toList.getD i 0)=7 then
  if s.data.toList.getD (tw qPt s.data.toList (i+1)) 0=34 then((3,s.extract (i+1) (tw qPt s.data.toList (i+1)),0,0),((tw qPt s.data.toList (i+1)+1:Nat):Int),0) else(zBz,0,9)
 else if kd (s.data.toList.getD i 0)=8 then
  ((4,s.extract i (qRd s.data.toList i),0,0),((qRd s.data.toList i:Nat):Int),0)
 else(zBz,0,9)
theorem qYn:∀c:UInt8,kd c=2→48≤c.toNat∧c.toNat≤57:=by
 have h:((List.range 256).all fun n=> !(decide (kd (UInt8.ofNat n)=2))||(decide (48≤n)&&decide (n≤57)))=true:=by kernel_rfl
 intro c hc
 have:=jP.1 h c.toNat (fE.2 c.toNat_lt)
 simpa[hc] using this
theorem qTp{s:ByteArray}{p:UInt8→Bool}{i:Nat}:(s.extract i (tw p s.data.toList i)).data.toList=(s.data.toList.drop i).takeWhile p:=by
 simp only[ByteArray.data_extract,gL]
 have h:=List.prefix_iff_eq_take.1 (List.takeWhile_prefix p (l:=s.data.toList.drop i))
 rw[kX,show tw p s.data.toList i-i=((s.data.toList.drop i).takeWhile p).length by unfold tw;omega]
 exact h.symm
theorem qQu(l:List UInt8)(c:UInt8):numL (l++[c])=numS (numL l) c:=by simp[numL]
theorem zCa{p:UInt8→Bool}:∀{l:List UInt8} {c:UInt8},c∈l.takeWhile p→p c=true
 |[],_,h=>by simp at h
 |x::l,c,h=>by
  cases hx:p x with
  |true=>
   rw[kT hx] at h
   rcases jQ.1 h with rfl|h
   ·exact hx
   ·exact zCa h
  |false=>rw[gI (by simp[hx])] at h;cases h
theorem zDu{N:Nat}{ds:List UInt8}(hd:∀c∈ds,kd c=2)(hl:ds.length<1000000)(hN:ds.length<N):qBa (qGp N ds) N (0,0)=some (numL ds):=by
 have hb:∀j,j≤ds.length→0≤numL (ds.take j)∧numL (ds.take j)≤9007199254740993:=by
  intro j
  induction j with
  |zero=>intro _;simp[numL]
  |succ j ih=>
   intro hj
   have:=ih (by omega)
   rw[kJ (by omega)]
   have hc:=qYn _ (hd _ (jV (show j<ds.length by omega)))
   rw[qQu]
   unfold numS
   split<;>omega
 have key:=qTv (f:=qGp N ds) (fun j=>(numL (ds.take j),(j:Int))) ds.length (numL ds) (fun j hj=> ?_) ?_ (N:=N) (by omega)
 ·exact key
 ·have hc:=qYn _ (hd _ (jV hj))
  have h0:=hb j (by omega)
  simp only[qGp]
  rw[if_pos (by simpa using hj),qDw hj]
  simp only[j0]
  rw[wu8 (by omega) (by omega),wi64 (x:=10*numL (ds.take j)) (by omega) (by omega),wi64 (x:=((ds[j]).toNat:Int)-48) (by omega) (by omega),wi64 (x:=(j:Int)+1) (by omega) (by omega),wi64 (by omega) (by omega),kJ hj,qQu]
  rfl
 ·simp only[qGp]
  rw[if_neg (by simp),gU]
theorem qKt{s:ByteArray}{i e:Nat}(h1:i≤e)(h2:e≤s.data.toList.length):subB s (i:Int) (e:Int)=some (s.extract i e):=by
 have:=qCg s
 rw[qVj (by omega) (by omega) (by omega)]
 simp
theorem zFi{N:Nat}{s:ByteArray}{i j:Nat}(hj:j<s.data.toList.length)(hl:s.data.toList.length<1000000)(hb:qPt (s.data.toList[j])=true):qEz N s (i:Int) (j:Int)=some (.inl ((j:Int)+1)):=by
 have hs:=qCg s
 simp only[qPt,jI,j9,bne_iff_ne,ne_eq] at hb
 obtain⟨⟨h1,h2⟩,h3⟩:=hb
 have h3':¬((s.data.toList[j]).toNat:Int)=34:=fun e=>h3 (UInt8.toNat_inj.1 (by show _=34;omega))
 simp only[qEz,qLs hj,j0]
 rw[if_pos (by simp only[j9];omega),if_pos (by simp only[j9];omega)]
 simp only[j0]
 rw[if_pos (by simp only[j9];omega),if_neg (by simpa using h3'),wi64 (by omega) (by omega)]
theorem zFq{N:Nat}{s:ByteArray}{i j:Nat}(hi:i<s.data.toList.length)(hj:j<s.data.toList.length)(hl:s.data.toList.length<1000000)(hij:i+1≤j)(hb:qPt (s.data.toList[j])=false):
  qEz N s (i:Int) (j:Int)=some (.inr (if s.data.toList.getD j 0=34 then(.inr ((3,s.extract (i+1) j,0,0),((j+1:Nat):Int),0)) else(.inl ()))):=by
 have hs:=qCg s
 simp only[qEz,qLs hj,j0,qIk hj]
 rw[if_pos (by simp only[j9];omega)]
 by_cases h34:s.data.toList[j]=34
 ·rw[h34]
  simp only[show((34:UInt8).toNat:Int)=34 from rfl]
  rw[wi64 (x:=(i:Int)+1) (by omega) (by omega),wi64 (by omega) (by omega),←Int.natCast_succ,qKt hij (by omega)]
  rfl
 ·have h3':¬((s.data.toList[j]).toNat:Int)=34:=fun e=>h34 (UInt8.toNat_inj.1 (by show _=34;omega))
  rw[if_neg h34]
  simp only[qPt,Bool.and_eq_false_iff,decide_eq_false_iff_not,bne_eq_false_iff_eq,h34,fX] at hb
  by_cases h1:32≤(s.data.toList[j]).toNat
  ·rw[if_pos (by simp only[j9];omega)]
   simp only[j0]
   rw[if_neg (by simp only[j9];omega)]
  ·rw[if_neg (by simp only[j9];omega)]
   simp
theorem qQi{s:ByteArray}{i:Nat}(h1:i≤s.data.toList.length):subB s (i:Int) (s.size:Int)=some (s.extract i s.data.toList.length):=by
 have hs:=qCg s
 rw[←qKt h1 (jM _),hs]
theorem qGo(x y:ByteArray):(x.toList==y.toList)=decide (x=y):=by
 rw[gE]
 simp only[kI,j9]
 constructor
 ·intro h
  rw[ByteArray.toList_eq,ByteArray.toList_eq] at h
  exact Go.WideShapes.bytes_inj h
 ·rintro rfl;rfl
theorem zBk{N:Nat}{s:ByteArray}{i:Nat}(hi:i<s.data.toList.length):qGx N (s.extract i s.data.toList.length) (⟨#[61,61]⟩:ByteArray)=some (decide (s.data.toList.getD i 0=61∧s.data.toList.getD (i+1) 0=61)):=by
 have hs:=qCg s
 have hsz:(s.extract i s.data.toList.length).size=s.data.toList.length-i:=by rw[ByteArray.size_extract];omega
 simp only[qGx,qDp,hsz,show(⟨#[61,61]⟩:ByteArray).size=2 from rfl]
 by_cases h:i+1<s.data.toList.length
 ·have hd:((s.extract i s.data.toList.length).extract 0 2).data.toList=[s.data.toList[i],s.data.toList[i+1]]:=by
   simp only[ByteArray.data_extract,gL,kX,kG]
   rw[List.take_take,k0 hi,k0 h]
   have:min (2-0) (s.data.toList.length-i)=2:=by omega
   rw[this];rfl
  have hsub:subB (s.extract i s.data.toList.length) 0 ((2:Nat):Int)=some ((s.extract i s.data.toList.length).extract 0 2):=by
   have:=qKt (s:=s.extract i s.data.toList.length) (i:=0) (e:=2) (by omega) (by rw[qCg,hsz];omega)
   simpa only[Int.natCast_zero] using this
  rw[if_pos (by simp only[j9];omega),hsub]
  simp only[j0,qGo]
  rw[qIk hi,qIk h]
  generalize (s.extract i s.data.toList.length).extract 0 2=X at hd
  refine congrArg some (decide_eq_decide.2 ?_)
  constructor
  ·intro e
   rw[e] at hd
   have hd':[(61:UInt8),61]=[s.data.toList[i],s.data.toList[i+1]]:=hd
   simp only[fB,and_true] at hd'
   exact⟨hd'.1.symm,hd'.2.symm⟩
  ·rintro⟨e1,e2⟩
   apply Go.WideShapes.bytes_inj
   rw[hd,e1,e2]
 ·rw[if_neg (by simp only[j9];omega)]
  have h0:s.data.toList.getD (i+1) 0=0:=by rw[jT,List.getElem?_eq_none (by omega)];rfl
  rw[h0]
  simp
theorem zDp{N:Nat}{s:ByteArray}{i:Nat}(hi:i<s.data.toList.length)(hl:s.data.toList.length<1000000)(hN:s.data.toList.length+20<N):qKn N s (i:Int) (some kdL)=some (tokP s i):=by
 have hs:=qCg s
 simp only[qKn,qLs hi,j0,zBn,tokP,qIk hi,kI]
 by_cases h1:kd (s.data.toList[i])=1
 ·simp only[h1,jU]
  have hb:=qOk (p:=inK [1,2,3]) (l:=s.data.toList) (a:=i) (by omega)
  rw[qQr (by omega) hl (by simp) (by omega)]
  simp only[j0]
  rw[wi64 (by omega) (by omega),qKt hb.1 hb.2]
  by_cases h:tw (inK [1,2,3]) s.data.toList i-i>24
  ·rw[if_pos (by simp only[j9];omega),if_pos h];rfl
  ·rw[if_neg (by simp only[j9];omega),if_neg h];rfl
 simp only[h1,jK]
 by_cases h2:kd (s.data.toList[i])=2
 ·simp only[h2,jU]
  have hb:=qOk (p:=inK [2]) (l:=s.data.toList) (a:=i) (by omega)
  have hx:=qCg (s.extract i (tw (inK [2]) s.data.toList i))
  have he:=qTp (s:=s) (p:=inK [2]) (i:=i)
  have hlen:((s.data.toList.drop i).takeWhile (inK [2])).length≤s.data.toList.length:=by
   have:=(fP (inK [2]) (l:=s.data.toList.drop i)).length_le
   simp only[gW] at this;omega
  rw[qQr (by omega) hl (by simp) (by omega)]
  simp only[j0]
  rw[qKt hb.1 hb.2]
  simp only[j0]
  have hbo:qMw (s.extract i (tw (inK [2]) s.data.toList i))=some ((s.data.toList.drop i).takeWhile (inK [2])):=by
   unfold qMw;rw[←he,if_pos];rw[←hx,he];simp only[maxLen];omega
  rw[hbo]
  simp only[j0]
  rw[zDu (fun c hc=> ?_) (by omega) (by omega)]
  ·simp only[j0,j9]
   split<;>rfl
  ·have:=zCa hc
   simpa[inK] using this
 simp only[h2,jK]
 by_cases h7:kd (s.data.toList[i])=7
 ·simp only[h7,jU]
  have key:=qYp (a0:=i+1) (f:=qEz N s (i:Int)) (l:=s.data.toList) (p:=qPt) (fun e=>if s.data.toList.getD e 0=34 then(.inr ((3,s.extract (i+1) e,0,0),((e+1:Nat):Int),0)) else(.inl ()))
   (fun j hj hb=>zFi hj hl hb) (fun j hj h0 hb=>zFq hi hj hl h0 hb) (by
    simp only[qEz]
    rw[if_neg (by simp only[j9];omega),if_neg (by simp)]
    rfl) (s.data.toList.length-(i+1)) (i+1) N (jM _) (by omega) (by omega)
  rw[wi64 (x:=(i:Int)+1) (by omega) (by omega),←Int.natCast_succ,key]
  simp only[j0]
  split
  ·rename_i h;split at h<;>simp_all [zBz]
  ·rename_i h;split at h<;>simp_all
 simp only[h7,jK]
 by_cases h8:kd (s.data.toList[i])=8
 ·simp only[h8,jU]
  rw[qQi (by omega),wi64 (x:=(i:Int)+1) (by omega) (by omega)]
  simp only[j0]
  rw[zBk hi]
  simp only[j0,j9]
  by_cases h:s.data.toList.getD i 0=61∧s.data.toList.getD (i+1) 0=61
  ·have hlt:i+1<s.data.toList.length:=by
    rcases fH (i+1) s.data.toList.length with h'|h'
    ·exact h'
    ·have h0:s.data.toList.getD (i+1) 0=0:=by rw[jT,List.getElem?_eq_none h'];rfl
     rw[h0] at h;exact absurd h.2 (by decide)
   have hE:qRd s.data.toList i=i+2:=by rw[qRd,if_pos h]
   rw[if_pos h,wi64 (by omega) (by omega),hE]
   simp only[j0]
   rw[show((i:Int)+1+1)=((i+2:Nat):Int) by omega,qKt (by omega) (by omega)]
   rfl
  ·have hE:qRd s.data.toList i=i+1:=by rw[qRd,if_neg h]
   rw[if_neg h,hE]
   simp only[j0]
   rw[←Int.natCast_succ,qKt (by omega) (by omega)]
   rfl
 simp only[h8,jK]
 rfl
end
section
open Go Go.Dc
theorem zFh{p:UInt8→Bool}{l:List UInt8}(h:∀c∈l,p c=true):tw p l 0=l.length:=by
 unfold tw
 have:l.takeWhile p=l:=by
  induction l with
  |nil=>rfl
  |cons c l ih=>rw[kT (h c (jL ..)),ih fun d hd=>h d (jZ _ hd)]
 simp[this]
end
section
open Go Go.Dc
abbrev Tok:=Int×ByteArray×Int×Int
theorem qYm{ks:List Int}{k:Int}{c:UInt8}(hk:k∈ks)(h:kd c=k):inK ks c=true:=by
 unfold inK;exact gX.2 ⟨k,hk,by simp[h]⟩
theorem qWa{p:UInt8→Bool}{l:List UInt8}{a:Nat}(h:a<l.length)(hp:p l[a]=true):a<tw p l a:=by
 rw[←qPg h hp];have:=(qOk (p:=p) (l:=l) (a:=a+1) (by omega)).1;omega
theorem qZc{l:List UInt8}{i:Nat}(h:l.getD i 0≠0):i<l.length:=by
 rcases fH i l.length with h'|h'
 ·exact h'
 ·exfalso;apply h;rw[jT,List.getElem?_eq_none h'];rfl
theorem qXv{s:ByteArray}{i:Nat}(hi:i<s.data.toList.length)(h:(tokP s i).2.2=0):∃e:Nat,(tokP s i).2.1=(e:Int)∧i<e∧e≤s.data.toList.length∧
  (((tokP s i).1.1=1∨(tokP s i).1.1=4)∧(tokP s i).1.2.1=s.extract i e∨(tokP s i).1.1=2∧(tokP s i).1.2.1=⟨#[]⟩∨(tokP s i).1.1=3∧(tokP s i).1.2.1.size+i<e):=by
 have hs:=qCg s
 unfold tokP at h ⊢
 rw[qIk hi] at h ⊢
 by_cases h1:kd (s.data.toList[i])=1
 ·rw[if_pos h1] at h ⊢
  split at h
  ·cases h
  ·rename_i h24
   rw[if_neg h24]
   have hb:=qOk (p:=inK [1,2,3]) (l:=s.data.toList) (a:=i) (by omega)
   exact⟨_,rfl,qWa hi (qYm (by simp) h1),hb.2,.inl ⟨.inl rfl,rfl⟩⟩
 rw[if_neg h1] at h ⊢
 by_cases h2:kd (s.data.toList[i])=2
 ·rw[if_pos h2] at h ⊢
  split at h
  ·cases h
  ·rename_i h24
   rw[if_neg h24]
   have hb:=qOk (p:=inK [2]) (l:=s.data.toList) (a:=i) (by omega)
   exact⟨_,rfl,qWa hi (qYm (by simp) h2),hb.2,.inr (.inl ⟨rfl,rfl⟩)⟩
 rw[if_neg h2] at h ⊢
 by_cases h7:kd (s.data.toList[i])=7
 ·rw[if_pos h7] at h ⊢
  split at h
  ·rename_i h24
   rw[if_pos h24]
   have hb:=qOk (p:=qPt) (l:=s.data.toList) (a:=i+1) (by omega)
   have hlt:tw qPt s.data.toList (i+1)<s.data.toList.length:=qZc (by rw[h24];decide)
   refine⟨_,rfl,by omega,by omega,.inr (.inr ⟨rfl,?_⟩)⟩
   simp only[ByteArray.size_extract]
   omega
  ·cases h
 rw[if_neg h7] at h ⊢
 by_cases h8:kd (s.data.toList[i])=8
 ·rw[if_pos h8] at h ⊢
  refine⟨_,rfl,?_,?_,.inl ⟨.inr rfl,rfl⟩⟩
  ·unfold qRd;split<;>omega
  ·unfold qRd
   split
   ·rename_i hh
    have:i+1<s.data.toList.length:=qZc (by rw[hh.2];decide)
    omega
   ·omega
 rw[if_neg h8] at h
 cases h
def qIb(c:UInt8):Bool:=c !=10
def tokG:Nat→ByteArray→Nat→(Int×Int)⊕List Tok
 |0,_,_=> .inr []
 |k+1,s,i=>
  if tw (inK [5]) s.data.toList i=s.data.toList.length then .inr [(5,⟨#[]⟩,0,(s.data.toList.length:Int))]
  else if kd (s.data.toList.getD (tw (inK [5]) s.data.toList i) 0)=6 then tokG k s (tw qIb s.data.toList (tw (inK [5]) s.data.toList i))
  else if(tokP s (tw (inK [5]) s.data.toList i)).2.2≠0 then .inl ((tw (inK [5]) s.data.toList i:Nat),(tokP s (tw (inK [5]) s.data.toList i)).2.2)
  else match tokG k s (tokP s (tw (inK [5]) s.data.toList i)).2.1.toNat with
   | .inl x=> .inl x
   | .inr r=> .inr (((tokP s (tw (inK [5]) s.data.toList i)).1.1,(tokP s (tw (inK [5]) s.data.toList i)).1.2.1,(tokP s (tw (inK [5]) s.data.toList i)).1.2.2.1,((tw (inK [5]) s.data.toList i:Nat):Int))::r)
def zBf(acc:List Tok):(Int×Int)⊕List Tok→List Tok×Int×Int
 | .inl x=>([],x.1,x.2)
 | .inr r=>(acc++r,0,0)
def qGc(s:ByteArray):List Tok×Int×Int:=if s.data.toList.length>16384 then([],0,2) else zBf [] (tokG (s.data.toList.length+1) s 0)
theorem zFj{s:ByteArray}{i:Nat}(hi:i≤s.data.toList.length):
  (if ixB (s.extract i s.data.toList.length) 10<0 then((s.data.toList.length-i:Nat):Int) else ixB (s.extract i s.data.toList.length) 10)=((tw qIb s.data.toList i-i:Nat):Int):=by
 have hs:=qCg s
 have hsz:(s.extract i s.data.toList.length).size=s.data.toList.length-i:=by rw[ByteArray.size_extract];omega
 have hb:=qOk (p:=qIb) (l:=s.data.toList) (a:=i) hi
 have hget:∀j,j<s.data.toList.length-i→(s.extract i s.data.toList.length)[j]! =s.data.toList.getD (i+j) 0:=by
  intro j hj
  have hj':i+j<s.data.toList.length:=by omega
  rw[qIk hj',getElem!_pos _ _ (by rw[hsz];exact hj),ByteArray.getElem_extract]
  simp[ByteArray.getElem_eq_getElem_data]
 have hin:∀d a,a+d=s.data.toList.length→∀j,a≤j→j<tw qIb s.data.toList a→s.data.toList.getD j 0≠10:=by
  intro d
  induction d with
  |zero=>intro a ha j h1 h2;rw[qYg (by omega)] at h2;omega
  |succ d ih=>
   intro a ha j h1 h2
   have hlt:a<s.data.toList.length:=by omega
   cases hc:qIb (s.data.toList[a]) with
   |true=>
    rw[←qPg hlt hc] at h2
    rcases Nat.eq_or_lt_of_le h1 with rfl|h1
    ·rw[qIk hlt];simpa[qIb] using hc
    ·exact ih (a+1) (by omega) j h1 h2
   |false=>rw[qRp hlt hc] at h2;omega
 have hin:=hin (s.data.toList.length-i) i (by omega)
 unfold ixB
 rw[hsz]
 cases hf:(List.range (s.data.toList.length-i)).find? (fun j=>(s.extract i s.data.toList.length)[j]! ==(10:Int).toNat.toUInt8) with
 |none=>
  rw[List.find?_eq_none] at hf
  simp only
  rw[if_pos (by omega)]
  have:¬tw qIb s.data.toList i<s.data.toList.length:=by
   intro hlt
   have h1:=zCl (p:=qIb) (l:=s.data.toList) (s.data.toList.length-i) i (by omega) hlt
   have h2:=hf (tw qIb s.data.toList i-i) (fE.2 (by omega))
   rw[hget _ (by omega),show i+(tw qIb s.data.toList i-i)=tw qIb s.data.toList i by omega,qIk hlt] at h2
   simp only[qIb,bne_eq_false_iff_eq] at h1
   rw[h1] at h2
   exact h2 (by decide)
  omega
 |some k=>
  have h1:=List.find?_some hf
  have hk:k<s.data.toList.length-i:=fE.1 (gK hf)
  simp only
  rw[if_neg (by omega)]
  rw[hget k hk] at h1
  have h1:s.data.toList.getD (i+k) 0=10:=by simpa using h1
  have h2:¬i+k<tw qIb s.data.toList i:=fun h=>hin (i+k) (by omega) h h1
  have h3:¬tw qIb s.data.toList i<i+k:=by
   intro hlt
   have hlt':tw qIb s.data.toList i<s.data.toList.length:=by omega
   have h4:=zCl (p:=qIb) (l:=s.data.toList) (s.data.toList.length-i) i (by omega) hlt'
   have h5:=List.not_of_lt_findIdx (xs:=List.range (s.data.toList.length-i)) (p:=fun j=>(s.extract i s.data.toList.length)[j]! ==(10:Int).toNat.toUInt8) (i:=tw qIb s.data.toList i-i)
   have h6:=(List.find?_range_eq_some.1 hf).2.2 (tw qIb s.data.toList i-i) (by omega)
   rw[hget _ (by omega),show i+(tw qIb s.data.toList i-i)=tw qIb s.data.toList i by omega,qIk hlt'] at h6
   simp only[qIb,bne_eq_false_iff_eq] at h4
   rw[h4] at h6
   simp at h6
  omega
end
section
open Go Go.Dc
theorem qOb{N:Nat}{s:ByteArray}(hl:s.data.toList.length≤16384)(hN:s.data.toList.length+40<N):∀(k M i:Nat) (acc:List Tok),i≤s.data.toList.length→s.data.toList.length<i+k→k≤M→acc.length≤i→
  qBa (qGv N s (some kdL)) M (acc,(i:Int))=some (zBf acc (tokG k s i))
 |0,_,i,_,h1,h2,_,_=>by omega
 |k+1,0,_,_,_,_,h3,_=>by omega
 |k+1,M+1,i,acc,h1,h2,h3,h4=>by
  have hs:=qCg s
  have hb:=qOk (p:=inK [5]) (l:=s.data.toList) (a:=i) h1
  simp only[qBa,tokG]
  have hstep:qGv N s (some kdL) (acc,(i:Int))=if tw (inK [5]) s.data.toList i=s.data.toList.length then some (.inr (acc++[(5,⟨#[]⟩,0,(s.data.toList.length:Int))],0,0))
    else if kd (s.data.toList.getD (tw (inK [5]) s.data.toList i) 0)=6 then some (.inl (acc,((tw qIb s.data.toList (tw (inK [5]) s.data.toList i):Nat):Int)))
    else if(tokP s (tw (inK [5]) s.data.toList i)).2.2≠0 then some (.inr ([],(tw (inK [5]) s.data.toList i:Nat),(tokP s (tw (inK [5]) s.data.toList i)).2.2))
    else some (.inl (acc++[((tokP s (tw (inK [5]) s.data.toList i)).1.1,(tokP s (tw (inK [5]) s.data.toList i)).1.2.1,(tokP s (tw (inK [5]) s.data.toList i)).1.2.2.1,((tw (inK [5]) s.data.toList i:Nat):Int))],(tokP s (tw (inK [5]) s.data.toList i)).2.1)):=by
   simp only[qGv]
   rw[qQr h1 (by omega) (by simp) (by omega)]
   simp only[j0]
   generalize hE:tw (inK [5]) s.data.toList i=e at hb ⊢
   by_cases he:e=s.data.toList.length
   ·rw[if_pos he,if_pos (by rw[kI];omega),qGm (by simp only[jC,jF];omega) (by omega),he]
    rfl
   ·have hlt:e<s.data.toList.length:=by omega
    rw[if_neg he,if_neg (by rw[kI];omega),qLs hlt]
    simp only[j0,zBn,kI,qIk hlt]
    by_cases h6:kd (s.data.toList[e])=6
    ·rw[if_pos h6,if_pos h6,qQi (by omega)]
     have hle:=zFj (s:=s) (i:=e) (by omega)
     have hb2:=qOk (p:=qIb) (l:=s.data.toList) (a:=e) (by omega)
     have hx:(if(decide (ixB (s.extract e s.data.toList.length) 10<0))=true then(some (IntKind.wrap .i64 ((ByteArray.size s:Int)-(e:Int)))) else(some (ixB (s.extract e s.data.toList.length) 10)):Option Int)=some ((tw qIb s.data.toList e-e:Nat):Int):=by
      rw[←hle,wi64 (by omega) (by omega)]
      by_cases hi:ixB (s.extract e s.data.toList.length) 10<0
      ·rw[if_pos (by simpa using hi),if_pos hi];congr 1;omega
      ·rw[if_neg (by simpa using hi),if_neg hi]
     simp only[j0,qHy,qBy]
     rw[hx]
     simp only[j0]
     rw[wi64 (by omega) (by omega)]
     congr 3;omega
    ·rw[if_neg h6,if_neg h6,zDp hlt (by omega) (by omega)]
     simp only[j0,bne_iff_ne]
     by_cases h0:(tokP s e).2.2≠0
     ·rw[if_pos h0,if_pos h0]
     ·rw[if_neg h0,if_neg h0,qGm (by simp only[jC,jF];omega) (by omega)]
      rfl
  rw[hstep]
  by_cases he:tw (inK [5]) s.data.toList i=s.data.toList.length
  ·rw[if_pos he,if_pos he];rfl
  rw[if_neg he,if_neg he]
  have hlt:tw (inK [5]) s.data.toList i<s.data.toList.length:=by omega
  by_cases h6:kd (s.data.toList.getD (tw (inK [5]) s.data.toList i) 0)=6
  ·rw[if_pos h6,if_pos h6]
   have hb2:=qOk (p:=qIb) (l:=s.data.toList) (a:=tw (inK [5]) s.data.toList i) (by omega)
   have hpos:=qWa (p:=qIb) hlt (by
    rw[qIk hlt] at h6
    simp only[qIb,bne_iff_ne,ne_eq]
    intro e;rw[e] at h6;exact absurd h6 (by decide))
   exact qOb hl hN k M _ acc hb2.2 (by omega) (by omega) (by omega)
  rw[if_neg h6,if_neg h6]
  by_cases h0:(tokP s (tw (inK [5]) s.data.toList i)).2.2≠0
  ·rw[if_pos h0,if_pos h0];rfl
  rw[if_neg h0,if_neg h0]
  obtain⟨e,he1,he2,he3,_⟩:=qXv hlt (by simpa using h0)
  rw[he1]
  simp only[j0,jO]
  rw[qOb hl hN k M e _ he3 (by omega) (by omega) (by simp;omega)]
  cases tokG k s e with
  |inl x=>rfl
  |inr r=>simp[zBf]
theorem zCx{N:Nat}{s:ByteArray}(hN:20000<N):qJp N s=some (qGc s):=by
 have hs:=qCg s
 unfold qJp qGc
 by_cases h:s.data.toList.length>16384
 ·rw[if_pos (by simp only[j9];omega),if_pos h]
 ·rw[if_neg (by simp only[j9];omega),if_neg h,qUb (by omega)]
  have:=qOb (N:=N) (s:=s) (by omega) (by omega) (s.data.toList.length+1) N 0 [] (by omega) (by omega) (by omega) (by simp)
  simp only[j0]
  rw[show((0:Nat):Int)=0 from rfl] at this
  rw[this]
  rfl
def endT(t:Tok):Int:=t.2.2.2+(t.2.1.size:Int)+(if t.1=2 then 1 else 0)
def zGk(s:ByteArray):Int→List Tok→Prop
 |_,[]=>True
 |e,t::r=>e≤t.2.2.2∧t.2.2.2+(t.2.1.size:Int)≤s.size∧(t.1=5↔r=[])∧(t.1=1∨t.1=4→s.extract t.2.2.2.toNat (t.2.2.2+(t.2.1.size:Int)).toNat=t.2.1∧0<t.2.1.size)∧zGk s (endT t) r
theorem qPe{s:ByteArray}:∀(k i:Nat) (e:Int) (r:List Tok),i≤s.data.toList.length→s.data.toList.length<i+k→e≤i→tokG k s i= .inr r→zGk s e r∧r≠[]∧r.length≤s.data.toList.length+1-i
 |0,i,e,r,h1,h2,h3,h4=>by omega
 |k+1,i,e,r,h1,h2,h3,h4=>by
  have hs:=qCg s
  have hb:=qOk (p:=inK [5]) (l:=s.data.toList) (a:=i) h1
  simp only[tokG] at h4
  generalize hE:tw (inK [5]) s.data.toList i=a at hb h4
  split at h4
  ·obtain rfl:=(Sum.inr.inj h4).symm
   refine⟨⟨by show e≤(s.data.toList.length:Int);omega,by show(s.data.toList.length:Int)+((0:Nat):Int)≤_;omega,by simp,fun h=>by simp at h,trivial⟩,by simp,by simp;omega⟩
  ·rename_i he
   have hlt:a<s.data.toList.length:=by omega
   split at h4
   ·rename_i h6
    have hb2:=qOk (p:=qIb) (l:=s.data.toList) (a:=a) (by omega)
    have hpos:=qWa (p:=qIb) hlt (by
     rw[qIk hlt] at h6
     simp only[qIb,bne_iff_ne,ne_eq]
     intro e;rw[e] at h6;exact absurd h6 (by decide))
    obtain⟨g1,g2,g3⟩:=qPe k _ e r hb2.2 (by omega) (by omega) h4
    exact⟨g1,g2,by omega⟩
   ·split at h4
    ·cases h4
    ·rename_i h0
     obtain⟨b,hb1,hb2,hb3,hk⟩:=qXv hlt (by simpa using h0)
     rw[hb1,jO] at h4
     generalize (tokP s a).1=t at h4 hk
     cases hG:tokG k s b with
     |inl x=>rw[hG] at h4;cases h4
     |inr q=>
      rw[hG] at h4
      obtain rfl:=(Sum.inr.inj h4).symm
      have hext:(s.extract a b).size=b-a:=by rw[ByteArray.size_extract];omega
      have hend:endT (t.1,t.2.1,t.2.2.1,(a:Int))≤b∧(a:Int)+(t.2.1.size:Int)≤b∧t.1≠5∧(t.1=1∨t.1=4→t.2.1=s.extract a b):=by
       rcases hk with ⟨hk1,hk2⟩|⟨hk1,hk2⟩|⟨hk1,hk2⟩
       ·refine⟨?_,?_,by omega,fun _=>hk2⟩
        ·simp only[endT,hk2,hext];rw[if_neg (by omega)];omega
        ·rw[hk2,hext];omega
       ·have:(⟨#[]⟩:ByteArray).size=0:=rfl
        refine⟨?_,?_,by omega,fun h=>by omega⟩
        ·simp only[endT,hk2,this];rw[if_pos hk1];omega
        ·rw[hk2,this];omega
       ·refine⟨?_,by omega,by omega,fun h=>by omega⟩
        simp only[endT];rw[if_neg (by omega)];omega
      obtain⟨g1,g2,g3⟩:=qPe k b (endT (t.1,t.2.1,t.2.2.1,(a:Int))) q hb3 (by omega) hend.1 hG
      refine⟨⟨by show e≤(a:Int);omega,?_,?_,?_,g1⟩,by simp,by simp only[jC];omega⟩
      ·show(a:Int)+(t.2.1.size:Int)≤_;omega
      ·exact⟨fun h=>absurd h hend.2.2.1,fun h=>absurd h g2⟩
      ·intro h
       have:=hend.2.2.2 h
       show s.extract (Int.toNat (a:Int)) ((a:Int)+(t.2.1.size:Int)).toNat=t.2.1∧0<t.2.1.size
       rw[this,hext,jO,show((a:Int)+((b-a:Nat):Int)).toNat=b by omega]
       exact⟨rfl,by omega⟩
theorem qUa{s:ByteArray}:∀(k i:Nat) (x:Int×Int),i≤s.data.toList.length→s.data.toList.length<i+k→tokG k s i= .inl x→0≤x.1∧x.1≤s.size∧x.2≠0
 |0,i,x,h1,h2,h4=>by omega
 |k+1,i,x,h1,h2,h4=>by
  have hs:=qCg s
  have hb:=qOk (p:=inK [5]) (l:=s.data.toList) (a:=i) h1
  simp only[tokG] at h4
  generalize hE:tw (inK [5]) s.data.toList i=a at hb h4
  split at h4
  ·cases h4
  ·rename_i he
   have hlt:a<s.data.toList.length:=by omega
   split at h4
   ·rename_i h6
    have hb2:=qOk (p:=qIb) (l:=s.data.toList) (a:=a) (by omega)
    have hpos:=qWa (p:=qIb) hlt (by
     rw[qIk hlt] at h6
     simp only[qIb,bne_iff_ne,ne_eq]
     intro e;rw[e] at h6;exact absurd h6 (by decide))
    exact qUa k _ x hb2.2 (by omega) h4
   ·split at h4
    ·rename_i h0
     obtain rfl:=Sum.inl.inj h4
     exact⟨by simp only;omega,by simp only;omega,h0⟩
    ·rename_i h0
     obtain⟨b,hb1,hb2,hb3,hk⟩:=qXv hlt (by simpa using h0)
     rw[hb1,jO] at h4
     cases hG:tokG k s b with
     |inl y=>rw[hG] at h4;obtain rfl:=Sum.inl.inj h4;exact qUa k b y hb3 (by omega) hG
     |inr q=>rw[hG] at h4;cases h4
end
section
open Go Go.Dc
end
section
open Go Go.Dc
end
section
open Go Go.Dc
def qQy(s:ByteArray):Bool:=decide (1≤s.data.toList.length∧s.data.toList.length≤24∧kd (s.data.toList.getD 0 0)=1∧tw (inK [1,2,3]) s.data.toList 0=s.data.toList.length)
theorem qUg{s:ByteArray}(h:¬(1≤s.data.toList.length∧s.data.toList.length≤24∧kd (s.data.toList.getD 0 0)=1∧tw (inK [1,2,3]) s.data.toList 0=s.data.toList.length)):false=qQy s:=(kK h).symm
theorem qXm{N:Nat}{s:ByteArray}(hN:100<N):qJn N s=some (qQy s):=by
 have hs:=qCg s
 simp only[qJn,qUb (show 30<N by omega),j0]
 by_cases h1:1≤s.data.toList.length
 ·by_cases h2:s.data.toList.length≤24
  ·rw[if_pos (by simp only[j9];omega),if_pos (by simp only[j9];omega)]
   have hi:=qLs (s:=s) (i:=0) (by omega)
   rw[show((0:Nat):Int)=0 from rfl] at hi
   rw[hi]
   simp only[j0,zBn,kI]
   have hsp:=qQr (N:=N) (s:=s) (ks:=[1,2,3]) (i:=0) (by omega) (by omega) (by simp) (by omega)
   rw[show((0:Nat):Int)=0 from rfl] at hsp
   by_cases h3:kd (s.data.toList[0])=1
   ·rw[if_pos h3,hsp]
    simp only[j0]
    congr 1
    rw[gE,kI,qQy,j9,qIk (by omega)]
    exact⟨fun h=>⟨h1,h2,h3,by omega⟩,fun h=>by have:=h.2.2.2;omega⟩
   ·rw[if_neg h3]
    refine congrArg some (qUg fun h=> ?_)
    rw[qIk (by omega)] at h
    exact h3 h.2.2.1
  ·rw[if_pos (by simp only[j9];omega),if_neg (by simp only[j9];omega)]
   exact congrArg some (qUg fun h=>h2 h.2.1)
 ·rw[if_neg (by simp only[j9];omega)]
  exact congrArg some (qUg fun h=>h1 h.1)
end
section
open Go Go.Dc
def sp:List UInt8→List (List UInt8)
 |[]=>[[]]
 |c::l=>if c=47 then[]::sp l else match sp l with
  |[]=>[[c]]
  |p::q=>(c::p)::q
theorem zGb:∀l:List UInt8,sp l≠[]
 |[]=>by simp[sp]
 |c::l=>by
  simp only[sp]
  split
  ·simp
  ·split<;>simp
theorem zCy:∀l:List UInt8,(sp l).length=l.count 47+1
 |[]=>rfl
 |c::l=>by
  simp only[sp]
  split
  ·rename_i h;subst h;simp[zCy l]
  ·rename_i h
   have:=zCy l
   split
   ·rename_i e;exact absurd e (zGb l)
   ·rename_i e
    rw[e] at this
    simp only[jC] at this ⊢
    rw[List.count_cons_of_ne h,←this]
def qJt(c:UInt8):Bool:=c !=47
theorem zCc:∀l:List UInt8,sp l=if(l.takeWhile qJt).length=l.length then[l] else l.takeWhile qJt::sp (l.drop ((l.takeWhile qJt).length+1))
 |[]=>rfl
 |c::l=>by
  have ih:=zCc l
  by_cases h:c=47
  ·subst h
   rw[gI (by decide)]
   simp[sp]
  ·have hc:qJt c=true:=by simpa[qJt] using h
   rw[kT hc]
   simp only[sp,h,jK,ih,jC,Nat.add_right_cancel_iff,List.drop_succ_cons]
   by_cases he:(l.takeWhile qJt).length=l.length
   ·simp[he]
   ·simp[he]
def qPd(l:List UInt8):Bool:=decide (l.length≤80∧(sp l).length≤8∧∀p∈sp l,1≤p.length∧p.length≤24∧∀c∈p,inK [1,2,3,4] c=true)
end
section
open Go Go.Dc
theorem tw_is{p:UInt8→Bool}{l:List UInt8}{k:Nat}(hk:k<l.length)(h1:∀j,∀h:j<l.length,j<k→p l[j]=true)(h2:p l[k]=false):tw p l 0=k:=by
 have key:∀d j,j+d=k→tw p l j=k:=by
  intro d
  induction d with
  |zero=>
   intro j h
   have:j=k:=by omega
   subst this
   exact qRp hk h2
  |succ d ih=>intro j h;rw[←qPg (by omega) (h1 j (by omega) (by omega))];exact ih (j+1) (by omega)
 exact key k 0 (by omega)
theorem ix_eq(x:ByteArray):ixB x 47=if(x.data.toList.takeWhile qJt).length=x.data.toList.length then-1 else((x.data.toList.takeWhile qJt).length:Int):=by
 have hs:=qCg x
 have htw:tw qJt x.data.toList 0=(x.data.toList.takeWhile qJt).length:=by simp[tw]
 have hget:∀j,∀h:j<x.data.toList.length,x[j]! =x.data.toList[j]:=by
  intro j hj
  rw[getElem!_pos x j (by omega)]
  simp[ByteArray.getElem_eq_getElem_data]
 have h47:(47:Int).toNat.toUInt8=47:=rfl
 rw[←htw]
 unfold ixB
 rw[h47,←hs]
 cases hf:(List.range x.data.toList.length).find? (fun j=>x[j]! ==47) with
 |none=>
  rw[List.find?_eq_none] at hf
  simp only
  rw[if_pos]
  refine zFh fun c hc=> ?_
  obtain⟨j,hj,rfl⟩:=List.getElem_of_mem hc
  have:=hf j (fE.2 hj)
  rw[hget j hj] at this
  simpa[qJt] using this
 |some k=>
  have h1:=List.find?_some hf
  have hk:k<x.data.toList.length:=fE.1 (gK hf)
  rw[hget k hk] at h1
  have e:tw qJt x.data.toList 0=k:=by
   refine tw_is hk (fun j h hj=> ?_) (by simpa[qJt] using h1)
   have:=(List.find?_range_eq_some.1 hf).2.2 j hj
   rw[hget j h] at this
   simpa[qJt] using this
  simp only
  rw[e,if_neg (by omega)]
theorem zDm{N:Nat}(x:ByteArray):qHw N x (⟨#[47]⟩:ByteArray)=some (ixB x 47):=by
 have h1:idxB (⟨#[47]⟩:ByteArray) 0=some 47:=by kernel_rfl
 simp only[qHw,qEq,qBy,show(⟨#[47]⟩:ByteArray).size=1 from rfl,qGo]
 rw[if_neg (by decide)]
 simp only[j0,j9]
 by_cases h:(⟨#[47]⟩:ByteArray)=x
 ·have h0:ixB (⟨#[47]⟩:ByteArray) 47=0:=by kernel_rfl
  rw[if_pos h,←h,h0]
  rfl
 ·rw[if_neg h,if_pos (by decide),h1]
  rfl
theorem cnt_eq(x:ByteArray):cntB x 47=((x.data.toList.count 47:Nat):Int):=by
 unfold cntB
 rw[Go.Lib.foldl_data]
 have key:∀(l:List UInt8) (n:Int),l.foldl (fun n x=>if x==(47:Int).toNat.toUInt8 then n+1 else n) n=n+((l.count 47:Nat):Int):=by
  intro l
  induction l with
  |nil=>intro n;simp
  |cons c l ih=>
   intro n
   rw[List.foldl_cons,ih,List.count_cons]
   have h47:(47:Int).toNat.toUInt8=47:=rfl
   rw[h47]
   by_cases h:(c==47)=true
   ·simp only[h,jU];omega
   ·simp only[h,jB,jK];omega
 rw[key]
 omega
theorem zFl{α:Type}(l:List α)(k:Nat)(a b:α):(l++List.replicate (k+1) a).set l.length b=(l++[b])++List.replicate k a:=by
 rw[List.set_append_right _ _ (jM _)]
 simp[List.replicate_succ]
theorem qSx{N n:Nat}{s:ByteArray}(hn:n<1000000000)(hns:n≤s.size+1)(hs:s.size<1000000000):∀(r M:Nat) (x:ByteArray) (done:List ByteArray),(sp x.data.toList).length=r→done.length+r=n→r<M→x.size<1000000000→
  ∃y D,qBa (qFy N s (⟨#[47]⟩:ByteArray) 0 (n:Int)) M (x,(done.length:Int),done++List.replicate r (⟨#[]⟩:ByteArray))=some (y,((n-1:Nat):Int),D++[(⟨#[]⟩:ByteArray)])∧D.length=n-1∧D++[y]=done++(sp x.data.toList).map qIx
 |_,0,_,_,_,_,h,_=>by omega
 |0,_,x,_,h,_,_,_=>by exact absurd (fL.1 h) (zGb _)
 |r+1,M+1,x,done,h1,h2,h3,h4=>by
  have hxs:=qCg x
  have hmin:(if IntKind.wrap .i64 ((s.size:Int)+1)<(n:Int) then IntKind.wrap .i64 ((s.size:Int)+1) else(n:Int))=(n:Int):=by
   rw[wi64 (by omega) (by omega)];split<;>omega
  have hstep:=zCc x.data.toList
  simp only[qBa,qFy]
  rw[hmin,wi64 (x:=(n:Int)-1) (by omega) (by omega)]
  by_cases hlast:(x.data.toList.takeWhile qJt).length=x.data.toList.length
  ·rw[if_pos hlast] at hstep
   rw[hstep] at h1
   simp only[jC,jF] at h1
   have hr:r=0:=by omega
   subst hr
   rw[if_neg (by simp only[j9];omega)]
   refine⟨x,done,?_,by omega,?_⟩
   ·simp only[j0]
    rw[show(n-1:Nat)=done.length by omega]
    rfl
   ·rw[hstep];simp[qIx]
  ·rw[if_neg hlast] at hstep
   rw[hstep] at h1
   simp only[jC] at h1
   have hpos:0<(sp (x.data.toList.drop ((x.data.toList.takeWhile qJt).length+1))).length:=List.length_pos_iff.2 (zGb _)
   have hle:(x.data.toList.takeWhile qJt).length≤x.data.toList.length:=(fP _).length_le
   have hix:=ix_eq x
   rw[if_neg hlast] at hix
   rw[if_pos (by simp only[j9];omega),zDm,hix]
   simp only[j0,show(⟨#[47]⟩:ByteArray).size=1 from rfl]
   have he:(x.data.toList.takeWhile qJt)=x.data.toList.take (x.data.toList.takeWhile qJt).length:=List.prefix_iff_eq_take.1 (List.takeWhile_prefix _)
   have hx1:x.extract 0 (x.data.toList.takeWhile qJt).length=qIx (x.data.toList.takeWhile qJt):=by
    apply Go.WideShapes.bytes_inj
    simp only[ByteArray.data_extract,gL,kX,qIx,kG,Nat.sub_zero]
    exact he.symm
   have hx2:(x.extract ((x.data.toList.takeWhile qJt).length+1) x.data.toList.length).data.toList=x.data.toList.drop ((x.data.toList.takeWhile qJt).length+1):=by
    simp only[ByteArray.data_extract,gL,kX]
    exact gH (by simp only[gW];omega)
   generalize hk:(x.data.toList.takeWhile qJt).length=k at*
   rw[if_neg (by simp only[j9];omega),wi64 (x:=(k:Int)+0) (by omega) (by omega),Int.add_zero]
   have hsub0:subB x 0 (k:Int)=some (x.extract 0 k):=by
    have:=qKt (s:=x) (i:=0) (e:=k) (by omega) (by omega)
    simpa only[Int.natCast_zero] using this
   rw[hsub0]
   simp only[j0]
   rw[qDw (by simp),wi64 (x:=(k:Int)+((1:Nat):Int)) (by omega) (by omega),show((k:Int)+((1:Nat):Int))=((k+1:Nat):Int) by omega,qQi (by omega)]
   simp only[j0,jO]
   rw[zFl,hx1,wi64 (by omega) (by omega)]
   have hxs2:=qCg (x.extract (k+1) x.data.toList.length)
   rw[hx2,gW] at hxs2
   obtain⟨y,D,g1,g2,g3⟩:=qSx (N:=N) hn hns hs r M (x.extract (k+1) x.data.toList.length) (done++[qIx (x.data.toList.takeWhile qJt)]) (by rw[hx2];omega) (by simp;omega) (by omega) (by omega)
   refine⟨y,D,?_,g2,?_⟩
   ·rw[←g1];simp
   ·rw[g3,hx2,hstep];simp
termination_by r=>r
theorem zDg{N:Nat}{s:ByteArray}(hl:s.size<100000000)(hN:2*s.size+1000<N):qJc N s (⟨#[47]⟩:ByteArray)=some ((sp s.data.toList).map qIx):=by
 have hs:=qCg s
 have hlen:=zCy s.data.toList
 have hc:s.data.toList.count 47≤s.data.toList.length:=List.count_le_length
 have h1:idxB (⟨#[47]⟩:ByteArray) 0=some 47:=by kernel_rfl
 have hcount:qJa N s (⟨#[47]⟩:ByteArray)=some ((s.data.toList.count 47:Nat):Int):=by
  simp only[qJa,show(⟨#[47]⟩:ByteArray).size=1 from rfl]
  rw[if_neg (by decide),if_pos (by decide),h1]
  simp only[j0]
  rw[←cnt_eq];rfl
 simp only[qJc,qIf,qGo,hcount,j0]
 rw[if_neg (by decide),if_neg (by decide),if_pos (by decide)]
 simp only[j0]
 rw[wi64 (x:=((s.data.toList.count 47:Nat):Int)+1) (by omega) (by omega),show((s.data.toList.count 47:Nat):Int)+1=(((sp s.data.toList).length:Nat):Int) by omega]
 generalize hn:(sp s.data.toList).length=n at*
 have hmin:(if IntKind.wrap .i64 ((s.size:Int)+1)<(n:Int) then IntKind.wrap .i64 ((s.size:Int)+1) else(n:Int))=(n:Int):=by
  rw[wi64 (by omega) (by omega)];split<;>omega
 rw[hmin]
 have hm:qPc 16 (⟨#[]⟩:ByteArray) (n:Int)=some (List.replicate n (⟨#[]⟩:ByteArray)):=by
  unfold qPc
  rw[if_pos (by simp only[maxLen];omega),jO]
 rw[hm]
 simp only[j0]
 obtain⟨y,D,g1,g2,g3⟩:=qSx (N:=N) (n:=n) (s:=s) (by omega) (by omega) (by omega) n N s [] hn (by simp) (by omega) (by omega)
 simp only[jF,jX] at g1 g3
 rw[show((0:Nat):Int)=0 from rfl] at g1
 rw[g1]
 simp only[j0]
 rw[qDw (by simp;omega)]
 simp only[j0,jO]
 have hset:(D++[(⟨#[]⟩:ByteArray)]).set (n-1) y=D++[y]:=by
  rw[←g2,List.set_append_right _ _ (jM _)];simp
 rw[hset,g3,wi64 (by omega) (by omega),show((n-1:Nat):Int)+1=(n:Int) by omega,qQo (by omega) (by omega) (by rw[gO,hn];omega)]
 simp only[j0,jO,Int.toNat_zero,kG]
 rw[gH (by rw[gO,hn];exact jM _)]
theorem zFa{p:UInt8→Bool}{l:List UInt8}:tw p l 0=l.length↔∀c∈l,p c=true:=by
 constructor
 ·intro h c hc
  have h1:(l.takeWhile p).length=l.length:=by simpa[tw] using h
  have h2:=(List.takeWhile_prefix p (l:=l)).eq_of_length h1
  rw[←h2] at hc
  exact zCa hc
 ·exact zFh
def qXj(x:ByteArray):Bool:=decide (1≤x.data.toList.length∧x.data.toList.length≤24∧∀c∈x.data.toList,inK [1,2,3,4] c=true)
theorem qWc(x:ByteArray):qXj x=true↔1≤x.data.toList.length∧x.data.toList.length≤24∧∀c∈x.data.toList,inK [1,2,3,4] c=true:=decide_eq_true_iff
theorem zGf{N:Nat}{x:ByteArray}(hN:100<N):(if(decide ((x.size:Int)<1))=true then(some true) else(if(decide ((x.size:Int)>24))=true then(some true) else((qHj N x 0 (some kdL) ([1,2,3,4])).bind fun y3=>some (y3 !=(x.size:Int)))))=some (!qXj x):=by
 have hs:=qCg x
 have hno:∀h:¬(1≤x.data.toList.length∧x.data.toList.length≤24∧∀c∈x.data.toList,inK [1,2,3,4] c=true),qXj x=false:=fun h=>kK h
 by_cases h1:1≤x.data.toList.length
 ·rw[if_neg (by simp only[j9];omega)]
  by_cases h2:x.data.toList.length≤24
  ·rw[if_neg (by simp only[j9];omega)]
   have hsp:=qQr (N:=N) (s:=x) (ks:=[1,2,3,4]) (i:=0) (by omega) (by omega) (by simp) (by omega)
   rw[show((0:Nat):Int)=0 from rfl] at hsp
   rw[hsp]
   simp only[j0]
   refine congrArg some ?_
   by_cases h3:tw (inK [1,2,3,4]) x.data.toList 0=x.data.toList.length
   ·have:qXj x=true:=kC ⟨h1,h2,zFa.1 h3⟩
    rw[this,h3,hs]
    simp
   ·rw[hno fun h=>h3 (zFa.2 h.2.2)]
    simp only[gY,bne_iff_ne,ne_eq]
    omega
  ·rw[if_pos (by simp only[j9];omega),hno fun h=>h2 h.2.1]
   rfl
 ·rw[if_pos (by simp only[j9];omega),hno fun h=>h1 h.1]
  rfl
theorem qWh{N:Nat}{L:List ByteArray}(hL:L.length<1000)(hN:100<N):∀(d j M:Nat),j+d=L.length→d<M→qBa (qHv N L (some kdL)) M (j:Int)=some (if(L.drop j).all qXj=true then .inl () else .inr false)
 |d,j,0,_,h=>by omega
 |0,j,M+1,h1,h2=>by
  simp only[qBa,qHv]
  rw[if_neg (by simp only[j9];omega),kA (by omega)]
  rfl
 |d+1,j,M+1,h1,h2=>by
  have hj:j<L.length:=by omega
  simp only[qBa,qHv]
  rw[if_pos (by simp only[j9];omega),qDw hj]
  simp only[j0,zGf hN]
  rw[k0 hj,List.all_cons]
  cases hp:qXj L[j] with
  |true=>
   rw[if_neg (by simp),wi64 (by omega) (by omega)]
   simp only[j0,gC]
   exact qWh hL hN d (j+1) M (by omega) (by omega)
  |false=>simp
theorem qWw{N:Nat}{s:ByteArray}(hl:s.size<100000000)(hN:2*s.size+1000<N):qHx N s=some (qPd s.data.toList):=by
 have hs:=qCg s
 have hno:∀h:¬(s.data.toList.length≤80∧(sp s.data.toList).length≤8∧∀p∈sp s.data.toList,1≤p.length∧p.length≤24∧∀c∈p,inK [1,2,3,4] c=true),qPd s.data.toList=false:=fun h=>kK h
 simp only[qHx,zDg hl hN,j0,gO]
 by_cases h80:s.data.toList.length≤80
 ·rw[if_neg (by simp only[j9];omega)]
  by_cases h8:(sp s.data.toList).length≤8
  ·have e8:decide (((sp s.data.toList).length:Int)>8)=false:=kK (by omega)
   simp only[j0,e8,jB,jK,qUb (show 30<N by omega)]
   have key:=qWh (N:=N) (L:=(sp s.data.toList).map qIx) (by rw[gO];omega) (by omega) _ 0 N (jY _) (by rw[gO];omega)
   rw[show((0:Nat):Int)=0 from rfl,kG] at key
   rw[key]
   simp only[j0]
   by_cases hp:((sp s.data.toList).map qIx).all qXj=true
   ·have:qPd s.data.toList=true:=kC ⟨h80,h8,fun p hp'=>by
     have:=(qWc _).1 (jP.1 hp (qIx p) (gD hp'))
     simpa[qIx] using this⟩
    rw[if_pos hp,this]
   ·rw[if_neg hp,hno fun h=>hp (jP.2 fun x hx=>by
     obtain⟨p,hp',rfl⟩:=fI.1 hx
     exact(qWc _).2 (by simpa[qIx] using h.2.2 p hp'))]
  ·have e8:decide (((sp s.data.toList).length:Int)>8)=true:=kC (by omega)
   simp only[j0,e8,jU]
   rw[hno fun h=>h8 h.2.1]
 ·rw[if_pos (by simp only[j9];omega)]
  simp only[j0,jU]
  rw[hno fun h=>h80 h.1]
end
section
open Go Go.Dc
def run{α τ β:Type}(step:τ→α→τ⊕β)(fin:τ→β):List α→τ→β
 |[],t=>fin t
 |x::l,t=>match step t x with
  | .inl t'=>run step fin l t'
  | .inr b=>b
theorem qQg{α τ σ β:Type}{L:List α}(enc:τ→Nat→σ){f:σ→Option (σ⊕β)}(step:τ→α→τ⊕β)(fin:τ→β)(I:Nat→τ→Prop)
  (hstep:∀t i,∀hi:i<L.length,I i t→f (enc t i)=some (match step t L[i] with| .inl t'=> .inl (enc t' (i+1))| .inr b=> .inr b))
  (hinv:∀t i,∀hi:i<L.length,∀t',I i t→step t L[i]= .inl t'→I (i+1) t')
  (hfin:∀t,I L.length t→f (enc t L.length)=some (.inr (fin t))):∀(d i M:Nat) (t:τ),i+d=L.length→d<M→I i t→qBa f M (enc t i)=some (run step fin (L.drop i) t)
 |_,_,0,_,_,h,_=>absurd h (kH _)
 |d,i,M+1,t,h1,h2,h3=>by
  cases d with
  |zero=>
   have hi:i=L.length:=by omega
   subst hi
   simp only[qBa,hfin t h3,j0,fU,run]
  |succ d=>
   have hi:i<L.length:=by omega
   have hd:L.drop i=L[i]::L.drop (i+1):=(fQ hi).symm
   simp only[qBa,hstep t i hi h3,j0]
   rw[hd]
   simp only[run]
   cases hs:step t L[i] with
   |inl t'=>
    simp only
    exact qQg enc step fin I hstep hinv hfin d (i+1) M t' (by omega) (by omega) (hinv t i hi t' h3 hs)
   |inr b=>rfl
theorem qKg{α τ σ β:Type}{L:List α}(enc:τ→Nat→σ){f:σ→Option (σ⊕β)}(step:τ→α→τ⊕β)(fin:τ→β)(I:Nat→τ→Prop)
  (hstep:∀t i,∀hi:i<L.length,I i t→f (enc t i)=some (match step t L[i] with| .inl t'=> .inl (enc t' (i+1))| .inr b=> .inr b))
  (hinv:∀t i,∀hi:i<L.length,∀t',I i t→step t L[i]= .inl t'→I (i+1) t')
  (hfin:∀t,I L.length t→f (enc t L.length)=some (.inr (fin t))) {M:Nat} {t:τ} (hM:L.length<M) (h0:I 0 t):qBa f M (enc t 0)=some (run step fin L t):=by
 have:=qQg enc step fin I hstep hinv hfin L.length 0 M t (by omega) hM h0
 rw[kG] at this;exact this
theorem qZk{α τ β:Type}{step:τ→α→τ⊕β}{fin:τ→β}(g:τ→α→τ)(h:∀t x,step t x= .inl (g t x)):∀(l:List α) (t:τ),run step fin l t=fin (l.foldl g t)
 |[],_=>rfl
 |x::l,t=>by simp only[run,h,List.foldl_cons];exact qZk g h l _
theorem qRh{α β:Type}{step:Unit→α→Unit⊕β}{fin:Unit→β}{b:β}(p:α→Bool)(h:∀x,step () x=if p x=true then .inr b else .inl ()):∀l:List α,run step fin l ()=if l.any p=true then b else fin ()
 |[]=>rfl
 |x::l=>by
  have ih:=qRh (fin:=fin) p h l
  rw[fM]
  by_cases hp:p x=true
  ·have e:step () x= .inr b:=by rw[h,if_pos hp]
   simp only[run,e]
   rw[hp,Bool.true_or,if_pos rfl]
  ·have e:step () x= .inl ():=by rw[h,if_neg hp]
   simp only[run,e]
   rw[ih,show p x=false by simpa using hp,kY]
theorem qLn{α:Type}{l:List α}{i:Nat}(h:i<l.length):l.drop i=l[i]::l.drop (i+1):=(fQ h).symm
theorem qRb{α:Type}{l:List α}{i:Nat}(h:i<l.length):l.take (i+1)=l.take i++[l[i]]:=kJ h
end
section
open Go Go.Dc
instance decMemB(s:ByteArray)(l:List ByteArray):Decidable (s∈l):=@List.instDecidableMemOfLawfulBEq ByteArray instBEqOfDecidableEq inferInstance s l
abbrev Ex:=Int×Int×Int×ByteArray×List Int
abbrev Dl:=Int×ByteArray×List ByteArray×List Ex
abbrev Sr:=ByteArray×List ByteArray×List Dl
abbrev Flt:=Int×Int
abbrev Ps:=Nat×List Ex
abbrev PM(α:Type):=Flt⊕(Ps×α)
def tkAt(ts:List Tok)(i:Nat):Tok:=ts.getD i (5,⟨#[]⟩,0,0)
def qIt{α:Type}(t:Tok)(e:Int):Flt⊕α:= .inl (t.2.2.2,e)
def qCy{α β:Type}(x:Flt⊕α)(f:α→Flt⊕β):Flt⊕β:=
 match x with
 | .inl z=> .inl z
 | .inr a=>f a
def isC(ts:List Tok)(k:Int)(s:ByteArray)(i:Nat):Bool:=(tkAt ts i).1==k&&decide ((tkAt ts i).2.1=s)
def qJb(ts:List Tok)(s:ByteArray)(i:Nat):Flt⊕Nat:=if isC ts 4 s i then .inr (i+1) else qIt (tkAt ts i) 9
def qSj(ts:List Tok)(s:ByteArray)(i:Nat):Flt⊕Nat:=if isC ts 1 s i then .inr (i+1) else qIt (tkAt ts i) 9
def qNy(ts:List Tok)(k:Int)(i:Nat):Flt⊕(Nat×Tok):=if(tkAt ts i).1=k then .inr (i+1,tkAt ts i) else qIt (tkAt ts i) 9
def qPx:ByteArray:=⟨#[112,97,99,107,97,103,101]⟩
def qTu:ByteArray:=⟨#[105,109,112,111,114,116]⟩
def zEi:ByteArray:=⟨#[102,117,110,99]⟩
def zEr:ByteArray:=⟨#[116,101,115,116]⟩
def sGen:ByteArray:=⟨#[103,101,110]⟩
def sIf:ByteArray:=⟨#[105,102]⟩
def zEd:ByteArray:=⟨#[116,104,101,110]⟩
def zDq:ByteArray:=⟨#[101,108,115,101]⟩
def qSf:ByteArray:=⟨#[114,101,97,100]⟩
def qRy:ByteArray:=⟨#[115,105,122,101]⟩
def sHas:ByteArray:=⟨#[104,97,115]⟩
def sEnv:ByteArray:=⟨#[101,110,118]⟩
def qVc:ByteArray:=⟨#[102,108,105,112]⟩
def qRz:ByteArray:=⟨#[40]⟩
def qLj:ByteArray:=⟨#[41]⟩
def qTb:ByteArray:=⟨#[44]⟩
def zAh:ByteArray:=⟨#[59]⟩
def sEq:ByteArray:=⟨#[61]⟩
def zEu:ByteArray:=⟨#[45]⟩
def zEx:List ByteArray:=[qPx,qTu,zEi,zEr,sGen,sIf,zEd,zDq,qSf,qRy,sHas,sEnv,qVc]
def resC(s:ByteArray):Bool:=decide (s∈zEx)
def qOr(ts:List Tok)(i:Nat):Flt⊕(Nat×Tok):=qCy (qNy ts 1 i) fun p=>if resC p.2.2.1 then qIt p.2 9 else .inr p
def qPl(ts:List Tok)(i:Nat):Flt⊕(Nat×Tok):=qCy (qNy ts 3 i) fun p=>if qPd p.2.2.1.data.toList then .inr p else qIt p.2 9
def zAm(ts:List Tok)(i:Nat):Flt⊕(Nat×Tok):=qCy (qNy ts 3 i) fun p=>if qQy p.2.2.1 then .inr p else qIt p.2 9
def qKz(t:Tok)(x:Ex)(p:Ps):PM Nat:=if p.2.length=256 then qIt t 2 else .inr ((p.1,p.2++[x]),p.2.length)
def opsC:List (Int×ByteArray):=[(1,⟨#[43]⟩),(2,⟨#[45]⟩),(3,⟨#[42]⟩),(4,⟨#[47]⟩),(5,⟨#[37]⟩),(6,⟨#[60]⟩),(7,⟨#[61,61]⟩)]
def levP(op:Int):Nat:=if op=6∨op=7 then 1 else if op=1∨op=2 then 2 else 3
def isOp(ts:List Tok)(level:Nat)(i:Nat)(o:Int×ByteArray):Bool:=isC ts 4 o.2 i&&decide (levP o.1=level)
def opC(ts:List Tok)(level:Nat)(i:Nat):Int:=
 match opsC.find? (isOp ts level i) with
 |some o=>o.1
 |none=>0
section
variable (ts:List Tok) (params:List ByteArray) (E:Ps→PM Nat)
def zAf:Nat→List Int→Ps→PM (List Int)
 |0,_,p=>qIt (tkAt ts p.1) 9
 |n+1,l,p=>qCy (E p) fun q=>
  if isC ts 4 qTb q.1.1 then zAf n (l++[(q.2:Int)]) (q.1.1+1,q.1.2)
  else qCy (qJb ts qLj q.1.1) fun i=> .inr ((i,q.1.2),l++[(q.2:Int)])
def qIn(p:Ps):PM (List Int):=
 qCy (qJb ts qRz p.1) fun i=>if isC ts 4 qLj i then .inr ((i+1,p.2),[]) else zAf ts E (ts.length+1) [] (i,p.2)
def qKu(t:Tok)(p:Ps):PM Nat:=
 qCy (qJb ts qRz p.1) fun i=>
 qCy (if t.2.1=qSf then
   qCy (qPl ts i) fun a=>qCy (qJb ts qTb a.1) fun i=>qCy (E (i,p.2)) fun q=> .inr (q.1,((6,0,0,a.2.2.1,[(q.2:Int)]):Ex))
  else if t.2.1=qRy then qCy (qPl ts i) fun a=> .inr ((a.1,p.2),((7,0,0,a.2.2.1,[]):Ex))
  else if t.2.1=sHas then qCy (qPl ts i) fun a=> .inr ((a.1,p.2),((8,0,0,a.2.2.1,[]):Ex))
  else if t.2.1=sEnv then qCy (zAm ts i) fun a=> .inr ((a.1,p.2),((9,0,0,a.2.2.1,[]):Ex))
  else qCy (qNy ts 2 i) fun a=>if a.2.2.2.1≥64 then qIt a.2 9 else .inr ((a.1,p.2),((10,a.2.2.2.1,0,⟨#[]⟩,[]):Ex))) fun q=>
 qCy (qJb ts qLj q.1.1) fun i=>qKz t q.2 (i,q.1.2)
def qMc(p:Ps):PM Nat:=
 let t:=tkAt ts p.1
 if t.1=2 then qKz t (1,t.2.2.1,0,⟨#[]⟩,[]) (p.1+1,p.2)
 else if isC ts 4 zEu p.1 then qCy (qNy ts 2 (p.1+1)) fun a=>qKz t (1,IntKind.wrap .i64 (0-a.2.2.2.1),0,⟨#[]⟩,[]) (a.1,p.2)
 else if isC ts 4 qRz p.1 then qCy (E (p.1+1,p.2)) fun q=>qCy (qJb ts qLj q.1.1) fun i=> .inr ((i,q.1.2),q.2)
 else if t.1≠1 then qIt t 9
 else if t.2.1∈[qSf,qRy,sHas,sEnv,qVc] then qKu ts E t (p.1+1,p.2)
 else if resC t.2.1 then qIt t 9
 else if isC ts 4 qRz (p.1+1) then qCy (qIn ts E (p.1+1,p.2)) fun q=>qKz t (3,0,0,t.2.1,q.2) q.1
 else match params.findIdx? (fun x=>decide (x=t.2.1)) with
  |some i=>qKz t (2,(i:Int),0,⟨#[]⟩,[]) (p.1+1,p.2)
  |none=>qIt t 9
def qVe(level:Nat)(S:Ps→PM Nat):Nat→Nat→Ps→PM Nat
 |0,_,p=>qIt (tkAt ts p.1) 9
 |n+1,x,p=>
  if opC ts level p.1=0 then .inr (p,x)
  else qCy (S (p.1+1,p.2)) fun q=>qCy (qKz (tkAt ts p.1) (4,0,opC ts level p.1,⟨#[]⟩,[(x:Int),(q.2:Int)]) q.1) fun r=>
   if level=1 then .inr r else qVe level S n r.2 r.1
def qQz(level:Nat)(S:Ps→PM Nat)(p:Ps):PM Nat:=qCy (S p) fun q=>qVe ts level S (ts.length+1) q.2 q.1
def zFs:Ps→PM Nat:=qQz ts 3 (qMc ts params E)
def sumC:Ps→PM Nat:=qQz ts 2 (zFs ts params E)
def qQa:Ps→PM Nat:=qQz ts 1 (sumC ts params E)
end
def qId(ts:List Tok)(params:List ByteArray):Nat→Ps→PM Nat
 |0,p=>qIt (tkAt ts p.1) 2
 |k+1,p=>
  if isC ts 1 sIf p.1 then
   qCy (qId ts params k (p.1+1,p.2)) fun a=>qCy (qSj ts zEd a.1.1) fun i=>
   qCy (qId ts params k (i,a.1.2)) fun b=>qCy (qSj ts zDq b.1.1) fun j=>
   qCy (qId ts params k (j,b.1.2)) fun c=>qKz (tkAt ts p.1) (5,0,0,⟨#[]⟩,[(a.2:Int),(b.2:Int),(c.2:Int)]) c.1
  else qQa ts params (qId ts params k) p
def qRj(ts:List Tok):Nat→List ByteArray→Nat→Flt⊕(Nat×List ByteArray)
 |0,_,i=>qIt (tkAt ts i) 9
 |n+1,l,i=>qCy (qOr ts i) fun a=>
  if l.length=8 then qIt a.2 2
  else if a.2.2.1∈l then qIt a.2 10
  else if isC ts 4 qTb a.1 then qRj ts n (l++[a.2.2.1]) (a.1+1)
  else qCy (qJb ts qLj a.1) fun j=> .inr (j,l++[a.2.2.1])
def qIi(ts:List Tok)(i:Nat):Flt⊕(Nat×List ByteArray):=
 qCy (qJb ts qRz i) fun j=>if isC ts 4 qLj j then .inr (j+1,[]) else qRj ts (ts.length+1) [] j
def qKe(s:ByteArray):Int:=if s=zEi then 1 else if s=zEr then 2 else if s=sGen then 3 else 0
def qSg(ts:List Tok)(before:List Dl)(i:Nat):Flt⊕(Nat×Dl):=
 let t:=tkAt ts i
 let k:=qKe t.2.1
 if t.1≠1∨k=0 then qIt t 9
 else if before.length=64 then qIt t 2
 else qCy (if k=3 then qPl ts (i+1) else qOr ts (i+1)) fun a=>
  if before.any (fun d=>d.1==k&&decide (d.2.1=a.2.2.1)) then qIt a.2 10
  else qCy (if k=1 then qIi ts a.1 else .inr (a.1,[])) fun b=>
   qCy (qJb ts sEq b.1) fun j=>qCy (qId ts b.2 32 (j,[])) fun c=>
   qCy (qJb ts zAh c.1.1) fun m=> .inr (m,(k,a.2.2.1,b.2,c.1.2))
def qLw(ts:List Tok)(pkg:ByteArray):Nat→List ByteArray→Nat→Flt⊕(Nat×List ByteArray)
 |0,_,i=>qIt (tkAt ts i) 9
 |n+1,l,i=>
  if isC ts 1 qTu i then
   if l.length=8 then qIt (tkAt ts i) 2
   else qCy (qOr ts (i+1)) fun a=>
    if a.2.2.1=pkg∨a.2.2.1∈l then qIt a.2 10
    else qCy (qJb ts zAh a.1) fun j=>qLw ts pkg n (l++[a.2.2.1]) j
  else .inr (i,l)
def qOj(ts:List Tok):Nat→List Dl→Nat→Flt⊕List Dl
 |0,_,i=>qIt (tkAt ts i) 9
 |n+1,l,i=>if(tkAt ts i).1=5 then .inr l else qCy (qSg ts l i) fun a=>qOj ts n (l++[a.2]) a.1
def qSi(ts:List Tok):Flt⊕Sr:=
 qCy (qSj ts qPx 0) fun i=>qCy (qOr ts i) fun a=>qCy (qJb ts zAh a.1) fun j=>
 qCy (qLw ts a.2.2.1 (ts.length+1) [] j) fun b=>qCy (qOj ts (ts.length+1) [] b.1) fun l=> .inr (a.2.2.1,b.2,l)
def zFr:Sr:=(⟨#[]⟩,[],[])
def qJq(s:ByteArray):Sr×Int×Int:=
 if(qGc s).2.2≠0 then(zFr,(qGc s).2.1,(qGc s).2.2)
 else match qSi (qGc s).1 with
  | .inl z=>(zFr,z.1,z.2)
  | .inr f=>(f,0,0)
end
section
open Go Go.Dc
def OkT(ts:List Tok):Prop:=ts≠[]∧∀i,i<ts.length→((tkAt ts i).1=5↔i+1=ts.length)
theorem qAr{α β:Type}{x:Flt⊕α}{f:α→Flt⊕β}{b:β}(h:qCy x f= .inr b):∃a,x= .inr a∧f a= .inr b:=by
 cases x with
 |inl z=>cases h
 |inr a=>exact⟨a,rfl,h⟩
section
variable {ts:List Tok} {params:List ByteArray} {E S:Ps→PM Nat}
theorem OkT.next(h:OkT ts){i:Nat}(hi:i<ts.length)(hk:(tkAt ts i).1≠5):i+1<ts.length:=by
 have h3:¬i+1=ts.length:=fun e=>hk ((h.2 i hi).2 e)
 omega
theorem qUk{k:Int}{s:ByteArray}{i:Nat}(h:isC ts k s i=true):(tkAt ts i).1=k:=by
 simp only[isC,jI,kI] at h;exact h.1
theorem qGt(h:OkT ts){k:Int}{s:ByteArray}{i:Nat}(hi:i<ts.length)(hk:k≠5)(h1:isC ts k s i=true):i+1<ts.length:=h.next hi (by rw[qUk h1];exact hk)
theorem qFj(h:OkT ts){s:ByteArray}{i j:Nat}(hi:i<ts.length)(h1:qJb ts s i= .inr j):j=i+1∧j<ts.length∧isC ts 4 s i=true:=by
 unfold qJb at h1
 split at h1
 ·rename_i h2
  obtain rfl:=Sum.inr.inj h1
  exact⟨rfl,qGt h hi (by decide) h2,h2⟩
 ·cases h1
theorem qNn(h:OkT ts){s:ByteArray}{i j:Nat}(hi:i<ts.length)(h1:qSj ts s i= .inr j):j=i+1∧j<ts.length∧isC ts 1 s i=true:=by
 unfold qSj at h1
 split at h1
 ·rename_i h2
  obtain rfl:=Sum.inr.inj h1
  exact⟨rfl,qGt h hi (by decide) h2,h2⟩
 ·cases h1
theorem qLt(h:OkT ts){k:Int}(hk:k≠5){i:Nat}{a:Nat×Tok}(hi:i<ts.length)(h1:qNy ts k i= .inr a):a=(i+1,tkAt ts i)∧i+1<ts.length∧(tkAt ts i).1=k:=by
 unfold qNy at h1
 split at h1
 ·rename_i h2
  obtain rfl:=Sum.inr.inj h1
  exact⟨rfl,h.next hi (by rw[h2];exact hk),h2⟩
 ·cases h1
theorem qJz(h:OkT ts){i:Nat}{a:Nat×Tok}(hi:i<ts.length)(h1:qOr ts i= .inr a):a=(i+1,tkAt ts i)∧i+1<ts.length∧(tkAt ts i).1=1∧resC (tkAt ts i).2.1=false:=by
 obtain⟨b,hb,h2⟩:=qAr h1
 obtain⟨rfl,g1,g2⟩:=qLt h (by decide) hi hb
 split at h2
 ·cases h2
 ·rename_i g3
  obtain rfl:=Sum.inr.inj h2
  exact⟨rfl,g1,g2,by simpa using g3⟩
theorem qKd(h:OkT ts){i:Nat}{a:Nat×Tok}(hi:i<ts.length)(h1:qPl ts i= .inr a):a=(i+1,tkAt ts i)∧i+1<ts.length∧(tkAt ts i).1=3∧qPd (tkAt ts i).2.1.data.toList=true:=by
 obtain⟨b,hb,h2⟩:=qAr h1
 obtain⟨rfl,g1,g2⟩:=qLt h (by decide) hi hb
 split at h2
 ·rename_i g3
  obtain rfl:=Sum.inr.inj h2
  exact⟨rfl,g1,g2,g3⟩
 ·cases h2
theorem zCt(h:OkT ts){i:Nat}{a:Nat×Tok}(hi:i<ts.length)(h1:zAm ts i= .inr a):a=(i+1,tkAt ts i)∧i+1<ts.length∧(tkAt ts i).1=3∧qQy (tkAt ts i).2.1=true:=by
 obtain⟨b,hb,h2⟩:=qAr h1
 obtain⟨rfl,g1,g2⟩:=qLt h (by decide) hi hb
 split at h2
 ·rename_i g3
  obtain rfl:=Sum.inr.inj h2
  exact⟨rfl,g1,g2,g3⟩
 ·cases h2
theorem qYt{t:Tok}{x:Ex}{p q:Ps}{i:Nat}(h:qKz t x p= .inr (q,i)):q=(p.1,p.2++[x])∧i=p.2.length∧p.2.length≠256:=by
 unfold qKz at h
 split at h
 ·cases h
 ·rename_i h1
  obtain⟨rfl,rfl⟩:=Prod.mk.inj (Sum.inr.inj h)
  exact⟨rfl,rfl,h1⟩
def Fwd(ts:List Tok)(p q:Ps):Prop:=p.1<q.1∧q.1<ts.length∧p.2.length≤q.2.length∧q.2.length≤256
def Adv(ts:List Tok)(S:Ps→PM Nat):Prop:=∀(p q:Ps) (x:Nat),p.1<ts.length→p.2.length≤256→S p= .inr (q,x)→Fwd ts p q∧x<q.2.length
theorem qKs{t:Tok}{x:Ex}{p r q:Ps}{i:Nat}(hp:p.1<r.1)(hr:r.1<ts.length)(hl:p.2.length≤r.2.length)(h256:r.2.length≤256)(h:qKz t x r= .inr (q,i)):Fwd ts p q∧i<q.2.length:=by
 obtain⟨rfl,rfl,g⟩:=qYt h
 refine⟨⟨hp,hr,?_,?_⟩,?_⟩<;>simp only[jA,jC,jF]<;>omega
theorem qUo(h:OkT ts)(hE:Adv ts E):∀(n:Nat) (l:List Int) (p q:Ps) (x:List Int),p.1<ts.length→p.2.length≤256→zAf ts E n l p= .inr (q,x)→Fwd ts p q
 |0,_,_,_,_,_,_,h1=>by cases h1
 |n+1,l,p,q,x,hp,hb,h1=>by
  obtain⟨a,ha,h2⟩:=qAr (show qCy (E p) _=_ from h1)
  obtain⟨⟨f1,f2,f3,f4⟩,f5⟩:=hE p a.1 a.2 hp hb ha
  split at h2
  ·rename_i hc
   have g:=qGt h f2 (by decide) hc
   obtain⟨k1,k2,k3,k4⟩:=qUo h hE n _ (a.1.1+1,a.1.2) q x g f4 h2
   exact⟨by simp only at k1;omega,k2,by simp only at k3;omega,k4⟩
  ·obtain⟨j,hj,h3⟩:=qAr h2
   obtain⟨rfl,g1,-⟩:=qFj h f2 hj
   obtain⟨rfl,-⟩:=Prod.mk.inj (Sum.inr.inj h3)
   exact⟨by simp only;omega,g1,f3,f4⟩
theorem qNt(h:OkT ts)(hE:Adv ts E){p q:Ps}{x:List Int}(hp:p.1<ts.length)(hb:p.2.length≤256)(h1:qIn ts E p= .inr (q,x)):Fwd ts p q:=by
 obtain⟨i,hi,h2⟩:=qAr h1
 obtain⟨rfl,g1,-⟩:=qFj h hp hi
 split at h2
 ·rename_i hc
  obtain⟨rfl,-⟩:=Prod.mk.inj (Sum.inr.inj h2)
  exact⟨by simp only;omega,qGt h g1 (by decide) hc,jM _,hb⟩
 ·obtain⟨k1,k2,k3,k4⟩:=qUo h hE _ _ (p.1+1,p.2) q x g1 hb h2
  exact⟨by simp only at k1;omega,k2,k3,k4⟩
theorem qVo(h:OkT ts)(hE:Adv ts E){t:Tok}{p q:Ps}{x:Nat}(hp:p.1<ts.length)(hb:p.2.length≤256)(h1:qKu ts E t p= .inr (q,x)):Fwd ts p q∧x<q.2.length:=by
 obtain⟨i,hi,h2⟩:=qAr h1
 obtain⟨rfl,g1,-⟩:=qFj h hp hi
 obtain⟨a,ha,h3⟩:=qAr h2
 obtain⟨j,hj,h4⟩:=qAr h3
 have key:Fwd ts (p.1+1,p.2) a.1:=by
  split at ha
  ·obtain⟨b,hb1,hb2⟩:=qAr ha
   obtain⟨rfl,k1,-⟩:=qKd h g1 hb1
   obtain⟨c,hc1,hc2⟩:=qAr hb2
   obtain⟨rfl,k2,-⟩:=qFj h k1 hc1
   obtain⟨d,hd1,hd2⟩:=qAr hc2
   obtain⟨⟨f1,f2,f3,f4⟩,-⟩:=hE (p.1+1+1+1,p.2) d.1 d.2 k2 hb hd1
   obtain rfl:=Sum.inr.inj hd2
   exact⟨by simp only at f1 ⊢;omega,f2,f3,f4⟩
  ·split at ha
   ·obtain⟨b,hb1,hb2⟩:=qAr ha
    obtain⟨rfl,k1,-⟩:=qKd h g1 hb1
    obtain rfl:=Sum.inr.inj hb2
    exact⟨by simp only;omega,k1,jM _,hb⟩
   ·split at ha
    ·obtain⟨b,hb1,hb2⟩:=qAr ha
     obtain⟨rfl,k1,-⟩:=qKd h g1 hb1
     obtain rfl:=Sum.inr.inj hb2
     exact⟨by simp only;omega,k1,jM _,hb⟩
    ·split at ha
     ·obtain⟨b,hb1,hb2⟩:=qAr ha
      obtain⟨rfl,k1,-⟩:=zCt h g1 hb1
      obtain rfl:=Sum.inr.inj hb2
      exact⟨by simp only;omega,k1,jM _,hb⟩
     ·obtain⟨b,hb1,hb2⟩:=qAr ha
      obtain⟨rfl,k1,-⟩:=qLt h (by decide) g1 hb1
      split at hb2
      ·cases hb2
      ·obtain rfl:=Sum.inr.inj hb2
       exact⟨by simp only;omega,k1,jM _,hb⟩
 obtain⟨f1,f2,f3,f4⟩:=key
 obtain⟨rfl,g2,-⟩:=qFj h f2 hj
 exact qKs (r:=(a.1.1+1,a.1.2)) (by simp only at f1 ⊢;omega) g2 f3 f4 h4
theorem qRf(h:OkT ts)(hE:Adv ts E):Adv ts (qMc ts params E):=by
 intro p q x hp hb h1
 unfold qMc at h1
 dsimp only at h1
 split at h1
 ·rename_i hk
  exact qKs (r:=(p.1+1,p.2)) (by simp only;omega) (h.next hp (by rw[hk];decide)) (jM _) hb h1
 split at h1
 ·rename_i hc
  have g:=qGt h hp (by decide) hc
  obtain⟨a,ha,h2⟩:=qAr h1
  obtain⟨rfl,g1,-⟩:=qLt h (by decide) g ha
  exact qKs (r:=(p.1+1+1,p.2)) (by simp only;omega) g1 (jM _) hb h2
 split at h1
 ·rename_i hc
  have g:=qGt h hp (by decide) hc
  obtain⟨a,ha,h2⟩:=qAr h1
  obtain⟨⟨f1,f2,f3,f4⟩,f5⟩:=hE (p.1+1,p.2) a.1 a.2 g hb ha
  obtain⟨j,hj,h3⟩:=qAr h2
  obtain⟨rfl,g1,-⟩:=qFj h f2 hj
  obtain⟨rfl,rfl⟩:=Prod.mk.inj (Sum.inr.inj h3)
  exact⟨⟨by simp only at f1 ⊢;omega,g1,f3,f4⟩,f5⟩
 split at h1
 ·cases h1
 rename_i hk
 have g:=h.next hp (show(tkAt ts p.1).1≠5 by simp only[ne_eq,Decidable.not_not] at hk;rw[hk];decide)
 split at h1
 ·obtain⟨⟨f1,f2,f3,f4⟩,f5⟩:=qVo h hE (p:=(p.1+1,p.2)) g hb h1
  exact⟨⟨by simp only at f1;omega,f2,f3,f4⟩,f5⟩
 split at h1
 ·cases h1
 split at h1
 ·obtain⟨a,ha,h2⟩:=qAr h1
  obtain⟨f1,f2,f3,f4⟩:=qNt h hE (p:=(p.1+1,p.2)) g hb ha
  exact qKs (by simp only at f1;omega) f2 f3 f4 h2
 split at h1
 ·exact qKs (r:=(p.1+1,p.2)) (by simp only;omega) g (jM _) hb h1
 ·cases h1
theorem qWb(h:OkT ts){level:Nat}(hS:Adv ts S):∀(n x:Nat) (p q:Ps) (y:Nat),p.1<ts.length→p.2.length≤256→x<p.2.length→qVe ts level S n x p= .inr (q,y)→p.1≤q.1∧q.1<ts.length∧p.2.length≤q.2.length∧q.2.length≤256∧y<q.2.length
 |0,_,_,_,_,_,_,_,h1=>by cases h1
 |n+1,x,p,q,y,hp,hb,hx,h1=>by
  unfold qVe at h1
  split at h1
  ·obtain⟨rfl,rfl⟩:=Prod.mk.inj (Sum.inr.inj h1)
   exact⟨jM _,hp,jM _,hb,hx⟩
  ·rename_i hop
   have hk:(tkAt ts p.1).1≠5:=by
    intro hk
    apply hop
    unfold opC
    have:opsC.find? (isOp ts level p.1)=none:=by
     rw[List.find?_eq_none]
     intro o _ ho
     simp only[isOp,jI] at ho
     have:=qUk ho.1
     omega
    rw[this]
   have g:=h.next hp hk
   obtain⟨a,ha,h2⟩:=qAr h1
   obtain⟨⟨f1,f2,f3,f4⟩,f5⟩:=hS (p.1+1,p.2) a.1 a.2 g hb ha
   obtain⟨r,hr,h3⟩:=qAr h2
   obtain⟨⟨k1,k2,k3,k4⟩,k5⟩:=qKs (ts:=ts) (p:=p) (by simp only at f1;omega) f2 f3 f4 hr
   split at h3
   ·obtain⟨rfl,rfl⟩:=Prod.mk.inj (Sum.inr.inj h3)
    exact⟨by omega,k2,k3,k4,k5⟩
   ·obtain⟨j1,j2,j3,j4,j5⟩:=qWb h hS n _ _ q y k2 k4 k5 h3
    exact⟨by omega,j2,by omega,j4,j5⟩
theorem qLp(h:OkT ts){level:Nat}(hS:Adv ts S):Adv ts (qQz ts level S):=by
 intro p q x hp hb h1
 obtain⟨a,ha,h2⟩:=qAr h1
 obtain⟨⟨f1,f2,f3,f4⟩,f5⟩:=hS p a.1 a.2 hp hb ha
 obtain⟨j1,j2,j3,j4,j5⟩:=qWb h hS _ _ _ q x f2 f4 f5 h2
 exact⟨⟨by omega,j2,by omega,j4⟩,j5⟩
theorem qJs(h:OkT ts):∀k,Adv ts (qId ts params k)
 |0=>fun _ _ _ _ _ h1=>by cases h1
 |k+1=>by
  intro p q x hp hb h1
  unfold qId at h1
  split at h1
  ·rename_i hc
   have g:=qGt h hp (by decide) hc
   obtain⟨a,ha,h2⟩:=qAr h1
   obtain⟨⟨a1,a2,a3,a4⟩,-⟩:=qJs h k (p.1+1,p.2) a.1 a.2 g hb ha
   obtain⟨i,hi,h3⟩:=qAr h2
   obtain⟨rfl,g1,-⟩:=qNn h a2 hi
   obtain⟨b,hb1,h4⟩:=qAr h3
   obtain⟨⟨b1,b2,b3,b4⟩,-⟩:=qJs h k (a.1.1+1,a.1.2) b.1 b.2 g1 a4 hb1
   obtain⟨j,hj,h5⟩:=qAr h4
   obtain⟨rfl,g2,-⟩:=qNn h b2 hj
   obtain⟨c,hc1,h6⟩:=qAr h5
   obtain⟨⟨c1,c2,c3,c4⟩,-⟩:=qJs h k (b.1.1+1,b.1.2) c.1 c.2 g2 b4 hc1
   simp only at a1 a3 b1 b3 c1 c3
   exact qKs (by omega) c2 (by omega) c4 h6
  ·exact qLp h (qLp h (qLp h (qRf h (qJs h k)))) p q x hp hb h1
end
end
section
open Go Go.Dc
theorem idx_tk{ts:List Tok}{i:Nat}(hi:i<ts.length):idx ts (i:Int)=some (tkAt ts i):=by
 rw[qDw hi]
 simp[tkAt,jT,hi]
theorem qMg{i:Nat}(h:i<1000000):IntKind.wrap .i64 ((i:Int)+1)=((i+1:Nat):Int):=by rw[wi64 (by omega) (by omega)];omega
section
variable {N:Nat} {ts:List Tok} {pr:List ByteArray} {b:List Ex} {i:Nat}
theorem qIg(hi:i<ts.length):qBn N (ts,(i:Int),pr,b)=some ((ts,(i:Int),pr,b),tkAt ts i):=by
 simp only[qBn,idx_tk hi,j0]
theorem qZx(hi:i<ts.length)(k:Int)(s:ByteArray):qDd N (ts,(i:Int),pr,b) k s=some ((ts,(i:Int),pr,b),isC ts k s i):=by
 simp only[qDd,qIg hi,j0,qGo,isC]
 cases h:(tkAt ts i).1==k<;>simp[h]
theorem qWt(hi:i<ts.length)(hl:ts.length<1000000)(s:ByteArray):qEl N (ts,(i:Int),pr,b) s=some (Sum.map id (fun j:Nat=>(ts,(j:Int),pr,b)) (qSj ts s i)):=by
 simp only[qEl,qZx hi,qIg hi,j0,qBe,qSj]
 cases h:isC ts 1 s i
 ·simp[qIt]
 ·simp[qMg (show i<1000000 by omega)]
theorem qJy(hi:i<ts.length)(hl:ts.length<1000000)(s:ByteArray):qBb N (ts,(i:Int),pr,b) s=some (Sum.map id (fun j:Nat=>(ts,(j:Int),pr,b)) (qJb ts s i)):=by
 simp only[qBb,qZx hi,qIg hi,j0,qBe,qJb]
 cases h:isC ts 4 s i
 ·simp[qIt]
 ·simp[qMg (show i<1000000 by omega)]
theorem qLr(hi:i<ts.length)(hl:ts.length<1000000)(s:ByteArray):qCa N (ts,(i:Int),pr,b) s=some (if isC ts 4 s i then((ts,((i+1:Nat):Int),pr,b),true) else((ts,(i:Int),pr,b),false)):=by
 simp only[qCa,qZx hi,j0]
 cases h:isC ts 4 s i
 ·simp
 ·simp[qMg (show i<1000000 by omega)]
theorem qQk(hi:i<ts.length)(hl:ts.length<1000000){k:Int}(hk:k≠5):qCt N (ts,(i:Int),pr,b) k=some (Sum.map id (fun a:Nat×Tok=>((ts,(a.1:Int),pr,b),a.2)) (qNy ts k i)):=by
 simp only[qCt,qIg hi,j0,qBe,qNy]
 have h5:(k !=5)=true:=by simpa using hk
 by_cases h:(tkAt ts i).1=k
 ·have h1:((tkAt ts i).1 !=k)=false:=by simp[h]
  simp only[h1,h5,jB,jK,jU,j0,if_pos h,qMg (show i<1000000 by omega),jR]
 ·have h1:((tkAt ts i).1 !=k)=true:=by simp[h]
  simp only[h1,jU,j0,if_neg h,qIt,Sum.map_inl,id]
theorem orS(a b:Bool):(if a=true then some a else some b)=some (a||b):=by
 cases a<;>simp
theorem someB(b:Bool):(if b=true then some true else some false)=some b:=by cases b<;>simp
theorem qOa(s:ByteArray):qGa N s=some (resC s):=by
 simp only[qGa,qGo,resC,zEx,qPx,qTu,zEi,zEr,sGen,sIf,zEd,zDq,qSf,qRy,sHas,sEnv,qVc,jQ,kO,fX]
 simp only[orS,j0,someB,jH]
 simp only[Bool.decide_or]
theorem qTj(hi:i<ts.length)(hl:ts.length<1000000):qCu N (ts,(i:Int),pr,b)=some (Sum.map id (fun a:Nat×Tok=>((ts,(a.1:Int),pr,b),a.2)) (qOr ts i)):=by
 simp only[qCu,qQk hi hl (show(1:Int)≠5 by decide),j0,qBe,qOr]
 cases h:qNy ts 1 i with
 |inl z=>simp[qCy]
 |inr a=>
  simp only[jR,qOa,j0,qCy]
  cases h2:resC a.2.2.1<;>simp[qIt]
theorem qUj(hi:i<ts.length)(hl:ts.length<1000000)(hN:300000<N)(ht:∀j,(tkAt ts j).2.1.size<100000):qCv N (ts,(i:Int),pr,b)=some (Sum.map id (fun a:Nat×Tok=>((ts,(a.1:Int),pr,b),a.2)) (qPl ts i)):=by
 simp only[qCv,qQk hi hl (show(3:Int)≠5 by decide),j0,qBe,qPl]
 cases h:qNy ts 3 i with
 |inl z=>simp[qCy]
 |inr a=>
  have h3:a.2=tkAt ts i:=by
   unfold qNy at h
   split at h
   ·rw[←Sum.inr.inj h]
   ·cases h
  have hs:=ht i
  rw[←h3] at hs
  simp only[jR,qWw (N:=N) (s:=a.2.2.1) (by omega) (by omega),j0,qCy]
  cases h2:qPd a.2.2.1.data.toList<;>simp[qIt]
theorem qOd(t:Tok)(x:Ex)(hb:b.length≤256)(n:Nat):qBx N (ts,(n:Int),pr,b) t x=some (Sum.map id (fun q:Ps×Nat=>((ts,(q.1.1:Int),pr,q.1.2),(q.2:Int))) (qKz t x (n,b))):=by
 simp only[qBx,qBe,j0,qKz]
 by_cases h:b.length=256
 ·simp[h,qIt]
 ·have h1:((b.length:Int)==256)=false:=by simp;omega
  have hw:IntKind.wrap .i64 (((b.length+1:Nat):Int)-1)=(b.length:Int):=by rw[wi64 (by omega) (by omega)];omega
  simp only[h1,jB,jK,j0,if_neg h,jR]
  rw[qGm (by simp only[jC,jF];omega) (by omega)]
  simp only[j0,jA,jC,jF,jY,hw]
end
end
section
open Go Go.Dc
theorem qSz{N:Nat}{s:ByteArray}{l:List ByteArray}(hl:l.length<1000000):∀(d i M:Nat),i+d=l.length→d<M→
  qBa (qBj N l s) M (i:Int)=some (match(l.drop i).findIdx? (fun x=>decide (x=s)) with|some j=> .inr (((i+j:Nat):Int))|none=> .inl ())
 |d,i,0,_,h=>by omega
 |0,i,M+1,h,_=>by
  have:l.drop i=[]:=kA (by omega)
  simp only[qBa,qBj,this,List.findIdx?_nil]
  rw[if_neg (by simp only[j9];omega)]
  rfl
 |d+1,i,M+1,h,hM=>by
  have hi:i<l.length:=by omega
  have ih:=qSz (N:=N) (s:=s) hl d (i+1) M (by omega) (by omega)
  simp only[qBa,qBj]
  rw[if_pos (by simp only[j9];omega),qDw hi,k0 hi,List.findIdx?_cons]
  simp only[j0,qGo,j9]
  by_cases hs:l[i]=s
  ·rw[if_pos hs.symm,if_pos hs];simp
  ·rw[if_neg (fun e=>hs e.symm),if_neg hs]
   simp only[j0,qMg (show i<1000000 by omega),ih]
   cases(l.drop (i+1)).findIdx? (fun x=>decide (x=s)) with
   |none=>rfl
   |some j=>simp only[kF];congr 2;omega
theorem qYo{N:Nat}{s:ByteArray}{l:List ByteArray}(hl:l.length<1000000)(hN:l.length<N):
  qCb N l s=some (match l.findIdx? (fun x=>decide (x=s)) with|some j=>(j:Int)|none=> -1):=by
 have h:=qSz (N:=N) (s:=s) hl l.length 0 N (by omega) hN
 simp only[kG,jY] at h
 simp only[qCb]
 rw[show(0:Int)=((0:Nat):Int) from rfl,h]
 simp only[j0]
 cases l.findIdx? (fun x=>decide (x=s))<;>rfl
theorem qWy{s:ByteArray}{l:List ByteArray}:(l.findIdx? (fun x=>decide (x=s))).isSome=decide (s∈l):=by
 rw[List.findIdx?_isSome]
 rw[gE]
 simp only[gX,j9]
 exact⟨fun⟨x,h1,h2⟩=>h2▸h1,fun h=>⟨s,h,rfl⟩⟩
theorem qRn{N:Nat}{s:ByteArray}{l:List ByteArray}(hl:l.length<1000000)(hN:l.length<N):
  qBc N l s=some (decide (s∈l)):=by
 simp only[qBc,qYo hl hN,j0,←qWy]
 cases l.findIdx? (fun x=>decide (x=s)) with
 |none=>rfl
 |some j=>simp only[Option.isSome_some];rw[kC (show(j:Int)≥0 by omega)]
theorem zBc{α:Type}{g:α→Bool}{l k:List α}(hu:∀a∈l,∀b∈l,g a=true→g b=true→a=b)(hp:k.Perm l):k.find? g=l.find? g:=by
 cases h:l.find? g with
 |none=>
  rw[List.find?_eq_none] at h ⊢
  exact fun x hx=>h x (hp.mem_iff.1 hx)
 |some a=>
  have ha:=gK h
  have hg:=List.find?_some h
  cases h2:k.find? g with
  |none=>exact absurd hg (by simpa using List.find?_eq_none.1 h2 a (hp.mem_iff.2 ha))
  |some b=>rw[hu b (hp.mem_iff.1 (gK h2)) a ha (List.find?_some h2) hg]
theorem zDy:∀a∈opsC,∀b∈opsC,a.2=b.2→a=b:=by
 have h:(opsC.all fun a=>opsC.all fun b=> !(decide (a.2=b.2))||decide (a=b))=true:=by kernel_rfl
 intro a ha b hb e
 have:=jP.1 (jP.1 h a ha) b hb
 simpa[e] using this
section
variable {N:Nat} {ts:List Tok} {pr:List ByteArray} {b:List Ex} {i:Nat}
theorem zEn(op:Int):qGq N op=some ((levP op:Nat):Int):=by
 by_cases h1:op=6
 ·subst h1;rfl
 by_cases h2:op=7
 ·subst h2;rfl
 by_cases h3:op=1
 ·subst h3;rfl
 by_cases h4:op=2
 ·subst h4;rfl
 simp[qGq,levP,h1,h2,h3,h4]
theorem zBt(level:Nat){t:Tok}(ht:t=tkAt ts i):∀k:List (Int×ByteArray),qKo (qBw N (level:Int) ((ts,(i:Int),pr,b),t)) k ()=
  some (match k.find? (isOp ts level i) with|some o=> .inr ((ts,(i:Int),pr,b),o.1)|none=> .inl ())
 |[]=>rfl
 |o::k=>by
  have key:qBw N (level:Int) ((ts,(i:Int),pr,b),t) (some o) ()=some (if isOp ts level i o then .inr (.inr ((ts,(i:Int),pr,b),o.1)) else .inl ()):=by
   subst ht
   simp only[qBw,zEn,j0,qGo,isOp,isC]
   have hc:(((levP o.1:Nat):Int)==(level:Int))=decide (levP o.1=level):=by
    rw[gE];simp only[kI,j9];omega
   rw[hc]
   by_cases h1:(tkAt ts i).1=4<;>by_cases h2:(tkAt ts i).2.1=o.2<;>by_cases h3:levP o.1=level<;>simp[h1,h2,h3]
  simp only[qKo,key,j0,List.find?_cons]
  cases h:isOp ts level i o with
  |true=>rfl
  |false=>exact zBt level ht k
theorem zDj:qIp N=some (some opsC):=by kernel_rfl
theorem qWq(hi:i<ts.length)(level:Nat):qEr N (ts,(i:Int),pr,b) (level:Int)=some ((ts,(i:Int),pr,b),opC ts level i):=by
 simp only[qEr,qIg hi,zDj,j0,isQ,kF,Option.getD_some]
 have hu:∀a∈opsC,∀b∈opsC,isOp ts level i a=true→isOp ts level i b=true→a=b:=by
  intro a ha b hb h1 h2
  simp only[isOp,isC,jI,j9] at h1 h2
  exact zDy a ha b hb (h1.1.2.symm.trans h2.1.2)
 have key:=qUn (f:=qBw N (level:Int) ((ts,(i:Int),pr,b),tkAt ts i)) (l:=opsC) (s:=()) fun k hk=>by
  rw[zBt level rfl k,zBc hu hk]
 rw[key]
 unfold opC
 cases opsC.find? (isOp ts level i)<;>rfl
end
end
section
open Go Go.Dc
abbrev StT:=List Tok×Int×List ByteArray×List Ex
def stP(ts:List Tok)(pr:List ByteArray)(p:Ps):StT:=(ts,(p.1:Int),pr,p.2)
def outP(ts:List Tok)(pr:List ByteArray):PM Nat→Flt⊕(StT×Int):=Sum.map id fun q=>(stP ts pr q.1,(q.2:Int))
def outL(ts:List Tok)(pr:List ByteArray):PM (List Int)→Flt⊕(StT×List Int):=Sum.map id fun q=>(stP ts pr q.1,q.2)
section
variable {N:Nat} {ts:List Tok} {pr:List ByteArray} {E S:Ps→PM Nat} {d:Int}
variable {r1:StT→Tok→Int→Option (Flt⊕(StT×Int))} {r2:StT→Int→Option (Flt⊕(StT×List Int))} {r3:StT→Int→Option (Flt⊕(StT×Int))} {r4:StT→Int→Int→Option (Flt⊕(StT×Int))} {r5:StT→Int→Option (Flt⊕(StT×Int))}
theorem qWl(hok:OkT ts)(hl:ts.length<1000000)(hA:Adv ts E)(hE:∀p:Ps,p.1<ts.length→p.2.length≤256→r5 (stP ts pr p) (IntKind.wrap .i64 (d+1))=some (outP ts pr (E p))):
  ∀(n M:Nat) (l:List Int) (p:Ps),p.1<ts.length→p.2.length≤256→l.length≤p.1→ts.length<p.1+n→ts.length<p.1+M→
  ((qBa (qDi N r5 d) M (l,ts,(p.1:Int),pr,p.2)).bind fun out1=>(match out1 with| .inl o1=>(qBb N (o1.2.1,o1.2.2.1,o1.2.2.2.1,o1.2.2.2.2) (⟨#[41]⟩:ByteArray)).bind fun y7=>(match y7 with| .inl z3=>some (.inl z3)| .inr y8=>some (.inr ((y8.1,y8.2.1,y8.2.2.1,y8.2.2.2),o1.1)))| .inr (z)=>some z))=some (outL ts pr (zAf ts E n l p))
 |0,M,l,p,hp,_,_,h,_=>by omega
 |n+1,0,l,p,hp,_,_,_,h=>by omega
 |n+1,M+1,l,p,hp,hb,hll,hn,hM=>by
  have hEp:=hE p hp hb
  simp only[stP] at hEp
  simp only[qBa,qDi,zAf,hEp,j0]
  cases hq:E p with
  |inl z=>simp only[outP,Sum.map_inl,id,qCy,outL,j0]
  |inr q=>
   obtain⟨⟨f1,f2,f3,f4⟩,f5⟩:=hA p q.1 q.2 hp hb hq
   simp only[outP,jR,qCy,stP]
   rw[qGm (by simp only[jC,jF];omega) (by omega)]
   simp only[j0,qLr f2 hl,qTb]
   rcases qMl (isC ts 4 ⟨#[44]⟩ q.1.1) with hc|hc
   ·have g:=qGt hok f2 (by decide) hc
    have ih:=qWl hok hl hA hE n M (l++[(q.2:Int)]) (q.1.1+1,q.1.2) g f4 (by simp only[jA,jC,jF];omega) (by simp only;omega) (by simp only;omega)
    simp only[hc,jU,kM,jB,jK,j0]
    exact ih
   ·simp only[hc,jB,jK,gY,jU,j0,qJy f2 hl,qLj]
    cases qJb ts ⟨#[41]⟩ q.1.1 with
    |inl z=>rfl
    |inr j=>rfl
theorem qWu(hok:OkT ts)(hl:ts.length<1000000)(hN:ts.length<N)(hA:Adv ts E)(hE:∀p:Ps,p.1<ts.length→p.2.length≤256→r5 (stP ts pr p) (IntKind.wrap .i64 (d+1))=some (outP ts pr (E p)))
  (p:Ps) (hp:p.1<ts.length) (hb:p.2.length≤256):qDt N r1 r2 r3 r4 r5 (stP ts pr p) d=some (outL ts pr (qIn ts E p)):=by
 simp only[qDt,stP,qJy hp hl,j0,qIn,qRz]
 cases h:qJb ts ⟨#[40]⟩ p.1 with
 |inl z=>rfl
 |inr i=>
  obtain⟨rfl,g,-⟩:=qFj hok hp h
  simp only[jR,qCy,qLr g hl,j0,qLj]
  rcases qMl (isC ts 4 ⟨#[41]⟩ (p.1+1)) with hc|hc
  ·simp only[hc,jU];rfl
  ·simp only[hc,jB,jK]
   exact qWl hok hl hA hE (ts.length+1) N [] (p.1+1,p.2) g hb (by simp) (by simp only;omega) (by simp only;omega)
theorem zDb(hok:OkT ts)(hl:ts.length<1000000)(hN:300000<N)(ht:∀j,(tkAt ts j).2.1.size<100000)(hA:Adv ts E)(hE:∀p:Ps,p.1<ts.length→p.2.length≤256→r5 (stP ts pr p) (IntKind.wrap .i64 (d+1))=some (outP ts pr (E p)))
  (t:Tok) (p:Ps) (hp:p.1<ts.length) (hb:p.2.length≤256):qEj N r1 r2 r3 r4 r5 (stP ts pr p) t d=some (outP ts pr (qKu ts E t p)):=by
 have fin:∀(o1:Int×Int×ByteArray×List Int×StT) (q:Ps) (x:Ex),o1.2.2.2.2=stP ts pr q→x=(o1.1,o1.2.1,0,o1.2.2.1,o1.2.2.2.1)→q.1<ts.length→q.2.length≤256→
   ((qBb N (o1.2.2.2.2.1,o1.2.2.2.2.2.1,o1.2.2.2.2.2.2.1,o1.2.2.2.2.2.2.2) (⟨#[41]⟩:ByteArray)).bind fun y22=>(match y22 with| .inl z11=>some (.inl z11)| .inr y23=>(qBx N (y23.1,y23.2.1,y23.2.2.1,y23.2.2.2) (t.1,t.2.1,t.2.2.1,t.2.2.2) (o1.1,o1.2.1,0,o1.2.2.1,o1.2.2.2.1)).bind fun y24=>(match y24 with| .inl z12=>some (.inl z12)| .inr y25=>some (.inr ((y25.1.1,y25.1.2.1,y25.1.2.2.1,y25.1.2.2.2),y25.2)))))=
   some (outP ts pr (qCy (qJb ts qLj q.1) fun i=>qKz t x (i,q.2))):=by
  intro o1 q x ho hx hq hqb
  subst hx
  rw[ho]
  simp only[stP,qJy hq hl,j0,qLj]
  cases hj:qJb ts ⟨#[41]⟩ q.1 with
  |inl z=>rfl
  |inr j=>
   simp only[jR,qCy,qOd _ _ hqb,j0]
   cases qKz t (o1.1,o1.2.1,0,o1.2.2.1,o1.2.2.2.1) (j,q.2)<;>rfl
 simp only[qEj,stP,qJy hp hl,j0,qKu,qRz]
 cases h:qJb ts ⟨#[40]⟩ p.1 with
 |inl z=>rfl
 |inr i=>
  obtain⟨rfl,g,-⟩:=qFj hok hp h
  simp only[jR,qCy,qGo,j9]
  by_cases k1:t.2.1=qSf
  ·rw[if_pos (show t.2.1=(⟨#[114,101,97,100]⟩:ByteArray) from k1),if_pos k1]
   simp only[qUj g hl hN ht,j0]
   cases h1:qPl ts (p.1+1) with
   |inl z=>rfl
   |inr a=>
    obtain⟨rfl,g1,-⟩:=qKd hok g h1
    simp only[jR,qJy g1 hl,j0,qTb]
    cases h2:qJb ts ⟨#[44]⟩ (p.1+1+1) with
    |inl z=>rfl
    |inr j=>
     obtain⟨rfl,g2,-⟩:=qFj hok g1 h2
     have hEp:=hE (p.1+1+1+1,p.2) g2 hb
     simp only[stP] at hEp
     simp only[jR,hEp,j0]
     cases h3:E (p.1+1+1+1,p.2) with
     |inl z=>rfl
     |inr q=>
      obtain⟨⟨f1,f2,f3,f4⟩,f5⟩:=hA (p.1+1+1+1,p.2) q.1 q.2 g2 hb h3
      exact fin (6,0,(tkAt ts (p.1+1)).2.1,[(q.2:Int)],ts,(q.1.1:Int),pr,q.1.2) q.1 _ rfl rfl f2 f4
  rw[if_neg (show ¬t.2.1=(⟨#[114,101,97,100]⟩:ByteArray) from k1),if_neg k1]
  by_cases k2:t.2.1=qRy
  ·rw[if_pos (show t.2.1=(⟨#[115,105,122,101]⟩:ByteArray) from k2),if_pos k2]
   simp only[qUj g hl hN ht,j0]
   cases h1:qPl ts (p.1+1) with
   |inl z=>rfl
   |inr a=>
    obtain⟨rfl,g1,-⟩:=qKd hok g h1
    exact fin (7,0,(tkAt ts (p.1+1)).2.1,[],ts,((p.1+1+1:Nat):Int),pr,p.2) (p.1+1+1,p.2) _ rfl rfl g1 hb
  rw[if_neg (show ¬t.2.1=(⟨#[115,105,122,101]⟩:ByteArray) from k2),if_neg k2]
  by_cases k3:t.2.1=sHas
  ·rw[if_pos (show t.2.1=(⟨#[104,97,115]⟩:ByteArray) from k3),if_pos k3]
   simp only[qUj g hl hN ht,j0]
   cases h1:qPl ts (p.1+1) with
   |inl z=>rfl
   |inr a=>
    obtain⟨rfl,g1,-⟩:=qKd hok g h1
    exact fin (8,0,(tkAt ts (p.1+1)).2.1,[],ts,((p.1+1+1:Nat):Int),pr,p.2) (p.1+1+1,p.2) _ rfl rfl g1 hb
  rw[if_neg (show ¬t.2.1=(⟨#[104,97,115]⟩:ByteArray) from k3),if_neg k3]
  by_cases k4:t.2.1=sEnv
  ·rw[if_pos (show t.2.1=(⟨#[101,110,118]⟩:ByteArray) from k4),if_pos k4]
   simp only[qQk g hl (show(3:Int)≠5 by decide),j0,zAm]
   cases h1:qNy ts 3 (p.1+1) with
   |inl z=>rfl
   |inr a=>
    obtain⟨rfl,g1,-⟩:=qLt hok (by decide) g h1
    simp only[jR,qXm (N:=N) (by omega),j0,qCy,qBe]
    cases h2:qQy (tkAt ts (p.1+1)).2.1 with
    |false=>rfl
    |true=>exact fin (9,0,(tkAt ts (p.1+1)).2.1,[],ts,((p.1+1+1:Nat):Int),pr,p.2) (p.1+1+1,p.2) _ rfl rfl g1 hb
  ·rw[if_neg (show ¬t.2.1=(⟨#[101,110,118]⟩:ByteArray) from k4),if_neg k4]
   simp only[qQk g hl (show(2:Int)≠5 by decide),j0]
   cases h1:qNy ts 2 (p.1+1) with
   |inl z=>rfl
   |inr a=>
    obtain⟨rfl,g1,-⟩:=qLt hok (by decide) g h1
    simp only[jR,qBe,j0]
    by_cases h2:(tkAt ts (p.1+1)).2.2.1≥64
    ·simp only[if_pos h2,j0];rfl
    ·simp only[if_neg h2,j0]
     exact fin (10,(tkAt ts (p.1+1)).2.2.1,⟨#[]⟩,[],ts,((p.1+1+1:Nat):Int),pr,p.2) (p.1+1+1,p.2) _ rfl rfl g1 hb
end
end
section
open Go Go.Dc
section
variable {N:Nat} {ts:List Tok} {pr:List ByteArray} {E S:Ps→PM Nat} {d:Int}
variable {r1:StT→Tok→Int→Option (Flt⊕(StT×Int))} {r2:StT→Int→Option (Flt⊕(StT×List Int))} {r3:StT→Int→Option (Flt⊕(StT×Int))} {r4:StT→Int→Int→Option (Flt⊕(StT×Int))} {r5:StT→Int→Option (Flt⊕(StT×Int))}
theorem kw_mem(x:ByteArray):(decide (x=(⟨#[114,101,97,100]⟩:ByteArray))||(decide (x=(⟨#[115,105,122,101]⟩:ByteArray))||(decide (x=(⟨#[104,97,115]⟩:ByteArray))||(decide (x=(⟨#[101,110,118]⟩:ByteArray))||decide (x=(⟨#[102,108,105,112]⟩:ByteArray))))))=decide (x∈[qSf,qRy,sHas,sEnv,qVc]):=by
 simp only[qSf,qRy,sHas,sEnv,qVc,jQ,kO,fX,Bool.decide_or]
theorem zEg(hok:OkT ts)(hl:ts.length<1000000)(hpr:pr.length<1000)(hN:300000<N)(hA:Adv ts E)(hE:∀p:Ps,p.1<ts.length→p.2.length≤256→r5 (stP ts pr p) (IntKind.wrap .i64 (d+1))=some (outP ts pr (E p)))
  (h1:∀(t:Tok) (p:Ps),p.1<ts.length→p.2.length≤256→r1 (stP ts pr p) t d=some (outP ts pr (qKu ts E t p)))
  (h2:∀p:Ps,p.1<ts.length→p.2.length≤256→r2 (stP ts pr p) d=some (outL ts pr (qIn ts E p)))
  (p:Ps) (hp:p.1<ts.length) (hb:p.2.length≤256):qEs N r1 r2 r3 r4 r5 (stP ts pr p) d=some (outP ts pr (qMc ts pr E p)):=by
 have hw:=qMg (show p.1<1000000 by omega)
 simp only[qEs,stP,qIg hp,j0,qMc]
 by_cases k1:(tkAt ts p.1).1=2
 ·rw[if_pos (show((tkAt ts p.1).1==2)=true by simpa using k1),if_pos k1,hw]
  simp only[qOd _ _ hb,j0]
  cases qKz (tkAt ts p.1) (1,(tkAt ts p.1).2.2.1,0,⟨#[]⟩,[]) (p.1+1,p.2)<;>rfl
 rw[if_neg (show ¬((tkAt ts p.1).1==2)=true by simpa using k1),if_neg k1]
 simp only[qLr hp hl,j0]
 rcases qMl (isC ts 4 zEu p.1) with c1|c1
 ·have c1':isC ts 4 ⟨#[45]⟩ p.1=true:=c1
  have g:=qGt hok hp (by decide) c1
  simp only[c1,c1',jU,qQk g hl (show(2:Int)≠5 by decide),j0]
  cases h:qNy ts 2 (p.1+1) with
  |inl z=>rfl
  |inr a=>
   simp only[jR,qCy,qOd _ _ hb,j0]
   cases qKz (tkAt ts p.1) (1,IntKind.wrap .i64 (0-a.2.2.2.1),0,⟨#[]⟩,[]) (a.1,p.2)<;>rfl
 have c1':isC ts 4 ⟨#[45]⟩ p.1=false:=c1
 simp only[c1,c1',jB,jK,qLr hp hl,j0]
 rcases qMl (isC ts 4 qRz p.1) with c2|c2
 ·have c2':isC ts 4 ⟨#[40]⟩ p.1=true:=c2
  have g:=qGt hok hp (by decide) c2
  have hEp:=hE (p.1+1,p.2) g hb
  simp only[stP] at hEp
  simp only[c2,c2',jU,hEp,j0]
  cases h:E (p.1+1,p.2) with
  |inl z=>rfl
  |inr q=>
   obtain⟨⟨f1,f2,f3,f4⟩,f5⟩:=hA (p.1+1,p.2) q.1 q.2 g hb h
   simp only[outP,jR,qCy,stP,qJy f2 hl,j0,qLj]
   cases qJb ts ⟨#[41]⟩ q.1.1<;>rfl
 have c2':isC ts 4 ⟨#[40]⟩ p.1=false:=c2
 simp only[c2,c2',jB,jK,qBe,j0]
 by_cases k2:(tkAt ts p.1).1=1
 rotate_left
 ·rw[if_pos (show((tkAt ts p.1).1 !=1)=true by simpa using k2),if_pos k2];rfl
 rw[if_neg (show ¬((tkAt ts p.1).1 !=1)=true by simpa using k2),if_neg (show ¬(tkAt ts p.1).1≠1 by simpa using k2)]
 have g:=hok.next hp (show(tkAt ts p.1).1≠5 by rw[k2];decide)
 simp only[j0,qGo,orS,kw_mem,hw]
 by_cases k3:(tkAt ts p.1).2.1∈[qSf,qRy,sHas,sEnv,qVc]
 ·rw[if_pos (show decide ((tkAt ts p.1).2.1∈[qSf,qRy,sHas,sEnv,qVc])=true from kC k3),if_pos k3]
  have h1p:=h1 (tkAt ts p.1) (p.1+1,p.2) g hb
  simp only[stP] at h1p
  simp only[h1p,j0]
  cases qKu ts E (tkAt ts p.1) (p.1+1,p.2)<;>rfl
 rw[if_neg (show ¬decide ((tkAt ts p.1).2.1∈[qSf,qRy,sHas,sEnv,qVc])=true by simpa using k3),if_neg k3]
 simp only[qOa,j0]
 rcases qMl (resC (tkAt ts p.1).2.1) with c3|c3
 ·simp only[c3,jU,j0];rfl
 simp only[c3,jB,jK,j0,qZx g]
 rcases qMl (isC ts 4 qRz (p.1+1)) with c4|c4
 ·have c4':isC ts 4 ⟨#[40]⟩ (p.1+1)=true:=c4
  have h2p:=h2 (p.1+1,p.2) g hb
  simp only[stP] at h2p
  simp only[c4,c4',jU,h2p,j0]
  cases h:qIn ts E (p.1+1,p.2) with
  |inl z=>rfl
  |inr q=>
   obtain⟨f1,f2,f3,f4⟩:=qNt hok hA (p:=(p.1+1,p.2)) g hb h
   simp only[outL,jR,qCy,stP,qOd _ _ f4,j0]
   cases qKz (tkAt ts p.1) (3,0,0,(tkAt ts p.1).2.1,q.2) (q.1.1,q.1.2)<;>rfl
 have c4':isC ts 4 ⟨#[40]⟩ (p.1+1)=false:=c4
 simp only[c4,c4',jB,jK,qYo (N:=N) (l:=pr) (s:=(tkAt ts p.1).2.1) (by omega) (by omega),j0]
 cases pr.findIdx? (fun x=>decide (x=(tkAt ts p.1).2.1)) with
 |none=>rfl
 |some j=>
  simp only[j9]
  rw[if_neg (by omega)]
  simp only[j0,qOd _ _ hb]
  cases qKz (tkAt ts p.1) (2,(j:Int),0,⟨#[]⟩,[]) (p.1+1,p.2)<;>rfl
theorem zDt(h3:∀p:Ps,p.1<ts.length→p.2.length≤256→r3 (stP ts pr p) d=some (outP ts pr (S p)))(p:Ps)(hp:p.1<ts.length)(hb:p.2.length≤256):
  qCs N r1 r2 r3 r4 r5 (stP ts pr p) 4 d=some (outP ts pr (S p)):=by
 have h3p:=h3 p hp hb
 simp only[stP] at h3p
 simp only[qCs,stP,h3p,j0]
 cases S p<;>rfl
theorem qVv(hok:OkT ts)(hl:ts.length<1000000)(hS:Adv ts S){L:Nat}(hL:L<4)(h4:∀p:Ps,p.1<ts.length→p.2.length≤256→r4 (stP ts pr p) ((L:Int)+1) d=some (outP ts pr (S p))):
  ∀(n M x:Nat) (p:Ps),p.1<ts.length→p.2.length≤256→x<p.2.length→ts.length<p.1+n→ts.length<p.1+M→
  qBa (qEk N r4 (L:Int) d) M ((x:Int),ts,(p.1:Int),pr,p.2)=some (outP ts pr (qVe ts L S n x p))
 |0,M,x,p,hp,_,_,h,_=>by omega
 |n+1,0,x,p,hp,_,_,_,h=>by omega
 |n+1,M+1,x,p,hp,hb,hx,hn,hM=>by
  have hw:=qMg (show p.1<1000000 by omega)
  have hwL:IntKind.wrap .i64 ((L:Int)+1)=(L:Int)+1:=wi64 (by omega) (by omega)
  simp only[qBa,qEk,qVe,qWq hp,j0]
  by_cases k1:opC ts L p.1=0
  ·rw[if_pos (show(opC ts L p.1==0)=true by simpa using k1),if_pos k1];rfl
  rw[if_neg (show ¬(opC ts L p.1==0)=true by simpa using k1),if_neg k1]
  have hk:(tkAt ts p.1).1≠5:=by
   intro hk
   apply k1
   unfold opC
   have:opsC.find? (isOp ts L p.1)=none:=by
    rw[List.find?_eq_none]
    intro o _ ho
    simp only[isOp,jI] at ho
    have:=qUk ho.1
    omega
   rw[this]
  have g:=hok.next hp hk
  have h4p:=h4 (p.1+1,p.2) g hb
  simp only[stP] at h4p
  simp only[qIg hp,j0,hw,hwL,h4p]
  cases h:S (p.1+1,p.2) with
  |inl z=>rfl
  |inr q=>
   obtain⟨⟨f1,f2,f3,f4⟩,f5⟩:=hS (p.1+1,p.2) q.1 q.2 g hb h
   simp only[outP,jR,qCy,stP,qOd _ _ f4,j0]
   cases hn2:qKz (tkAt ts p.1) (4,0,opC ts L p.1,⟨#[]⟩,[(x:Int),(q.2:Int)]) (q.1.1,q.1.2) with
   |inl z=>rfl
   |inr r=>
    obtain⟨⟨k1,k2,k3,k4⟩,k5⟩:=qKs (ts:=ts) (p:=p) (r:=(q.1.1,q.1.2)) (by simp only at f1 ⊢;omega) f2 f3 f4 hn2
    simp only[jR]
    by_cases k6:L=1
    ·subst k6
     rfl
    ·rw[if_neg (show ¬((L:Int)==1)=true by simp;omega),if_neg k6]
     simp only[j0]
     exact qVv hok hl hS hL h4 n M r.2 r.1 k2 k4 k5 (by omega) (by omega)
theorem qUf(hok:OkT ts)(hl:ts.length<1000000)(hN:1000001<N)(hS:Adv ts S){L:Nat}(hL:L<4)(h4:∀p:Ps,p.1<ts.length→p.2.length≤256→r4 (stP ts pr p) ((L:Int)+1) d=some (outP ts pr (S p)))
  (p:Ps) (hp:p.1<ts.length) (hb:p.2.length≤256):qCs N r1 r2 r3 r4 r5 (stP ts pr p) (L:Int) d=some (outP ts pr (qQz ts L S p)):=by
 have hwL:IntKind.wrap .i64 ((L:Int)+1)=(L:Int)+1:=wi64 (by omega) (by omega)
 have h4p:=h4 p hp hb
 simp only[stP] at h4p
 simp only[qCs,stP,qQz,hwL,h4p,j0]
 rw[if_neg (show ¬((L:Int)==4)=true by simp;omega)]
 cases h:S p with
 |inl z=>rfl
 |inr q=>
  obtain⟨⟨f1,f2,f3,f4⟩,f5⟩:=hS p q.1 q.2 hp hb h
  simp only[outP,jR,qCy,stP]
  rw[qVv hok hl hS hL h4 (ts.length+1) N q.2 q.1 f2 f4 f5 (by omega) (by omega)]
  rfl
theorem expr_B{k:Nat}(hok:OkT ts)(hl:ts.length<1000000)(hd:d+k=32)(hk:k<33)(hA:Adv ts (qId ts pr k))(hE:∀p:Ps,p.1<ts.length→p.2.length≤256→r5 (stP ts pr p) (IntKind.wrap .i64 (d+1))=some (outP ts pr (qId ts pr k p)))
  (h4:∀p:Ps,p.1<ts.length→p.2.length≤256→r4 (stP ts pr p) 1 d=some (outP ts pr (qQa ts pr (qId ts pr k) p)))
  (p:Ps) (hp:p.1<ts.length) (hb:p.2.length≤256):qDm N r1 r2 r3 r4 r5 (stP ts pr p) d=some (outP ts pr (qId ts pr (k+1) p)):=by
 have hw:=qMg (show p.1<1000000 by omega)
 simp only[qDm,stP,qIg hp,j0,qId]
 rw[if_neg (show ¬decide (d>32)=true by simp only[j9];omega)]
 simp only[j0,qZx hp]
 rcases qMl (isC ts 1 sIf p.1) with c1|c1
 rotate_left
 ·have c1':isC ts 1 ⟨#[105,102]⟩ p.1=false:=c1
  have h4p:=h4 p hp hb
  simp only[stP] at h4p
  simp only[c1,c1',gY,jU,jB,jK,h4p,j0]
  cases qQa ts pr (qId ts pr k) p<;>rfl
 have c1':isC ts 1 ⟨#[105,102]⟩ p.1=true:=c1
 have g:=qGt hok hp (by decide) c1
 have hEa:=hE (p.1+1,p.2) g hb
 simp only[stP] at hEa
 simp only[c1,c1',kM,jU,jB,jK,hw,hEa,j0]
 cases ha:qId ts pr k (p.1+1,p.2) with
 |inl z=>rfl
 |inr a=>
  obtain⟨⟨a1,a2,a3,a4⟩,a5⟩:=hA (p.1+1,p.2) a.1 a.2 g hb ha
  simp only[outP,jR,qCy,stP,qWt a2 hl,j0,zEd]
  cases hi:qSj ts ⟨#[116,104,101,110]⟩ a.1.1 with
  |inl z=>rfl
  |inr i=>
   obtain⟨rfl,g1,-⟩:=qNn hok a2 hi
   have hEb:=hE (a.1.1+1,a.1.2) g1 a4
   simp only[stP] at hEb
   simp only[jR,hEb,j0]
   cases hb1:qId ts pr k (a.1.1+1,a.1.2) with
   |inl z=>rfl
   |inr b=>
    obtain⟨⟨b1,b2,b3,b4⟩,b5⟩:=hA (a.1.1+1,a.1.2) b.1 b.2 g1 a4 hb1
    simp only[outP,jR,qCy,stP,qWt b2 hl,j0,zDq]
    cases hj:qSj ts ⟨#[101,108,115,101]⟩ b.1.1 with
    |inl z=>rfl
    |inr j=>
     obtain⟨rfl,g2,-⟩:=qNn hok b2 hj
     have hEc:=hE (b.1.1+1,b.1.2) g2 b4
     simp only[stP] at hEc
     simp only[jR,hEc,j0]
     cases hc1:qId ts pr k (b.1.1+1,b.1.2) with
     |inl z=>rfl
     |inr c=>
      obtain⟨⟨c1,c2,c3,c4⟩,c5⟩:=hA (b.1.1+1,b.1.2) c.1 c.2 g2 b4 hc1
      simp only[outP,jR,qCy,stP,qOd _ _ c4,j0]
      cases qKz (tkAt ts p.1) (5,0,0,⟨#[]⟩,[(a.2:Int),(b.2:Int),(c.2:Int)]) (c.1.1,c.1.2)<;>rfl
theorem zFm(hd:d>32)(p:Ps)(hp:p.1<ts.length):qDm N r1 r2 r3 r4 r5 (stP ts pr p) d=some (outP ts pr (qId ts pr 0 p)):=by
 simp only[qDm,stP,qIg hp,j0,qId]
 rw[if_pos (show decide (d>32)=true by simpa using hd)]
 rfl
theorem zAq(hok:OkT ts)(hl:ts.length<1000000)(hpr:pr.length<1000)(hN:1000001<N)(ht:∀j,(tkAt ts j).2.1.size<100000):∀(k D:Nat),k≤32→7*k+1≤D→∀p:Ps,p.1<ts.length→p.2.length≤256→
  (qAd N D).2.2.2.2 (stP ts pr p) (33-(k:Int))=some (outP ts pr (qId ts pr k p))
 |0,0,_,h,_,_,_=>by omega
 |0,D+1,_,_,p,hp,_=>by simp only[qAd];exact zFm (by omega) p hp
 |k+1,D,hk,hD,p,hp,hb=>by
  have hA:=qJs (ts:=ts) (params:=pr) hok k
  have hF:=qRf (params:=pr) hok hA
  have hT:Adv ts (zFs ts pr (qId ts pr k)):=qLp hok hF
  have hS:Adv ts (sumC ts pr (qId ts pr k)):=qLp hok hT
  have hE:∀D,7*k+1≤D→∀p:Ps,p.1<ts.length→p.2.length≤256→(qAd N D).2.2.2.2 (stP ts pr p) (IntKind.wrap .i64 (32-(k:Int)+1))=some (outP ts pr (qId ts pr k p)):=by
   intro D hD p hp hb
   rw[wi64 (by omega) (by omega),show 32-(k:Int)+1=33-(k:Int) by omega]
   exact zAq hok hl hpr hN ht k D (by omega) hD p hp hb
  have h1:∀D,7*k+2≤D→∀(t:Tok) (p:Ps),p.1<ts.length→p.2.length≤256→(qAd N D).1 (stP ts pr p) t (32-(k:Int))=some (outP ts pr (qKu ts (qId ts pr k) t p)):=by
   intro D hD t p hp hb
   obtain⟨D',rfl⟩:∃D',D=D'+1:=⟨D-1,by omega⟩
   simp only[qAd]
   exact zDb hok hl (by omega) ht hA (hE D' (by omega)) t p hp hb
  have h2:∀D,7*k+2≤D→∀p:Ps,p.1<ts.length→p.2.length≤256→(qAd N D).2.1 (stP ts pr p) (32-(k:Int))=some (outL ts pr (qIn ts (qId ts pr k) p)):=by
   intro D hD p hp hb
   obtain⟨D',rfl⟩:∃D',D=D'+1:=⟨D-1,by omega⟩
   simp only[qAd]
   exact qWu hok hl (by omega) hA (hE D' (by omega)) p hp hb
  have h3:∀D,7*k+3≤D→∀p:Ps,p.1<ts.length→p.2.length≤256→(qAd N D).2.2.1 (stP ts pr p) (32-(k:Int))=some (outP ts pr (qMc ts pr (qId ts pr k) p)):=by
   intro D hD p hp hb
   obtain⟨D',rfl⟩:∃D',D=D'+1:=⟨D-1,by omega⟩
   simp only[qAd]
   exact zEg hok hl hpr (by omega) hA (hE D' (by omega)) (h1 D' (by omega)) (h2 D' (by omega)) p hp hb
  have b4:∀D,7*k+4≤D→∀p:Ps,p.1<ts.length→p.2.length≤256→(qAd N D).2.2.2.1 (stP ts pr p) 4 (32-(k:Int))=some (outP ts pr (qMc ts pr (qId ts pr k) p)):=by
   intro D hD p hp hb
   obtain⟨D',rfl⟩:∃D',D=D'+1:=⟨D-1,by omega⟩
   simp only[qAd]
   exact zDt (h3 D' (by omega)) p hp hb
  have b3:∀D,7*k+5≤D→∀p:Ps,p.1<ts.length→p.2.length≤256→(qAd N D).2.2.2.1 (stP ts pr p) 3 (32-(k:Int))=some (outP ts pr (zFs ts pr (qId ts pr k) p)):=by
   intro D hD p hp hb
   obtain⟨D',rfl⟩:∃D',D=D'+1:=⟨D-1,by omega⟩
   simp only[qAd]
   exact qUf hok hl hN hF (L:=3) (by omega) (b4 D' (by omega)) p hp hb
  have b2:∀D,7*k+6≤D→∀p:Ps,p.1<ts.length→p.2.length≤256→(qAd N D).2.2.2.1 (stP ts pr p) 2 (32-(k:Int))=some (outP ts pr (sumC ts pr (qId ts pr k) p)):=by
   intro D hD p hp hb
   obtain⟨D',rfl⟩:∃D',D=D'+1:=⟨D-1,by omega⟩
   simp only[qAd]
   exact qUf hok hl hN hT (L:=2) (by omega) (b3 D' (by omega)) p hp hb
  have b1:∀D,7*k+7≤D→∀p:Ps,p.1<ts.length→p.2.length≤256→(qAd N D).2.2.2.1 (stP ts pr p) 1 (32-(k:Int))=some (outP ts pr (qQa ts pr (qId ts pr k) p)):=by
   intro D hD p hp hb
   obtain⟨D',rfl⟩:∃D',D=D'+1:=⟨D-1,by omega⟩
   simp only[qAd]
   exact qUf hok hl hN hS (L:=1) (by omega) (b2 D' (by omega)) p hp hb
  obtain⟨D',rfl⟩:∃D',D=D'+1:=⟨D-1,by omega⟩
  rw[show(33:Int)-((k+1:Nat):Int)=32-(k:Int) by omega]
  simp only[qAd]
  exact expr_B hok hl (by omega) (by omega) hA (hE D' (by omega)) (b1 D' (by omega)) p hp hb
theorem zGq(hok:OkT ts)(hl:ts.length<1000000)(hpr:pr.length<1000)(hN:1000001<N)(ht:∀j,(tkAt ts j).2.1.size<100000)(p:Ps)(hp:p.1<ts.length)(hb:p.2.length≤256):
  qJe N (ts,(p.1:Int),pr,p.2) 1=some (outP ts pr (qId ts pr 32 p)):=by
 have:=zAq hok hl hpr hN ht 32 N (by omega) (by omega) p hp hb
 exact this
end
end
section
open Go Go.Dc
section
variable {N:Nat} {ts:List Tok} {pr:List ByteArray} {b:List Ex}
theorem qRq(h:OkT ts):∀(n:Nat) (l:List ByteArray) (i:Nat) (a:Nat×List ByteArray),i<ts.length→l.length≤8→qRj ts n l i= .inr a→i<a.1∧a.1<ts.length∧a.2.length≤8
 |0,_,_,_,_,_,h1=>by cases h1
 |n+1,l,i,a,hi,hl,h1=>by
  obtain⟨x,hx,h2⟩:=qAr (show qCy (qOr ts i) _=_ from h1)
  obtain⟨rfl,g1,-⟩:=qJz h hi hx
  split at h2
  ·cases h2
  rename_i k1
  split at h2
  ·cases h2
  split at h2
  ·rename_i k3
   have g2:=qGt h g1 (by decide) k3
   obtain⟨j1,j2,j3⟩:=qRq h n _ _ a g2 (by simp only[jA,jC,jF];omega) h2
   exact⟨by omega,j2,j3⟩
  ·obtain⟨j,hj,h3⟩:=qAr h2
   obtain⟨rfl,g2,-⟩:=qFj h g1 hj
   obtain rfl:=Sum.inr.inj h3
   exact⟨by simp only;omega,g2,by simp only[jA,jC,jF];omega⟩
theorem qKk(h:OkT ts){i:Nat}{a:Nat×List ByteArray}(hi:i<ts.length)(h1:qIi ts i= .inr a):i<a.1∧a.1<ts.length∧a.2.length≤8:=by
 obtain⟨j,hj,h2⟩:=qAr h1
 obtain⟨rfl,g,-⟩:=qFj h hi hj
 split at h2
 ·rename_i k
  obtain rfl:=Sum.inr.inj h2
  exact⟨by simp only;omega,qGt h g (by decide) k,by simp⟩
 ·obtain⟨j1,j2,j3⟩:=qRq h _ _ _ a g (by simp) h2
  exact⟨by omega,j2,j3⟩
theorem qRo(hok:OkT ts)(hl:ts.length<1000000)(hN:1000000<N):∀(n M:Nat) (l:List ByteArray) (i:Nat),i<ts.length→l.length≤8→ts.length<i+n→ts.length<i+M→
  ((qBa (qDb N) M (l,ts,(i:Int),pr,b)).bind fun out1=>(match out1 with| .inl o1=>(qBb N (o1.2.1,o1.2.2.1,o1.2.2.2.1,o1.2.2.2.2) (⟨#[41]⟩:ByteArray)).bind fun y12=>(match y12 with| .inl z5=>some (.inl z5)| .inr y13=>some (.inr ((y13.1,y13.2.1,y13.2.2.1,y13.2.2.2),o1.1)))| .inr (z)=>some z))=some (Sum.map id (fun a:Nat×List ByteArray=>((ts,(a.1:Int),pr,b),a.2)) (qRj ts n l i))
 |0,M,l,i,hi,_,h,_=>by omega
 |n+1,0,l,i,hi,_,_,h=>by omega
 |n+1,M+1,l,i,hi,hll,hn,hM=>by
  simp only[qBa,qDb,qRj,qTj hi hl,j0]
  cases hx:qOr ts i with
  |inl z=>rfl
  |inr x=>
   obtain⟨rfl,g1,-⟩:=qJz hok hi hx
   simp only[jR,qCy,qBe,j0]
   by_cases k1:l.length=8
   ·rw[if_pos (show((l.length:Int)==8)=true by simp;omega),if_pos k1];rfl
   rw[if_neg (show ¬((l.length:Int)==8)=true by simp;omega),if_neg k1]
   simp only[j0,qRn (N:=N) (l:=l) (s:=(tkAt ts i).2.1) (by omega) (by omega)]
   by_cases k2:(tkAt ts i).2.1∈l
   ·rw[if_pos (kC k2),if_pos k2];rfl
   rw[if_neg (show ¬decide ((tkAt ts i).2.1∈l)=true by simpa using k2),if_neg k2]
   simp only[j0]
   rw[qGm (by simp only[jC,jF];omega) (by omega)]
   simp only[j0,qLr g1 hl,qTb]
   rcases qMl (isC ts 4 ⟨#[44]⟩ (i+1)) with hc|hc
   ·have g:=qGt hok g1 (by decide) hc
    simp only[hc,jU,kM,jB,jK,j0]
    exact qRo hok hl hN n M _ (i+1+1) g (by simp only[jA,jC,jF];omega) (by omega) (by omega)
   ·simp only[hc,jB,jK,gY,jU,j0,qJy g1 hl,qLj]
    cases qJb ts ⟨#[41]⟩ (i+1)<;>rfl
theorem qUi(hok:OkT ts)(hl:ts.length<1000000)(hN:1000000<N){i:Nat}(hi:i<ts.length):
  qCx N (ts,(i:Int),pr,b)=some (Sum.map id (fun a:Nat×List ByteArray=>((ts,(a.1:Int),pr,b),a.2)) (qIi ts i)):=by
 simp only[qCx,qJy hi hl,j0,qIi,qRz]
 cases h:qJb ts ⟨#[40]⟩ i with
 |inl z=>rfl
 |inr j=>
  obtain⟨rfl,g,-⟩:=qFj hok hi h
  simp only[jR,qCy,qLr g hl,j0,qLj]
  rcases qMl (isC ts 4 ⟨#[41]⟩ (i+1)) with hc|hc
  ·simp only[hc,jU];rfl
  ·simp only[hc,jB,jK]
   exact qRo hok hl hN (ts.length+1) N [] (i+1) g (by simp) (by omega) (by omega)
def qZm:List (ByteArray×Int):=[(⟨#[102,117,110,99]⟩,1),(⟨#[103,101,110]⟩,3),(⟨#[116,101,115,116]⟩,2)]
theorem zDk:((qHn (some []:Option (List (ByteArray×Int))) (⟨#[102,117,110,99]⟩:ByteArray) 1).bind fun mp1=>(qHn mp1 (⟨#[116,101,115,116]⟩:ByteArray) 2).bind fun mp2=>qHn mp2 (⟨#[103,101,110]⟩:ByteArray) 3)=some (some qZm):=by kernel_rfl
theorem qYs(s:ByteArray):((qDe (some qZm) s).getD 0)=qKe s:=by
 simp only[qDe,qZm,j0,mget,qKe,zEi,zEr,sGen]
 by_cases h1:s=⟨#[102,117,110,99]⟩
 ·simp[h1]
 by_cases h2:s=⟨#[116,101,115,116]⟩
 ·subst h2;rfl
 by_cases h3:s=⟨#[103,101,110]⟩
 ·subst h3;rfl
 simp[h1,h2,h3]
theorem qTh{before:List Dl}{y1:StT×Tok}{o4:List Tok×Int×List ByteArray×List Ex×Int×ByteArray×Int×Int}(hl:before.length≤64):∀(d i M:Nat),i+d=before.length→d<M→
  ((qBa (qDz N before (some qZm) y1 o4) M (i:Int)).bind fun out1=>(match out1 with| .inl o6=>some (-1)| .inr (z)=>some z):Option Int)=some (match(before.drop i).findIdx? (fun d=>d.1==qKe y1.2.2.1&&decide (d.2.1=o4.2.2.2.2.2.1)) with|some j=>((i+j:Nat):Int)|none=> -1)
 |d,i,0,_,h=>by omega
 |0,i,M+1,h,_=>by
  have:before.drop i=[]:=kA (by omega)
  simp only[qBa,qDz,this,List.findIdx?_nil]
  rw[if_neg (by simp only[j9];omega)]
  rfl
 |d+1,i,M+1,h,hM=>by
  have hi:i<before.length:=by omega
  have ih:=qTh (y1:=y1) (o4:=o4) hl d (i+1) M (by omega) (by omega)
  simp only[qBa,qDz]
  rw[if_pos (by simp only[j9];omega),qDw hi,k0 hi,List.findIdx?_cons]
  simp only[j0,qGo,qYs]
  by_cases k1:(before[i].1==qKe y1.2.2.1)=true
  ·by_cases k2:before[i].2.1=o4.2.2.2.2.2.1
   ·simp[k1,k2]
   ·simp only[k1,k2,jU,decide_false,j0,jB,jK,qMg (show i<1000000 by omega),Bool.and_false]
    rw[ih]
    cases(before.drop (i+1)).findIdx? (fun d=>d.1==qKe y1.2.2.1&&decide (d.2.1=o4.2.2.2.2.2.1)) with
    |none=>rfl
    |some j=>simp only[kF];rw[show i+1+j=i+(j+1) by omega]
  ·simp only[k1,jB,jK,j0,qMg (show i<1000000 by omega),Bool.false_and]
   rw[ih]
   cases(before.drop (i+1)).findIdx? (fun d=>d.1==qKe y1.2.2.1&&decide (d.2.1=o4.2.2.2.2.2.1)) with
   |none=>rfl
   |some j=>simp only[kF];rw[show i+1+j=i+(j+1) by omega]
theorem qOy(h:OkT ts){before:List Dl}{i:Nat}{a:Nat×Dl}(hi:i<ts.length)(h1:qSg ts before i= .inr a):i<a.1∧a.1<ts.length∧before.length≠64:=by
 unfold qSg at h1
 dsimp only at h1
 split at h1
 ·cases h1
 rename_i k1
 split at h1
 ·cases h1
 rename_i k2
 have g:=h.next hi (show(tkAt ts i).1≠5 by intro e;apply k1;left;rw[e];decide)
 obtain⟨x,hx,h2⟩:=qAr h1
 have gx:x.1=i+1+1∧x.1<ts.length:=by
  split at hx
  ·obtain⟨rfl,g1,-⟩:=qKd h g hx;exact⟨rfl,g1⟩
  ·obtain⟨rfl,g1,-⟩:=qJz h g hx;exact⟨rfl,g1⟩
 split at h2
 ·cases h2
 obtain⟨y,hy,h3⟩:=qAr h2
 have gy:x.1≤y.1∧y.1<ts.length:=by
  split at hy
  ·obtain⟨g1,g2,-⟩:=qKk h gx.2 hy;exact⟨by omega,g2⟩
  ·obtain rfl:=Sum.inr.inj hy;exact⟨jM _,gx.2⟩
 obtain⟨j,hj,h4⟩:=qAr h3
 obtain⟨rfl,g3,-⟩:=qFj h gy.2 hj
 obtain⟨c,hc,h5⟩:=qAr h4
 obtain⟨⟨f1,f2,f3,f4⟩,-⟩:=qJs h 32 (y.1+1,[]) c.1 c.2 g3 (by simp) hc
 obtain⟨m,hm,h6⟩:=qAr h5
 obtain⟨rfl,g4,-⟩:=qFj h f2 hm
 obtain rfl:=Sum.inr.inj h6
 exact⟨by simp only at f1 ⊢;omega,g4,k2⟩
theorem zFv{before:List Dl}{f:Dl→Bool}:(decide ((match before.findIdx? f with|some j=>((0+j:Nat):Int)|none=> -1)≥0))=before.any f:=by
 have:=List.findIdx?_isSome (xs:=before) (p:=f)
 rw[←this]
 cases before.findIdx? f with
 |none=>rfl
 |some j=>simp only[Option.isSome_some];exact kC (by omega)
end
end
end Go.Proofs.YtcdpbapbpcpflaaGreatDoor
