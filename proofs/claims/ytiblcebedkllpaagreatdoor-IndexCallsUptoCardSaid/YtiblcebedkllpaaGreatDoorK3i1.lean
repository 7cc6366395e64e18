/- No condition but those of each theorem. -/
import Derived.Test.YtiblcebedkllpaaGreatDoorProg
import Derived.WalkKit
import Derived.Deep.LoopGhost
import Derived.KernelRfl
import Derived.OrdersHeld
import Derived.OrdersIn
import Derived.LoopNIn
import Derived.Sort.LoopGhostIn
import Derived.Laws.AppendOwn
import Derived.RangeFuncLeaves
import Derived.RangeFuncRecord
import Derived.MapKept
import Derived.Maps.RangeRun
import Derived.ChangeKeysEq
import Derived.HandedShaped
import Derived.ChangeStays
import Derived.ChangeSame
import Derived.OpenShut
import Derived.WideShapes
import Derived.JoinedOf
import Derived.ReadAgain
import Derived.ChangeAt
import Derived.RowKit
import Derived.Lib.Overlaps
import Derived.Shelf.SlSortCmp.NoneTotal
import Derived.WalkSmall
import Derived.Recover
import Derived.Test.YtiblcebedkllpaaGreatDoorRows
import Derived.Lib.Bytealg
import Derived.Test.YtiblcebedkllpaaGreatDoorK2i1
namespace Go.Proofs.YtiblcebedkllpaaGreatDoor
section
open Go Go.Dc
set_option maxHeartbeats 4000000
set_option maxRecDepth 100000
variable {N c1 c2:Nat} {m:Mem} {O:List Piece} {w:World} {a1 a2:Option Addr}
def qCv(N:Nat)(y3:T8)(s2:T14):Option (T14⊕T13):=
 if(decide (s2.1<(List.length y3:Int)))=true then((idx y3 s2.1).bind fun x2=>(idx s2.2 x2).bind fun x3=>some (.inl (IntKind.wrap .i64 (s2.1+1),List.set s2.2 (Int.toNat x2) true))) else(some (.inr s2.2))
def qDa(N:Nat)(p0:Ty)(p1:Tf)(s1:T14):Option (T14⊕T13⊕T9):=
 if(decide (s1.1<(List.length p1:Int)))=true then((idx p1 s1.1).bind fun x1=>(qBq N x1).bind fun y2=>if(!y2)=true then(some (.inr (.inr ((([]:T8),1))))) else((qCq N p0 x1).bind fun y3=>(qAl (qCv N y3) N (0,s1.2)).bind fun o2=>some (.inl (IntKind.wrap .i64 (s1.1+1),o2)))) else(some (.inr (.inl s1.2)))
def qCu(N:Nat)(p0:Ty)(p2:Bool)(o1:T13)(s3:T9):Option (T9⊕T8):=
 if(decide (s3.2<p0.2))=true then(((idx o1 s3.2).bind fun x4=>if(x4==p2)=true then((qDe 8 s3.1 ([s3.2])).bind fun l2=>some l2) else(some s3.1):Tw).bind fun o4=>some (.inl (o4,IntKind.wrap .i64 (s3.2+1)))) else(some (.inr s3.1))
def qCm(N:Nat)(p0:Ty)(p1:Tf)(p2:Bool):T15:=
 (qBl N p0).bind fun y1=>if(!y1)=true then(some (([]:T8),1)) else((qNx 1 false p0.2).bind fun l1=>(qAl (qDa N p0 p1) N (0,l1)).bind fun out1=>(match out1 with| .inl o1=>(qAl (qCu N p0 p2 o1) N (([]:T8),0)).bind fun o3=>some (o3,0)| .inr (z)=>some z))
theorem qIe{p0:Ty}{p1:Tf}{p2:Bool}{r:T9}(st:St m (O) w)(r1:RepS C5 m a1 c1 p0.1)(r2:RepS C2 m a2 c2 p1)(i:qCm N p0 p1 p2=some r):Calls Tryz.prog 91 #[.agg (V1 p0 a1 c1),vS a2 p1 c2,vB p2] w fun e w'=>∃ra1 rc1 m',e= .returned (.tuple (V1 r ra1 rc1))∧m.le m'∧St m' (kR ra1 r.1 rc1 3 1::O) w'∧RepS (cInt .i64) m' ra1 rc1 r.1:=by
 unfold qCm at i;have q:=m.le_refl;refine W_cA Tryz.func91 rfl Tryz.ntmps91 ?_;refine W_sr (qAa rfl (qEr 3 56 0 (.agg (V1 p0 a1 c1)) st fun b1 m1 w1 e1 st hb1=>(qAd 2 [] (qAk (W_sr (qCn 15 56 3 0 (.agg (V1 p0 a1 c1)) st hb1 (qAy 16 i (fun _ h=>qFb st (r1.mono e1) h) ?_)))))));rintro y1 i _ w2 ⟨m2,rfl,e2,st⟩;refine qAd 1 [(17,vB (!y1))] (W_if i ?_ ?_)
 ·intro A i;refine W_sr (qAd 2 [(6,v7),(7,vI 1)] (qBc (qAb ?_)));cases i;exact X_rt [6,7] [v7,vI 1] ⟨none,0,m2,rfl,(q.t e1).t e2,(st.nilroom 3 1),(RepS.nil _ _)⟩
 ·intro A i;refine qAm (qAe (W_sr (qAc 1 [(18,vP b1 1)] (qAa rfl (qAt (d:=19) (t:=3) (x:=(.tmp 18)) (vI p0.2) kr rfl (ev (vP b1 1)) st ((hb1.mono e2).drop 1) kr ?_)))));have⟨l1,hx2,i⟩:=qAr i;refine qAa rfl (qNe (d:=20) (t:=201) (e:=4) (by_:=1) (x:=(.tmp 19)) (y:=(.tmp 19)) (fun x:Bool=>Value.bool x) kr rfl (ev (vI p0.2)) (ev (vI p0.2)) kr kr rfl st hx2 fun b2 w3 hn1 st=>(qAd 1 [(8,.slice (aP b2) (Int.toNat p0.2) (Int.toNat p0.2))] (qAk (W_sr (qAd 3 [(21,vS a2 p1 c2),(22,vI (p1.length:Int)),(23,vI 0)] (qAp ?_))))));have⟨out1,i,j1⟩:=qAr i;refine qBz (.exit 0) (fun L' w'=>∃(o1:T13),∃m3,(.inl o1)=out1∧L'=[(2,vB p2),(3,vP b1 0),(8,.slice (aP b2) (Int.toNat p0.2) (Int.toNat p0.2))]∧m.le m3∧St m3 (.blk b2 (.cells (qDx (fun x:Bool=>Value.bool x) o1 []) 4 (0,0))::O) w'∧MRow m3 b1 0 (Va p0 a1 c1)∧RepS C5 m3 a1 c1 p0.1∧List.length o1=(Int.toNat p0.2)) ?_ ?_
  ·rintro _ w4 ⟨o1,m3,rfl,rfl,q,st,hb1,r1,hn2⟩;have i:=j1;refine qAv (qAe (W_sr (qAd 1 [(13,v7)] (qAk (W_sr (qAd 1 [(14,vI 0)] (qAp ?_)))))));have⟨out3,i,j3⟩:=qAr i;refine qBz (.exit 4) (fun L' w'=>∃(o3:T8),∃a4 c4 m9,o3=out3∧L'=[(13,vS a4 o3 c4)]∧m.le m9∧St m9 (.blk b2 (.cells (qDx (fun x:Bool=>Value.bool x) o1 []) 4 (0,0))::kR a4 o3 c4 3 1::O) w'∧RepS (cInt .i64) m9 a4 c4 o3∧List.length o1=(Int.toNat p0.2)) ?_ ?_
   ·rintro _ w13 ⟨o3,a4,c4,m9,rfl,rfl,q,st,r4,hn2⟩;have i:=j3;refine qAv (qAe (W_sr (qAd 3 [(6,vS a4 o3 c4),(7,vI 0)] (qBc ?_))));obtain rfl:=sI i;exact X_rt [6,7] [vS a4 o3 c4,vI 0] ⟨a4,c4,m9,rfl,q,st.t,r4⟩
   intro K4_u3;have st:=(st.nilroom 3 1).front1;refine qEp _ kr (qCe (fun k3 L' w'=>∃(s3:T9),∃a5 c5 m10,qAl (qCu N p0 p2 o1) k3 s3=some out3∧L'=[(2,vB p2),(3,vP b1 0),(8,.slice (aP b2) (Int.toNat p0.2) (Int.toNat p0.2)),(13,vS a5 s3.1 c5),(14,vI s3.2)]∧m.le m10∧St m10 (.blk b2 (.cells (qDx (fun x:Bool=>Value.bool x) o1 []) 4 (0,0))::kR a5 s3.1 c5 3 1::O) w'∧MRow m10 b1 0 (Va p0 a1 c1)∧RepS C5 m10 a1 c1 p0.1∧RepS (cInt .i64) m10 a5 c5 s3.1∧List.length o1=(Int.toNat p0.2)) N ⟨(([]:T8),0),none,0,m3,i,rfl,q,st,hb1,r1,(RepS.nil _ _),hn2⟩ ?_);rintro k3 _ w14 ⟨s3,a5,c5,m10,hL,rfl,q,st,hb1,r1,r5,hn2⟩;rcases k3 with _|k3
   ·exact qAw hL
   ·obtain⟨qu3,i,hSu3,hBu3⟩:=qAx hL;clear hL;unfold qCu at i;refine qAk (W_sr (qAc 2 [(43,vI s3.2),(44,vP b1 1)] (qAa rfl (qAt (d:=45) (t:=3) (x:=(.tmp 44)) (vI p0.2) kr rfl (ev (vP b1 1)) st (hb1.drop 1) kr (qAd 1 [(46,vB (decide (s3.2<p0.2)))] (W_if i ?_ ?_))))))
    ·intro A i;refine qAm (qAe (qAk ?_));have⟨o4,i,j4⟩:=qAr i;refine qBz .normal (fun L' w'=>∃a6 c6 m11,L'=[(2,vB p2),(3,vP b1 0),(8,.slice (aP b2) (Int.toNat p0.2) (Int.toNat p0.2)),(13,vS a6 o4 c6),(14,vI s3.2)]∧m.le m11∧St m11 (.blk b2 (.cells (qDx (fun x:Bool=>Value.bool x) o1 []) 4 (0,0))::kR a6 o4 c6 3 1::O) w'∧MRow m11 b1 0 (Va p0 a1 c1)∧RepS C5 m11 a1 c1 p0.1∧RepS (cInt .i64) m11 a6 c6 o4∧List.length o1=(Int.toNat p0.2)) ?_ ?_
     ·have i:=j4;rintro _ w15 ⟨a6,c6,m11,rfl,q,st,hb1,r1,r6,hn2⟩;refine qAe (qAj (qAc 3 [(14,vI (wr (s3.2+1)))] (qAs rfl ?_)));obtain rfl:=sI i;have hL:=hSu3 _ rfl;exact xE (qBh k3 (jA _) ⟨(o4,wr (s3.2+1)),a6,c6,m11,hL,rfl,q,st.f1.f1,hb1,r1,r6,hn2⟩)
     ·intro Ku4;refine qAp (W_sr (qAc 2 [(49,.slice (aP b2) (Int.toNat p0.2) (Int.toNat p0.2)),(50,vI s3.2)] ?_));have⟨x4,hx8,i⟩:=qAr i;refine qAa rfl (qHo (d:=51) (t:=201) (e:=4) (x:=(.tmp 49)) (y:=(.tmp 50)) kr rfl (ev (.slice (aP b2) (Int.toNat p0.2) (Int.toNat p0.2))) (ev (vI s3.2)) kr hn2 hx8 (qAa rfl (qPm (d:=52) (t:=4) (x:=(.tmp 51)) kr rfl (ev (.pointer (some ⟨b2,Int.toNat s3.2,none⟩))) st.h hx8 kr (qAd 2 [(54,vB (x4==p2))] (W_if i ?_ ?_)))))
      ·intro A i;refine qAj (qAc 2 [(55,vS a5 s3.1 c5),(56,vI s3.2)] (qAa rfl (qAo (d:=57) (t:=22) (e:=3) (len:=1) (parts:= #[(0,(.tmp 56))]) (cInt .i64) (xs:=[s3.2]) [vI s3.2] kr rfl (fun _=>qAq kr _) rfl rfl st ⟨[vI s3.2],_,rfl,rfl,rfl⟩ fun b6 m12 w16 e5 st r7=>(qAa rfl (qFn 58 22 22 3 8 55 57 st.f2 (.inl kr) (r5.mono e5) r7.src i fun l2 i a7 c7 m13 w17 e6 st r8=>(qAc 1 [(13,vS a7 l2 c7)] (qAs rfl ?_)))))));have st:=st.f1.t;refine qAz ?_;cases i;exact xE (Ku4 _ _ ⟨a7,c7,m13,rfl,(q.t e5).t e6,st.f1,(hb1.mono e5).mono e6,(r1.mono e5).mono e6,r8,hn2⟩)
      ·intro A i;refine qAm (qAz ?_);cases i;exact xE (Ku4 _ _ ⟨a5,c5,m10,rfl,q,st.f1.f1,hb1,r1,r5,hn2⟩)
    ·intro A i;refine qCa (qAf ?_);cases i;have ho:=hBu3 _ rfl;have st:=st.f1.f1;refine qAf ?_;exact xE (K4_u3 _ _ ⟨s3.1,a5,c5,m10,ho,rfl,q,st,r5,hn2⟩)
  intro K0_u1;refine qEp _ kr (qCe (fun k1 L' w'=>∃(s1:T14),∃m4,qAl (qDa N p0 p1) k1 s1=some out1∧L'=[(2,vB p2),(3,vP b1 0),(8,.slice (aP b2) (Int.toNat p0.2) (Int.toNat p0.2)),(21,vS a2 p1 c2),(22,vI (p1.length:Int)),(23,vI s1.1)]∧m.le m4∧St m4 (.blk b2 (.cells (qDx (fun x:Bool=>Value.bool x) s1.2 []) 4 (0,0))::O) w'∧MRow m4 b1 0 (Va p0 a1 c1)∧RepS C5 m4 a1 c1 p0.1∧RepS C2 m4 a2 c2 p1∧List.length s1.2=(Int.toNat p0.2)) N ⟨(0,l1),m2,i,rfl,(q.t e1).t e2,st,hb1.mono e2,(r1.mono e1).mono e2,(r2.mono e1).mono e2,hn1⟩ ?_);rintro k1 _ w5 ⟨s1,m4,hL,rfl,q,st,hb1,r1,r2,hn3⟩;rcases k1 with _|k1
  ·exact qAw hL
  ·obtain⟨qu1,i,hSu1,hBu1⟩:=qAx hL;clear hL;unfold qDa at i;refine W_sr (qAd 1 [(24,vB (decide (s1.1<(p1.length:Int))))] (qAk (W_if i ?_ ?_)))
   ·intro A i;refine qAm (qAe (qAk (qAp (W_sr (qAa rfl (qCf 25 40 51 21 23 r2 i ?_))))));rintro x1 i b3 f1 cs1 ⟨_,_,rfl,rfl,⟨_,_,rfl,rfl,rfl⟩⟩ hq1;refine qCn 26 51 25 f1 (.agg (V2 x1)) st hq1 (qAa rfl (qBv 10 51 (.agg (V3 0 eB eB)) st fun b4 w6 st=>(qAa rfl (qBm 51 10 26 (.agg (V2 x1)) st fun w7 st=>(WO_e (qAk (W_sr (qAa rfl (qBk 27 51 10 0 (.agg (V2 x1)) st.h (qAy 28 i (fun _ h=>qFa st h) ?_))))))))));rintro y2 i _ w8 ⟨m5,rfl,e3,st⟩;refine qAd 1 [(29,vB (!y2))] (W_if i ?_ ?_)
    ·intro A i;refine W_sr (qAd 2 [(6,v7),(7,vI 1)] (qBc (qAb (qAg (qAb ?_)))));cases i;have ho:=hBu1 _ rfl;subst ho;have i:=j1;refine qAb (qAg (qAb ?_));cases i;refine X_rt [6,7] [v7,vI 1] ?_;have st:=(st.nilroom 3 1).front1;exact⟨none,0,m5,rfl,q.t e3,st.t.f1.t,(RepS.nil _ _)⟩
    ·intro A i;refine qAm (qAe (W_sr (qCn 30 56 3 0 (.agg (V1 p0 a1 c1)) st (hb1.mono e3) (qAa rfl (qBk 31 51 10 0 (.agg (V2 x1)) st.h (qAy 32 i (fun _ h=>qFh st (r1.mono e3) h) ?_))))));rintro y3 i _ w9 ⟨a3,c3,m6,rfl,e4,st,r3⟩;refine qAd 2 [(33,vI (y3.length:Int)),(34,vI 0)] (qAp ?_);have⟨out2,i,j2⟩:=qAr i;refine qBz (.exit 2) (fun L' w'=>∃(o2:T13),∃m7,o2=out2∧L'=[(2,vB p2),(3,vP b1 0),(8,.slice (aP b2) (Int.toNat p0.2) (Int.toNat p0.2)),(21,vS a2 p1 c2),(22,vI (p1.length:Int)),(23,vI s1.1)]∧m.le m7∧St m7 (kB b4 (V2 x1) 51:: .blk b2 (.cells (qDx (fun x:Bool=>Value.bool x) o2 []) 4 (0,0))::kR a3 y3 c3 3 1::O) w'∧MRow m7 b1 0 (Va p0 a1 c1)∧RepS C5 m7 a1 c1 p0.1∧RepS C2 m7 a2 c2 p1∧List.length o2=(Int.toNat p0.2)) ?_ ?_
     ·rintro _ w10 ⟨o2,m7,rfl,rfl,q,st,hb1,r1,r2,hn4⟩;have i:=j2;refine qAv (qAz (qAe (qAj (qAc 2 [(23,vI (wr (s1.1+1)))] (qAs rfl ?_)))));have st:=st.f2.t;obtain rfl:=sI i;have hL:=hSu1 _ rfl;exact xE (qBh k1 (jA _) ⟨(wr (s1.1+1),o2),m7,hL,rfl,q,st.t,hb1,r1,r2,hn4⟩)
     intro K2_u2;refine qEp _ kr (qCe (fun k2 L' w'=>∃(s2:T14),∃m8,qAl (qCv N y3) k2 s2=some out2∧L'=[(2,vB p2),(3,vP b1 0),(8,.slice (aP b2) (Int.toNat p0.2) (Int.toNat p0.2)),(21,vS a2 p1 c2),(22,vI (p1.length:Int)),(23,vI s1.1),(32,vS a3 y3 c3),(33,vI (y3.length:Int)),(34,vI s2.1)]∧m.le m8∧St m8 (kB b4 (V2 x1) 51:: .blk b2 (.cells (qDx (fun x:Bool=>Value.bool x) s2.2 []) 4 (0,0))::kR a3 y3 c3 3 1::O) w'∧MRow m8 b1 0 (Va p0 a1 c1)∧RepS C5 m8 a1 c1 p0.1∧RepS C2 m8 a2 c2 p1∧RepS (cInt .i64) m8 a3 c3 y3∧List.length s2.2=(Int.toNat p0.2)) N ⟨(0,s1.2),m6,i,rfl,(q.t e3).t e4,st.f2.f2,(hb1.mono e3).mono e4,(r1.mono e3).mono e4,(r2.mono e3).mono e4,r3,hn3⟩ ?_);rintro k2 _ w11 ⟨s2,m8,hL,rfl,q,st,hb1,r1,r2,r3,hn5⟩;rcases k2 with _|k2
     ·exact qAw hL
     ·obtain⟨qu2,i,hSu2,hBu2⟩:=qAx hL;clear hL;unfold qCv at i;refine W_sr (qAd 1 [(35,vB (decide (s2.1<(y3.length:Int))))] (qAk (W_if i ?_ ?_)))
      ·intro A i;refine qAm (qAe (qAk (qAp (W_sr (qAa rfl (qCf 36 22 3 32 34 r3 i ?_))))));rintro x2 i b5 f2 cs2 rfl hq2;refine qCn 37 3 36 f2 (vI x2) st hq2 (qAd 1 [(12,vI x2)] (qAj (qAc 2 [(38,.slice (aP b2) (Int.toNat p0.2) (Int.toNat p0.2)),(39,vI x2)] ?_)));have⟨x3,hx7,i⟩:=qAr i;refine qAa rfl (qHo (d:=40) (t:=201) (e:=4) (x:=(.tmp 38)) (y:=(.tmp 39)) kr rfl (ev (.slice (aP b2) (Int.toNat p0.2) (Int.toNat p0.2))) (ev (vI x2)) kr hn5 hx7 (qAa rfl (qKc (f:=(fun x:Bool=>Value.bool x)) (u:=true) (t:=4) (x:=(.tmp 40)) (y:=(.const (vB true))) kr (ev (.pointer (some ⟨b2,Int.toNat x2,none⟩))) (ev (vB true)) st.f1 hx7 rfl kr fun w12 st=> ?_)));have hn6:List.length (List.set s2.2 (Int.toNat x2) true)=(Int.toNat p0.2):=qIy hn5 _ _;refine qAs rfl (qAz (qAe (qAj (qAc 2 [(34,vI (wr (s2.1+1)))] (qAs rfl ?_)))));obtain rfl:=sI i;have hL:=hSu2 _ rfl;exact xE (qBh k2 (jA _) ⟨(wr (s2.1+1),List.set s2.2 (Int.toNat x2) true),m8,hL,rfl,q,st.f2.f1.f2,hb1,r1,r2,r3,hn6⟩)
      ·intro A i;refine qCa (qAf ?_);cases i;have ho:=hBu2 _ rfl;have st:=st.f2.f2.f2;refine qAf ?_;exact xE (K2_u2 _ _ ⟨s2.2,m8,ho,rfl,q,st,hb1,r1,r2,hn5⟩)
   ·intro A i;refine qCa (qAf ?_);cases i;have ho:=hBu1 _ rfl;refine qAf ?_;exact xE (K0_u1 _ _ ⟨s1.2,m4,ho,rfl,q,st,hb1,r1,hn3⟩)
def qEc(N:Nat)(p0:Ty)(p1:Tf):T15:=
 (qCm N p0 p1 true).bind fun y1=>some y1
theorem qKi{p0:Ty}{p1:Tf}{r:T9}(st:St m (O) w)(r1:RepS C5 m a1 c1 p0.1)(r2:RepS C2 m a2 c2 p1)(i:qEc N p0 p1=some r):Calls Tryz.prog 35 #[.agg (V1 p0 a1 c1),vS a2 p1 c2] w fun e w'=>∃ra1 rc1 m',e= .returned (.tuple (V1 r ra1 rc1))∧m.le m'∧St m' (kR ra1 r.1 rc1 3 1::O) w'∧RepS (cInt .i64) m' ra1 rc1 r.1:=by
 unfold qEc at i;have q:=m.le_refl;refine W_cA Tryz.func35 rfl Tryz.ntmps35 ?_;refine W_sr (qAa rfl (qEr 2 56 0 (.agg (V1 p0 a1 c1)) st fun b1 m1 w1 e1 st hb1=>(qAd 2 [] (W_sr (qCn 6 56 2 0 (.agg (V1 p0 a1 c1)) st hb1 (qAc 1 [(7,vS a2 p1 c2)] (qAy 8 i (fun _ h=>qIe st (r1.mono e1) (r2.mono e1) h) ?_)))))));rintro y1 i _ w2 ⟨a3,c3,m2,rfl,e2,st,r3⟩;refine qAd 4 [(4,vS a3 y1.1 c3),(5,vI y1.2)] (qBc ?_);obtain rfl:=sI i;exact X_rt [4,5] (Va y1 a3 c3) ⟨a3,c3,m2,rfl,(q.t e1).t e2,st,r3⟩
def qFe(N:Nat)(p0:Ty)(p1:Tf):T15:=
 (qGa N p0 p1 false).bind fun y1=>some y1
theorem qJu{p0:Ty}{p1:Tf}{r:T9}(st:St m (O) w)(r1:RepS C5 m a1 c1 p0.1)(r2:RepS C2 m a2 c2 p1)(i:qFe N p0 p1=some r):Calls Tryz.prog 36 #[.agg (V1 p0 a1 c1),vS a2 p1 c2] w fun e w'=>∃ra1 rc1 m',e= .returned (.tuple (V1 r ra1 rc1))∧m.le m'∧St m' (kR ra1 r.1 rc1 3 1::O) w'∧RepS (cInt .i64) m' ra1 rc1 r.1:=by
 unfold qFe at i;have q:=m.le_refl;refine W_cA Tryz.func36 rfl Tryz.ntmps36 ?_;refine W_sr (qAa rfl (qEr 2 56 0 (.agg (V1 p0 a1 c1)) st fun b1 m1 w1 e1 st hb1=>(qAd 2 [] (W_sr (qCn 6 56 2 0 (.agg (V1 p0 a1 c1)) st hb1 (qAc 1 [(7,vS a2 p1 c2)] (qAy 8 i (fun _ h=>qLv st (r1.mono e1) (r2.mono e1) h) ?_)))))));rintro y1 i _ w2 ⟨a3,c3,m2,rfl,e2,st,r3⟩;refine qAd 4 [(4,vS a3 y1.1 c3),(5,vI y1.2)] (qBc ?_);obtain rfl:=sI i;exact X_rt [4,5] (Va y1 a3 c3) ⟨a3,c3,m2,rfl,(q.t e1).t e2,st,r3⟩
def qDj(N:Nat)(p0:Ty)(p1:Tf):T15:=
 (qCm N p0 p1 false).bind fun y1=>some y1
theorem qJv{p0:Ty}{p1:Tf}{r:T9}(st:St m (O) w)(r1:RepS C5 m a1 c1 p0.1)(r2:RepS C2 m a2 c2 p1)(i:qDj N p0 p1=some r):Calls Tryz.prog 37 #[.agg (V1 p0 a1 c1),vS a2 p1 c2] w fun e w'=>∃ra1 rc1 m',e= .returned (.tuple (V1 r ra1 rc1))∧m.le m'∧St m' (kR ra1 r.1 rc1 3 1::O) w'∧RepS (cInt .i64) m' ra1 rc1 r.1:=by
 unfold qDj at i;have q:=m.le_refl;refine W_cA Tryz.func37 rfl Tryz.ntmps37 ?_;refine W_sr (qAa rfl (qEr 2 56 0 (.agg (V1 p0 a1 c1)) st fun b1 m1 w1 e1 st hb1=>(qAd 2 [] (W_sr (qCn 6 56 2 0 (.agg (V1 p0 a1 c1)) st hb1 (qAc 1 [(7,vS a2 p1 c2)] (qAy 8 i (fun _ h=>qIe st (r1.mono e1) (r2.mono e1) h) ?_)))))));rintro y1 i _ w2 ⟨a3,c3,m2,rfl,e2,st,r3⟩;refine qAd 4 [(4,vS a3 y1.1 c3),(5,vI y1.2)] (qBc ?_);obtain rfl:=sI i;exact X_rt [4,5] (Va y1 a3 c3) ⟨a3,c3,m2,rfl,(q.t e1).t e2,st,r3⟩
def qHu(N:Nat)(p0:Ty)(p1:Tp):Option T10:=
 (qDd N p0).bind fun y1=>if(!y1)=true then(some ((([]:Tx),0),1)) else(if(p0.2==512)=true then(some ((([]:Tx),0),2)) else((qHe N (p1.1,p1.2.1,p1.2.2.1,p1.2.2.2.1,p1.2.2.2.2.1,p1.2.2.2.2.2.1,p1.2.2.2.2.2.2)).bind fun y2=>if(!y2)=true then(some ((([]:Tx),0),1)) else((qGw N p0 (p1.1,p1.2.1,p1.2.2.1,p1.2.2.2.1,p1.2.2.2.2.1,p1.2.2.2.2.2.1,p1.2.2.2.2.2.2)).bind fun y3=>some (y3,0))))
theorem qIr{p0:Ty}{p1:Tp}{r:T10}(st:St m (O) w)(r1:RepS C5 m a1 c1 p0.1)(r2:RepS C3 m a2 c2 p1.2.2.2.2.2.2)(i:qHu N p0 p1=some r):Calls Tryz.prog 38 #[.agg (V1 p0 a1 c1),.agg (V5 p1.1.1 p1.1.2 p1.2.1 p1.2.2.1 p1.2.2.2.1 p1.2.2.2.2.1.1 p1.2.2.2.2.1.2.1 p1.2.2.2.2.1.2.2 p1.2.2.2.2.2.1 a2 p1.2.2.2.2.2.2 c2)] w fun e w'=>∃ra1 rc1 m',e= .returned (.tuple #[.agg (V1 r.1 ra1 rc1),vI r.2])∧m.le m'∧St m' (kR ra1 r.1.1 rc1 71 4::O) w'∧RepS C5 m' ra1 rc1 r.1.1:=by
 unfold qHu at i;have q:=m.le_refl;refine W_cA Tryz.func38 rfl Tryz.ntmps38 ?_;refine W_sr (qAa rfl (qEr 2 56 0 (.agg (V1 p0 a1 c1)) st fun b1 m1 w1 e1 st hb1=>(qAa rfl (qEr 3 63 1 (.agg (V5 p1.1.1 p1.1.2 p1.2.1 p1.2.2.1 p1.2.2.2.1 p1.2.2.2.2.1.1 p1.2.2.2.2.1.2.1 p1.2.2.2.2.1.2.2 p1.2.2.2.2.2.1 a2 p1.2.2.2.2.2.2 c2)) st fun b2 m2 w2 e2 st hb2=> ?_))));have hb1:=hb1.mono e2;refine qAa rfl (qBv 4 56 (.agg #[v6,vI 0]) st fun b3 w3 st=>(qAd 1 [] (qAk (qAp (W_sr (qCn 7 56 2 0 (.agg (V1 p0 a1 c1)) st hb1 (qAy 8 i (fun _ h=>qHk st ((r1.mono e1).mono e2) h) ?_)))))));rintro y1 i _ w4 ⟨m3,rfl,e3,st⟩;have q:=((q.t e1).t e2).t e3;refine qAd 2 [(6,vB (!y1))] (W_if i ?_ ?_)
 ·intro A i;refine W_sr (qAc 1 [(10,.agg #[v8,vI 0])] (qAa rfl (qBm 56 4 10 (.agg #[v8,vI 0]) st fun w5 st=>(qAd 1 [(5,vI 1)] (qBc (qAg (qAb ?_)))))));cases i;refine qLq [.cell 4 56,.tmp 5] [.agg #[v8,vI 0],vI 1] rfl (ResAll.cons (ResAt.blk (v:= .agg #[v8,vI 0]) (o:=0) kr st.h kr) (ResAll.cons (ResAt.tmp kr) ResAll.nil)) ?_;have st:=(st.nilroom 71 4).front1;exact⟨none,0,m3,rfl,q,st.t,(RepS.nil _ _)⟩
 ·intro A i;refine W_sr (qAc 1 [(12,vP b1 1)] (qAa rfl (qAt (d:=13) (t:=3) (x:=(.tmp 12)) (vI p0.2) kr rfl (ev (vP b1 1)) st ((hb1.mono e3).drop 1) kr (qAd 2 [(11,vB (p0.2==512))] (W_if i ?_ ?_)))))
  ·intro A i;refine W_sr (qAc 1 [(15,.agg #[v8,vI 0])] (qAa rfl (qBm 56 4 15 (.agg #[v8,vI 0]) st fun w6 st=>(qAd 1 [(5,vI 2)] (qBc (qAg (qAb ?_)))))));cases i;refine qLq [.cell 4 56,.tmp 5] [.agg #[v8,vI 0],vI 2] rfl (ResAll.cons (ResAt.blk (v:= .agg #[v8,vI 0]) (o:=0) kr st.h kr) (ResAll.cons (ResAt.tmp kr) ResAll.nil)) ?_;have st:=(st.nilroom 71 4).front1;exact⟨none,0,m3,rfl,q,st.t,(RepS.nil _ _)⟩
  ·intro A i;refine W_sr (qCn 17 63 3 0 (.agg (V5 p1.1.1 p1.1.2 p1.2.1 p1.2.2.1 p1.2.2.2.1 p1.2.2.2.2.1.1 p1.2.2.2.2.1.2.1 p1.2.2.2.2.1.2.2 p1.2.2.2.2.2.1 a2 p1.2.2.2.2.2.2 c2)) st (hb2.mono e3) (qAy 18 i (fun _ h=>qNh st (((r2.mono e1).mono e2).mono e3) h) ?_));rintro y2 i _ w7 ⟨m4,rfl,e4,st⟩;refine qAd 2 [(16,vB (!y2))] (W_if i ?_ ?_)
   ·intro A i;refine W_sr (qAc 1 [(20,.agg #[v8,vI 0])] (qAa rfl (qBm 56 4 20 (.agg #[v8,vI 0]) st fun w8 st=>(qAd 1 [(5,vI 1)] (qBc (qAg (qAb ?_)))))));cases i;refine qLq [.cell 4 56,.tmp 5] [.agg #[v8,vI 0],vI 1] rfl (ResAll.cons (ResAt.blk (v:= .agg #[v8,vI 0]) (o:=0) kr st.h kr) (ResAll.cons (ResAt.tmp kr) ResAll.nil)) ?_;have st:=(st.nilroom 71 4).front1;exact⟨none,0,m4,rfl,q.t e4,st.t,(RepS.nil _ _)⟩
   ·intro A i;refine qAm (qAz (qAe (W_sr (qCn 21 56 2 0 (.agg (V1 p0 a1 c1)) st ((hb1.mono e3).mono e4) (qCn 22 63 3 0 (.agg (V5 p1.1.1 p1.1.2 p1.2.1 p1.2.2.1 p1.2.2.2.1 p1.2.2.2.2.1.1 p1.2.2.2.2.1.2.1 p1.2.2.2.2.1.2.2 p1.2.2.2.2.2.1 a2 p1.2.2.2.2.2.2 c2)) st ((hb2.mono e3).mono e4) (qAy 23 i (fun _ h=>qMx st ((((r1.mono e1).mono e2).mono e3).mono e4) ((((r2.mono e1).mono e2).mono e3).mono e4) h) ?_))))));rintro y3 i _ w9 ⟨a3,c3,m5,rfl,e5,st,r3⟩;refine qAa rfl (qBm 56 4 23 (.agg (V1 y3 a3 c3)) st.f1 fun w10 st=>(qAd 1 [(5,vI 0)] (qBc ?_)));obtain rfl:=sI i;exact qLq [.cell 4 56,.tmp 5] [.agg (V1 y3 a3 c3),vI 0] rfl (ResAll.cons (ResAt.blk (v:= .agg (V1 y3 a3 c3)) (o:=0) kr st.h kr) (ResAll.cons (ResAt.tmp kr) ResAll.nil)) ⟨a3,c3,m5,rfl,(q.t e4).t e5,st.t,r3⟩
def qDu(N:Nat)(p0:Ty)(s1:Th):Option Ti:=
 if(decide (s1.2<(List.length p0.1:Int)))=true then((idx p0.1 s1.2).bind fun x1=>(qDe 40 s1.1 ([x1.1])).bind fun l1=>some (.inl (l1,IntKind.wrap .i64 (s1.2+1)))) else(some (.inr s1.1))
def qFq(N:Nat)(p1:Tp)(s2:Th):Option T11:=
 if(decide (s2.2<(List.length p1.2.2.2.2.2.2:Int)))=true then((idx p1.2.2.2.2.2.2 s2.2).bind fun x2=>(qBq N x2.1).bind fun y2=>if(!y2)=true then(some (.inr (.inr (((([]:Tx),0),1))))) else((qBr N s2.1 x2.1).bind fun y3=>some (.inl (y3,IntKind.wrap .i64 (s2.2+1))))) else(some (.inr (.inl s2.1)))
def qFp(N:Nat)(p1:Tp)(x3:Td)(s4:Bool×Int):Option (Bool×Int⊕Bool):=
 if(decide (s4.2<(List.length p1.2.2.2.2.2.2:Int)))=true then((idx p1.2.2.2.2.2.2 s4.2).bind fun x4=>(if s4.1=true then(some true) else(some ((x4.1.1==x3.1)&&((x4.1.2.1.toList==x3.2.1.toList)&&((x4.1.2.2.toList==x3.2.2.toList)&&true)))):Te).bind fun o6=>some (.inl (o6,IntKind.wrap .i64 (s4.2+1)))) else(some (.inr s4.1))
def qDt(N:Nat)(p0:Ty)(p1:Tp)(o2:Tf)(s3:T12):Option (T12⊕Tx):=
 if(decide (s3.1<((List.length o2):Int)))=true then((idx o2 s3.1).bind fun x3=>((qCq N p0 x3).bind fun y4=>(qDe 8 ([]:T8) y4).bind fun l2=>some l2:Tw).bind fun o4=>(qAl (qFp N p1 x3) N (false,0)).bind fun o5=>(if o5=true then((qDe 8 o4 ([p0.2])).bind fun l3=>some l3) else(some o4):Tw).bind fun o7=>(qDe 64 s3.2 ([(x3,o7)])).bind fun l4=>some (.inl (IntKind.wrap .i64 (s3.1+1),l4))) else(some (.inr s3.2))
def qEs(N:Nat)(p0:Ty)(p1:Tp):Option T10:=
 (qBl N p0).bind fun y1=>if(!y1)=true then(some ((([]:Tx),0),1)) else(if(p0.2==512)=true then(some ((([]:Tx),0),2)) else((qAl (qDu N p0) N (([]:Tf),0)).bind fun o1=>(qAl (qFq N p1) N (o1,0)).bind fun out2=>(match out2 with| .inl o2=>(qAl (qDt N p0 p1 o2) N (0,([]:Tx))).bind fun o3=>some ((o3,IntKind.wrap .i64 (p0.2+1)),0)| .inr (z)=>some z)))
theorem qCc{p0:Ty}{p1:Tp}{r:T10}(st:St m (O) w)(r1:RepS C5 m a1 c1 p0.1)(r2:RepS C3 m a2 c2 p1.2.2.2.2.2.2)(i:qEs N p0 p1=some r):Calls Tryz.prog 39 #[.agg (V1 p0 a1 c1),.agg (V5 p1.1.1 p1.1.2 p1.2.1 p1.2.2.1 p1.2.2.2.1 p1.2.2.2.2.1.1 p1.2.2.2.2.1.2.1 p1.2.2.2.2.1.2.2 p1.2.2.2.2.2.1 a2 p1.2.2.2.2.2.2 c2)] w fun e w'=>∃ra1 rc1 m',e= .returned (.tuple #[.agg (V1 r.1 ra1 rc1),vI r.2])∧m.le m'∧St m' (kR ra1 r.1.1 rc1 71 4::O) w'∧RepS C5 m' ra1 rc1 r.1.1:=by
 unfold qEs at i;have q:=m.le_refl;refine W_cA Tryz.func39 rfl Tryz.ntmps39 ?_;refine W_sr (qAa rfl (qEr 2 56 0 (.agg (V1 p0 a1 c1)) st fun b1 m1 w1 e1 st hb1=>(qAa rfl (qEr 3 63 1 (.agg (V5 p1.1.1 p1.1.2 p1.2.1 p1.2.2.1 p1.2.2.2.1 p1.2.2.2.2.1.1 p1.2.2.2.2.1.2.1 p1.2.2.2.2.1.2.2 p1.2.2.2.2.2.1 a2 p1.2.2.2.2.2.2 c2)) st fun b2 m2 w2 e2 st hb2=>(qAa rfl (qBv 4 56 (.agg #[v6,vI 0]) st fun b3 w3 st=>(qAd 1 [] (qAk (W_sr (qCn 18 56 2 0 (.agg (V1 p0 a1 c1)) st (hb1.mono e2) (qAy 19 i (fun _ h=>qFb st ((r1.mono e1).mono e2) h) ?_)))))))))));rintro y1 i _ w4 ⟨m3,rfl,e3,st⟩;have q:=((q.t e1).t e2).t e3;have hb1:=(hb1.mono e2).mono e3;refine qAd 1 [(20,vB (!y1))] (W_if i ?_ ?_)
 ·intro A i;refine W_sr (qAc 1 [(21,.agg #[v8,vI 0])] (qAa rfl (qBm 56 4 21 (.agg #[v8,vI 0]) st fun w5 st=>(qAd 1 [(5,vI 1)] (qBc (qAb ?_))))));cases i;refine qLq [.cell 4 56,.tmp 5] [.agg #[v8,vI 0],vI 1] rfl (ResAll.cons (ResAt.blk (v:= .agg #[v8,vI 0]) (o:=0) kr st.h kr) (ResAll.cons (ResAt.tmp kr) ResAll.nil)) ?_;have st:=(st.nilroom 71 4).front1;exact⟨none,0,m3,rfl,q,st.t,(RepS.nil _ _)⟩
 ·intro A i;refine qAm (qAe (qAk (W_sr (qAc 1 [(22,vP b1 1)] (qAa rfl (qAt (d:=23) (t:=3) (x:=(.tmp 22)) (vI p0.2) kr rfl (ev (vP b1 1)) st (hb1.drop 1) kr (qAd 1 [(24,vB (p0.2==512))] (W_if i ?_ ?_))))))))
  ·intro A i;refine W_sr (qAc 1 [(25,.agg #[v8,vI 0])] (qAa rfl (qBm 56 4 25 (.agg #[v8,vI 0]) st fun w6 st=>(qAd 1 [(5,vI 2)] (qBc (qAb ?_))))));cases i;refine qLq [.cell 4 56,.tmp 5] [.agg #[v8,vI 0],vI 2] rfl (ResAll.cons (ResAt.blk (v:= .agg #[v8,vI 0]) (o:=0) kr st.h kr) (ResAll.cons (ResAt.tmp kr) ResAll.nil)) ?_;have st:=(st.nilroom 71 4).front1;exact⟨none,0,m3,rfl,q,st.t,(RepS.nil _ _)⟩
  ·intro A i;refine qAm (qAe (W_sr (qAd 1 [(6,v2)] (qAk (W_sr (qAc 1 [(26,vP b1 0)] (qCn 27 54 26 0 (vS a1 p0.1 c1) st hb1 (qAd 2 [(28,vI (p0.1.length:Int)),(29,vI 0)] (qAp ?_)))))))));have st:=qPg (f:=(fun x:Td=>((V4 x):List Value))) (st.nilroom 51 3);have⟨out1,i,j1⟩:=qAr i;refine qBz (.exit 0) (fun L' w'=>∃(o1:Tf),∃a3 c3 T1 m4,o1=out1∧L'=[(2,vP b1 0),(3,vP b2 0),(4,vP b3 0),(6,vS a3 o1 c3)]∧m.le m4∧St m4 (kB b3 #[v8,vI 0] 56::opc a3 (qAh (fun x:Td=>((V4 x):List Value)) o1 T1) 51::O) w'∧MRow m4 b1 0 (Va p0 a1 c1)∧RepS C5 m4 a1 c1 p0.1∧MRow m4 b2 0 (V6 p1.1.1 p1.1.2 p1.2.1 p1.2.2.1 p1.2.2.2.1 p1.2.2.2.2.1.1 p1.2.2.2.2.1.2.1 p1.2.2.2.2.1.2.2 p1.2.2.2.2.2.1 a2 p1.2.2.2.2.2.2 c2)∧RepS C3 m4 a2 c2 p1.2.2.2.2.2.2∧OAS a3 o1.length c3 3 T1) ?_ ?_
   ·rintro _ w7 ⟨o1,a3,c3,T1,m4,rfl,rfl,q,st,hb1,r1,hb2,r2,hs1⟩;have i:=j1;refine qAv (qAe (qAk (W_sr (qAc 1 [(39,vP b2 9)] (qAa rfl (qAt (d:=40) (t:=61) (x:=(.tmp 39)) (vS a2 p1.2.2.2.2.2.2 c2) kr rfl (ev (vP b2 9)) st (hb2.drop 9) kr (qAd 2 [(41,vI (p1.2.2.2.2.2.2.length:Int)),(42,vI 0)] (qAp ?_))))))));have⟨out2,i,j2⟩:=qAr i;refine qBz (.exit 2) (fun L' w'=>∃(o2:Tf),∃a7 c7 T4 m7,(.inl o2)=out2∧L'=[(2,vP b1 0),(3,vP b2 0),(4,vP b3 0),(6,vS a7 o2 c7)]∧m.le m7∧St m7 (kB b3 #[v8,vI 0] 56::opc a7 (qAh (fun x:Td=>((V4 x):List Value)) o2 T4) 51::O) w'∧MRow m7 b1 0 (Va p0 a1 c1)∧RepS C5 m7 a1 c1 p0.1∧MRow m7 b2 0 (V6 p1.1.1 p1.1.2 p1.2.1 p1.2.2.1 p1.2.2.2.1 p1.2.2.2.2.1.1 p1.2.2.2.2.1.2.1 p1.2.2.2.2.1.2.2 p1.2.2.2.2.2.1 a2 p1.2.2.2.2.2.2 c2)∧RepS C3 m7 a2 c2 p1.2.2.2.2.2.2∧OAS a7 o2.length c7 3 T4) ?_ ?_
    ·rintro _ w13 ⟨o2,a7,c7,T4,m7,rfl,rfl,q,st,hb1,r1,hb2,r2,hs4⟩;have i:=j2;refine qAv (qAe (W_sr (qAc 1 [(56,vP b1 1)] (qAa rfl (qAt (d:=57) (t:=3) (x:=(.tmp 56)) (vI p0.2) kr rfl (ev (vP b1 1)) st (hb1.drop 1) kr (qAc 2 [(59,.agg #[v8,vI (wr (p0.2+1))])] (qAa rfl (qBv 11 56 (.agg #[v6,vI 0]) st fun b9 w20 st=>(qAa rfl (qBm 56 11 59 (.agg #[v8,vI (wr (p0.2+1))]) st fun w21 st=>(WO_e (qAk (W_sr (qAd 3 [(60,vS a7 o2 c7),(61,vI (o2.length:Int)),(62,vI 0)] (qAp ?_)))))))))))))));have⟨out3,i,j3⟩:=qAr i;refine qBz (.exit 4) (fun L' w'=>∃(o3:Tx),∃a10 c10 m11,o3=out3∧L'=[(4,vP b3 0),(11,vP b9 0)]∧m.le m11∧St m11 (kB b9 #[vS a10 o3 c10,vI (wr (p0.2+1))] 56::kB b3 #[v8,vI 0] 56::opc a7 (qAh (fun x:Td=>((V4 x):List Value)) o2 T4) 51::kR a10 o3 c10 71 4::O) w'∧RepS C5 m11 a10 c10 o3) ?_ ?_
     ·rintro _ w22 ⟨o3,a10,c10,m11,rfl,rfl,q,st,r5⟩;have i:=j3;refine qAv (qAe (W_sr (qAa rfl (qBk 102 56 11 0 (.agg #[vS a10 o3 c10,vI (wr (p0.2+1))]) st.h (qAa rfl (qBm 56 4 102 (.agg #[vS a10 o3 c10,vI (wr (p0.2+1))]) st.f1 fun w44 st=>(qAd 1 [(5,vI 0)] (qBc ?_))))))));obtain rfl:=sI i;exact qLq [.cell 4 56,.tmp 5] [.agg #[vS a10 o3 c10,vI (wr (p0.2+1))],vI 0] rfl (ResAll.cons (ResAt.blk (v:= .agg #[vS a10 o3 c10,vI (wr (p0.2+1))]) (o:=0) kr st.h kr) (ResAll.cons (ResAt.tmp kr) ResAll.nil)) ⟨a10,c10,m11,rfl,q,st.t.t.t,r5⟩
     intro K4_u3;have st:=(st.nilroom 71 4).front3.front3.front3;refine qEp _ kr (qCe (fun k3 L' w'=>∃(s3:T12),∃a11 c11 m12,qAl (qDt N p0 p1 o2) k3 s3=some out3∧L'=[(2,vP b1 0),(3,vP b2 0),(4,vP b3 0),(11,vP b9 0),(60,vS a7 o2 c7),(61,vI (o2.length:Int)),(62,vI s3.1)]∧m.le m12∧St m12 (kB b9 #[vS a11 s3.2 c11,vI (wr (p0.2+1))] 56::kB b3 #[v8,vI 0] 56::opc a7 (qAh (fun x:Td=>((V4 x):List Value)) o2 T4) 51::kR a11 s3.2 c11 71 4::O) w'∧MRow m12 b1 0 (Va p0 a1 c1)∧RepS C5 m12 a1 c1 p0.1∧MRow m12 b2 0 (V6 p1.1.1 p1.1.2 p1.2.1 p1.2.2.1 p1.2.2.2.1 p1.2.2.2.2.1.1 p1.2.2.2.2.1.2.1 p1.2.2.2.2.1.2.2 p1.2.2.2.2.2.1 a2 p1.2.2.2.2.2.2 c2)∧RepS C3 m12 a2 c2 p1.2.2.2.2.2.2∧RepS C5 m12 a11 c11 s3.2) N ⟨(0,([]:Tx)),none,0,m7,i,rfl,q,st,hb1,r1,hb2,r2,(RepS.nil _ _)⟩ ?_);rintro k3 _ w23 ⟨s3,a11,c11,m12,hL,rfl,q,st,hb1,r1,hb2,r2,r6⟩;rcases k3 with _|k3
     ·exact qAw hL
     ·obtain⟨qu3,i,hSu3,hBu3⟩:=qAx hL;clear hL;unfold qDt at i;refine W_sr (qAd 1 [(63,vB (decide (s3.1<(o2.length:Int))))] (qAk (W_if i ?_ ?_)))
      ·intro A i;refine qAm (qAe (qAk (qAp (W_sr ?_))));have⟨x3,hx7,i⟩:=qAr i;refine qAa rfl (qHg (d:=64) (t:=40) (e:=51) (x:=(.tmp 60)) (y:=(.tmp 62)) (k:=3) kr rfl (ev (vS a7 o2 c7)) (ev (vI s3.1)) kr hs4 rfl hx7 (qAa rfl (qLu (d:=65) (t:=51) (x:=(.tmp 64)) (o:=0) (f:=(fun x:Td=>((V4 x):List Value))) (z:=x3) (v:= .agg (V2 x3)) (fun _=>rfl) (Int.toNat s3.1*3) rfl kr rfl (ev (.pointer (some ⟨ab a7,Int.toNat s3.1*3,none⟩))) st.t.t.h hs4 rfl hx7 kr (qAa rfl (qBv 13 51 (.agg (V3 0 eB eB)) st fun b10 w24 st=>(qAa rfl (qBm 51 13 65 (.agg (V2 x3)) st fun w25 st=>(WO_e (qAk ?_)))))))));have⟨o4,i,J⟩:=qAr i
       refine qBz .normal (fun L' w'=>∃b11 a12 c12 m13,L'=[(2,vP b1 0),(3,vP b2 0),(4,vP b3 0),(11,vP b9 0),(13,vP b10 0),(14,vP b11 0),(60,vS a7 o2 c7),(61,vI (o2.length:Int)),(62,vI s3.1)]∧m.le m13∧St m13 (kB b11 (V9 x3.1 x3.2.1 x3.2.2 a12 o4 c12) 71::kB b10 (V2 x3) 51::kB b9 #[vS a11 s3.2 c11,vI (wr (p0.2+1))] 56::kB b3 #[v8,vI 0] 56::opc a7 (qAh (fun x:Td=>((V4 x):List Value)) o2 T4) 51::kR a11 s3.2 c11 71 4::kR a12 o4 c12 3 1::O) w'∧MRow m13 b1 0 (Va p0 a1 c1)∧RepS C5 m13 a1 c1 p0.1∧MRow m13 b2 0 (V6 p1.1.1 p1.1.2 p1.2.1 p1.2.2.1 p1.2.2.2.1 p1.2.2.2.2.1.1 p1.2.2.2.2.1.2.1 p1.2.2.2.2.1.2.2 p1.2.2.2.2.2.1 a2 p1.2.2.2.2.2.2 c2)∧RepS C3 m13 a2 c2 p1.2.2.2.2.2.2∧RepS (cInt .i64) m13 a12 c12 o4∧RepS C5 m13 a11 c11 s3.2) ?_ ?_
       ·have i:=J;rintro _ w26 ⟨b11,a12,c12,m13,rfl,q,st,hb1,r1,hb2,r2,r7,r6⟩;refine qAe (W_sr (qAd 1 [(15,vB false)] (qAk (W_sr (qAc 1 [(72,vP b2 9)] (qAa rfl (qAt (d:=73) (t:=61) (x:=(.tmp 72)) (vS a2 p1.2.2.2.2.2.2 c2) kr rfl (ev (vP b2 9)) st (hb2.drop 9) kr (qAd 2 [(74,vI (p1.2.2.2.2.2.2.length:Int)),(75,vI 0)] (qAp ?_)))))))));have⟨out4,i,j4⟩:=qAr i;refine qBz (.exit 6) (fun L' w'=>∃(o5:Bool),∃m16,o5=out4∧L'=[(2,vP b1 0),(3,vP b2 0),(4,vP b3 0),(11,vP b9 0),(14,vP b11 0),(15,vB o5),(60,vS a7 o2 c7),(61,vI (o2.length:Int)),(62,vI s3.1)]∧m.le m16∧St m16 (kB b11 (V9 x3.1 x3.2.1 x3.2.2 a12 o4 c12) 71::kB b10 (V2 x3) 51::kB b9 #[vS a11 s3.2 c11,vI (wr (p0.2+1))] 56::kB b3 #[v8,vI 0] 56::opc a7 (qAh (fun x:Td=>((V4 x):List Value)) o2 T4) 51::kR a11 s3.2 c11 71 4::kR a12 o4 c12 3 1::O) w'∧MRow m16 b1 0 (Va p0 a1 c1)∧RepS C5 m16 a1 c1 p0.1∧MRow m16 b2 0 (V6 p1.1.1 p1.1.2 p1.2.1 p1.2.2.1 p1.2.2.2.1 p1.2.2.2.2.1.1 p1.2.2.2.2.1.2.1 p1.2.2.2.2.1.2.2 p1.2.2.2.2.2.1 a2 p1.2.2.2.2.2.2 c2)∧RepS C3 m16 a2 c2 p1.2.2.2.2.2.2∧RepS (cInt .i64) m16 a12 c12 o4∧RepS C5 m16 a11 c11 s3.2) ?_ ?_
        ·rintro _ w32 ⟨o5,m16,rfl,rfl,q,st,hb1,r1,hb2,r2,r7,r6⟩;have i:=j4;refine qAv (qAe (qAk (W_sr (qAd 1 [(87,vB o5)] ?_))));have⟨o7,i,j6⟩:=qAr i;refine qBz .normal (fun L' w'=>∃a15 c15 m19,L'=[(2,vP b1 0),(3,vP b2 0),(4,vP b3 0),(11,vP b9 0),(14,vP b11 0),(60,vS a7 o2 c7),(61,vI (o2.length:Int)),(62,vI s3.1)]∧m.le m19∧St m19 (kB b11 (V9 x3.1 x3.2.1 x3.2.2 a15 o7 c15) 71::kB b10 (V2 x3) 51::kB b9 #[vS a11 s3.2 c11,vI (wr (p0.2+1))] 56::kB b3 #[v8,vI 0] 56::opc a7 (qAh (fun x:Td=>((V4 x):List Value)) o2 T4) 51::kR a11 s3.2 c11 71 4::kR a15 o7 c15 3 1::O) w'∧MRow m19 b1 0 (Va p0 a1 c1)∧RepS C5 m19 a1 c1 p0.1∧MRow m19 b2 0 (V6 p1.1.1 p1.1.2 p1.2.1 p1.2.2.1 p1.2.2.2.1 p1.2.2.2.2.1.1 p1.2.2.2.2.1.2.1 p1.2.2.2.2.1.2.2 p1.2.2.2.2.2.1 a2 p1.2.2.2.2.2.2 c2)∧RepS C3 m19 a2 c2 p1.2.2.2.2.2.2∧RepS (cInt .i64) m19 a15 c15 o7∧RepS C5 m19 a11 c11 s3.2) ?_ ?_
         ·have i:=j6;rintro _ w37 ⟨a15,c15,m19,rfl,q,st,hb1,r1,hb2,r2,r10,r6⟩;refine qAe (qAj (qHz 1 96 54 95 0 (vS a11 s3.2 c11) st.t.t.h (qAa rfl (qBk 97 71 14 0 (.agg (V9 x3.1 x3.2.1 x3.2.2 a15 o7 c15)) st.h (qAa rfl (qAo (d:=98) (t:=54) (e:=71) (len:=1) (parts:= #[(0,(.tmp 97))]) C5 (xs:=[(x3,o7)]) [vI x3.1,vT x3.2.1,vT x3.2.2,vS a15 o7 c15] kr rfl (fun _=>qAq kr _) rfl rfl st ⟨[vI x3.1,vT x3.2.1,vT x3.2.2,vS a15 o7 c15],_,rfl,⟨_,_,rfl,⟨_,_,rfl,rfl,⟨_,_,rfl,rfl,rfl⟩⟩,(qJy r10)⟩,rfl⟩ fun b16 m22 w41 e11 st r13=>(qAa rfl (qFn 99 54 54 71 64 96 98 st.f6 (.inl kr) (r6.mono e11) r13.src i fun l4 i a17 c17 m23 w42 e12 st r14=>(qAc 1 [(100,vP b9 0)] (qAa rfl (qId 54 100 99 0 (vS a17 l4 c17) #[vS a17 l4 c17,vI (wr (p0.2+1))] st.f4 fun w43 st=>(qAs rfl ?_))))))))))));have st:=st.f2.t;refine qAz (qAe (qAj (qAc 2 [(62,vI (wr (s3.1+1)))] (qAs rfl ?_))));obtain rfl:=sI i;have hL:=hSu3 _ rfl;exact xE (qBh k3 (jA _) ⟨(wr (s3.1+1),l4),a17,c17,m23,hL,rfl,(q.t e11).t e12,st.f2.t.f2.t.f4.t.f1.f3.f3.f3,(hb1.mono e11).mono e12,(r1.mono e11).mono e12,(hb2.mono e11).mono e12,(r2.mono e11).mono e12,r14⟩)
         ·intro Ku6;refine W_if i ?_ ?_
          ·intro A i;refine qAj (qHz 1 89 22 88 3 (vS a12 o4 c12) st.h (qAc 1 [(90,vP b1 1)] (qAa rfl (qAt (d:=91) (t:=3) (x:=(.tmp 90)) (vI p0.2) kr rfl (ev (vP b1 1)) st (hb1.drop 1) kr (qAa rfl (qAo (d:=92) (t:=22) (e:=3) (len:=1) (parts:= #[(0,(.tmp 91))]) (cInt .i64) (xs:=[p0.2]) [vI p0.2] kr rfl (fun _=>qAq kr _) rfl rfl st ⟨[vI p0.2],_,rfl,rfl,rfl⟩ fun b15 m20 w38 e9 st r11=>(qAa rfl (qFn 93 22 22 3 8 89 92 st.f7 (.inl kr) (r7.mono e9) r11.src i fun l3 i a16 c16 m21 w39 e10 st r12=>(qAc 1 [(94,vP b11 3)] (qAa rfl (qId 22 94 93 3 (vS a16 l3 c16) (V9 x3.1 x3.2.1 x3.2.2 a16 l3 c16) st.f2 fun w40 st=>(qAs rfl ?_))))))))))));have st:=st.f2.t;cases i;exact xE (Ku6 _ _ ⟨a16,c16,m21,rfl,(q.t e9).t e10,st.f1.f6.f6.f6.f6.f6.f6,(hb1.mono e9).mono e10,(r1.mono e9).mono e10,(hb2.mono e9).mono e10,(r2.mono e9).mono e10,r12,(r6.mono e9).mono e10⟩)
          ·intro A i;refine qAm ?_;cases i;exact xE (Ku6 _ _ ⟨a12,c12,m16,rfl,q,st.f6.f6.f6.f6.f6.f6.f6,hb1,r1,hb2,r2,r7,r6⟩)
        intro K6_u4;refine qEp _ kr (qCe (fun k4 L' w'=>∃(s4:Bool×Int),∃m17,qAl (qFp N p1 x3) k4 s4=some out4∧L'=[(2,vP b1 0),(3,vP b2 0),(4,vP b3 0),(11,vP b9 0),(13,vP b10 0),(14,vP b11 0),(15,vB s4.1),(60,vS a7 o2 c7),(61,vI (o2.length:Int)),(62,vI s3.1),(73,vS a2 p1.2.2.2.2.2.2 c2),(74,vI (p1.2.2.2.2.2.2.length:Int)),(75,vI s4.2)]∧m.le m17∧St m17 (kB b11 (V9 x3.1 x3.2.1 x3.2.2 a12 o4 c12) 71::kB b10 (V2 x3) 51::kB b9 #[vS a11 s3.2 c11,vI (wr (p0.2+1))] 56::kB b3 #[v8,vI 0] 56::opc a7 (qAh (fun x:Td=>((V4 x):List Value)) o2 T4) 51::kR a11 s3.2 c11 71 4::kR a12 o4 c12 3 1::O) w'∧MRow m17 b1 0 (Va p0 a1 c1)∧RepS C5 m17 a1 c1 p0.1∧MRow m17 b2 0 (V6 p1.1.1 p1.1.2 p1.2.1 p1.2.2.1 p1.2.2.2.1 p1.2.2.2.2.1.1 p1.2.2.2.2.1.2.1 p1.2.2.2.2.1.2.2 p1.2.2.2.2.2.1 a2 p1.2.2.2.2.2.2 c2)∧RepS C3 m17 a2 c2 p1.2.2.2.2.2.2∧RepS (cInt .i64) m17 a12 c12 o4∧RepS C5 m17 a11 c11 s3.2) N ⟨(false,0),m13,i,rfl,q,st.f6.f6.f6.f6.f6.f6.f6,hb1,r1,hb2,r2,r7,r6⟩ ?_);rintro k4 _ w33 ⟨s4,m17,hL,rfl,q,st,hb1,r1,hb2,r2,r7,r6⟩;rcases k4 with _|k4
        ·exact qAw hL
        ·obtain⟨qu4,i,hSu4,hBu4⟩:=qAx hL;clear hL;unfold qFp at i;refine W_sr (qAd 1 [(76,vB (decide (s4.2<(p1.2.2.2.2.2.2.length:Int))))] (qAk (W_if i ?_ ?_)))
         ·intro A i;refine qAm (qAe (qAk (qAp (W_sr (qAa rfl (qCf 77 61 123 73 75 r2 i ?_))))));rintro x4 i b13 f3 cs3 ⟨_,_,rfl,⟨_,_,rfl,rfl,⟨_,_,rfl,rfl,rfl⟩⟩,rfl⟩ hq3;refine qCn 78 123 77 f3 (.agg (V7 x4.1.1 x4.1.2.1 x4.1.2.2 x4.2)) st hq3 (qAa rfl (qBv 17 123 (.agg (V7 0 eB eB 0)) st fun b14 w34 st=>(qAa rfl (qBm 123 17 78 (.agg (V7 x4.1.1 x4.1.2.1 x4.1.2.2 x4.2)) st fun w35 st=>(WO_e (qAj ?_))))));have⟨o6,i,J⟩:=qAr i;refine qDy (j:=8) (fun L' w'=>∃m18,L'=[(2,vP b1 0),(3,vP b2 0),(4,vP b3 0),(11,vP b9 0),(13,vP b10 0),(14,vP b11 0),(15,vB o6),(60,vS a7 o2 c7),(61,vI (o2.length:Int)),(62,vI s3.1),(73,vS a2 p1.2.2.2.2.2.2 c2),(74,vI (p1.2.2.2.2.2.2.length:Int)),(75,vI s4.2)]∧m.le m18∧St m18 (kB b14 (V7 x4.1.1 x4.1.2.1 x4.1.2.2 x4.2) 123::kB b11 (V9 x3.1 x3.2.1 x3.2.2 a12 o4 c12) 71::kB b10 (V2 x3) 51::kB b9 #[vS a11 s3.2 c11,vI (wr (p0.2+1))] 56::kB b3 #[v8,vI 0] 56::opc a7 (qAh (fun x:Td=>((V4 x):List Value)) o2 T4) 51::kR a11 s3.2 c11 71 4::kR a12 o4 c12 3 1::O) w'∧MRow m18 b1 0 (Va p0 a1 c1)∧RepS C5 m18 a1 c1 p0.1∧MRow m18 b2 0 (V6 p1.1.1 p1.1.2 p1.2.1 p1.2.2.1 p1.2.2.2.1 p1.2.2.2.2.1.1 p1.2.2.2.2.1.2.1 p1.2.2.2.2.1.2.2 p1.2.2.2.2.2.1 a2 p1.2.2.2.2.2.2 c2)∧RepS C3 m18 a2 c2 p1.2.2.2.2.2.2∧RepS (cInt .i64) m18 a12 c12 o4∧RepS C5 m18 a11 c11 s3.2) ?_ ?_
          ·have i:=J;rintro _ w36 ⟨m18,rfl,q,st,hb1,r1,hb2,r2,r7,r6⟩;refine qAs rfl (qAz (qAe (qAj (qAc 2 [(75,vI (wr (s4.2+1)))] (qAs rfl ?_)))));obtain rfl:=sI i;have hL:=hSu4 _ rfl;exact xE (qBh k4 (jA _) ⟨(o6,wr (s4.2+1)),m18,hL,rfl,q,st.t.f6.f6.f6.f6.f6.f6.f6,hb1,r1,hb2,r2,r7,r6⟩)
          ·intro K;refine qAc 2 [(80,vB s4.1)] (qEe 80 i ?_ ?_)
           ·intro A i;refine qAc 6 [(15,vB true)] ?_;cases i;exact qBf _ kr (K _ _ ⟨m17,rfl,q,st.f7.f7.f7.f7.f7.f7.f7.f7,hb1,r1,hb2,r2,r7,r6⟩)
           ·intro A i;refine qHz 1 82 51 81 0 (.agg (V2 x4.1)) st.h (qAa rfl (qBk 83 51 13 0 (.agg (V2 x3)) st.t.t.h (qAa rfl (qKp (d:=84) (t:=51) (t2:=51) (x:=(.tmp 82)) (y:=(.tmp 83)) (xs:=(V2 x4.1)) (ys:=(V2 x3)) ((x4.1.1==x3.1)&&((x4.1.2.1.toList==x3.2.1.toList)&&((x4.1.2.2.toList==x3.2.2.toList)&&true))) kr rfl (ev (.agg (V2 x4.1))) (ev (.agg (V2 x3))) kr kr kr (qAc 2 [(15,vB ((x4.1.1==x3.1)&&((x4.1.2.1.toList==x3.2.1.toList)&&((x4.1.2.2.toList==x3.2.2.toList)&&true))))] ?_)))));cases i;exact qBf _ kr (K _ _ ⟨m17,rfl,q,st.f7.f7.f7.f7.f7.f7.f7.f7,hb1,r1,hb2,r2,r7,r6⟩)
         ·intro A i;refine qCa (qAf ?_);cases i;have ho:=hBu4 _ rfl;have st:=st.f6.f6.f6.f6.f6.f6.f6;refine qAf ?_;exact xE (K6_u4 _ _ ⟨s4.1,m17,ho,rfl,q,st,hb1,r1,hb2,r2,r7,r6⟩)
       ·intro K;refine qFc [(8,fun w'=>Inv m12 w'∧Piece.holds m12 w' (kB b10 (V2 x3) 51)∧True)] kr st fun w27 _ st=> ?_;have hmS1:=m12.le_refl;refine⟨⟨.inr ⟨Inv.anti st.inv hmS1,Piece.holds_anti st.h hmS1,trivial⟩,trivial⟩,?_⟩;refine qFy 51 13 0 66 0 (.agg (V2 x3)) (.head _) (fun _ h=>h.2.1) (qGt 56 2 1 67 0 (.agg (V1 p0 a1 c1)) (.head _) (fun _ h=>h.1) hb1 (qFy 51 13 2 68 0 (.agg (V2 x3)) (.head _) (fun _ h=>h.2.1) (qLe [3,6] kr (by simp) (qLb ?_ ?_))))
        ·refine qCd 69 i (fun _ h=>qFh st r1 h) ?_;rintro y4 i _ w28 ⟨a13,c13,m14,rfl,e7,st,r8⟩;refine⟨_,rfl,?_⟩;have hmS1:=Mem.le_trans hmS1 e7;refine⟨⟨.inr ⟨Inv.anti st.inv hmS1,Piece.holds_anti st.t.h hmS1,trivial⟩,trivial⟩,?_⟩;refine qLe [4,6] kr (by simp) (qLb ?_ ?_)
         ·refine qFn 70 22 22 3 8 ((.const (v6))) 69 (st.nilroom 3 1) (.inl kr) (RepS.nil _ _) r8.src i fun l2 i a14 c14 m15 w29 e8 st r9=> ?_;have hmS1:=Mem.le_trans hmS1 e8;refine⟨⟨.inr ⟨Inv.anti st.inv hmS1,Piece.holds_anti st.t.t.h hmS1,trivial⟩,trivial⟩,?_⟩;refine qAn 5 71 (.agg (V9 x3.1 x3.2.1 x3.2.2 a14 l2 c14)) (.head _) (qBi 6 kr (qBv 14 71 (.agg #[vI 0,vT eB,vT eB,v6]) st fun b12 w30 st=>(⟨⟨.inr ⟨Inv.anti st.inv hmS1,Piece.holds_anti st.t.t.t.h hmS1,trivial⟩,trivial⟩,?_⟩)));refine qBi 7 kr (qBm 71 14 71 (.agg (V9 x3.1 x3.2.1 x3.2.2 a14 l2 c14)) st fun w31 st=>(⟨⟨.inr ⟨Inv.anti st.inv hmS1,Piece.holds_anti st.t.t.t.h hmS1,trivial⟩,trivial⟩,?_⟩));obtain rfl:=sI i;exact qBp kr (qJf _ kr (K _ _ ⟨b12,a14,c14,m15,rfl,(q.t e7).t e8,st.f2.t.f1.f6.f6.f6.f6.f6.f6,(hb1.mono e7).mono e8,(r1.mono e7).mono e8,(hb2.mono e7).mono e8,(r2.mono e7).mono e8,r9,(r6.mono e7).mono e8⟩))
         ·refine qBv 14 71 (.agg #[vI 0,vT eB,vT eB,v6]) st fun b12 w29 st=> ?_;refine⟨⟨.inr ⟨Inv.anti st.inv hmS1,Piece.holds_anti st.t.t.h hmS1,trivial⟩,trivial⟩,?_⟩;refine qBi 4 kr (qFn 70 22 22 3 8 ((.const (v6))) 69 (st.nilroom 3 1) (.inl kr) (RepS.nil _ _) r8.src i fun l2 i a14 c14 m15 w30 e8 st r9=> ?_);have hmS1:=Mem.le_trans hmS1 e8;refine⟨⟨.inr ⟨Inv.anti st.inv hmS1,Piece.holds_anti st.t.t.t.h hmS1,trivial⟩,trivial⟩,?_⟩;refine qAn 5 71 (.agg (V9 x3.1 x3.2.1 x3.2.2 a14 l2 c14)) (.head _) (qBi 7 kr (qBm 71 14 71 (.agg (V9 x3.1 x3.2.1 x3.2.2 a14 l2 c14)) st.f1 fun w31 st=>(⟨⟨.inr ⟨Inv.anti st.inv hmS1,Piece.holds_anti st.t.t.t.h hmS1,trivial⟩,trivial⟩,?_⟩)));obtain rfl:=sI i;exact qBp kr (qJf _ kr (K _ _ ⟨b12,a14,c14,m15,rfl,(q.t e7).t e8,st.f2.t.f1.f6.f6.f6.f6.f6.f6,(hb1.mono e7).mono e8,(r1.mono e7).mono e8,(hb2.mono e7).mono e8,(r2.mono e7).mono e8,r9,(r6.mono e7).mono e8⟩))
        ·refine qBv 14 71 (.agg #[vI 0,vT eB,vT eB,v6]) st fun b12 w28 st=> ?_;refine⟨⟨.inr ⟨Inv.anti st.inv hmS1,Piece.holds_anti st.t.h hmS1,trivial⟩,trivial⟩,?_⟩;refine qBi 3 kr (qCd 69 i (fun _ h=>qFh st r1 h) ?_);rintro y4 i _ w29 ⟨a13,c13,m14,rfl,e7,st,r8⟩;refine⟨_,rfl,?_⟩;have hmS1:=Mem.le_trans hmS1 e7;refine⟨⟨.inr ⟨Inv.anti st.inv hmS1,Piece.holds_anti st.t.t.h hmS1,trivial⟩,trivial⟩,?_⟩;refine qBi 4 kr (qFn 70 22 22 3 8 ((.const (v6))) 69 (st.nilroom 3 1) (.inl kr) (RepS.nil _ _) r8.src i fun l2 i a14 c14 m15 w30 e8 st r9=> ?_);have hmS1:=Mem.le_trans hmS1 e8;refine⟨⟨.inr ⟨Inv.anti st.inv hmS1,Piece.holds_anti st.t.t.t.h hmS1,trivial⟩,trivial⟩,?_⟩;refine qAn 5 71 (.agg (V9 x3.1 x3.2.1 x3.2.2 a14 l2 c14)) (.head _) (qBi 7 kr (qBm 71 14 71 (.agg (V9 x3.1 x3.2.1 x3.2.2 a14 l2 c14)) st.f2 fun w31 st=>(⟨⟨.inr ⟨Inv.anti st.inv hmS1,Piece.holds_anti st.t.t.t.h hmS1,trivial⟩,trivial⟩,?_⟩)));obtain rfl:=sI i;exact qBp kr (qJf _ kr (K _ _ ⟨b12,a14,c14,m15,rfl,(q.t e7).t e8,st.f2.t.f1.f6.f6.f6.f6.f6.f6,(hb1.mono e7).mono e8,(r1.mono e7).mono e8,(hb2.mono e7).mono e8,(r2.mono e7).mono e8,r9,(r6.mono e7).mono e8⟩))
      ·intro A i;refine qCa (qAf ?_);cases i;have ho:=hBu3 _ rfl;have st:=st.f3.f3.f3.f3;refine qAf ?_;exact xE (K4_u3 _ _ ⟨s3.2,a11,c11,m12,ho,rfl,q,st,r6⟩)
    intro K2_u2;refine qEp _ kr (qCe (fun k2 L' w'=>∃(s2:Th),∃a8 c8 T5 m8,qAl (qFq N p1) k2 s2=some out2∧L'=[(2,vP b1 0),(3,vP b2 0),(4,vP b3 0),(6,vS a8 s2.1 c8),(40,vS a2 p1.2.2.2.2.2.2 c2),(41,vI (p1.2.2.2.2.2.2.length:Int)),(42,vI s2.2)]∧m.le m8∧St m8 (kB b3 #[v8,vI 0] 56::opc a8 (qAh (fun x:Td=>((V4 x):List Value)) s2.1 T5) 51::O) w'∧MRow m8 b1 0 (Va p0 a1 c1)∧RepS C5 m8 a1 c1 p0.1∧MRow m8 b2 0 (V6 p1.1.1 p1.1.2 p1.2.1 p1.2.2.1 p1.2.2.2.1 p1.2.2.2.2.1.1 p1.2.2.2.2.1.2.1 p1.2.2.2.2.1.2.2 p1.2.2.2.2.2.1 a2 p1.2.2.2.2.2.2 c2)∧RepS C3 m8 a2 c2 p1.2.2.2.2.2.2∧OAS a8 s2.1.length c8 3 T5) N ⟨(o1,0),a3,c3,T1,m4,i,rfl,q,st.f1.f1,hb1,r1,hb2,r2,hs1⟩ ?_);rintro k2 _ w14 ⟨s2,a8,c8,T5,m8,hL,rfl,q,st,hb1,r1,hb2,r2,hs5⟩;rcases k2 with _|k2
    ·exact qAw hL
    ·obtain⟨qu2,i,hSu2,hBu2⟩:=qAx hL;clear hL;unfold qFq at i;refine W_sr (qAd 1 [(43,vB (decide (s2.2<(p1.2.2.2.2.2.2.length:Int))))] (qAk (W_if i ?_ ?_)))
     ·intro A i;refine qAm (qAe (qAk (qAp (W_sr (qAa rfl (qCf 44 61 123 40 42 r2 i ?_))))));rintro x2 i b7 f2 cs2 ⟨_,_,rfl,⟨_,_,rfl,rfl,⟨_,_,rfl,rfl,rfl⟩⟩,rfl⟩ hq2;refine qCn 45 123 44 f2 (.agg (V7 x2.1.1 x2.1.2.1 x2.1.2.2 x2.2)) st hq2 (qAa rfl (qBv 10 123 (.agg (V7 0 eB eB 0)) st fun b8 w15 st=>(qAa rfl (qBm 123 10 45 (.agg (V7 x2.1.1 x2.1.2.1 x2.1.2.2 x2.2)) st fun w16 st=>(WO_e (qAk (W_sr (qHz 1 47 51 46 0 (.agg (V2 x2.1)) st.h (qAy 48 i (fun _ h=>qFa st h) ?_)))))))));rintro y2 i _ w17 ⟨m9,rfl,e5,st⟩;refine qAd 1 [(49,vB (!y2))] (W_if i ?_ ?_)
      ·intro A i;refine W_sr (qAc 1 [(50,.agg #[v8,vI 0])] (qAa rfl (qBm 56 4 50 (.agg #[v8,vI 0]) st.f1 fun w18 st=>(qAd 1 [(5,vI 1)] (qBc (qAb (qAg (qAb ?_))))))));cases i;have ho:=hBu2 _ rfl;subst ho;have i:=j2;refine qAb (qAg (qAb ?_));cases i;refine qLq [.cell 4 56,.tmp 5] [.agg #[v8,vI 0],vI 1] rfl (ResAll.cons (ResAt.blk (v:= .agg #[v8,vI 0]) (o:=0) kr st.h kr) (ResAll.cons (ResAt.tmp kr) ResAll.nil)) ?_;have st:=(st.nilroom 71 4).front1;exact⟨none,0,m9,rfl,q.t e5,st.t.f1.t.f1.t,(RepS.nil _ _)⟩
      ·intro A i;refine qAm (qAe (qAj (qAc 2 [(51,vS a8 s2.1 c8),(52,vP b8 0)] (qAa rfl (qBk 53 51 52 0 (.agg (V2 x2.1)) st.h (qAy 54 i (fun _ h=>qGb st.f2 hs5 h) ?_))))));rintro y3 i _ w19 ⟨a9,c9,T6,m10,rfl,e6,st,hs6⟩;refine qAc 1 [(6,vS a9 y3 c9)] (qAs rfl (qAz (qAe (qAj (qAc 2 [(42,vI (wr (s2.2+1)))] (qAs rfl ?_))))));obtain rfl:=sI i;have hL:=hSu2 _ rfl;exact xE (qBh k2 (jA _) ⟨(y3,wr (s2.2+1)),a9,c9,T6,m10,hL,rfl,(q.t e5).t e6,st.f1.t.f1,(hb1.mono e5).mono e6,(r1.mono e5).mono e6,(hb2.mono e5).mono e6,(r2.mono e5).mono e6,hs6⟩)
     ·intro A i;refine qCa (qAf ?_);cases i;have ho:=hBu2 _ rfl;have st:=st.f1.f1;refine qAf ?_;exact xE (K2_u2 _ _ ⟨s2.1,a8,c8,T5,m8,ho,rfl,q,st,hb1,r1,hb2,r2,hs5⟩)
   intro K0_u1;refine qEp _ kr (qCe (fun k1 L' w'=>∃(s1:Th),∃a4 c4 T2 m5,qAl (qDu N p0) k1 s1=some out1∧L'=[(2,vP b1 0),(3,vP b2 0),(4,vP b3 0),(6,vS a4 s1.1 c4),(27,vS a1 p0.1 c1),(28,vI (p0.1.length:Int)),(29,vI s1.2)]∧m.le m5∧St m5 (kB b3 #[v8,vI 0] 56::opc a4 (qAh (fun x:Td=>((V4 x):List Value)) s1.1 T2) 51::O) w'∧MRow m5 b1 0 (Va p0 a1 c1)∧RepS C5 m5 a1 c1 p0.1∧MRow m5 b2 0 (V6 p1.1.1 p1.1.2 p1.2.1 p1.2.2.1 p1.2.2.2.1 p1.2.2.2.2.1.1 p1.2.2.2.2.1.2.1 p1.2.2.2.2.1.2.2 p1.2.2.2.2.2.1 a2 p1.2.2.2.2.2.2 c2)∧RepS C3 m5 a2 c2 p1.2.2.2.2.2.2∧OAS a4 s1.1.length c4 3 T2) N ⟨(([]:Tf),0),none,0,[],m3,i,rfl,q,st.f1,hb1,((r1.mono e1).mono e2).mono e3,hb2.mono e3,((r2.mono e1).mono e2).mono e3,(OAS.nil 3)⟩ ?_);rintro k1 _ w8 ⟨s1,a4,c4,T2,m5,hL,rfl,q,st,hb1,r1,hb2,r2,hs2⟩;rcases k1 with _|k1
   ·exact qAw hL
   ·obtain⟨qu1,i,hSu1,hBu1⟩:=qAx hL;clear hL;unfold qDu at i;refine W_sr (qAd 1 [(30,vB (decide (s1.2<(p0.1.length:Int))))] (qAk (W_if i ?_ ?_)))
    ·intro A i;refine qAm (qAe (qAk (qAp (W_sr (qAa rfl (qCf 31 54 71 27 29 r1 i ?_))))));rintro x1 i b4 f1 cs1 ⟨_,_,rfl,⟨_,_,rfl,rfl,⟨_,_,rfl,rfl,rfl⟩⟩,⟨a5,c5,rfl,r3⟩⟩ hq1;refine qCn 32 71 31 f1 (.agg (V9 x1.1.1 x1.1.2.1 x1.1.2.2 a5 x1.2 c5)) st hq1 (qAa rfl (qBv 8 71 (.agg #[vI 0,vT eB,vT eB,v6]) st fun b5 w9 st=>(qAa rfl (qBm 71 8 32 (.agg (V9 x1.1.1 x1.1.2.1 x1.1.2.2 a5 x1.2 c5)) st fun w10 st=>(WO_e (qAj (qAc 2 [(33,vS a4 s1.1 c4),(34,vP b5 0)] (qAa rfl (qBk 35 51 34 0 (.agg (V2 x1.1)) st.h (qAa rfl (qAo (d:=36) (t:=40) (e:=51) (len:=1) (parts:= #[(0,(.tmp 35))]) C2 (xs:=[x1.1]) (V4 x1.1) kr rfl (fun _=>qAq kr _) rfl rfl st ⟨(V4 x1.1),_,rfl,⟨_,_,rfl,rfl,⟨_,_,rfl,rfl,rfl⟩⟩,rfl⟩ fun b6 m6 w11 e4 st r4=> ?_)))))))))));have st:=st.f3;have⟨l1,hx3,i⟩:=qAr i;refine qAa rfl (qPu (d:=37) (t:=40) (u:=40) (e:=51) (by_:=40) (x:=(.tmp 33)) (y:=(.tmp 36)) (c:=C2) (f:=(fun x:Td=>((V4 x):List Value))) (l:=s1.1) (fun _ _ _ h=>by obtain⟨_,_,rfl,rfl,⟨_,_,rfl,rfl,rfl⟩⟩:=h;rfl) (fun _=>rfl) kr rfl (ev (vS a4 s1.1 c4)) (ev (vS (aP b6) ([x1.1]) 1)) st hs2 rfl kr (.inl kr) r4.src hx3 fun a6 c6 T3 w12 hs3 st=>(qAc 1 [(6,vS a6 l1 c6)] (qAs rfl ?_)));have st:=st.f1.t;refine qAz (qAe (qAj (qAc 2 [(29,vI (wr (s1.2+1)))] (qAs rfl ?_))));obtain rfl:=sI i;have hL:=hSu1 _ rfl
     exact xE (qBh k1 (jA _) ⟨(l1,wr (s1.2+1)),a6,c6,T3,m6,hL,rfl,q.t e4,st.f1.t.f1,hb1.mono e4,r1.mono e4,hb2.mono e4,r2.mono e4,hs3⟩)
    ·intro A i;refine qCa (qAf ?_);cases i;have ho:=hBu1 _ rfl;have st:=st.f1.f1;refine qAf ?_;exact xE (K0_u1 _ _ ⟨s1.1,a4,c4,T2,m5,ho,rfl,q,st,hb1,r1,hb2,r2,hs2⟩)
def qEu(N:Nat):Te:=
 (qGr N ([(((⟨#[]⟩:ByteArray),(⟨#[]⟩:ByteArray)),0,0,0,(0,0,0),false,[((4,(⟨#[99]⟩:ByteArray),(⟨#[]⟩:ByteArray)),0)]),(((⟨#[]⟩:ByteArray),(⟨#[]⟩:ByteArray)),0,0,0,(0,0,0),false,([]:Tl)),(((⟨#[]⟩:ByteArray),(⟨#[]⟩:ByteArray)),0,0,0,(0,0,0),false,[((4,(⟨#[99]⟩:ByteArray),(⟨#[]⟩:ByteArray)),0)])])).bind fun y1=>(qHu N y1.1 (((⟨#[]⟩:ByteArray),(⟨#[]⟩:ByteArray)),0,0,0,(0,0,0),false,[((4,(⟨#[99]⟩:ByteArray),(⟨#[]⟩:ByteArray)),0)])).bind fun y2=>(qGi N y2.1 ([(4,(⟨#[99]⟩:ByteArray),(⟨#[]⟩:ByteArray))])).bind fun y3=>(qFe N y2.1 ([(4,(⟨#[99]⟩:ByteArray),(⟨#[]⟩:ByteArray))])).bind fun y4=>(if(y1.2==0)=true then(if(y2.2==0)=true then(if(y3.2==0)=true then(if(y4.2==0)=true then((qDd N y1.1).bind fun y5=>if y5=true then((qHi N y1.1 (4,(⟨#[99]⟩:ByteArray),(⟨#[]⟩:ByteArray))).bind fun y6=>(qBd N y6 ([0,2])).bind fun y7=>if y7=true then((qBd N y3.1 ([0,2,3])).bind fun y8=>if y8=true then((qBd N y4.1 ([1])).bind fun y9=>some y9) else(some false)) else(some false)) else(some false)) else(some false)) else(some false)) else(some false)) else(some false):Te).bind fun o1=>some o1
theorem qLr{r:Bool}(st:St m (O) w)(i:qEu N=some r):Calls Tryz.prog 40 #[] w fun e w'=>∃m',e= .returned (vB r)∧m.le m'∧St m' (O) w':=by
 unfold qEu at i;have q:=m.le_refl;refine W_cA Tryz.func40 rfl Tryz.ntmps40 ?_
 refine W_sr (qAd 1 [] (W_sr (qAc 1 [(11,.agg (V3 4 bm eB))] (qAa rfl (qBv 1 51 (.agg (V3 0 eB eB)) st fun b1 w1 st=>(qAa rfl (qBm 51 1 11 (.agg (V3 4 bm eB)) st fun w2 st=>(WO_e (W_sr (qAa rfl (qBk 12 51 1 0 (.agg (V3 4 bm eB)) st.h (qAc 1 [(13,.agg (V7 4 bm eB 0))] (qAa rfl (qAo (d:=14) (t:=61) (e:=123) (len:=1) (parts:= #[(0,(.tmp 13))]) C3 (xs:=[((4,bm,eB),0)]) [vI 4,vT bm,vT eB,vI 0] kr rfl (fun _=>qAq kr _) rfl rfl st ⟨[vI 4,vT bm,vT eB,vI 0],_,rfl,⟨_,_,rfl,⟨_,_,rfl,rfl,⟨_,_,rfl,rfl,rfl⟩⟩,rfl⟩,rfl⟩ fun b2 m1 w3 e1 st r1=>(qAc 1 [(15,.agg #[vT eB,vT eB,vI 0,vI 0,vI 0,vI 0,vI 0,vI 0,vB false,.slice (aP b2) (List.length ([((4,bm,eB),0)])) 1])] (qAa rfl (qBv 2 63 (.agg #[vT eB,vT eB,vI 0,vI 0,vI 0,vI 0,vI 0,vI 0,vB false,v6]) st fun b3 w4 st=>(qAa rfl (qBm 63 2 15 (.agg #[vT eB,vT eB,vI 0,vI 0,vI 0,vI 0,vI 0,vI 0,vB false,.slice (aP b2) (List.length ([((4,bm,eB),0)])) 1]) st fun w5 st=>(WO_e (W_sr (qAa rfl (qBk 17 63 2 0 (.agg #[vT eB,vT eB,vI 0,vI 0,vI 0,vI 0,vI 0,vI 0,vB false,.slice (aP b2) (List.length ([((4,bm,eB),0)])) 1]) st.h (qAc 1 [(18,.agg #[vT eB,vT eB,vI 0,vI 0,vI 0,vI 0,vI 0,vI 0,vB false,vS none ([]:Tl) 0])] (qAa rfl (qBk 19 63 2 0 (.agg #[vT eB,vT eB,vI 0,vI 0,vI 0,vI 0,vI 0,vI 0,vB false,.slice (aP b2) (List.length ([((4,bm,eB),0)])) 1]) st.h ?_))))))))))))))))))))))))))
 refine qAa rfl (qAo (d:=20) (t:=64) (e:=63) (len:=3) (parts:= #[(0,(.tmp 17)),(1,(.tmp 18)),(2,(.tmp 19))]) C4 (xs:=[((eB,eB),0,0,0,(0,0,0),false,[((4,bm,eB),0)]),((eB,eB),0,0,0,(0,0,0),false,([]:Tl)),((eB,eB),0,0,0,(0,0,0),false,[((4,bm,eB),0)])]) [vT eB,vT eB,vI 0,vI 0,vI 0,vI 0,vI 0,vI 0,vB false,.slice (aP b2) (List.length ([((4,bm,eB),0)])) 1,vT eB,vT eB,vI 0,vI 0,vI 0,vI 0,vI 0,vI 0,vB false,vS none ([]:Tl) 0,vT eB,vT eB,vI 0,vI 0,vI 0,vI 0,vI 0,vI 0,vB false,.slice (aP b2) (List.length ([((4,bm,eB),0)])) 1] kr rfl (fun _=>qAq kr _) rfl rfl st ⟨[vT eB,vT eB,vI 0,vI 0,vI 0,vI 0,vI 0,vI 0,vB false,.slice (aP b2) (List.length ([((4,bm,eB),0)])) 1],_,rfl,⟨_,_,rfl,⟨_,_,rfl,rfl,rfl⟩,⟨_,_,rfl,rfl,⟨_,_,rfl,rfl,⟨_,_,rfl,rfl,⟨_,_,rfl,⟨_,_,rfl,rfl,⟨_,_,rfl,rfl,rfl⟩⟩,⟨_,_,rfl,rfl,(qJy r1)⟩⟩⟩⟩⟩⟩,⟨[vT eB,vT eB,vI 0,vI 0,vI 0,vI 0,vI 0,vI 0,vB false,vS none ([]:Tl) 0],_,rfl,⟨_,_,rfl,⟨_,_,rfl,rfl,rfl⟩,⟨_,_,rfl,rfl,⟨_,_,rfl,rfl,⟨_,_,rfl,rfl,⟨_,_,rfl,⟨_,_,rfl,rfl,⟨_,_,rfl,rfl,rfl⟩⟩,⟨_,_,rfl,rfl,(qJy (RepS.nil _ _))⟩⟩⟩⟩⟩⟩,⟨[vT eB,vT eB,vI 0,vI 0,vI 0,vI 0,vI 0,vI 0,vB false,.slice (aP b2) (List.length ([((4,bm,eB),0)])) 1],_,rfl,⟨_,_,rfl,⟨_,_,rfl,rfl,rfl⟩,⟨_,_,rfl,rfl,⟨_,_,rfl,rfl,⟨_,_,rfl,rfl,⟨_,_,rfl,⟨_,_,rfl,rfl,⟨_,_,rfl,rfl,rfl⟩⟩,⟨_,_,rfl,rfl,(qJy r1)⟩⟩⟩⟩⟩⟩,rfl⟩⟩⟩ fun b4 m2 w6 e2 st r2=>(qAy 21 i (fun _ h=>qMt st r2 h) ?_))
 rintro y1 i _ w7 ⟨a1,c1,m3,rfl,e3,st,r3⟩;refine qAc 3 [(22,.agg (V1 y1.1 a1 c1)),(23,vI y1.2)] (qAa rfl (qBv 3 56 (.agg #[v6,vI 0]) st fun b5 w8 st=>(qAa rfl (qBm 56 3 22 (.agg (V1 y1.1 a1 c1)) st fun w9 st=>(qAc 1 [(4,vI y1.2)] (qAs rfl ?_))))));have st:=st.f2.t;refine qAe (W_sr (qAa rfl (qBk 25 56 3 0 (.agg (V1 y1.1 a1 c1)) st.h (qAa rfl (qBk 26 63 2 0 (.agg #[vT eB,vT eB,vI 0,vI 0,vI 0,vI 0,vI 0,vI 0,vB false,.slice (aP b2) (List.length ([((4,bm,eB),0)])) 1]) st.t.t.h (qAy 27 i (fun _ h=>qIr st r3 ((r1.mono e2).mono e3) h) ?_))))));rintro y2 i _ w10 ⟨a2,c2,m4,rfl,e4,st,r4⟩;refine qAc 3 [(28,.agg (V1 y2.1 a2 c2)),(29,vI y2.2)] (qAa rfl (qBv 5 56 (.agg #[v6,vI 0]) st fun b6 w11 st=>(qAa rfl (qBm 56 5 28 (.agg (V1 y2.1 a2 c2)) st fun w12 st=>(qAd 1 [(6,vI y2.2)] (W_sr (qAa rfl (qBk 31 56 5 0 (.agg (V1 y2.1 a2 c2)) st.h (qAa rfl (qBk 32 51 1 0 (.agg (V3 4 bm eB)) st.t.t.t.t.t.t.h (qAa rfl (qAo (d:=33) (t:=40) (e:=51) (len:=1) (parts:= #[(0,(.tmp 32))]) C2 (xs:=[(4,bm,eB)]) [vI 4,vT bm,vT eB] kr rfl (fun _=>qAq kr _) rfl rfl st ⟨[vI 4,vT bm,vT eB],_,rfl,⟨_,_,rfl,rfl,⟨_,_,rfl,rfl,rfl⟩⟩,rfl⟩ fun b7 m5 w13 e5 st r5=> ?_))))))))))));have r4:=r4.mono e5;refine qAy 34 i (fun _ h=>qKu st r4 r5 h) ?_;rintro y3 i _ w14 ⟨a3,c3,m6,rfl,e6,st,r6⟩
 refine qAc 5 [(7,vS a3 y3.1 c3),(8,vI y3.2)] (qAs rfl ?_);have st:=st.f1.t;refine qAe (W_sr (qAa rfl (qBk 38 56 5 0 (.agg (V1 y2.1 a2 c2)) st.t.h (qAa rfl (qBk 39 51 1 0 (.agg (V3 4 bm eB)) st.t.t.t.t.t.t.t.h (qAa rfl (qAo (d:=40) (t:=40) (e:=51) (len:=1) (parts:= #[(0,(.tmp 39))]) C2 (xs:=[(4,bm,eB)]) [vI 4,vT bm,vT eB] kr rfl (fun _=>qAq kr _) rfl rfl st ⟨[vI 4,vT bm,vT eB],_,rfl,⟨_,_,rfl,rfl,⟨_,_,rfl,rfl,rfl⟩⟩,rfl⟩ fun b8 m7 w15 e7 st r7=>(qAy 41 i (fun _ h=>qJu st ((r4.mono e6).mono e7) r7 h) ?_))))))));rintro y4 i _ w16 ⟨a4,c4,m8,rfl,e8,st,r8⟩;have q:=(((((((q.t e1).t e2).t e3).t e4).t e5).t e6).t e7).t e8;have r4:=((r4.mono e6).mono e7).mono e8;have r3:=((((r3.mono e4).mono e5).mono e6).mono e7).mono e8;have r1:=((((((r1.mono e2).mono e3).mono e4).mono e5).mono e6).mono e7).mono e8;refine qAc 5 [(9,vS a4 y4.1 c4),(10,vI y4.2)] (qAs rfl ?_);have st:=st.f1.t;refine qAe (W_sr ?_);have⟨o1,i,J⟩:=qAr i
 refine qDy (j:=36) (fun L' w'=>∃m9,L'=[(0,vB o1)]∧m.le m9∧St m9 (kB b6 (V1 y2.1 a2 c2) 56::kB b5 (V1 y1.1 a1 c1) 56::kB b3 #[vT eB,vT eB,vI 0,vI 0,vI 0,vI 0,vI 0,vI 0,vB false,.slice (aP b2) (List.length ([((4,bm,eB),0)])) 1] 63::kB b1 (V3 4 bm eB) 51::kR a4 y4.1 c4 3 1::kR a3 y3.1 c3 3 1::kR a2 y2.1.1 c2 71 4::kR a1 y1.1.1 c1 71 4:: .room (aP b2) (List.length ([((4,bm,eB),0)])) 1 123 4::O) w'∧RepS C5 m9 a2 c2 y2.1.1∧RepS C5 m9 a1 c1 y1.1.1∧RepS C3 m9 (aP b2) 1 ([((4,bm,eB),0)])) ?_ ?_
 ·have i:=J;rintro _ w17 ⟨m9,rfl,q,st,r4,r3,r1⟩;refine WO_e (qBc ?_);obtain rfl:=sI i;exact X_rt [0] [vB o1] ⟨m9,rfl,q,st.t.t.t.t.t.t.t.t.t⟩
 ·intro K;refine qAc 3 [(46,vB (y1.2==0))] (qEe 46 i ?_ ?_)
  ·intro A i;refine qAc 4 [(50,vB (y2.2==0))] (qEe 50 i ?_ ?_)
   ·intro A i;refine qAc 4 [(54,vB (y3.2==0))] (qEe 54 i ?_ ?_)
    ·intro A i;refine qAc 4 [(58,vB (y4.2==0))] (qEe 58 i ?_ ?_)
     ·intro A i;refine qAa rfl (qBk 59 56 3 0 (.agg (V1 y1.1 a1 c1)) st.t.t.t.t.h (qAy 60 i (fun _ h=>qHk st r3 h) ?_));rintro y5 i _ w18 ⟨m10,rfl,e9,st⟩;have r3:=r3.mono e9;refine qAc 2 [(62,vB y5)] (qEe 62 i ?_ ?_)
      ·intro A i;refine qAa rfl (qBk 63 56 3 0 (.agg (V1 y1.1 a1 c1)) st.t.t.t.t.h (qAa rfl (qBk 64 51 1 0 (.agg (V3 4 bm eB)) st.t.t.t.t.t.t.t.t.h (qAy 65 i (fun _ h=>qLf st r3 h) ?_))));rintro y6 i _ w19 ⟨a5,c5,m11,rfl,e10,st,r9⟩;refine qAa rfl (qAo (d:=66) (t:=22) (e:=3) (len:=2) (parts:= #[(0,(.const (vI 0))),(1,(.const (vI 2)))]) (cInt .i64) (xs:=[0,2]) [vI 0,vI 2] kr rfl (fun _=>qAq kr _) rfl rfl st ⟨[vI 0],_,rfl,rfl,⟨[vI 2],_,rfl,rfl,rfl⟩⟩ fun b9 m12 w20 e11 st r10=>(qAy 67 i (fun _ h=>qCj st (r9.mono e11) r10 h) ?_));rintro y7 i _ w21 ⟨m13,rfl,e12,st⟩;have q:=(((q.t e9).t e10).t e11).t e12;have r3:=((r3.mono e10).mono e11).mono e12;have r4:=(((r4.mono e9).mono e10).mono e11).mono e12;have r1:=(((r1.mono e9).mono e10).mono e11).mono e12;refine qAc 2 [(69,vB y7)] (qEe 69 i ?_ ?_)
       ·intro A i;refine qAc 1 [(70,vS a3 y3.1 c3)] (qAa rfl (qAo (d:=71) (t:=22) (e:=3) (len:=3) (parts:= #[(0,(.const (vI 0))),(1,(.const (vI 2))),(2,(.const (vI 3)))]) (cInt .i64) (xs:=[0,2,3]) [vI 0,vI 2,vI 3] kr rfl (fun _=>qAq kr _) rfl rfl st ⟨[vI 0],_,rfl,rfl,⟨[vI 2],_,rfl,rfl,⟨[vI 3],_,rfl,rfl,rfl⟩⟩⟩ fun b10 m14 w22 e13 st r11=>(qAy 72 i (fun _ h=>qCj st (((((((r6.mono e7).mono e8).mono e9).mono e10).mono e11).mono e12).mono e13) r11 h) ?_)));rintro y8 i _ w23 ⟨m15,rfl,e14,st⟩;have r3:=(r3.mono e13).mono e14;have r4:=(r4.mono e13).mono e14;have r1:=(r1.mono e13).mono e14;refine qAc 2 [(74,vB y8)] (qEe 74 i ?_ ?_)
        ·intro A i;refine qAc 1 [(75,vS a4 y4.1 c4)] (qAa rfl (qAo (d:=76) (t:=22) (e:=3) (len:=1) (parts:= #[(0,(.const (vI 1)))]) (cInt .i64) (xs:=[1]) [vI 1] kr rfl (fun _=>qAq kr _) rfl rfl st ⟨[vI 1],_,rfl,rfl,rfl⟩ fun b11 m16 w24 e15 st r12=>(qAy 77 i (fun _ h=>qCj st (((((((r8.mono e9).mono e10).mono e11).mono e12).mono e13).mono e14).mono e15) r12 h) ?_)));rintro y9 i _ w25 ⟨m17,rfl,e16,st⟩;refine qAc 2 [(0,vB y9)] ?_;cases i;exact qBf _ kr (K _ _ ⟨m17,rfl,(((q.t e13).t e14).t e15).t e16,st.t.t.t.t.f7.f6.f5.f4.f4.f8.f8.f8.f8,(r4.mono e15).mono e16,(r3.mono e15).mono e16,(r1.mono e15).mono e16⟩)
        ·intro A i;refine qAc 5 [(0,vB false)] ?_;cases i;exact qBf _ kr (K _ _ ⟨m15,rfl,(q.t e13).t e14,st.t.t.t.f7.f6.f5.f4.f4.f8.f8.f8.f8,r4,r3,r1⟩)
       ·intro A i;refine qAc 10 [(0,vB false)] ?_;cases i;exact qBf _ kr (K _ _ ⟨m13,rfl,q,st.t.t.f7.f6.f5.f4.f4.f8.f8.f8.f8,r4,r3,r1⟩)
      ·intro A i;refine qAc 17 [(0,vB false)] ?_;cases i;exact qBf _ kr (K _ _ ⟨m10,rfl,q.t e9,st.f7.f6.f5.f4.f4.f8.f8.f8.f8,r4.mono e9,r3,r1.mono e9⟩)
     ·intro A i;refine qAc 21 [(0,vB false)] ?_;cases i;exact qBf _ kr (K _ _ ⟨m8,rfl,q,st.f7.f6.f5.f4.f4.f8.f8.f8.f8,r4,r3,r1⟩)
    ·intro A i;refine qAc 25 [(0,vB false)] ?_;cases i;exact qBf _ kr (K _ _ ⟨m8,rfl,q,st.f7.f6.f5.f4.f4.f8.f8.f8.f8,r4,r3,r1⟩)
   ·intro A i;refine qAc 29 [(0,vB false)] ?_;cases i;exact qBf _ kr (K _ _ ⟨m8,rfl,q,st.f7.f6.f5.f4.f4.f8.f8.f8.f8,r4,r3,r1⟩)
  ·intro A i;refine qAc 33 [(0,vB false)] ?_;cases i;exact qBf _ kr (K _ _ ⟨m8,rfl,q,st.f7.f6.f5.f4.f4.f8.f8.f8.f8,r4,r3,r1⟩)
end
section
open Go Go.Dc
variable {N c1 c2 c3:Nat} {m:Mem} {O:List Piece} {w:World} {a1 a2 a3:Option Addr}
def qBw(N:Nat)(x4:Ty)(o4:Tf)(s2:Int):Tu:=
 if(decide (s2<(List.length o4:Int)))=true then((idx o4 s2).bind fun x5=>(qHi N x4 x5).bind fun y14=>(qCq N x4 x5).bind fun y15=>(qBd N y14 y15).bind fun y16=>if(!y16)=true then(some (.inr (.inr (false)))) else(some (.inl (IntKind.wrap .i64 (s2+1))))) else(some (.inr (.inl ())))
def qCk(N:Nat)(p1:Ty)(p2:Tp)(o2:Ty×T9)(s1:Tj):Option (Tj⊕T9⊕Bool):=
 if(decide (s1.1<(List.length ([o2.1,p1]):Int)))=true then((idx ([o2.1,p1]) s1.1).bind fun x4=>(qDd N x4).bind fun y9=>(qBl N x4).bind fun y10=>if(!(y9==y10))=true then(some (.inr (.inr (false)))) else((qDv N s1.2).bind fun y11=>(qDv N y11.1).bind fun y12=>(qCi N y12.1 1 10).bind fun y13=>(if y13.2=true then((qDe 40 ([y11.2,y12.2]) ([(0,(⟨#[]⟩:ByteArray),(⟨#[]⟩:ByteArray))])).bind fun l2=>some l2) else(some ([y11.2,y12.2])):Tg).bind fun o4=>(qAl (qBw N x4 o4) N 0).bind fun out2=>(match out2 with| .inl o5=>(qGi N x4 o4).bind fun y17=>(qEc N x4 o4).bind fun y18=>(if(y17.2 !=y18.2)=true then(some true) else((qBd N y17.1 y18.1).bind fun y19=>some (!y19)):Te).bind fun o6=>if o6=true then(some (.inr (.inr (false)))) else((qFe N x4 o4).bind fun y20=>(qDj N x4 o4).bind fun y21=>(if(y20.2 !=y21.2)=true then(some true) else((qBd N y20.1 y21.1).bind fun y22=>some (!y22)):Te).bind fun o7=>if o7=true then(some (.inr (.inr (false)))) else((qDg N y13.1).bind fun y23=>(qDe 112 y23.2 ([(p2.1,p2.2.1,p2.2.2.1,p2.2.2.2.1,p2.2.2.2.2.1,p2.2.2.2.2.2.1,p2.2.2.2.2.2.2)])).bind fun l3=>(idx l3 0).bind fun x6=>(qHu N x4 (x6.1,x6.2.1,x6.2.2.1,x6.2.2.2.1,x6.2.2.2.2.1,x6.2.2.2.2.2.1,x6.2.2.2.2.2.2)).bind fun y24=>(idx l3 0).bind fun x7=>(qEs N x4 (x7.1,x7.2.1,x7.2.2.1,x7.2.2.2.1,x7.2.2.2.2.1,x7.2.2.2.2.2.1,x7.2.2.2.2.2.2)).bind fun y25=>(if(y24.2 !=y25.2)=true then(some true) else((qEi N y24.1 y25.1).bind fun y26=>some (!y26)):Te).bind fun o8=>if o8=true then(some (.inr (.inr (false)))) else(some (.inl (IntKind.wrap .i64 (s1.1+1),y23.1.1,y23.1.2)))))| .inr (z)=>some (.inr (.inr (z)))))) else(some (.inr (.inl s1.2)))
def qDm(N:Nat)(p0:T8)(p1:Ty)(p2:Tp):Te:=
 (qDg N (p0,0)).bind fun y1=>(qGr N y1.2).bind fun y2=>(qEt N y1.2).bind fun y3=>(if(y2.2 !=y3.2)=true then(some true) else((qEi N y2.1 y3.1).bind fun y4=>some (!y4)):Te).bind fun o1=>if o1=true then(some false) else((appM 64 y3.1.1).bind fun l1=>(if(decide (((List.length l1):Int)>0))=true then((qBe N y1.1 ((List.length l1):Int)).bind fun y5=>(qBe N y5.1 8).bind fun y6=>if(y6.2==0)=true then((qEb N y6.1 ([0,513,512,1])).bind fun y7=>some ((l1,y7.2),y7.1)) else(if(y6.2==1)=true then((idx l1 y5.2).bind fun x1=>some ((List.set l1 (Int.toNat y5.2) (x1.1,([]:T8)),y3.1.2),y6.1)) else(if(y6.2==2)=true then((idx l1 y5.2).bind fun x2=>some ((List.set l1 (Int.toNat y5.2) (x2.1,[0,0]),y3.1.2),y6.1)) else(if(y6.2==3)=true then((qDv N y6.1).bind fun y8=>(idx l1 y5.2).bind fun x3=>some ((List.set l1 (Int.toNat y5.2) (y8.2,x3.2),y3.1.2),y8.1)) else(some ((l1,y3.1.2),y6.1)))))) else(some ((l1,y3.1.2),y1.1)):Option (Ty×T9)).bind fun o2=>(qAl (qCk N p1 p2 o2) N (0,o2.2.1,o2.2.2)).bind fun out1=>(match out1 with| .inl o3=>(qEu N).bind fun y27=>some y27| .inr (z)=>some z))
set_option maxHeartbeats 4000000 in
set_option maxRecDepth 100000 in
theorem qJq{p0:T8}{p1:Ty}{p2:Tp}{r:Bool}(st:St m (O) w)(r1:RepS (cInt .i64) m a1 c1 p0)(r2:RepS C5 m a2 c2 p1.1)(r3:RepS C3 m a3 c3 p2.2.2.2.2.2.2)(i:qDm N p0 p1 p2=some r):Calls Tryz.prog 5 #[vS a1 p0 c1,.agg (V1 p1 a2 c2),.agg (V5 p2.1.1 p2.1.2 p2.2.1 p2.2.2.1 p2.2.2.2.1 p2.2.2.2.2.1.1 p2.2.2.2.2.1.2.1 p2.2.2.2.2.1.2.2 p2.2.2.2.2.2.1 a3 p2.2.2.2.2.2.2 c3)] w fun e w'=>∃m',e= .returned (vB r)∧m.le m'∧St m' (O) w':=by
 unfold qDm at i;have q:=m.le_refl;refine W_cA Tryz.func5 rfl Tryz.ntmps5 ?_;refine W_sr (qAa rfl (qEr 4 56 1 (.agg (V1 p1 a2 c2)) st fun b1 m1 w1 e1 st hb1=>(qAa rfl (qEr 5 63 2 (.agg (V5 p2.1.1 p2.1.2 p2.2.1 p2.2.2.1 p2.2.2.2.1 p2.2.2.2.2.1.1 p2.2.2.2.2.1.2.1 p2.2.2.2.2.1.2.2 p2.2.2.2.2.2.1 a3 p2.2.2.2.2.2.2 c3)) st fun b2 m2 w2 e2 st hb2=>(qAd 1 [] (W_sr (qAc 2 [(27,.agg #[vS a1 p0 c1,vI 0])] (qAa rfl (qRs 28 28 27 (.agg #[vS a1 p0 c1,vI 0]) st fun b3 w3 st=>(qAd 1 [(7,vP b3 0)] (W_sr (qAc 1 [(29,vP b3 0)] (qAy 30 i (fun _ h=>qFv (p0:=(p0,0)) st ((r1.mono e1).mono e2) h) ?_)))))))))))));rintro y1 i _ w4 ⟨a4,c4,a5,c5,m4,rfl,e4,st,r4,r5⟩;refine qAd 1 [(8,vS a5 y1.2 c5)] (W_sr (qAc 1 [(32,vS a5 y1.2 c5)] (qAy 33 i (fun _ h=>qMt st r5 h) ?_)));rintro y2 i _ w5 ⟨a6,c6,m5,rfl,e5,st,r6⟩;refine qAc 3 [(34,.agg (V1 y2.1 a6 c6)),(35,vI y2.2)] (qAa rfl (qBv 9 56 (.agg #[v6,vI 0]) st fun b4 w6 st=>(qAa rfl (qBm 56 9 34 (.agg (V1 y2.1 a6 c6)) st fun w7 st=>(qAd 1 [(10,vI y2.2)] (W_sr (qAc 1 [(37,vS a5 y1.2 c5)] (qAy 38 i (fun _ h=>qLs st (r5.mono e5) h) ?_))))))));rintro y3 i _ w8 ⟨a7,c7,m6,rfl,e6,st,r7⟩;have r6:=r6.mono e6
 refine qAc 3 [(39,.agg (V1 y3.1 a7 c7)),(40,vI y3.2)] (qAa rfl (qBv 11 56 (.agg #[v6,vI 0]) st fun b5 w9 st=>(qAa rfl (qBm 56 11 39 (.agg (V1 y3.1 a7 c7)) st fun w10 st=>(qAc 1 [(12,vI y3.2)] (qAs rfl ?_))))));have st:=st.f4.t;refine qAe (qAk (W_sr ?_));have⟨o1,i,J⟩:=qAr i;refine qDy (j:=9) (fun L' w'=>∃m7,L'=[(4,vP b1 0),(5,vP b2 0),(7,vP b3 0),(11,vP b5 0),(49,vB o1)]∧m.le m7∧St m7 (kB b5 (V1 y3.1 a7 c7) 56::kB b4 (V1 y2.1 a6 c6) 56::kB b3 (V1 y1.1 a4 c4) 28::kR a7 y3.1.1 c7 71 4::kR a6 y2.1.1 c6 71 4::O) w'∧MRow m7 b1 0 (Va p1 a2 c2)∧RepS C5 m7 a2 c2 p1.1∧MRow m7 b2 0 (V6 p2.1.1 p2.1.2 p2.2.1 p2.2.2.1 p2.2.2.2.1 p2.2.2.2.2.1.1 p2.2.2.2.2.1.2.1 p2.2.2.2.2.1.2.2 p2.2.2.2.2.2.1 a3 p2.2.2.2.2.2.2 c3)∧RepS C3 m7 a3 c3 p2.2.2.2.2.2.2∧RepS C5 m7 a7 c7 y3.1.1∧RepS C5 m7 a6 c6 y2.1.1∧RepS (cInt .i64) m7 a4 c4 y1.1.1) ?_ ?_
 ·have i:=J;rintro _ w11 ⟨m7,rfl,q,st,hb1,r2,hb2,r3,r7,r6,r4⟩;refine WO_e (W_if i ?_ ?_)
  ·intro A i;refine W_sr (qAd 1 [(6,vB false)] (qBc (qAb ?_)));cases i;exact X_rt [6] [vB false] ⟨m7,rfl,q,st.t.t.t.t.t⟩
  ·intro A i;refine qAm (qAe (W_sr (qHz 1 51 54 50 0 (vS a7 y3.1.1 c7) st.h ?_)));have st:=st.nilroom 71 4;have⟨l1,hx5,i⟩:=qAr i;refine qAa rfl (zCb (d:=52) (t:=54) (u:=54) (e:=71) (by_:=64) (x:=(.const (v6))) (y:=(.tmp 51)) (a:=none) C5 rfl kr rfl (ev (v8)) (ev (vS a7 y3.1.1 c7)) st kr (.inl kr) r7.src hx5 fun vs1 a8 c8 T1 w13 hn1 hrw1 hs1 st=>(qAc 1 [(53,vP b5 0)] (qAa rfl (qId 54 53 52 0 (vS a8 l1 c8) #[vS a8 l1 c8,vI y3.1.2] st.f1 fun w14 st=>(qAs rfl ?_)))));have st:=st.f4.t;refine qAe (qAk (W_sr (qHz 1 55 54 54 0 (vS a8 l1 c8) st.h (qAd 2 [(57,vB (decide ((l1.length:Int)>0)))] ?_))));have⟨o2,i,j1⟩:=qAr i;refine qBz .normal (fun L' w'=>∃a9 c9 a10 c10 m15,L'=[(4,vP b1 0),(5,vP b2 0),(7,vP b3 0),(11,vP b5 0)]∧m.le m15∧St m15 (kB b5 (V1 o2.1 a9 c9) 56::kB b4 (V1 y2.1 a6 c6) 56::kB b3 (V1 o2.2 a10 c10) 28::kR a6 y2.1.1 c6 71 4::kR a9 o2.1.1 c9 71 4::O) w'∧MRow m15 b1 0 (Va p1 a2 c2)∧RepS C5 m15 a2 c2 p1.1∧MRow m15 b2 0 (V6 p2.1.1 p2.1.2 p2.2.1 p2.2.2.1 p2.2.2.2.1 p2.2.2.2.2.1.1 p2.2.2.2.2.1.2.1 p2.2.2.2.2.1.2.2 p2.2.2.2.2.2.1 a3 p2.2.2.2.2.2.2 c3)∧RepS C3 m15 a3 c3 p2.2.2.2.2.2.2∧RepS C5 m15 a9 c9 o2.1.1∧RepS C5 m15 a6 c6 y2.1.1∧RepS (cInt .i64) m15 a10 c10 o2.2.1) ?_ ?_
   ·have i:=j1;rintro _ w15 ⟨a9,c9,a10,c10,m15,rfl,q,st,hb1,r2,hb2,r3,r14,r6,r15⟩;refine qAe (qAk (W_sr (qAa rfl (qBk 95 56 11 0 (.agg (V1 o2.1 a9 c9)) st.h (qCn 96 56 4 0 (.agg (V1 p1 a2 c2)) st hb1 (qAa rfl (qAo (d:=97) (t:=73) (e:=56) (len:=2) (parts:= #[(0,(.tmp 95)),(1,(.tmp 96))]) C6 (xs:=[o2.1,p1]) [vS a9 o2.1.1 c9,vI o2.1.2,vS a2 p1.1 c2,vI p1.2] kr rfl (fun _=>qAq kr _) rfl rfl st ⟨(Va o2.1 a9 c9),_,rfl,⟨_,_,rfl,(qJy r14),rfl⟩,⟨(Va p1 a2 c2),_,rfl,⟨_,_,rfl,(qJy r2),rfl⟩,rfl⟩⟩ fun b8 m28 w27 e26 st r31=>(qAd 2 [(98,vI (List.length ([o2.1,p1]):Int)),(99,vI 0)] (qAp ?_)))))))));have⟨out1,i,j2⟩:=qAr i;refine qBz (.exit 1) (fun L' w'=>∃(o3:T9),∃a18 c18 m29,(.inl o3)=out1∧L'=[]∧m.le m29∧St m29 (kB b5 (V1 o2.1 a9 c9) 56::kB b4 (V1 y2.1 a6 c6) 56::kB b3 (V1 o3 a18 c18) 28::kR (aP b8) ([o2.1,p1]) 2 56 2::kR a6 y2.1.1 c6 71 4::kR a9 o2.1.1 c9 71 4::O) w'∧RepS C5 m29 a9 c9 o2.1.1∧RepS C5 m29 a6 c6 y2.1.1∧RepS (cInt .i64) m29 a18 c18 o3.1) ?_ ?_
    ·rintro _ w28 ⟨o3,a18,c18,m29,rfl,rfl,q,st,r14,r6,r32⟩;have i:=j2;refine qAv (qAe (W_sr (qAy 207 i (fun _ h=>qLr st h) ?_)));rintro y27 i _ w72 ⟨m60,rfl,e50,st⟩;refine qAc 1 [(6,vB y27)] (qAs rfl ?_);have st:=st.f3.t;refine qAe (qBc ?_);obtain rfl:=sI i;exact X_rt [6] [vB y27] ⟨m60,rfl,q.t e50,st.t.t.t.t.t⟩
    intro K1_u2;refine qEp _ kr (qCe (fun k1 L' w'=>∃(s1:Tj),∃a19 c19 m30,qAl (qCk N p1 p2 o2) k1 s1=some out1∧L'=[(5,vP b2 0),(7,vP b3 0),(97,vS (aP b8) ([o2.1,p1]) 2),(98,vI (List.length ([o2.1,p1]):Int)),(99,vI s1.1)]∧m.le m30∧St m30 (kB b5 (V1 o2.1 a9 c9) 56::kB b4 (V1 y2.1 a6 c6) 56::kB b3 (V1 s1.2 a19 c19) 28::kR (aP b8) ([o2.1,p1]) 2 56 2::kR a6 y2.1.1 c6 71 4::kR a9 o2.1.1 c9 71 4::O) w'∧MRow m30 b2 0 (V6 p2.1.1 p2.1.2 p2.2.1 p2.2.2.1 p2.2.2.2.1 p2.2.2.2.2.1.1 p2.2.2.2.2.1.2.1 p2.2.2.2.2.1.2.2 p2.2.2.2.2.2.1 a3 p2.2.2.2.2.2.2 c3)∧RepS C3 m30 a3 c3 p2.2.2.2.2.2.2∧RepS C6 m30 (aP b8) 2 ([o2.1,p1])∧RepS C5 m30 a9 c9 o2.1.1∧RepS C5 m30 a6 c6 y2.1.1∧RepS (cInt .i64) m30 a19 c19 s1.2.1) N ⟨(0,o2.2.1,o2.2.2),a10,c10,m28,i,rfl,q.t e26,st.f5.f5.f2.f5.f5.f5,hb2.mono e26,r3.mono e26,r31,r14.mono e26,r6.mono e26,r15.mono e26⟩ ?_);rintro k1 _ w29 ⟨s1,a19,c19,m30,hL,rfl,q,st,hb2,r3,r31,r14,r6,r33⟩;rcases k1 with _|k1
    ·exact qAw hL
    ·obtain⟨qu2,i,hSu2,hBu2⟩:=qAx hL;clear hL;unfold qCk at i;refine W_sr (qAd 1 [(100,vB (decide (s1.1<(List.length ([o2.1,p1]):Int))))] (qAk (W_if i ?_ ?_)))
     ·intro A i;refine qAm (qAe (qAk (qAp (W_sr (qAa rfl (qCf 101 73 56 97 99 r31 i ?_))))));rintro x4 i b9 f1 cs4 ⟨_,_,rfl,⟨a20,c20,rfl,r34⟩,rfl⟩ hq1;refine qCn 102 56 101 f1 (.agg (V1 x4 a20 c20)) st hq1 (qAa rfl (qBv 15 56 (.agg #[v6,vI 0]) st fun b10 w30 st=>(qAa rfl (qBm 56 15 102 (.agg (V1 x4 a20 c20)) st fun w31 st=>(WO_e (qAk (qAk (qFc [(5,fun w'=>Inv m30 w'∧Piece.holds m30 w' (kB b10 (V1 x4 a20 c20) 56)∧True)] kr st fun w32 _ st=> ?_))))))));have hmS2:=m30.le_refl;refine⟨⟨.inr ⟨Inv.anti st.inv hmS2,Piece.holds_anti st.h hmS2,trivial⟩,trivial⟩,?_⟩;refine qFy 56 15 0 103 0 (.agg (V1 x4 a20 c20)) (.head _) (fun _ h=>h.2.1) (qFy 56 15 2 105 0 (.agg (V1 x4 a20 c20)) (.head _) (fun _ h=>h.2.1) (qBi 1 kr (qCd 104 i (fun _ h=>qHk st r34 h) ?_)));rintro y9 i _ w33 ⟨m31,rfl,e27,st⟩;refine⟨_,rfl,?_⟩;have r34:=r34.mono e27;have hmS2:=Mem.le_trans hmS2 e27;refine⟨⟨.inr ⟨Inv.anti st.inv hmS2,Piece.holds_anti st.h hmS2,trivial⟩,trivial⟩,?_⟩;refine qBi 3 kr (qCd 106 i (fun _ h=>qFb st r34 h) ?_);rintro y10 i _ w34 ⟨m32,rfl,e28,st⟩;refine⟨_,rfl,?_⟩;have q:=(q.t e27).t e28;have hmS2:=Mem.le_trans hmS2 e28;refine⟨⟨.inr ⟨Inv.anti st.inv hmS2,Piece.holds_anti st.h hmS2,trivial⟩,trivial⟩,?_⟩;refine qAn 4 107 (vB (!(y9==y10))) (.head _) (qBp kr (qAe (W_if i ?_ ?_)))
      ·intro A i;refine W_sr (qAc 1 [(6,vB false)] (qAs rfl ?_));have st:=st.f4.t;refine qAe (qBc (qAb (qAg (qAb ?_))));cases i;have ho:=hBu2 _ rfl;subst ho;have i:=j2;refine qAb (qAg (qAb ?_));cases i;exact X_rt [6] [vB false] ⟨m32,rfl,q,st.t.t.t.t.t.t⟩
      ·intro A i;refine qAm (qAe (W_sr (qAc 1 [(108,vP b3 0)] (qAy 109 i (fun _ h=>qGd (p0:=s1.2) st.f3 ((r33.mono e27).mono e28) h) ?_))));rintro y11 i _ w35 ⟨a21,c21,m33,rfl,e29,st,r35⟩;refine qAc 1 [(110,vP b3 0)] (qAy 111 i (fun _ h=>qGd (p0:=y11.1) st r35 h) ?_);rintro y12 i _ w36 ⟨a22,c22,m34,rfl,e30,st,r36⟩;refine qAa rfl (qAo (d:=112) (t:=40) (e:=51) (len:=2) (parts:= #[(0,(.tmp 109)),(1,(.tmp 111))]) C2 (xs:=[y11.2,y12.2]) [vI y11.2.1,vT y11.2.2.1,vT y11.2.2.2,vI y12.2.1,vT y12.2.2.1,vT y12.2.2.2] kr rfl (fun _=>qAq kr _) rfl rfl st ⟨(V4 y11.2),_,rfl,⟨_,_,rfl,rfl,⟨_,_,rfl,rfl,rfl⟩⟩,⟨(V4 y12.2),_,rfl,⟨_,_,rfl,rfl,⟨_,_,rfl,rfl,rfl⟩⟩,rfl⟩⟩ fun b11 m35 w37 e31 st r37=>(qAd 1 [(16,vS (aP b11) ([y11.2,y12.2]) 2)] (qAk (W_sr (qAc 1 [(113,vP b3 0)] (qAy 114 i (fun _ h=>qGs (p0:=y12.1) st.f1 (r36.mono e31) h) ?_))))));rintro y13 i _ w38 ⟨a23,c23,m36,rfl,e32,st,r38⟩;have r3:=(((((r3.mono e27).mono e28).mono e29).mono e30).mono e31).mono e32;have r6:=(((((r6.mono e27).mono e28).mono e29).mono e30).mono e31).mono e32;refine WO_e ?_;have⟨o4,i,j3⟩:=qAr i
       refine qBz .normal (fun L' w'=>∃a24 c24 m37,L'=[(5,vP b2 0),(7,vP b3 0),(15,vP b10 0),(16,vS a24 o4 c24),(97,vS (aP b8) ([o2.1,p1]) 2),(98,vI (List.length ([o2.1,p1]):Int)),(99,vI s1.1)]∧m.le m37∧St m37 (kB b3 (V1 y13.1 a23 c23) 28::kB b10 (V1 x4 a20 c20) 56::kB b5 (V1 o2.1 a9 c9) 56::kB b4 (V1 y2.1 a6 c6) 56::kR (aP b8) ([o2.1,p1]) 2 56 2::kR a6 y2.1.1 c6 71 4::kR a9 o2.1.1 c9 71 4::kR a24 o4 c24 51 3::O) w'∧MRow m37 b2 0 (V6 p2.1.1 p2.1.2 p2.2.1 p2.2.2.1 p2.2.2.2.1 p2.2.2.2.2.1.1 p2.2.2.2.2.1.2.1 p2.2.2.2.2.1.2.2 p2.2.2.2.2.2.1 a3 p2.2.2.2.2.2.2 c3)∧RepS C3 m37 a3 c3 p2.2.2.2.2.2.2∧RepS C2 m37 a24 c24 o4∧RepS C6 m37 (aP b8) 2 ([o2.1,p1])∧RepS (cInt .i64) m37 a23 c23 y13.1.1∧RepS C5 m37 a20 c20 x4.1∧RepS C5 m37 a9 c9 o2.1.1∧RepS C5 m37 a6 c6 y2.1.1) ?_ ?_
       ·have i:=j3;rintro _ w39 ⟨a24,c24,m37,rfl,q,st,hb2,r3,r39,r31,r38,r34,r14,r6⟩;refine qAe (qAk (W_sr (qAd 3 [(119,vS a24 o4 c24),(120,vI (o4.length:Int)),(121,vI 0)] (qAp ?_))));have⟨out2,i,j4⟩:=qAr i;refine qBz (.exit 3) (fun L' w'=>∃(o5:Unit),∃m40,(.inl o5)=out2∧L'=[(5,vP b2 0),(7,vP b3 0),(15,vP b10 0),(16,vS a24 o4 c24),(97,vS (aP b8) ([o2.1,p1]) 2),(98,vI (List.length ([o2.1,p1]):Int)),(99,vI s1.1)]∧m.le m40∧St m40 (kB b3 (V1 y13.1 a23 c23) 28::kB b10 (V1 x4 a20 c20) 56::kB b5 (V1 o2.1 a9 c9) 56::kB b4 (V1 y2.1 a6 c6) 56::kR (aP b8) ([o2.1,p1]) 2 56 2::kR a6 y2.1.1 c6 71 4::kR a9 o2.1.1 c9 71 4::kR a24 o4 c24 51 3::O) w'∧MRow m40 b2 0 (V6 p2.1.1 p2.1.2 p2.2.1 p2.2.2.1 p2.2.2.2.1 p2.2.2.2.2.1.1 p2.2.2.2.2.1.2.1 p2.2.2.2.2.1.2.2 p2.2.2.2.2.2.1 a3 p2.2.2.2.2.2.2 c3)∧RepS C3 m40 a3 c3 p2.2.2.2.2.2.2∧RepS C2 m40 a24 c24 o4∧RepS C6 m40 (aP b8) 2 ([o2.1,p1])∧RepS (cInt .i64) m40 a23 c23 y13.1.1∧RepS C5 m40 a20 c20 x4.1∧RepS C5 m40 a9 c9 o2.1.1∧RepS C5 m40 a6 c6 y2.1.1) ?_ ?_
        ·rintro _ w42 ⟨o5,m40,rfl,rfl,q,st,hb2,r3,r39,r31,r38,r34,r14,r6⟩;have i:=j4;refine qAv (qAe (W_sr (qAa rfl (qBk 135 56 15 0 (.agg (V1 x4 a20 c20)) st.t.h (qAc 1 [(136,vS a24 o4 c24)] (qAy 137 i (fun _ h=>qKu st r34 r39 h) ?_))))));rintro y17 i _ w50 ⟨a28,c28,m45,rfl,e38,st,r44⟩;have r39:=r39.mono e38;have r34:=r34.mono e38;refine qAd 5 [(19,vS a28 y17.1 c28),(20,vI y17.2)] (W_sr (qAa rfl (qBk 141 56 15 0 (.agg (V1 x4 a20 c20)) st.t.t.h (qAc 1 [(142,vS a24 o4 c24)] (qAy 143 i (fun _ h=>qKi st r34 r39 h) ?_)))));rintro y18 i _ w51 ⟨a29,c29,m46,rfl,e39,st,r45⟩;have r3:=(r3.mono e38).mono e39;have r6:=(r6.mono e38).mono e39;refine qAd 5 [(21,vS a29 y18.1 c29),(22,vI y18.2)] (qAk (W_sr ?_));have⟨o6,i,J⟩:=qAr i
         refine qDy (j:=9) (fun L' w'=>∃m47,L'=[(5,vP b2 0),(7,vP b3 0),(15,vP b10 0),(16,vS a24 o4 c24),(97,vS (aP b8) ([(o2.1.1,o2.1.2),(p1.1,p1.2)]) 2),(98,vI (List.length ([(o2.1.1,o2.1.2),(p1.1,p1.2)]):Int)),(99,vI s1.1),(154,vB o6)]∧m.le m47∧St m47 (kB b3 (V1 y13.1 a23 c23) 28::kB b10 (V1 x4 a20 c20) 56::kB b5 (V1 o2.1 a9 c9) 56::kB b4 (V1 y2.1 a6 c6) 56::kR a29 y18.1 c29 3 1::kR a28 y17.1 c28 3 1::kR (aP b8) ([(o2.1.1,o2.1.2),(p1.1,p1.2)]) 2 56 2::kR a6 y2.1.1 c6 71 4::kR a9 o2.1.1 c9 71 4::kR a24 o4 c24 51 3::O) w'∧MRow m47 b2 0 (V6 p2.1.1 p2.1.2 p2.2.1 p2.2.2.1 p2.2.2.2.1 p2.2.2.2.2.1.1 p2.2.2.2.2.1.2.1 p2.2.2.2.2.1.2.2 p2.2.2.2.2.2.1 a3 p2.2.2.2.2.2.2 c3)∧RepS C3 m47 a3 c3 p2.2.2.2.2.2.2∧RepS C2 m47 a24 c24 o4∧RepS C6 m47 (aP b8) 2 ([(o2.1.1,o2.1.2),(p1.1,p1.2)])∧RepS (cInt .i64) m47 a23 c23 y13.1.1∧RepS C5 m47 a20 c20 x4.1∧RepS C5 m47 a9 c9 o2.1.1∧RepS C5 m47 a6 c6 y2.1.1) ?_ ?_
         ·have i:=J;rintro _ w52 ⟨m47,rfl,q,st,hb2,r3,r39,r31,r38,r34,r14,r6⟩;refine WO_e (W_if i ?_ ?_)
          ·intro A i;refine W_sr (qAc 1 [(6,vB false)] (qAs rfl ?_));have st:=st.f4.t.f4.t.f4.t.f6.t;refine qAe (qBc (qAb (qAg (qAb ?_))));cases i;have ho:=hBu2 _ rfl;subst ho;have i:=j2;refine qAb (qAg (qAb ?_));cases i;exact X_rt [6] [vB false] ⟨m47,rfl,q,st.t.t.t.t.t.t⟩
          ·intro A i;refine qAm (qAe (W_sr (qAa rfl (qBk 156 56 15 0 (.agg (V1 x4 a20 c20)) st.t.h (qAc 1 [(157,vS a24 o4 c24)] (qAy 158 i (fun _ h=>qJu st r34 r39 h) ?_))))));rintro y20 i _ w54 ⟨a30,c30,m49,rfl,e41,st,r46⟩;have r34:=r34.mono e41;refine qAc 5 [(19,vS a30 y20.1 c30),(20,vI y20.2)] (qAs rfl ?_);have st:=st.f5.t.f5.t;refine qAe (W_sr (qAa rfl (qBk 162 56 15 0 (.agg (V1 x4 a20 c20)) st.t.t.h (qAc 1 [(163,vS a24 o4 c24)] (qAy 164 i (fun _ h=>qJv st r34 (r39.mono e41) h) ?_)))));rintro y21 i _ w55 ⟨a31,c31,m50,rfl,e42,st,r47⟩;have r3:=(r3.mono e41).mono e42;have r6:=(r6.mono e41).mono e42;refine qAc 5 [(21,vS a31 y21.1 c31),(22,vI y21.2)] (qAs rfl ?_);have st:=st.f9.t;refine qAe (qAk (W_sr ?_));have⟨o7,i,J⟩:=qAr i
           refine qDy (j:=9) (fun L' w'=>∃m51,L'=[(5,vP b2 0),(7,vP b3 0),(15,vP b10 0),(97,vS (aP b8) ([(o2.1.1,o2.1.2),(p1.1,p1.2)]) 2),(98,vI (List.length ([(o2.1.1,o2.1.2),(p1.1,p1.2)]):Int)),(99,vI s1.1),(175,vB o7)]∧m.le m51∧St m51 (kB b3 (V1 y13.1 a23 c23) 28::kB b10 (V1 x4 a20 c20) 56::kB b5 (V1 o2.1 a9 c9) 56::kB b4 (V1 y2.1 a6 c6) 56::kR a31 y21.1 c31 3 1::kR a30 y20.1 c30 3 1::kR (aP b8) ([(o2.1.1,o2.1.2),(p1.1,p1.2)]) 2 56 2::kR a6 y2.1.1 c6 71 4::kR a9 o2.1.1 c9 71 4::O) w'∧MRow m51 b2 0 (V6 p2.1.1 p2.1.2 p2.2.1 p2.2.2.1 p2.2.2.2.1 p2.2.2.2.2.1.1 p2.2.2.2.2.1.2.1 p2.2.2.2.2.1.2.2 p2.2.2.2.2.2.1 a3 p2.2.2.2.2.2.2 c3)∧RepS C3 m51 a3 c3 p2.2.2.2.2.2.2∧RepS C6 m51 (aP b8) 2 ([(o2.1.1,o2.1.2),(p1.1,p1.2)])∧RepS (cInt .i64) m51 a23 c23 y13.1.1∧RepS C5 m51 a20 c20 x4.1∧RepS C5 m51 a9 c9 o2.1.1∧RepS C5 m51 a6 c6 y2.1.1) ?_ ?_
           ·have i:=J;rintro _ w56 ⟨m51,rfl,q,st,hb2,r3,r31,r38,r34,r14,r6⟩;refine WO_e (W_if i ?_ ?_)
            ·intro A i;refine W_sr (qAc 1 [(6,vB false)] (qAs rfl ?_));have st:=st.f4.t.f4.t.f4.t;refine qAe (qBc (qAb (qAg (qAb ?_))));cases i;have ho:=hBu2 _ rfl;subst ho;have i:=j2;refine qAb (qAg (qAb ?_));cases i;exact X_rt [6] [vB false] ⟨m51,rfl,q,st.t.t.t.t.t.t⟩
            ·intro A i;refine qAm (qAe (qAk (qFc [(6,fun w'=>Inv m51 w'∧True)] kr st fun w58 _ st=> ?_)));have hmS4:=m51.le_refl;refine tA st hmS4 ?_;refine qAn 0 176 (vP b3 0) (.head _) (qGt 63 5 2 178 0 (.agg (V5 p2.1.1 p2.1.2 p2.2.1 p2.2.2.1 p2.2.2.2.1 p2.2.2.2.2.1.1 p2.2.2.2.2.1.2.1 p2.2.2.2.2.1.2.2 p2.2.2.2.2.2.1 a3 p2.2.2.2.2.2.2 c3)) (.head _) (fun _ h=>h.1) hb2 (qLe [1,3] kr (by simp) (qLb ?_ ?_)))
             ·refine qCd 177 i (fun _ h=>qFv (p0:=y13.1) st r38 h) ?_;rintro y23 i _ w59 ⟨a32,c32,a33,c33,m53,rfl,e44,st,r48,r49⟩;refine⟨_,rfl,?_⟩;have r3:=r3.mono e44;have hmS4:=Mem.le_trans hmS4 e44;refine tA st hmS4 ?_;refine qBi 3 kr (qAo (d:=179) (t:=64) (e:=63) (len:=1) (parts:= #[(0,(.tmp 178))]) C4 (xs:=[(p2.1,p2.2.1,p2.2.2.1,p2.2.2.2.1,p2.2.2.2.2.1,p2.2.2.2.2.2.1,p2.2.2.2.2.2.2)]) (V6 p2.1.1 p2.1.2 p2.2.1 p2.2.2.1 p2.2.2.2.1 p2.2.2.2.2.1.1 p2.2.2.2.2.1.2.1 p2.2.2.2.2.1.2.2 p2.2.2.2.2.2.1 a3 p2.2.2.2.2.2.2 c3) kr rfl (fun _=>qAq kr _) rfl rfl st ⟨(V6 p2.1.1 p2.1.2 p2.2.1 p2.2.2.1 p2.2.2.2.1 p2.2.2.2.2.1.1 p2.2.2.2.2.1.2.1 p2.2.2.2.2.1.2.2 p2.2.2.2.2.2.1 a3 p2.2.2.2.2.2.2 c3),_,rfl,⟨_,_,rfl,⟨_,_,rfl,rfl,rfl⟩,⟨_,_,rfl,rfl,⟨_,_,rfl,rfl,⟨_,_,rfl,rfl,⟨_,_,rfl,⟨_,_,rfl,rfl,⟨_,_,rfl,rfl,rfl⟩⟩,⟨_,_,rfl,rfl,(qJy r3)⟩⟩⟩⟩⟩⟩,rfl⟩ fun b15 m54 w60 e45 st r50=> ?_);have hmS4:=Mem.le_trans hmS4 e45;refine tA st hmS4 ?_;refine qBi 4 kr (qFn 180 64 64 63 112 177 179 st.f1 (.inl kr) (r49.mono e45) r50.src i fun l3 i a34 c34 m55 w61 e46 st r51=> ?_);have r3:=(r3.mono e45).mono e46;have r34:=((r34.mono e44).mono e45).mono e46;have r6:=((r6.mono e44).mono e45).mono e46;have hmS4:=Mem.le_trans hmS4 e46;refine tA st hmS4 ?_;refine qAn 5 23 (vS a34 l3 c34) (.head _) (qBp kr ?_);have st:=st.f1.t.f5.t.f5.t
              refine qAe (qAk (qFc [(11,fun w'=>Inv m55 w'∧Piece.holds m55 w' (kB b10 (V1 x4 a20 c20) 56)∧True)] kr st fun w62 _ st=> ?_));have hmS5:=m55.le_refl;refine⟨⟨.inr ⟨Inv.anti st.inv hmS5,Piece.holds_anti st.t.t.h hmS5,trivial⟩,trivial⟩,?_⟩;refine qFy 56 15 0 182 0 (.agg (V1 x4 a20 c20)) (.head _) (fun _ h=>h.2.1) (qAn 1 183 (vS a34 l3 c34) (.head _) ?_);have⟨x6,hx35,i⟩:=qAr i;refine qEk (t:=64) (e:=63) (x:=(.tmp 183)) (y:=(.const (vI 0))) 2 184 C4 kr rfl kr (.head _) (qAi (qBa (qAi (qAi (qBa (qAi qCg)))))) (ev (vS a34 l3 c34)) (ev (vI 0)) kr r51 hx35 ?_;rintro b16 f3 cs6 ⟨_,_,rfl,⟨_,_,rfl,rfl,rfl⟩,⟨_,_,rfl,rfl,⟨_,_,rfl,rfl,⟨_,_,rfl,rfl,⟨_,_,rfl,⟨_,_,rfl,rfl,⟨_,_,rfl,rfl,rfl⟩⟩,⟨_,_,rfl,rfl,⟨a35,c35,rfl,r52⟩⟩⟩⟩⟩⟩⟩ hq3;refine qGt 63 184 3 185 f3 (.agg (V5 x6.1.1 x6.1.2 x6.2.1 x6.2.2.1 x6.2.2.2.1 x6.2.2.2.2.1.1 x6.2.2.2.2.1.2.1 x6.2.2.2.2.1.2.2 x6.2.2.2.2.2.1 a35 x6.2.2.2.2.2.2 c35)) (.head _) (fun _ h=>h.1) hq3 (qLe [4,8] kr (by simp) (qLb ?_ ?_))
              ·refine qCd 186 i (fun _ h=>qIr st r34 r52 h) ?_;rintro y24 i _ w63 ⟨a36,c36,m56,rfl,e47,st,r53⟩;refine⟨_,rfl,?_⟩;have q:=(((q.t e44).t e45).t e46).t e47;have hb2:=(((hb2.mono e44).mono e45).mono e46).mono e47;have r3:=r3.mono e47;have r31:=(((r31.mono e44).mono e45).mono e46).mono e47;have r34:=r34.mono e47;have r48:=((r48.mono e45).mono e46).mono e47;have r14:=(((r14.mono e44).mono e45).mono e46).mono e47;have r6:=r6.mono e47;have hmS5:=Mem.le_trans hmS5 e47;refine⟨⟨.inr ⟨Inv.anti st.inv hmS5,Piece.holds_anti st.t.t.t.h hmS5,trivial⟩,trivial⟩,?_⟩;refine qAn 5 181 (.tuple #[.agg (V1 y24.1 a36 c36),vI y24.2]) (.head _) (qAn 6 187 (.agg (V1 y24.1 a36 c36)) (.head _) (qAn 7 188 (vI y24.2) (.head _) (qBi 8 kr (qBv 24 56 (.agg #[v6,vI 0]) st fun b17 w64 st=>(⟨⟨.inr ⟨Inv.anti st.inv hmS5,Piece.holds_anti st.t.t.t.t.h hmS5,trivial⟩,trivial⟩,?_⟩)))));refine qBi 9 kr (qBm 56 24 187 (.agg (V1 y24.1 a36 c36)) st fun w65 st=>(⟨⟨.inr ⟨Inv.anti st.inv hmS5,Piece.holds_anti st.t.t.t.t.h hmS5,trivial⟩,trivial⟩,?_⟩));refine qAn 10 20 (vI y24.2) (.head _) (qBp kr (qAe (qAk (qFc [(11,fun w'=>Inv m56 w'∧Piece.holds m56 w' (kB b10 (V1 x4 a20 c20) 56)∧True)] kr st fun w66 _ st=> ?_))));have hmS6:=m56.le_refl;refine⟨⟨.inr ⟨Inv.anti st.inv hmS6,Piece.holds_anti st.t.t.t.t.h hmS6,trivial⟩,trivial⟩,?_⟩
               refine qFy 56 15 0 190 0 (.agg (V1 x4 a20 c20)) (.head _) (fun _ h=>h.2.1) (qAn 1 191 (vS a34 l3 c34) (.head _) ?_);have⟨x7,hx37,i⟩:=qAr i;refine qEk (t:=64) (e:=63) (x:=(.tmp 191)) (y:=(.const (vI 0))) 2 192 C4 kr rfl kr (.head _) (qAi (qBa (qAi (qAi (qBa (qAi qCg)))))) (ev (vS a34 l3 c34)) (ev (vI 0)) kr (r51.mono e47) hx37 ?_;rintro b18 f4 cs7 ⟨_,_,rfl,⟨_,_,rfl,rfl,rfl⟩,⟨_,_,rfl,rfl,⟨_,_,rfl,rfl,⟨_,_,rfl,rfl,⟨_,_,rfl,⟨_,_,rfl,rfl,⟨_,_,rfl,rfl,rfl⟩⟩,⟨_,_,rfl,rfl,⟨a37,c37,rfl,r54⟩⟩⟩⟩⟩⟩⟩ hq4;refine qGt 63 192 3 193 f4 (.agg (V5 x7.1.1 x7.1.2 x7.2.1 x7.2.2.1 x7.2.2.2.1 x7.2.2.2.2.1.1 x7.2.2.2.2.1.2.1 x7.2.2.2.2.1.2.2 x7.2.2.2.2.2.1 a37 x7.2.2.2.2.2.2 c37)) (.head _) (fun _ h=>h.1) hq4 (qLe [4,8] kr (by simp) (qLb ?_ ?_))
               ·refine qCd 194 i (fun _ h=>qCc st r34 r54 h) ?_;rintro y25 i _ w67 ⟨a38,c38,m57,rfl,e48,st,r55⟩;refine⟨_,rfl,?_⟩;have r3:=r3.mono e48;have r53:=r53.mono e48;have r6:=r6.mono e48;have hmS6:=Mem.le_trans hmS6 e48;refine⟨⟨.inr ⟨Inv.anti st.inv hmS6,Piece.holds_anti st.t.t.t.t.t.h hmS6,trivial⟩,trivial⟩,?_⟩;refine qAn 5 189 (.tuple #[.agg (V1 y25.1 a38 c38),vI y25.2]) (.head _) (qAn 6 195 (.agg (V1 y25.1 a38 c38)) (.head _) (qAn 7 196 (vI y25.2) (.head _) (qBi 8 kr (qBv 25 56 (.agg #[v6,vI 0]) st fun b19 w68 st=>(⟨⟨.inr ⟨Inv.anti st.inv hmS6,Piece.holds_anti st.t.t.t.t.t.t.h hmS6,trivial⟩,trivial⟩,?_⟩)))));refine qBi 9 kr (qBm 56 25 195 (.agg (V1 y25.1 a38 c38)) st fun w69 st=>(⟨⟨.inr ⟨Inv.anti st.inv hmS6,Piece.holds_anti st.t.t.t.t.t.t.h hmS6,trivial⟩,trivial⟩,?_⟩));refine qAn 10 22 (vI y25.2) (.head _) (qBp kr ?_);have st:=st.f4.t;refine qAe (W_sr ?_);have⟨o8,i,J⟩:=qAr i
                refine qDy (j:=9) (fun L' w'=>∃m58,L'=[(5,vP b2 0),(7,vP b3 0),(97,vS (aP b8) ([(o2.1.1,o2.1.2),(p1.1,p1.2)]) 2),(98,vI (List.length ([(o2.1.1,o2.1.2),(p1.1,p1.2)]):Int)),(99,vI s1.1),(205,vB o8)]∧m.le m58∧St m58 (kB b19 (V1 y25.1 a38 c38) 56::kB b17 (V1 y24.1 a36 c36) 56::kB b3 (V1 y23.1 a32 c32) 28::kB b10 (V1 x4 a20 c20) 56::kB b5 (V1 o2.1 a9 c9) 56::kB b4 (V1 y2.1 a6 c6) 56::kR a38 y25.1.1 c38 71 4::kR a36 y24.1.1 c36 71 4::kR (aP b8) ([(o2.1.1,o2.1.2),(p1.1,p1.2)]) 2 56 2::kR a6 y2.1.1 c6 71 4::kR a9 o2.1.1 c9 71 4::O) w'∧MRow m58 b2 0 (V6 p2.1.1 p2.1.2 p2.2.1 p2.2.2.1 p2.2.2.2.1 p2.2.2.2.2.1.1 p2.2.2.2.2.1.2.1 p2.2.2.2.2.1.2.2 p2.2.2.2.2.2.1 a3 p2.2.2.2.2.2.2 c3)∧RepS C3 m58 a3 c3 p2.2.2.2.2.2.2∧RepS C6 m58 (aP b8) 2 ([(o2.1.1,o2.1.2),(p1.1,p1.2)])∧RepS C5 m58 a38 c38 y25.1.1∧RepS C5 m58 a36 c36 y24.1.1∧RepS (cInt .i64) m58 a32 c32 y23.1.1∧RepS C5 m58 a20 c20 x4.1∧RepS C5 m58 a9 c9 o2.1.1∧RepS C5 m58 a6 c6 y2.1.1) ?_ ?_
                ·have i:=J;rintro _ w70 ⟨m58,rfl,q,st,hb2,r3,r31,r55,r53,r48,r34,r14,r6⟩;refine WO_e (W_if i ?_ ?_)
                 ·intro A i;refine W_sr (qAc 1 [(6,vB false)] (qAs rfl ?_));have st:=st.f8.t;refine qAe (qBc (qAg (qAb ?_)));cases i;have ho:=hBu2 _ rfl;subst ho;have i:=j2;refine qAb (qAg (qAb ?_));cases i;exact X_rt [6] [vB false] ⟨m58,rfl,q,st.t.t.t.t.t.t.t.t.t.t⟩
                 ·intro A i;refine qAm (qAz (qAe (qAj (qAc 2 [(99,vI (wr (s1.1+1)))] (qAs rfl ?_)))));obtain rfl:=sI i;have hL:=hSu2 _ rfl;exact xE (qBh k1 (jA _) ⟨(wr (s1.1+1),y23.1.1,y23.1.2),a32,c32,m58,hL,rfl,q,st.t.t.f1.t.f3.t.f3.t.f5.f5.f5.f3.f5.f5,hb2,r3,r31,r14,r6,r48⟩)
                ·intro K;refine qAc 4 [(200,vB (y24.2 !=y25.2))] (qEe 200 i ?_ ?_)
                 ·intro A i;refine qAc 5 [(205,vB true)] ?_;cases i;exact qBf _ kr (K _ _ ⟨m57,rfl,q.t e48,st.f10.f10.f10.f6.f5.f10.f10.f10.f10.f10.f10,hb2.mono e48,r3,r31.mono e48,r55,r53,r48.mono e48,r34.mono e48,r14.mono e48,r6⟩)
                 ·intro A i;refine qAa rfl (qBk 201 56 24 0 (.agg (V1 y24.1 a36 c36)) st.t.t.h (qAa rfl (qBk 202 56 25 0 (.agg (V1 y25.1 a38 c38)) st.h (qAy 203 i (fun _ h=>qBs st r53 r55 h) ?_))));rintro y26 i _ w71 ⟨m59,rfl,e49,st⟩;refine qAc 2 [(205,vB (!y26))] ?_;cases i;exact qBf _ kr (K _ _ ⟨m59,rfl,(q.t e48).t e49,st.f10.f10.f10.f6.f5.f10.f10.f10.f10.f10.f10,(hb2.mono e48).mono e49,r3.mono e49,(r31.mono e48).mono e49,r55.mono e49,r53.mono e49,(r48.mono e48).mono e49,(r34.mono e48).mono e49,(r14.mono e48).mono e49,r6.mono e49⟩)
               ·refine qBv 25 56 (.agg #[v6,vI 0]) st fun b19 w67 st=> ?_;refine⟨⟨.inr ⟨Inv.anti st.inv hmS6,Piece.holds_anti st.t.t.t.t.t.h hmS6,trivial⟩,trivial⟩,?_⟩;refine qBi 4 kr (qCd 194 i (fun _ h=>qCc st r34 r54 h) ?_);rintro y25 i _ w68 ⟨a38,c38,m57,rfl,e48,st,r55⟩;refine⟨_,rfl,?_⟩;have r3:=r3.mono e48;have r53:=r53.mono e48;have r6:=r6.mono e48;have hmS6:=Mem.le_trans hmS6 e48;refine⟨⟨.inr ⟨Inv.anti st.inv hmS6,Piece.holds_anti st.t.t.t.t.t.t.h hmS6,trivial⟩,trivial⟩,?_⟩;refine qAn 5 189 (.tuple #[.agg (V1 y25.1 a38 c38),vI y25.2]) (.head _) (qAn 6 195 (.agg (V1 y25.1 a38 c38)) (.head _) (qAn 7 196 (vI y25.2) (.head _) (qBi 9 kr (qBm 56 25 195 (.agg (V1 y25.1 a38 c38)) st.f1 fun w69 st=>(⟨⟨.inr ⟨Inv.anti st.inv hmS6,Piece.holds_anti st.t.t.t.t.t.t.h hmS6,trivial⟩,trivial⟩,?_⟩)))));refine qAn 10 22 (vI y25.2) (.head _) (qBp kr ?_);have st:=st.f4.t;refine qAe (W_sr ?_);have⟨o8,i,J⟩:=qAr i
                refine qDy (j:=9) (fun L' w'=>∃m58,L'=[(5,vP b2 0),(7,vP b3 0),(97,vS (aP b8) ([(o2.1.1,o2.1.2),(p1.1,p1.2)]) 2),(98,vI (List.length ([(o2.1.1,o2.1.2),(p1.1,p1.2)]):Int)),(99,vI s1.1),(205,vB o8)]∧m.le m58∧St m58 (kB b19 (V1 y25.1 a38 c38) 56::kB b17 (V1 y24.1 a36 c36) 56::kB b3 (V1 y23.1 a32 c32) 28::kB b10 (V1 x4 a20 c20) 56::kB b5 (V1 o2.1 a9 c9) 56::kB b4 (V1 y2.1 a6 c6) 56::kR a38 y25.1.1 c38 71 4::kR a36 y24.1.1 c36 71 4::kR (aP b8) ([(o2.1.1,o2.1.2),(p1.1,p1.2)]) 2 56 2::kR a6 y2.1.1 c6 71 4::kR a9 o2.1.1 c9 71 4::O) w'∧MRow m58 b2 0 (V6 p2.1.1 p2.1.2 p2.2.1 p2.2.2.1 p2.2.2.2.1 p2.2.2.2.2.1.1 p2.2.2.2.2.1.2.1 p2.2.2.2.2.1.2.2 p2.2.2.2.2.2.1 a3 p2.2.2.2.2.2.2 c3)∧RepS C3 m58 a3 c3 p2.2.2.2.2.2.2∧RepS C6 m58 (aP b8) 2 ([(o2.1.1,o2.1.2),(p1.1,p1.2)])∧RepS C5 m58 a38 c38 y25.1.1∧RepS C5 m58 a36 c36 y24.1.1∧RepS (cInt .i64) m58 a32 c32 y23.1.1∧RepS C5 m58 a20 c20 x4.1∧RepS C5 m58 a9 c9 o2.1.1∧RepS C5 m58 a6 c6 y2.1.1) ?_ ?_
                ·have i:=J;rintro _ w70 ⟨m58,rfl,q,st,hb2,r3,r31,r55,r53,r48,r34,r14,r6⟩;refine WO_e (W_if i ?_ ?_)
                 ·intro A i;refine W_sr (qAc 1 [(6,vB false)] (qAs rfl ?_));have st:=st.f8.t;refine qAe (qBc (qAg (qAb ?_)));cases i;have ho:=hBu2 _ rfl;subst ho;have i:=j2;refine qAb (qAg (qAb ?_));cases i;exact X_rt [6] [vB false] ⟨m58,rfl,q,st.t.t.t.t.t.t.t.t.t.t⟩
                 ·intro A i;refine qAm (qAz (qAe (qAj (qAc 2 [(99,vI (wr (s1.1+1)))] (qAs rfl ?_)))));obtain rfl:=sI i;have hL:=hSu2 _ rfl;exact xE (qBh k1 (jA _) ⟨(wr (s1.1+1),y23.1.1,y23.1.2),a32,c32,m58,hL,rfl,q,st.t.t.f1.t.f3.t.f3.t.f5.f5.f5.f3.f5.f5,hb2,r3,r31,r14,r6,r48⟩)
                ·intro K;refine qAc 4 [(200,vB (y24.2 !=y25.2))] (qEe 200 i ?_ ?_)
                 ·intro A i;refine qAc 5 [(205,vB true)] ?_;cases i;exact qBf _ kr (K _ _ ⟨m57,rfl,q.t e48,st.f10.f10.f10.f6.f5.f10.f10.f10.f10.f10.f10,hb2.mono e48,r3,r31.mono e48,r55,r53,r48.mono e48,r34.mono e48,r14.mono e48,r6⟩)
                 ·intro A i;refine qAa rfl (qBk 201 56 24 0 (.agg (V1 y24.1 a36 c36)) st.t.t.h (qAa rfl (qBk 202 56 25 0 (.agg (V1 y25.1 a38 c38)) st.h (qAy 203 i (fun _ h=>qBs st r53 r55 h) ?_))));rintro y26 i _ w71 ⟨m59,rfl,e49,st⟩;refine qAc 2 [(205,vB (!y26))] ?_;cases i;exact qBf _ kr (K _ _ ⟨m59,rfl,(q.t e48).t e49,st.f10.f10.f10.f6.f5.f10.f10.f10.f10.f10.f10,(hb2.mono e48).mono e49,r3.mono e49,(r31.mono e48).mono e49,r55.mono e49,r53.mono e49,(r48.mono e48).mono e49,(r34.mono e48).mono e49,(r14.mono e48).mono e49,r6.mono e49⟩)
              ·refine qBv 24 56 (.agg #[v6,vI 0]) st fun b17 w63 st=> ?_;refine⟨⟨.inr ⟨Inv.anti st.inv hmS5,Piece.holds_anti st.t.t.t.h hmS5,trivial⟩,trivial⟩,?_⟩;refine qBi 4 kr (qCd 186 i (fun _ h=>qIr st r34 r52 h) ?_);rintro y24 i _ w64 ⟨a36,c36,m56,rfl,e47,st,r53⟩;refine⟨_,rfl,?_⟩;have q:=(((q.t e44).t e45).t e46).t e47;have hb2:=(((hb2.mono e44).mono e45).mono e46).mono e47;have r3:=r3.mono e47;have r31:=(((r31.mono e44).mono e45).mono e46).mono e47;have r34:=r34.mono e47;have r48:=((r48.mono e45).mono e46).mono e47;have r14:=(((r14.mono e44).mono e45).mono e46).mono e47;have r6:=r6.mono e47;have hmS5:=Mem.le_trans hmS5 e47;refine⟨⟨.inr ⟨Inv.anti st.inv hmS5,Piece.holds_anti st.t.t.t.t.h hmS5,trivial⟩,trivial⟩,?_⟩;refine qAn 5 181 (.tuple #[.agg (V1 y24.1 a36 c36),vI y24.2]) (.head _) (qAn 6 187 (.agg (V1 y24.1 a36 c36)) (.head _) (qAn 7 188 (vI y24.2) (.head _) (qBi 9 kr (qBm 56 24 187 (.agg (V1 y24.1 a36 c36)) st.f1 fun w65 st=>(⟨⟨.inr ⟨Inv.anti st.inv hmS5,Piece.holds_anti st.t.t.t.t.h hmS5,trivial⟩,trivial⟩,?_⟩)))));refine qAn 10 20 (vI y24.2) (.head _) (qBp kr (qAe (qAk (qFc [(11,fun w'=>Inv m56 w'∧Piece.holds m56 w' (kB b10 (V1 x4 a20 c20) 56)∧True)] kr st fun w66 _ st=> ?_))));have hmS6:=m56.le_refl;refine⟨⟨.inr ⟨Inv.anti st.inv hmS6,Piece.holds_anti st.t.t.t.t.h hmS6,trivial⟩,trivial⟩,?_⟩
               refine qFy 56 15 0 190 0 (.agg (V1 x4 a20 c20)) (.head _) (fun _ h=>h.2.1) (qAn 1 191 (vS a34 l3 c34) (.head _) ?_);have⟨x7,hx37,i⟩:=qAr i;refine qEk (t:=64) (e:=63) (x:=(.tmp 191)) (y:=(.const (vI 0))) 2 192 C4 kr rfl kr (.head _) (qAi (qBa (qAi (qAi (qBa (qAi qCg)))))) (ev (vS a34 l3 c34)) (ev (vI 0)) kr (r51.mono e47) hx37 ?_;rintro b18 f4 cs7 ⟨_,_,rfl,⟨_,_,rfl,rfl,rfl⟩,⟨_,_,rfl,rfl,⟨_,_,rfl,rfl,⟨_,_,rfl,rfl,⟨_,_,rfl,⟨_,_,rfl,rfl,⟨_,_,rfl,rfl,rfl⟩⟩,⟨_,_,rfl,rfl,⟨a37,c37,rfl,r54⟩⟩⟩⟩⟩⟩⟩ hq4;refine qGt 63 192 3 193 f4 (.agg (V5 x7.1.1 x7.1.2 x7.2.1 x7.2.2.1 x7.2.2.2.1 x7.2.2.2.2.1.1 x7.2.2.2.2.1.2.1 x7.2.2.2.2.1.2.2 x7.2.2.2.2.2.1 a37 x7.2.2.2.2.2.2 c37)) (.head _) (fun _ h=>h.1) hq4 (qLe [4,8] kr (by simp) (qLb ?_ ?_))
               ·refine qCd 194 i (fun _ h=>qCc st r34 r54 h) ?_;rintro y25 i _ w67 ⟨a38,c38,m57,rfl,e48,st,r55⟩;refine⟨_,rfl,?_⟩;have r3:=r3.mono e48;have r53:=r53.mono e48;have r6:=r6.mono e48;have hmS6:=Mem.le_trans hmS6 e48;refine⟨⟨.inr ⟨Inv.anti st.inv hmS6,Piece.holds_anti st.t.t.t.t.t.h hmS6,trivial⟩,trivial⟩,?_⟩;refine qAn 5 189 (.tuple #[.agg (V1 y25.1 a38 c38),vI y25.2]) (.head _) (qAn 6 195 (.agg (V1 y25.1 a38 c38)) (.head _) (qAn 7 196 (vI y25.2) (.head _) (qBi 8 kr (qBv 25 56 (.agg #[v6,vI 0]) st fun b19 w68 st=>(⟨⟨.inr ⟨Inv.anti st.inv hmS6,Piece.holds_anti st.t.t.t.t.t.t.h hmS6,trivial⟩,trivial⟩,?_⟩)))));refine qBi 9 kr (qBm 56 25 195 (.agg (V1 y25.1 a38 c38)) st fun w69 st=>(⟨⟨.inr ⟨Inv.anti st.inv hmS6,Piece.holds_anti st.t.t.t.t.t.t.h hmS6,trivial⟩,trivial⟩,?_⟩));refine qAn 10 22 (vI y25.2) (.head _) (qBp kr ?_);have st:=st.f4.t;refine qAe (W_sr ?_);have⟨o8,i,J⟩:=qAr i
                refine qDy (j:=9) (fun L' w'=>∃m58,L'=[(5,vP b2 0),(7,vP b3 0),(97,vS (aP b8) ([(o2.1.1,o2.1.2),(p1.1,p1.2)]) 2),(98,vI (List.length ([(o2.1.1,o2.1.2),(p1.1,p1.2)]):Int)),(99,vI s1.1),(205,vB o8)]∧m.le m58∧St m58 (kB b19 (V1 y25.1 a38 c38) 56::kB b17 (V1 y24.1 a36 c36) 56::kB b3 (V1 y23.1 a32 c32) 28::kB b10 (V1 x4 a20 c20) 56::kB b5 (V1 o2.1 a9 c9) 56::kB b4 (V1 y2.1 a6 c6) 56::kR a38 y25.1.1 c38 71 4::kR a36 y24.1.1 c36 71 4::kR (aP b8) ([(o2.1.1,o2.1.2),(p1.1,p1.2)]) 2 56 2::kR a6 y2.1.1 c6 71 4::kR a9 o2.1.1 c9 71 4::O) w'∧MRow m58 b2 0 (V6 p2.1.1 p2.1.2 p2.2.1 p2.2.2.1 p2.2.2.2.1 p2.2.2.2.2.1.1 p2.2.2.2.2.1.2.1 p2.2.2.2.2.1.2.2 p2.2.2.2.2.2.1 a3 p2.2.2.2.2.2.2 c3)∧RepS C3 m58 a3 c3 p2.2.2.2.2.2.2∧RepS C6 m58 (aP b8) 2 ([(o2.1.1,o2.1.2),(p1.1,p1.2)])∧RepS C5 m58 a38 c38 y25.1.1∧RepS C5 m58 a36 c36 y24.1.1∧RepS (cInt .i64) m58 a32 c32 y23.1.1∧RepS C5 m58 a20 c20 x4.1∧RepS C5 m58 a9 c9 o2.1.1∧RepS C5 m58 a6 c6 y2.1.1) ?_ ?_
                ·have i:=J;rintro _ w70 ⟨m58,rfl,q,st,hb2,r3,r31,r55,r53,r48,r34,r14,r6⟩;refine WO_e (W_if i ?_ ?_)
                 ·intro A i;refine W_sr (qAc 1 [(6,vB false)] (qAs rfl ?_));have st:=st.f8.t;refine qAe (qBc (qAg (qAb ?_)));cases i;have ho:=hBu2 _ rfl;subst ho;have i:=j2;refine qAb (qAg (qAb ?_));cases i;exact X_rt [6] [vB false] ⟨m58,rfl,q,st.t.t.t.t.t.t.t.t.t.t⟩
                 ·intro A i;refine qAm (qAz (qAe (qAj (qAc 2 [(99,vI (wr (s1.1+1)))] (qAs rfl ?_)))));obtain rfl:=sI i;have hL:=hSu2 _ rfl;exact xE (qBh k1 (jA _) ⟨(wr (s1.1+1),y23.1.1,y23.1.2),a32,c32,m58,hL,rfl,q,st.t.t.f1.t.f3.t.f3.t.f5.f5.f5.f3.f5.f5,hb2,r3,r31,r14,r6,r48⟩)
                ·intro K;refine qAc 4 [(200,vB (y24.2 !=y25.2))] (qEe 200 i ?_ ?_)
                 ·intro A i;refine qAc 5 [(205,vB true)] ?_;cases i;exact qBf _ kr (K _ _ ⟨m57,rfl,q.t e48,st.f10.f10.f10.f6.f5.f10.f10.f10.f10.f10.f10,hb2.mono e48,r3,r31.mono e48,r55,r53,r48.mono e48,r34.mono e48,r14.mono e48,r6⟩)
                 ·intro A i;refine qAa rfl (qBk 201 56 24 0 (.agg (V1 y24.1 a36 c36)) st.t.t.h (qAa rfl (qBk 202 56 25 0 (.agg (V1 y25.1 a38 c38)) st.h (qAy 203 i (fun _ h=>qBs st r53 r55 h) ?_))));rintro y26 i _ w71 ⟨m59,rfl,e49,st⟩;refine qAc 2 [(205,vB (!y26))] ?_;cases i;exact qBf _ kr (K _ _ ⟨m59,rfl,(q.t e48).t e49,st.f10.f10.f10.f6.f5.f10.f10.f10.f10.f10.f10,(hb2.mono e48).mono e49,r3.mono e49,(r31.mono e48).mono e49,r55.mono e49,r53.mono e49,(r48.mono e48).mono e49,(r34.mono e48).mono e49,(r14.mono e48).mono e49,r6.mono e49⟩)
               ·refine qBv 25 56 (.agg #[v6,vI 0]) st fun b19 w67 st=> ?_;refine⟨⟨.inr ⟨Inv.anti st.inv hmS6,Piece.holds_anti st.t.t.t.t.t.h hmS6,trivial⟩,trivial⟩,?_⟩;refine qBi 4 kr (qCd 194 i (fun _ h=>qCc st r34 r54 h) ?_);rintro y25 i _ w68 ⟨a38,c38,m57,rfl,e48,st,r55⟩;refine⟨_,rfl,?_⟩;have r3:=r3.mono e48;have r53:=r53.mono e48;have r6:=r6.mono e48;have hmS6:=Mem.le_trans hmS6 e48;refine⟨⟨.inr ⟨Inv.anti st.inv hmS6,Piece.holds_anti st.t.t.t.t.t.t.h hmS6,trivial⟩,trivial⟩,?_⟩;refine qAn 5 189 (.tuple #[.agg (V1 y25.1 a38 c38),vI y25.2]) (.head _) (qAn 6 195 (.agg (V1 y25.1 a38 c38)) (.head _) (qAn 7 196 (vI y25.2) (.head _) (qBi 9 kr (qBm 56 25 195 (.agg (V1 y25.1 a38 c38)) st.f1 fun w69 st=>(⟨⟨.inr ⟨Inv.anti st.inv hmS6,Piece.holds_anti st.t.t.t.t.t.t.h hmS6,trivial⟩,trivial⟩,?_⟩)))));refine qAn 10 22 (vI y25.2) (.head _) (qBp kr ?_);have st:=st.f4.t;refine qAe (W_sr ?_);have⟨o8,i,J⟩:=qAr i
                refine qDy (j:=9) (fun L' w'=>∃m58,L'=[(5,vP b2 0),(7,vP b3 0),(97,vS (aP b8) ([(o2.1.1,o2.1.2),(p1.1,p1.2)]) 2),(98,vI (List.length ([(o2.1.1,o2.1.2),(p1.1,p1.2)]):Int)),(99,vI s1.1),(205,vB o8)]∧m.le m58∧St m58 (kB b19 (V1 y25.1 a38 c38) 56::kB b17 (V1 y24.1 a36 c36) 56::kB b3 (V1 y23.1 a32 c32) 28::kB b10 (V1 x4 a20 c20) 56::kB b5 (V1 o2.1 a9 c9) 56::kB b4 (V1 y2.1 a6 c6) 56::kR a38 y25.1.1 c38 71 4::kR a36 y24.1.1 c36 71 4::kR (aP b8) ([(o2.1.1,o2.1.2),(p1.1,p1.2)]) 2 56 2::kR a6 y2.1.1 c6 71 4::kR a9 o2.1.1 c9 71 4::O) w'∧MRow m58 b2 0 (V6 p2.1.1 p2.1.2 p2.2.1 p2.2.2.1 p2.2.2.2.1 p2.2.2.2.2.1.1 p2.2.2.2.2.1.2.1 p2.2.2.2.2.1.2.2 p2.2.2.2.2.2.1 a3 p2.2.2.2.2.2.2 c3)∧RepS C3 m58 a3 c3 p2.2.2.2.2.2.2∧RepS C6 m58 (aP b8) 2 ([(o2.1.1,o2.1.2),(p1.1,p1.2)])∧RepS C5 m58 a38 c38 y25.1.1∧RepS C5 m58 a36 c36 y24.1.1∧RepS (cInt .i64) m58 a32 c32 y23.1.1∧RepS C5 m58 a20 c20 x4.1∧RepS C5 m58 a9 c9 o2.1.1∧RepS C5 m58 a6 c6 y2.1.1) ?_ ?_
                ·have i:=J;rintro _ w70 ⟨m58,rfl,q,st,hb2,r3,r31,r55,r53,r48,r34,r14,r6⟩;refine WO_e (W_if i ?_ ?_)
                 ·intro A i;refine W_sr (qAc 1 [(6,vB false)] (qAs rfl ?_));have st:=st.f8.t;refine qAe (qBc (qAg (qAb ?_)));cases i;have ho:=hBu2 _ rfl;subst ho;have i:=j2;refine qAb (qAg (qAb ?_));cases i;exact X_rt [6] [vB false] ⟨m58,rfl,q,st.t.t.t.t.t.t.t.t.t.t⟩
                 ·intro A i;refine qAm (qAz (qAe (qAj (qAc 2 [(99,vI (wr (s1.1+1)))] (qAs rfl ?_)))));obtain rfl:=sI i;have hL:=hSu2 _ rfl;exact xE (qBh k1 (jA _) ⟨(wr (s1.1+1),y23.1.1,y23.1.2),a32,c32,m58,hL,rfl,q,st.t.t.f1.t.f3.t.f3.t.f5.f5.f5.f3.f5.f5,hb2,r3,r31,r14,r6,r48⟩)
                ·intro K;refine qAc 4 [(200,vB (y24.2 !=y25.2))] (qEe 200 i ?_ ?_)
                 ·intro A i;refine qAc 5 [(205,vB true)] ?_;cases i;exact qBf _ kr (K _ _ ⟨m57,rfl,q.t e48,st.f10.f10.f10.f6.f5.f10.f10.f10.f10.f10.f10,hb2.mono e48,r3,r31.mono e48,r55,r53,r48.mono e48,r34.mono e48,r14.mono e48,r6⟩)
                 ·intro A i;refine qAa rfl (qBk 201 56 24 0 (.agg (V1 y24.1 a36 c36)) st.t.t.h (qAa rfl (qBk 202 56 25 0 (.agg (V1 y25.1 a38 c38)) st.h (qAy 203 i (fun _ h=>qBs st r53 r55 h) ?_))));rintro y26 i _ w71 ⟨m59,rfl,e49,st⟩;refine qAc 2 [(205,vB (!y26))] ?_;cases i;exact qBf _ kr (K _ _ ⟨m59,rfl,(q.t e48).t e49,st.f10.f10.f10.f6.f5.f10.f10.f10.f10.f10.f10,(hb2.mono e48).mono e49,r3.mono e49,(r31.mono e48).mono e49,r55.mono e49,r53.mono e49,(r48.mono e48).mono e49,(r34.mono e48).mono e49,(r14.mono e48).mono e49,r6.mono e49⟩)
             ·refine qAo (d:=179) (t:=64) (e:=63) (len:=1) (parts:= #[(0,(.tmp 178))]) C4 (xs:=[(p2.1,p2.2.1,p2.2.2.1,p2.2.2.2.1,p2.2.2.2.2.1,p2.2.2.2.2.2.1,p2.2.2.2.2.2.2)]) (V6 p2.1.1 p2.1.2 p2.2.1 p2.2.2.1 p2.2.2.2.1 p2.2.2.2.2.1.1 p2.2.2.2.2.1.2.1 p2.2.2.2.2.1.2.2 p2.2.2.2.2.2.1 a3 p2.2.2.2.2.2.2 c3) kr rfl (fun _=>qAq kr _) rfl rfl st ⟨(V6 p2.1.1 p2.1.2 p2.2.1 p2.2.2.1 p2.2.2.2.1 p2.2.2.2.2.1.1 p2.2.2.2.2.1.2.1 p2.2.2.2.2.1.2.2 p2.2.2.2.2.2.1 a3 p2.2.2.2.2.2.2 c3),_,rfl,⟨_,_,rfl,⟨_,_,rfl,rfl,rfl⟩,⟨_,_,rfl,rfl,⟨_,_,rfl,rfl,⟨_,_,rfl,rfl,⟨_,_,rfl,⟨_,_,rfl,rfl,⟨_,_,rfl,rfl,rfl⟩⟩,⟨_,_,rfl,rfl,(qJy r3)⟩⟩⟩⟩⟩⟩,rfl⟩ fun b15 m53 w59 e44 st r48=> ?_;have hmS4:=Mem.le_trans hmS4 e44;refine tA st hmS4 ?_;refine qBi 1 kr (qCd 177 i (fun _ h=>qFv (p0:=y13.1) st.f1 (r38.mono e44) h) ?_);rintro y23 i _ w60 ⟨a32,c32,a33,c33,m54,rfl,e45,st,r49,r50⟩;refine⟨_,rfl,?_⟩;have hmS4:=Mem.le_trans hmS4 e45;refine tA st hmS4 ?_;refine qBi 4 kr (qFn 180 64 64 63 112 177 179 st (.inl kr) r50 (r48.mono e45).src i fun l3 i a34 c34 m55 w61 e46 st r51=> ?_);have r3:=((r3.mono e44).mono e45).mono e46;have r34:=((r34.mono e44).mono e45).mono e46;have r6:=((r6.mono e44).mono e45).mono e46;have hmS4:=Mem.le_trans hmS4 e46;refine tA st hmS4 ?_;refine qAn 5 23 (vS a34 l3 c34) (.head _) (qBp kr ?_);have st:=st.f2.t.f5.t.f5.t
              refine qAe (qAk (qFc [(11,fun w'=>Inv m55 w'∧Piece.holds m55 w' (kB b10 (V1 x4 a20 c20) 56)∧True)] kr st fun w62 _ st=> ?_));have hmS5:=m55.le_refl;refine⟨⟨.inr ⟨Inv.anti st.inv hmS5,Piece.holds_anti st.t.t.h hmS5,trivial⟩,trivial⟩,?_⟩;refine qFy 56 15 0 182 0 (.agg (V1 x4 a20 c20)) (.head _) (fun _ h=>h.2.1) (qAn 1 183 (vS a34 l3 c34) (.head _) ?_);have⟨x6,hx35,i⟩:=qAr i;refine qEk (t:=64) (e:=63) (x:=(.tmp 183)) (y:=(.const (vI 0))) 2 184 C4 kr rfl kr (.head _) (qAi (qBa (qAi (qAi (qBa (qAi qCg)))))) (ev (vS a34 l3 c34)) (ev (vI 0)) kr r51 hx35 ?_;rintro b16 f3 cs6 ⟨_,_,rfl,⟨_,_,rfl,rfl,rfl⟩,⟨_,_,rfl,rfl,⟨_,_,rfl,rfl,⟨_,_,rfl,rfl,⟨_,_,rfl,⟨_,_,rfl,rfl,⟨_,_,rfl,rfl,rfl⟩⟩,⟨_,_,rfl,rfl,⟨a35,c35,rfl,r52⟩⟩⟩⟩⟩⟩⟩ hq3;refine qGt 63 184 3 185 f3 (.agg (V5 x6.1.1 x6.1.2 x6.2.1 x6.2.2.1 x6.2.2.2.1 x6.2.2.2.2.1.1 x6.2.2.2.2.1.2.1 x6.2.2.2.2.1.2.2 x6.2.2.2.2.2.1 a35 x6.2.2.2.2.2.2 c35)) (.head _) (fun _ h=>h.1) hq3 (qLe [4,8] kr (by simp) (qLb ?_ ?_))
              ·refine qCd 186 i (fun _ h=>qIr st r34 r52 h) ?_;rintro y24 i _ w63 ⟨a36,c36,m56,rfl,e47,st,r53⟩;refine⟨_,rfl,?_⟩;have q:=(((q.t e44).t e45).t e46).t e47;have hb2:=(((hb2.mono e44).mono e45).mono e46).mono e47;have r3:=r3.mono e47;have r31:=(((r31.mono e44).mono e45).mono e46).mono e47;have r34:=r34.mono e47;have r49:=(r49.mono e46).mono e47;have r14:=(((r14.mono e44).mono e45).mono e46).mono e47;have r6:=r6.mono e47;have hmS5:=Mem.le_trans hmS5 e47;refine⟨⟨.inr ⟨Inv.anti st.inv hmS5,Piece.holds_anti st.t.t.t.h hmS5,trivial⟩,trivial⟩,?_⟩;refine qAn 5 181 (.tuple #[.agg (V1 y24.1 a36 c36),vI y24.2]) (.head _) (qAn 6 187 (.agg (V1 y24.1 a36 c36)) (.head _) (qAn 7 188 (vI y24.2) (.head _) (qBi 8 kr (qBv 24 56 (.agg #[v6,vI 0]) st fun b17 w64 st=>(⟨⟨.inr ⟨Inv.anti st.inv hmS5,Piece.holds_anti st.t.t.t.t.h hmS5,trivial⟩,trivial⟩,?_⟩)))));refine qBi 9 kr (qBm 56 24 187 (.agg (V1 y24.1 a36 c36)) st fun w65 st=>(⟨⟨.inr ⟨Inv.anti st.inv hmS5,Piece.holds_anti st.t.t.t.t.h hmS5,trivial⟩,trivial⟩,?_⟩));refine qAn 10 20 (vI y24.2) (.head _) (qBp kr (qAe (qAk (qFc [(11,fun w'=>Inv m56 w'∧Piece.holds m56 w' (kB b10 (V1 x4 a20 c20) 56)∧True)] kr st fun w66 _ st=> ?_))));have hmS6:=m56.le_refl;refine⟨⟨.inr ⟨Inv.anti st.inv hmS6,Piece.holds_anti st.t.t.t.t.h hmS6,trivial⟩,trivial⟩,?_⟩
               refine qFy 56 15 0 190 0 (.agg (V1 x4 a20 c20)) (.head _) (fun _ h=>h.2.1) (qAn 1 191 (vS a34 l3 c34) (.head _) ?_);have⟨x7,hx37,i⟩:=qAr i;refine qEk (t:=64) (e:=63) (x:=(.tmp 191)) (y:=(.const (vI 0))) 2 192 C4 kr rfl kr (.head _) (qAi (qBa (qAi (qAi (qBa (qAi qCg)))))) (ev (vS a34 l3 c34)) (ev (vI 0)) kr (r51.mono e47) hx37 ?_;rintro b18 f4 cs7 ⟨_,_,rfl,⟨_,_,rfl,rfl,rfl⟩,⟨_,_,rfl,rfl,⟨_,_,rfl,rfl,⟨_,_,rfl,rfl,⟨_,_,rfl,⟨_,_,rfl,rfl,⟨_,_,rfl,rfl,rfl⟩⟩,⟨_,_,rfl,rfl,⟨a37,c37,rfl,r54⟩⟩⟩⟩⟩⟩⟩ hq4;refine qGt 63 192 3 193 f4 (.agg (V5 x7.1.1 x7.1.2 x7.2.1 x7.2.2.1 x7.2.2.2.1 x7.2.2.2.2.1.1 x7.2.2.2.2.1.2.1 x7.2.2.2.2.1.2.2 x7.2.2.2.2.2.1 a37 x7.2.2.2.2.2.2 c37)) (.head _) (fun _ h=>h.1) hq4 (qLe [4,8] kr (by simp) (qLb ?_ ?_))
               ·refine qCd 194 i (fun _ h=>qCc st r34 r54 h) ?_;rintro y25 i _ w67 ⟨a38,c38,m57,rfl,e48,st,r55⟩;refine⟨_,rfl,?_⟩;have r3:=r3.mono e48;have r53:=r53.mono e48;have r6:=r6.mono e48;have hmS6:=Mem.le_trans hmS6 e48;refine⟨⟨.inr ⟨Inv.anti st.inv hmS6,Piece.holds_anti st.t.t.t.t.t.h hmS6,trivial⟩,trivial⟩,?_⟩;refine qAn 5 189 (.tuple #[.agg (V1 y25.1 a38 c38),vI y25.2]) (.head _) (qAn 6 195 (.agg (V1 y25.1 a38 c38)) (.head _) (qAn 7 196 (vI y25.2) (.head _) (qBi 8 kr (qBv 25 56 (.agg #[v6,vI 0]) st fun b19 w68 st=>(⟨⟨.inr ⟨Inv.anti st.inv hmS6,Piece.holds_anti st.t.t.t.t.t.t.h hmS6,trivial⟩,trivial⟩,?_⟩)))));refine qBi 9 kr (qBm 56 25 195 (.agg (V1 y25.1 a38 c38)) st fun w69 st=>(⟨⟨.inr ⟨Inv.anti st.inv hmS6,Piece.holds_anti st.t.t.t.t.t.t.h hmS6,trivial⟩,trivial⟩,?_⟩));refine qAn 10 22 (vI y25.2) (.head _) (qBp kr ?_);have st:=st.f4.t;refine qAe (W_sr ?_);have⟨o8,i,J⟩:=qAr i
                refine qDy (j:=9) (fun L' w'=>∃m58,L'=[(5,vP b2 0),(7,vP b3 0),(97,vS (aP b8) ([(o2.1.1,o2.1.2),(p1.1,p1.2)]) 2),(98,vI (List.length ([(o2.1.1,o2.1.2),(p1.1,p1.2)]):Int)),(99,vI s1.1),(205,vB o8)]∧m.le m58∧St m58 (kB b19 (V1 y25.1 a38 c38) 56::kB b17 (V1 y24.1 a36 c36) 56::kB b3 (V1 y23.1 a32 c32) 28::kB b10 (V1 x4 a20 c20) 56::kB b5 (V1 o2.1 a9 c9) 56::kB b4 (V1 y2.1 a6 c6) 56::kR a38 y25.1.1 c38 71 4::kR a36 y24.1.1 c36 71 4::kR (aP b8) ([(o2.1.1,o2.1.2),(p1.1,p1.2)]) 2 56 2::kR a6 y2.1.1 c6 71 4::kR a9 o2.1.1 c9 71 4::O) w'∧MRow m58 b2 0 (V6 p2.1.1 p2.1.2 p2.2.1 p2.2.2.1 p2.2.2.2.1 p2.2.2.2.2.1.1 p2.2.2.2.2.1.2.1 p2.2.2.2.2.1.2.2 p2.2.2.2.2.2.1 a3 p2.2.2.2.2.2.2 c3)∧RepS C3 m58 a3 c3 p2.2.2.2.2.2.2∧RepS C6 m58 (aP b8) 2 ([(o2.1.1,o2.1.2),(p1.1,p1.2)])∧RepS C5 m58 a38 c38 y25.1.1∧RepS C5 m58 a36 c36 y24.1.1∧RepS (cInt .i64) m58 a32 c32 y23.1.1∧RepS C5 m58 a20 c20 x4.1∧RepS C5 m58 a9 c9 o2.1.1∧RepS C5 m58 a6 c6 y2.1.1) ?_ ?_
                ·have i:=J;rintro _ w70 ⟨m58,rfl,q,st,hb2,r3,r31,r55,r53,r49,r34,r14,r6⟩;refine WO_e (W_if i ?_ ?_)
                 ·intro A i;refine W_sr (qAc 1 [(6,vB false)] (qAs rfl ?_));have st:=st.f8.t;refine qAe (qBc (qAg (qAb ?_)));cases i;have ho:=hBu2 _ rfl;subst ho;have i:=j2;refine qAb (qAg (qAb ?_));cases i;exact X_rt [6] [vB false] ⟨m58,rfl,q,st.t.t.t.t.t.t.t.t.t.t⟩
                 ·intro A i;refine qAm (qAz (qAe (qAj (qAc 2 [(99,vI (wr (s1.1+1)))] (qAs rfl ?_)))));obtain rfl:=sI i;have hL:=hSu2 _ rfl;exact xE (qBh k1 (jA _) ⟨(wr (s1.1+1),y23.1.1,y23.1.2),a32,c32,m58,hL,rfl,q,st.t.t.f1.t.f3.t.f3.t.f5.f5.f5.f3.f5.f5,hb2,r3,r31,r14,r6,r49⟩)
                ·intro K;refine qAc 4 [(200,vB (y24.2 !=y25.2))] (qEe 200 i ?_ ?_)
                 ·intro A i;refine qAc 5 [(205,vB true)] ?_;cases i;exact qBf _ kr (K _ _ ⟨m57,rfl,q.t e48,st.f10.f10.f10.f6.f5.f10.f10.f10.f10.f10.f10,hb2.mono e48,r3,r31.mono e48,r55,r53,r49.mono e48,r34.mono e48,r14.mono e48,r6⟩)
                 ·intro A i;refine qAa rfl (qBk 201 56 24 0 (.agg (V1 y24.1 a36 c36)) st.t.t.h (qAa rfl (qBk 202 56 25 0 (.agg (V1 y25.1 a38 c38)) st.h (qAy 203 i (fun _ h=>qBs st r53 r55 h) ?_))));rintro y26 i _ w71 ⟨m59,rfl,e49,st⟩;refine qAc 2 [(205,vB (!y26))] ?_;cases i;exact qBf _ kr (K _ _ ⟨m59,rfl,(q.t e48).t e49,st.f10.f10.f10.f6.f5.f10.f10.f10.f10.f10.f10,(hb2.mono e48).mono e49,r3.mono e49,(r31.mono e48).mono e49,r55.mono e49,r53.mono e49,(r49.mono e48).mono e49,(r34.mono e48).mono e49,(r14.mono e48).mono e49,r6.mono e49⟩)
               ·refine qBv 25 56 (.agg #[v6,vI 0]) st fun b19 w67 st=> ?_;refine⟨⟨.inr ⟨Inv.anti st.inv hmS6,Piece.holds_anti st.t.t.t.t.t.h hmS6,trivial⟩,trivial⟩,?_⟩;refine qBi 4 kr (qCd 194 i (fun _ h=>qCc st r34 r54 h) ?_);rintro y25 i _ w68 ⟨a38,c38,m57,rfl,e48,st,r55⟩;refine⟨_,rfl,?_⟩;have r3:=r3.mono e48;have r53:=r53.mono e48;have r6:=r6.mono e48;have hmS6:=Mem.le_trans hmS6 e48;refine⟨⟨.inr ⟨Inv.anti st.inv hmS6,Piece.holds_anti st.t.t.t.t.t.t.h hmS6,trivial⟩,trivial⟩,?_⟩;refine qAn 5 189 (.tuple #[.agg (V1 y25.1 a38 c38),vI y25.2]) (.head _) (qAn 6 195 (.agg (V1 y25.1 a38 c38)) (.head _) (qAn 7 196 (vI y25.2) (.head _) (qBi 9 kr (qBm 56 25 195 (.agg (V1 y25.1 a38 c38)) st.f1 fun w69 st=>(⟨⟨.inr ⟨Inv.anti st.inv hmS6,Piece.holds_anti st.t.t.t.t.t.t.h hmS6,trivial⟩,trivial⟩,?_⟩)))));refine qAn 10 22 (vI y25.2) (.head _) (qBp kr ?_);have st:=st.f4.t;refine qAe (W_sr ?_);have⟨o8,i,J⟩:=qAr i
                refine qDy (j:=9) (fun L' w'=>∃m58,L'=[(5,vP b2 0),(7,vP b3 0),(97,vS (aP b8) ([(o2.1.1,o2.1.2),(p1.1,p1.2)]) 2),(98,vI (List.length ([(o2.1.1,o2.1.2),(p1.1,p1.2)]):Int)),(99,vI s1.1),(205,vB o8)]∧m.le m58∧St m58 (kB b19 (V1 y25.1 a38 c38) 56::kB b17 (V1 y24.1 a36 c36) 56::kB b3 (V1 y23.1 a32 c32) 28::kB b10 (V1 x4 a20 c20) 56::kB b5 (V1 o2.1 a9 c9) 56::kB b4 (V1 y2.1 a6 c6) 56::kR a38 y25.1.1 c38 71 4::kR a36 y24.1.1 c36 71 4::kR (aP b8) ([(o2.1.1,o2.1.2),(p1.1,p1.2)]) 2 56 2::kR a6 y2.1.1 c6 71 4::kR a9 o2.1.1 c9 71 4::O) w'∧MRow m58 b2 0 (V6 p2.1.1 p2.1.2 p2.2.1 p2.2.2.1 p2.2.2.2.1 p2.2.2.2.2.1.1 p2.2.2.2.2.1.2.1 p2.2.2.2.2.1.2.2 p2.2.2.2.2.2.1 a3 p2.2.2.2.2.2.2 c3)∧RepS C3 m58 a3 c3 p2.2.2.2.2.2.2∧RepS C6 m58 (aP b8) 2 ([(o2.1.1,o2.1.2),(p1.1,p1.2)])∧RepS C5 m58 a38 c38 y25.1.1∧RepS C5 m58 a36 c36 y24.1.1∧RepS (cInt .i64) m58 a32 c32 y23.1.1∧RepS C5 m58 a20 c20 x4.1∧RepS C5 m58 a9 c9 o2.1.1∧RepS C5 m58 a6 c6 y2.1.1) ?_ ?_
                ·have i:=J;rintro _ w70 ⟨m58,rfl,q,st,hb2,r3,r31,r55,r53,r49,r34,r14,r6⟩;refine WO_e (W_if i ?_ ?_)
                 ·intro A i;refine W_sr (qAc 1 [(6,vB false)] (qAs rfl ?_));have st:=st.f8.t;refine qAe (qBc (qAg (qAb ?_)));cases i;have ho:=hBu2 _ rfl;subst ho;have i:=j2;refine qAb (qAg (qAb ?_));cases i;exact X_rt [6] [vB false] ⟨m58,rfl,q,st.t.t.t.t.t.t.t.t.t.t⟩
                 ·intro A i;refine qAm (qAz (qAe (qAj (qAc 2 [(99,vI (wr (s1.1+1)))] (qAs rfl ?_)))));obtain rfl:=sI i;have hL:=hSu2 _ rfl;exact xE (qBh k1 (jA _) ⟨(wr (s1.1+1),y23.1.1,y23.1.2),a32,c32,m58,hL,rfl,q,st.t.t.f1.t.f3.t.f3.t.f5.f5.f5.f3.f5.f5,hb2,r3,r31,r14,r6,r49⟩)
                ·intro K;refine qAc 4 [(200,vB (y24.2 !=y25.2))] (qEe 200 i ?_ ?_)
                 ·intro A i;refine qAc 5 [(205,vB true)] ?_;cases i;exact qBf _ kr (K _ _ ⟨m57,rfl,q.t e48,st.f10.f10.f10.f6.f5.f10.f10.f10.f10.f10.f10,hb2.mono e48,r3,r31.mono e48,r55,r53,r49.mono e48,r34.mono e48,r14.mono e48,r6⟩)
                 ·intro A i;refine qAa rfl (qBk 201 56 24 0 (.agg (V1 y24.1 a36 c36)) st.t.t.h (qAa rfl (qBk 202 56 25 0 (.agg (V1 y25.1 a38 c38)) st.h (qAy 203 i (fun _ h=>qBs st r53 r55 h) ?_))));rintro y26 i _ w71 ⟨m59,rfl,e49,st⟩;refine qAc 2 [(205,vB (!y26))] ?_;cases i;exact qBf _ kr (K _ _ ⟨m59,rfl,(q.t e48).t e49,st.f10.f10.f10.f6.f5.f10.f10.f10.f10.f10.f10,(hb2.mono e48).mono e49,r3.mono e49,(r31.mono e48).mono e49,r55.mono e49,r53.mono e49,(r49.mono e48).mono e49,(r34.mono e48).mono e49,(r14.mono e48).mono e49,r6.mono e49⟩)
              ·refine qBv 24 56 (.agg #[v6,vI 0]) st fun b17 w63 st=> ?_;refine⟨⟨.inr ⟨Inv.anti st.inv hmS5,Piece.holds_anti st.t.t.t.h hmS5,trivial⟩,trivial⟩,?_⟩;refine qBi 4 kr (qCd 186 i (fun _ h=>qIr st r34 r52 h) ?_);rintro y24 i _ w64 ⟨a36,c36,m56,rfl,e47,st,r53⟩;refine⟨_,rfl,?_⟩;have q:=(((q.t e44).t e45).t e46).t e47;have hb2:=(((hb2.mono e44).mono e45).mono e46).mono e47;have r3:=r3.mono e47;have r31:=(((r31.mono e44).mono e45).mono e46).mono e47;have r34:=r34.mono e47;have r49:=(r49.mono e46).mono e47;have r14:=(((r14.mono e44).mono e45).mono e46).mono e47;have r6:=r6.mono e47;have hmS5:=Mem.le_trans hmS5 e47;refine⟨⟨.inr ⟨Inv.anti st.inv hmS5,Piece.holds_anti st.t.t.t.t.h hmS5,trivial⟩,trivial⟩,?_⟩;refine qAn 5 181 (.tuple #[.agg (V1 y24.1 a36 c36),vI y24.2]) (.head _) (qAn 6 187 (.agg (V1 y24.1 a36 c36)) (.head _) (qAn 7 188 (vI y24.2) (.head _) (qBi 9 kr (qBm 56 24 187 (.agg (V1 y24.1 a36 c36)) st.f1 fun w65 st=>(⟨⟨.inr ⟨Inv.anti st.inv hmS5,Piece.holds_anti st.t.t.t.t.h hmS5,trivial⟩,trivial⟩,?_⟩)))));refine qAn 10 20 (vI y24.2) (.head _) (qBp kr (qAe (qAk (qFc [(11,fun w'=>Inv m56 w'∧Piece.holds m56 w' (kB b10 (V1 x4 a20 c20) 56)∧True)] kr st fun w66 _ st=> ?_))));have hmS6:=m56.le_refl;refine⟨⟨.inr ⟨Inv.anti st.inv hmS6,Piece.holds_anti st.t.t.t.t.h hmS6,trivial⟩,trivial⟩,?_⟩
               refine qFy 56 15 0 190 0 (.agg (V1 x4 a20 c20)) (.head _) (fun _ h=>h.2.1) (qAn 1 191 (vS a34 l3 c34) (.head _) ?_);have⟨x7,hx37,i⟩:=qAr i;refine qEk (t:=64) (e:=63) (x:=(.tmp 191)) (y:=(.const (vI 0))) 2 192 C4 kr rfl kr (.head _) (qAi (qBa (qAi (qAi (qBa (qAi qCg)))))) (ev (vS a34 l3 c34)) (ev (vI 0)) kr (r51.mono e47) hx37 ?_;rintro b18 f4 cs7 ⟨_,_,rfl,⟨_,_,rfl,rfl,rfl⟩,⟨_,_,rfl,rfl,⟨_,_,rfl,rfl,⟨_,_,rfl,rfl,⟨_,_,rfl,⟨_,_,rfl,rfl,⟨_,_,rfl,rfl,rfl⟩⟩,⟨_,_,rfl,rfl,⟨a37,c37,rfl,r54⟩⟩⟩⟩⟩⟩⟩ hq4;refine qGt 63 192 3 193 f4 (.agg (V5 x7.1.1 x7.1.2 x7.2.1 x7.2.2.1 x7.2.2.2.1 x7.2.2.2.2.1.1 x7.2.2.2.2.1.2.1 x7.2.2.2.2.1.2.2 x7.2.2.2.2.2.1 a37 x7.2.2.2.2.2.2 c37)) (.head _) (fun _ h=>h.1) hq4 (qLe [4,8] kr (by simp) (qLb ?_ ?_))
               ·refine qCd 194 i (fun _ h=>qCc st r34 r54 h) ?_;rintro y25 i _ w67 ⟨a38,c38,m57,rfl,e48,st,r55⟩;refine⟨_,rfl,?_⟩;have r3:=r3.mono e48;have r53:=r53.mono e48;have r6:=r6.mono e48;have hmS6:=Mem.le_trans hmS6 e48;refine⟨⟨.inr ⟨Inv.anti st.inv hmS6,Piece.holds_anti st.t.t.t.t.t.h hmS6,trivial⟩,trivial⟩,?_⟩;refine qAn 5 189 (.tuple #[.agg (V1 y25.1 a38 c38),vI y25.2]) (.head _) (qAn 6 195 (.agg (V1 y25.1 a38 c38)) (.head _) (qAn 7 196 (vI y25.2) (.head _) (qBi 8 kr (qBv 25 56 (.agg #[v6,vI 0]) st fun b19 w68 st=>(⟨⟨.inr ⟨Inv.anti st.inv hmS6,Piece.holds_anti st.t.t.t.t.t.t.h hmS6,trivial⟩,trivial⟩,?_⟩)))));refine qBi 9 kr (qBm 56 25 195 (.agg (V1 y25.1 a38 c38)) st fun w69 st=>(⟨⟨.inr ⟨Inv.anti st.inv hmS6,Piece.holds_anti st.t.t.t.t.t.t.h hmS6,trivial⟩,trivial⟩,?_⟩));refine qAn 10 22 (vI y25.2) (.head _) (qBp kr ?_);have st:=st.f4.t;refine qAe (W_sr ?_);have⟨o8,i,J⟩:=qAr i
                refine qDy (j:=9) (fun L' w'=>∃m58,L'=[(5,vP b2 0),(7,vP b3 0),(97,vS (aP b8) ([(o2.1.1,o2.1.2),(p1.1,p1.2)]) 2),(98,vI (List.length ([(o2.1.1,o2.1.2),(p1.1,p1.2)]):Int)),(99,vI s1.1),(205,vB o8)]∧m.le m58∧St m58 (kB b19 (V1 y25.1 a38 c38) 56::kB b17 (V1 y24.1 a36 c36) 56::kB b3 (V1 y23.1 a32 c32) 28::kB b10 (V1 x4 a20 c20) 56::kB b5 (V1 o2.1 a9 c9) 56::kB b4 (V1 y2.1 a6 c6) 56::kR a38 y25.1.1 c38 71 4::kR a36 y24.1.1 c36 71 4::kR (aP b8) ([(o2.1.1,o2.1.2),(p1.1,p1.2)]) 2 56 2::kR a6 y2.1.1 c6 71 4::kR a9 o2.1.1 c9 71 4::O) w'∧MRow m58 b2 0 (V6 p2.1.1 p2.1.2 p2.2.1 p2.2.2.1 p2.2.2.2.1 p2.2.2.2.2.1.1 p2.2.2.2.2.1.2.1 p2.2.2.2.2.1.2.2 p2.2.2.2.2.2.1 a3 p2.2.2.2.2.2.2 c3)∧RepS C3 m58 a3 c3 p2.2.2.2.2.2.2∧RepS C6 m58 (aP b8) 2 ([(o2.1.1,o2.1.2),(p1.1,p1.2)])∧RepS C5 m58 a38 c38 y25.1.1∧RepS C5 m58 a36 c36 y24.1.1∧RepS (cInt .i64) m58 a32 c32 y23.1.1∧RepS C5 m58 a20 c20 x4.1∧RepS C5 m58 a9 c9 o2.1.1∧RepS C5 m58 a6 c6 y2.1.1) ?_ ?_
                ·have i:=J;rintro _ w70 ⟨m58,rfl,q,st,hb2,r3,r31,r55,r53,r49,r34,r14,r6⟩;refine WO_e (W_if i ?_ ?_)
                 ·intro A i;refine W_sr (qAc 1 [(6,vB false)] (qAs rfl ?_));have st:=st.f8.t;refine qAe (qBc (qAg (qAb ?_)));cases i;have ho:=hBu2 _ rfl;subst ho;have i:=j2;refine qAb (qAg (qAb ?_));cases i;exact X_rt [6] [vB false] ⟨m58,rfl,q,st.t.t.t.t.t.t.t.t.t.t⟩
                 ·intro A i;refine qAm (qAz (qAe (qAj (qAc 2 [(99,vI (wr (s1.1+1)))] (qAs rfl ?_)))));obtain rfl:=sI i;have hL:=hSu2 _ rfl;exact xE (qBh k1 (jA _) ⟨(wr (s1.1+1),y23.1.1,y23.1.2),a32,c32,m58,hL,rfl,q,st.t.t.f1.t.f3.t.f3.t.f5.f5.f5.f3.f5.f5,hb2,r3,r31,r14,r6,r49⟩)
                ·intro K;refine qAc 4 [(200,vB (y24.2 !=y25.2))] (qEe 200 i ?_ ?_)
                 ·intro A i;refine qAc 5 [(205,vB true)] ?_;cases i;exact qBf _ kr (K _ _ ⟨m57,rfl,q.t e48,st.f10.f10.f10.f6.f5.f10.f10.f10.f10.f10.f10,hb2.mono e48,r3,r31.mono e48,r55,r53,r49.mono e48,r34.mono e48,r14.mono e48,r6⟩)
                 ·intro A i;refine qAa rfl (qBk 201 56 24 0 (.agg (V1 y24.1 a36 c36)) st.t.t.h (qAa rfl (qBk 202 56 25 0 (.agg (V1 y25.1 a38 c38)) st.h (qAy 203 i (fun _ h=>qBs st r53 r55 h) ?_))));rintro y26 i _ w71 ⟨m59,rfl,e49,st⟩;refine qAc 2 [(205,vB (!y26))] ?_;cases i;exact qBf _ kr (K _ _ ⟨m59,rfl,(q.t e48).t e49,st.f10.f10.f10.f6.f5.f10.f10.f10.f10.f10.f10,(hb2.mono e48).mono e49,r3.mono e49,(r31.mono e48).mono e49,r55.mono e49,r53.mono e49,(r49.mono e48).mono e49,(r34.mono e48).mono e49,(r14.mono e48).mono e49,r6.mono e49⟩)
               ·refine qBv 25 56 (.agg #[v6,vI 0]) st fun b19 w67 st=> ?_;refine⟨⟨.inr ⟨Inv.anti st.inv hmS6,Piece.holds_anti st.t.t.t.t.t.h hmS6,trivial⟩,trivial⟩,?_⟩;refine qBi 4 kr (qCd 194 i (fun _ h=>qCc st r34 r54 h) ?_);rintro y25 i _ w68 ⟨a38,c38,m57,rfl,e48,st,r55⟩;refine⟨_,rfl,?_⟩;have r3:=r3.mono e48;have r53:=r53.mono e48;have r6:=r6.mono e48;have hmS6:=Mem.le_trans hmS6 e48;refine⟨⟨.inr ⟨Inv.anti st.inv hmS6,Piece.holds_anti st.t.t.t.t.t.t.h hmS6,trivial⟩,trivial⟩,?_⟩;refine qAn 5 189 (.tuple #[.agg (V1 y25.1 a38 c38),vI y25.2]) (.head _) (qAn 6 195 (.agg (V1 y25.1 a38 c38)) (.head _) (qAn 7 196 (vI y25.2) (.head _) (qBi 9 kr (qBm 56 25 195 (.agg (V1 y25.1 a38 c38)) st.f1 fun w69 st=>(⟨⟨.inr ⟨Inv.anti st.inv hmS6,Piece.holds_anti st.t.t.t.t.t.t.h hmS6,trivial⟩,trivial⟩,?_⟩)))));refine qAn 10 22 (vI y25.2) (.head _) (qBp kr ?_);have st:=st.f4.t;refine qAe (W_sr ?_);have⟨o8,i,J⟩:=qAr i
                refine qDy (j:=9) (fun L' w'=>∃m58,L'=[(5,vP b2 0),(7,vP b3 0),(97,vS (aP b8) ([(o2.1.1,o2.1.2),(p1.1,p1.2)]) 2),(98,vI (List.length ([(o2.1.1,o2.1.2),(p1.1,p1.2)]):Int)),(99,vI s1.1),(205,vB o8)]∧m.le m58∧St m58 (kB b19 (V1 y25.1 a38 c38) 56::kB b17 (V1 y24.1 a36 c36) 56::kB b3 (V1 y23.1 a32 c32) 28::kB b10 (V1 x4 a20 c20) 56::kB b5 (V1 o2.1 a9 c9) 56::kB b4 (V1 y2.1 a6 c6) 56::kR a38 y25.1.1 c38 71 4::kR a36 y24.1.1 c36 71 4::kR (aP b8) ([(o2.1.1,o2.1.2),(p1.1,p1.2)]) 2 56 2::kR a6 y2.1.1 c6 71 4::kR a9 o2.1.1 c9 71 4::O) w'∧MRow m58 b2 0 (V6 p2.1.1 p2.1.2 p2.2.1 p2.2.2.1 p2.2.2.2.1 p2.2.2.2.2.1.1 p2.2.2.2.2.1.2.1 p2.2.2.2.2.1.2.2 p2.2.2.2.2.2.1 a3 p2.2.2.2.2.2.2 c3)∧RepS C3 m58 a3 c3 p2.2.2.2.2.2.2∧RepS C6 m58 (aP b8) 2 ([(o2.1.1,o2.1.2),(p1.1,p1.2)])∧RepS C5 m58 a38 c38 y25.1.1∧RepS C5 m58 a36 c36 y24.1.1∧RepS (cInt .i64) m58 a32 c32 y23.1.1∧RepS C5 m58 a20 c20 x4.1∧RepS C5 m58 a9 c9 o2.1.1∧RepS C5 m58 a6 c6 y2.1.1) ?_ ?_
                ·have i:=J;rintro _ w70 ⟨m58,rfl,q,st,hb2,r3,r31,r55,r53,r49,r34,r14,r6⟩;refine WO_e (W_if i ?_ ?_)
                 ·intro A i;refine W_sr (qAc 1 [(6,vB false)] (qAs rfl ?_));have st:=st.f8.t;refine qAe (qBc (qAg (qAb ?_)));cases i;have ho:=hBu2 _ rfl;subst ho;have i:=j2;refine qAb (qAg (qAb ?_));cases i;exact X_rt [6] [vB false] ⟨m58,rfl,q,st.t.t.t.t.t.t.t.t.t.t⟩
                 ·intro A i;refine qAm (qAz (qAe (qAj (qAc 2 [(99,vI (wr (s1.1+1)))] (qAs rfl ?_)))));obtain rfl:=sI i;have hL:=hSu2 _ rfl;exact xE (qBh k1 (jA _) ⟨(wr (s1.1+1),y23.1.1,y23.1.2),a32,c32,m58,hL,rfl,q,st.t.t.f1.t.f3.t.f3.t.f5.f5.f5.f3.f5.f5,hb2,r3,r31,r14,r6,r49⟩)
                ·intro K;refine qAc 4 [(200,vB (y24.2 !=y25.2))] (qEe 200 i ?_ ?_)
                 ·intro A i;refine qAc 5 [(205,vB true)] ?_;cases i;exact qBf _ kr (K _ _ ⟨m57,rfl,q.t e48,st.f10.f10.f10.f6.f5.f10.f10.f10.f10.f10.f10,hb2.mono e48,r3,r31.mono e48,r55,r53,r49.mono e48,r34.mono e48,r14.mono e48,r6⟩)
                 ·intro A i;refine qAa rfl (qBk 201 56 24 0 (.agg (V1 y24.1 a36 c36)) st.t.t.h (qAa rfl (qBk 202 56 25 0 (.agg (V1 y25.1 a38 c38)) st.h (qAy 203 i (fun _ h=>qBs st r53 r55 h) ?_))));rintro y26 i _ w71 ⟨m59,rfl,e49,st⟩;refine qAc 2 [(205,vB (!y26))] ?_;cases i;exact qBf _ kr (K _ _ ⟨m59,rfl,(q.t e48).t e49,st.f10.f10.f10.f6.f5.f10.f10.f10.f10.f10.f10,(hb2.mono e48).mono e49,r3.mono e49,(r31.mono e48).mono e49,r55.mono e49,r53.mono e49,(r49.mono e48).mono e49,(r34.mono e48).mono e49,(r14.mono e48).mono e49,r6.mono e49⟩)
           ·intro K;refine qAc 4 [(170,vB (y20.2 !=y21.2))] (qEe 170 i ?_ ?_)
            ·intro A i;refine qAc 5 [(175,vB true)] ?_;cases i;exact qBf _ kr (K _ _ ⟨m50,rfl,(q.t e41).t e42,st.f8.f8.f8.f4.f4.f8.f8.f8.f8,(hb2.mono e41).mono e42,r3,(r31.mono e41).mono e42,(r38.mono e41).mono e42,r34.mono e42,(r14.mono e41).mono e42,r6⟩)
            ·intro A i;refine qAc 2 [(171,vS a30 y20.1 c30),(172,vS a31 y21.1 c31)] (qAy 173 i (fun _ h=>qCj st (r46.mono e42) r47 h) ?_);rintro y22 i _ w57 ⟨m52,rfl,e43,st⟩;refine qAc 2 [(175,vB (!y22))] ?_;cases i;exact qBf _ kr (K _ _ ⟨m52,rfl,((q.t e41).t e42).t e43,st.f8.f8.f8.f4.f4.f8.f8.f8.f8,((hb2.mono e41).mono e42).mono e43,r3.mono e43,((r31.mono e41).mono e42).mono e43,((r38.mono e41).mono e42).mono e43,(r34.mono e42).mono e43,((r14.mono e41).mono e42).mono e43,r6.mono e43⟩)
         ·intro K;refine qAc 4 [(149,vB (y17.2 !=y18.2))] (qEe 149 i ?_ ?_)
          ·intro A i;refine qAc 5 [(154,vB true)] ?_;cases i;exact qBf _ kr (K _ _ ⟨m46,rfl,(q.t e38).t e39,st.f9.f9.f9.f9.f5.f5.f9.f9.f9.f9,(hb2.mono e38).mono e39,r3,r39.mono e39,(r31.mono e38).mono e39,(r38.mono e38).mono e39,r34.mono e39,(r14.mono e38).mono e39,r6⟩)
          ·intro A i;refine qAc 2 [(150,vS a28 y17.1 c28),(151,vS a29 y18.1 c29)] (qAy 152 i (fun _ h=>qCj st (r44.mono e39) r45 h) ?_);rintro y19 i _ w53 ⟨m48,rfl,e40,st⟩;refine qAc 2 [(154,vB (!y19))] ?_;cases i;exact qBf _ kr (K _ _ ⟨m48,rfl,((q.t e38).t e39).t e40,st.f9.f9.f9.f9.f5.f5.f9.f9.f9.f9,((hb2.mono e38).mono e39).mono e40,r3.mono e40,(r39.mono e39).mono e40,((r31.mono e38).mono e39).mono e40,((r38.mono e38).mono e39).mono e40,(r34.mono e39).mono e40,((r14.mono e38).mono e39).mono e40,r6.mono e40⟩)
        intro K3_u4;refine qEp _ kr (qCe (fun k2 L' w'=>∃(s2:Int),∃m41,qAl (qBw N x4 o4) k2 s2=some out2∧L'=[(5,vP b2 0),(7,vP b3 0),(15,vP b10 0),(16,vS a24 o4 c24),(97,vS (aP b8) ([o2.1,p1]) 2),(98,vI (List.length ([o2.1,p1]):Int)),(99,vI s1.1),(119,vS a24 o4 c24),(120,vI (o4.length:Int)),(121,vI s2)]∧m.le m41∧St m41 (kB b3 (V1 y13.1 a23 c23) 28::kB b10 (V1 x4 a20 c20) 56::kB b5 (V1 o2.1 a9 c9) 56::kB b4 (V1 y2.1 a6 c6) 56::kR (aP b8) ([o2.1,p1]) 2 56 2::kR a6 y2.1.1 c6 71 4::kR a9 o2.1.1 c9 71 4::kR a24 o4 c24 51 3::O) w'∧MRow m41 b2 0 (V6 p2.1.1 p2.1.2 p2.2.1 p2.2.2.1 p2.2.2.2.1 p2.2.2.2.2.1.1 p2.2.2.2.2.1.2.1 p2.2.2.2.2.1.2.2 p2.2.2.2.2.2.1 a3 p2.2.2.2.2.2.2 c3)∧RepS C3 m41 a3 c3 p2.2.2.2.2.2.2∧RepS C2 m41 a24 c24 o4∧RepS C6 m41 (aP b8) 2 ([o2.1,p1])∧RepS (cInt .i64) m41 a23 c23 y13.1.1∧RepS C5 m41 a20 c20 x4.1∧RepS C5 m41 a9 c9 o2.1.1∧RepS C5 m41 a6 c6 y2.1.1) N ⟨0,m37,i,rfl,q,st.f7.f7.f7.f7.f7.f7.f7.f7,hb2,r3,r39,r31,r38,r34,r14,r6⟩ ?_);rintro k2 _ w43 ⟨s2,m41,hL,rfl,q,st,hb2,r3,r39,r31,r38,r34,r14,r6⟩;rcases k2 with _|k2
        ·exact qAw hL
        ·obtain⟨qu4,i,hSu4,hBu4⟩:=qAx hL;clear hL;unfold qBw at i;refine W_sr (qAd 1 [(122,vB (decide (s2<(o4.length:Int))))] (qAk (W_if i ?_ ?_)))
         ·intro A i;refine qAm (qAe (qAk (qAp (W_sr (qAa rfl (qCf 123 40 51 119 121 r39 i ?_))))));rintro x5 i b13 f2 cs5 ⟨_,_,rfl,rfl,⟨_,_,rfl,rfl,rfl⟩⟩ hq2;refine qCn 124 51 123 f2 (.agg (V2 x5)) st hq2 (qAa rfl (qBv 18 51 (.agg (V3 0 eB eB)) st fun b14 w44 st=>(qAa rfl (qBm 51 18 124 (.agg (V2 x5)) st fun w45 st=>(WO_e (qAk (qFc [(8,fun w'=>Inv m41 w'∧Piece.holds m41 w' (kB b14 (V2 x5) 51)∧Piece.holds m41 w' (kB b10 (V1 x4 a20 c20) 56)∧True)] kr st fun w46 _ st=> ?_)))))));have hmS3:=m41.le_refl;refine⟨⟨.inr ⟨Inv.anti st.inv hmS3,Piece.holds_anti st.h hmS3,Piece.holds_anti st.t.t.h hmS3,trivial⟩,trivial⟩,?_⟩;refine qFy 56 15 0 125 0 (.agg (V1 x4 a20 c20)) (.head _) (fun _ h=>h.2.2.1) (qFy 51 18 1 126 0 (.agg (V2 x5)) (.head _) (fun _ h=>h.2.1) (qFy 56 15 3 128 0 (.agg (V1 x4 a20 c20)) (.head _) (fun _ h=>h.2.2.1) (qFy 51 18 4 129 0 (.agg (V2 x5)) (.head _) (fun _ h=>h.2.1) (qBi 2 kr (qCd 127 i (fun _ h=>qLf st r34 h) ?_)))));rintro y14 i _ w47 ⟨a26,c26,m42,rfl,e35,st,r42⟩;refine⟨_,rfl,?_⟩;have hmS3:=Mem.le_trans hmS3 e35;refine⟨⟨.inr ⟨Inv.anti st.inv hmS3,Piece.holds_anti st.t.h hmS3,Piece.holds_anti st.t.t.t.h hmS3,trivial⟩,trivial⟩,?_⟩;refine qBi 5 kr (qCd 130 i (fun _ h=>qFh st (r34.mono e35) h) ?_);rintro y15 i _ w48 ⟨a27,c27,m43,rfl,e36,st,r43⟩;refine⟨_,rfl,?_⟩;have hmS3:=Mem.le_trans hmS3 e36
          refine⟨⟨.inr ⟨Inv.anti st.inv hmS3,Piece.holds_anti st.t.t.h hmS3,Piece.holds_anti st.t.t.t.t.h hmS3,trivial⟩,trivial⟩,?_⟩;refine qBi 6 kr (qCd 131 i (fun _ h=>qCj st (r42.mono e36) r43 h) ?_);rintro y16 i _ w49 ⟨m44,rfl,e37,st⟩;refine⟨_,rfl,?_⟩;have hmS3:=Mem.le_trans hmS3 e37;refine⟨⟨.inr ⟨Inv.anti st.inv hmS3,Piece.holds_anti st.t.t.h hmS3,Piece.holds_anti st.t.t.t.t.h hmS3,trivial⟩,trivial⟩,?_⟩;refine qAn 7 132 (vB (!y16)) (.head _) (qBp kr ?_);have st:=st.t.t;refine qAe (W_if i ?_ ?_)
          ·intro A i;refine W_sr (qAc 1 [(6,vB false)] (qAs rfl ?_));have st:=st.f5.t.f7.t;refine qAe (qBc (qAg (qAb ?_)));cases i;have ho:=hBu4 _ rfl;subst ho;have i:=j4;refine qAb (qAg (qAb (qAg (qAb ?_))));cases i;have ho:=hBu2 _ rfl;subst ho;have i:=j2;refine qAb (qAg (qAb ?_));cases i;exact X_rt [6] [vB false] ⟨m44,rfl,((q.t e35).t e36).t e37,st.t.t.t.t.t.t.t⟩
          ·intro A i;refine qAm (qAz (qAe (qAj (qAc 2 [(121,vI (wr (s2+1)))] (qAs rfl ?_)))));obtain rfl:=sI i;have hL:=hSu4 _ rfl;exact xE (qBh k2 (jA _) ⟨wr (s2+1),m44,hL,rfl,((q.t e35).t e36).t e37,st.t.f7.f7.f7.f7.f7.f7.f7.f7,((hb2.mono e35).mono e36).mono e37,((r3.mono e35).mono e36).mono e37,((r39.mono e35).mono e36).mono e37,((r31.mono e35).mono e36).mono e37,((r38.mono e35).mono e36).mono e37,((r34.mono e35).mono e36).mono e37,((r14.mono e35).mono e36).mono e37,((r6.mono e35).mono e36).mono e37⟩)
         ·intro A i;refine qCa (qAf ?_);cases i;have ho:=hBu4 _ rfl;have st:=st.f7.f7.f7.f7.f7.f7.f7.f7;refine qAf ?_;exact xE (K3_u4 _ _ ⟨(),m41,ho,rfl,q,st,hb2,r3,r39,r31,r38,r34,r14,r6⟩)
       ·intro Ku3;refine W_if i ?_ ?_
        ·intro A i;refine qAj (qAc 2 [(115,vS (aP b11) ([y11.2,y12.2]) 2),(116,.agg (V3 0 eB eB))] (qAa rfl (qAo (d:=117) (t:=40) (e:=51) (len:=1) (parts:= #[(0,(.tmp 116))]) C2 (xs:=[(0,eB,eB)]) [vI 0,vT eB,vT eB] kr rfl (fun _=>qAq kr _) rfl rfl st ⟨[vI 0,vT eB,vT eB],_,rfl,⟨_,_,rfl,rfl,⟨_,_,rfl,rfl,rfl⟩⟩,rfl⟩ fun b12 m38 w40 e33 st r40=>(qAa rfl (qFn 118 40 40 51 40 115 117 st.f2 (.inl kr) ((r37.mono e32).mono e33) r40.src i fun l2 i a25 c25 m39 w41 e34 st r41=>(qAc 1 [(16,vS a25 l2 c25)] (qAs rfl ?_)))))));have st:=st.f1.t;cases i;exact xE (Ku3 _ _ ⟨a25,c25,m39,rfl,(((((q.t e29).t e30).t e31).t e32).t e33).t e34,st.f7.f7.f7.f7.f7.f7.f7,(((((((hb2.mono e27).mono e28).mono e29).mono e30).mono e31).mono e32).mono e33).mono e34,(r3.mono e33).mono e34,r41,(((((((r31.mono e27).mono e28).mono e29).mono e30).mono e31).mono e32).mono e33).mono e34,(r38.mono e33).mono e34,((((((r34.mono e28).mono e29).mono e30).mono e31).mono e32).mono e33).mono e34,(((((((r14.mono e27).mono e28).mono e29).mono e30).mono e31).mono e32).mono e33).mono e34,(r6.mono e33).mono e34⟩)
        ·intro A i;refine qAm ?_;obtain rfl:=sI i;exact xE (Ku3 _ _ ⟨(aP b11),2,m36,rfl,(((q.t e29).t e30).t e31).t e32,st.f1.f7.f7.f7.f7.f7.f7.f7,(((((hb2.mono e27).mono e28).mono e29).mono e30).mono e31).mono e32,r3,r37.mono e32,(((((r31.mono e27).mono e28).mono e29).mono e30).mono e31).mono e32,r38,((((r34.mono e28).mono e29).mono e30).mono e31).mono e32,(((((r14.mono e27).mono e28).mono e29).mono e30).mono e31).mono e32,r6⟩)
     ·intro A i;refine qCa (qAf ?_);cases i;have ho:=hBu2 _ rfl;have st:=st.f5.f5.f5.f5.f5.f5;refine qAf ?_;exact xE (K1_u2 _ _ ⟨s1.2,a19,c19,m30,ho,rfl,q,st,r14,r6,r33⟩)
   ·intro Ku1;refine W_if i ?_ ?_
    ·intro A i;refine W_sr (qAc 2 [(58,vP b3 0),(59,vP b5 0)] (qAa rfl (qBk 60 54 59 0 (vS a8 l1 c8) st.h (qAc 1 [(61,vI (l1.length:Int))] (qAy 62 i (fun _ h=>qBj (p0:=y1.1) st.f3 r4 h) ?_)))));rintro y5 i _ w16 ⟨a11,c11,m16,rfl,e14,st,r16⟩;refine qAd 1 [(13,vI y5.2)] (W_sr (qAc 1 [(63,vP b3 0)] (qAy 64 i (fun _ h=>qBj (p0:=y5.1) st r16 h) ?_)));rintro y6 i _ w17 ⟨a12,c12,m17,rfl,e15,st,r17⟩;have q:=(q.t e14).t e15;have hb1:=(hb1.mono e14).mono e15;have r2:=(r2.mono e14).mono e15;have hb2:=(hb2.mono e14).mono e15;have r3:=(r3.mono e14).mono e15;have hrw1:=(hrw1.mono e14).mono e15;have r6:=(r6.mono e14).mono e15;refine WO_e (qAp (W_sr (qAd 2 [(65,vB (y6.2==0))] (W_if i ?_ ?_))))
     ·intro A i;refine qAj (qAc 1 [(67,vP b3 0)] (qAa rfl (qAo (d:=68) (t:=22) (e:=3) (len:=4) (parts:= #[(0,(.const (vI 0))),(1,(.const (vI 513))),(2,(.const (vI 512))),(3,(.const (vI 1)))]) (cInt .i64) (xs:=[0,513,512,1]) [vI 0,vI 513,vI 512,vI 1] kr rfl (fun _=>qAq kr _) rfl rfl st ⟨[vI 0],_,rfl,rfl,⟨[vI 513],_,rfl,rfl,⟨[vI 512],_,rfl,rfl,⟨[vI 1],_,rfl,rfl,rfl⟩⟩⟩⟩ fun b6 m18 w18 e16 st r18=>(qAy 69 i (fun _ h=>qKg (p0:=y6.1) st.f1 (r17.mono e16) r18 h) ?_))));rintro y7 i _ w19 ⟨a13,c13,m19,rfl,e17,st,r19⟩;refine qAc 1 [(70,vP b5 1)] (qAa rfl (qId 3 70 69 1 (vI y7.2) #[vS a8 l1 c8,vI y7.2] st.f2 fun w20 st=>(qAs rfl ?_)));have st:=st.f2.t;refine qAz ?_;cases i;have st:=st.f2;obtain⟨m20,e18,st,r20⟩:=St.freezeR (c:=C5) rfl st hs1 hn1 ((hrw1.mono e16).mono e17);exact xE (Ku1 _ _ ⟨a8,c8,a13,c13,m20,rfl,((q.t e16).t e17).t e18,st.f4.f3.f4.f4,((hb1.mono e16).mono e17).mono e18,((r2.mono e16).mono e17).mono e18,((hb2.mono e16).mono e17).mono e18,((r3.mono e16).mono e17).mono e18,r20,((r6.mono e16).mono e17).mono e18,r19.mono e18⟩)
     ·intro A i;refine W_sr (qAd 2 [(71,vB (y6.2==1))] (W_if i ?_ ?_))
      ·intro A i;refine qAj (qHz 1 74 54 73 0 (vS a8 l1 c8) st.t.h (qAc 1 [(75,vI y5.2)] ?_));have⟨x1,hx9,i⟩:=qAr i;obtain⟨zr1,cs1,hx10,hf1,hz1⟩:=hrw1.idx hx9;obtain⟨_,_,rfl,⟨_,_,rfl,rfl,⟨_,_,rfl,rfl,rfl⟩⟩,⟨a14,c14,rfl,r21⟩⟩:=hz1;obtain rfl:=qTf hf1;refine qAa rfl (qHg (d:=76) (t:=54) (e:=71) (x:=(.tmp 74)) (y:=(.tmp 75)) (k:=4) kr rfl (ev (vS a8 l1 c8)) (ev (vI y5.2)) kr hs1 hn1 hx10 (qAc 1 [(77,.pointer (some ⟨ab a8,Int.toNat y5.2*4+3,none⟩))] (qAa rfl (qHs (t:=22) (x:=(.tmp 77)) (y:=(.const (v6))) (o:=3) (f:=row4) (z:=(vI x1.1.1,vT x1.1.2.1,vT x1.1.2.2,vS a14 x1.2 c14)) (u:=(vI x1.1.1,vT x1.1.2.1,vT x1.1.2.2,v7)) (v:=v7) (fun _=>rfl) (Int.toNat y5.2*4+3) rfl kr (ev (.pointer (some ⟨ab a8,Int.toNat y5.2*4+3,none⟩))) (ev (v7)) st.f2 hs1 hn1 hx10 kr rfl fun w21 st=> ?_))));have hrw2:=hrw1.set (u:=(x1.1,([]:T8))) (v:=(vI x1.1.1,vT x1.1.2.1,vT x1.1.2.2,v7)) (Int.toNat y5.2) (show(C5).rep _ _ _ from⟨_,_,rfl,⟨_,_,rfl,rfl,⟨_,_,rfl,rfl,rfl⟩⟩,(qJy (RepS.nil _ _))⟩);have hn2:List.length (List.set vs1 (Int.toNat y5.2) (vI x1.1.1,vT x1.1.2.1,vT x1.1.2.2,v7))=l1.length:=qIy hn1 _ _;have hn3:List.length (List.set l1 (Int.toNat y5.2) (x1.1,([]:T8)))=l1.length:=qIy (rfl:_=l1.length) _ _;refine qAs rfl (qAz ?_);obtain rfl:=sI i
       obtain⟨m21,e19,st,r22⟩:=St.freezeR (c:=C5) rfl st hs1 hn2 hrw2;have st:St m21 (.room a8 (List.length (List.set l1 (Int.toNat y5.2) (x1.1,([]:T8)))) c8 71 4::kB b3 (V1 y6.1 a12 c12) 28::kB b5 #[.slice a8 (List.length (List.set l1 (Int.toNat y5.2) (x1.1,([]:T8)))) c8,vI y3.1.2] 56::kB b4 (V1 y2.1 a6 c6) 56::kR a6 y2.1.1 c6 71 4::O) w21:=by(try simp only[vS,hn3]);(try simp only[vS,hn3] at st);exact st
       refine qJf [(4,vP b1 0),(5,vP b2 0),(7,vP b3 0),(11,vP b5 0)] (by(try simp only[vS,hn3]);kernel_rfl) ?_;exact xE (Ku1 _ _ ⟨a8,c8,a12,c12,m21,rfl,q.t e19,st.f4.f2.f4.f4,hb1.mono e19,r2.mono e19,hb2.mono e19,r3.mono e19,r22,r6.mono e19,r17.mono e19⟩)
      ·intro A i;refine W_sr (qAd 2 [(78,vB (y6.2==2))] (W_if i ?_ ?_))
       ·intro A i;refine qAj (qHz 1 81 54 80 0 (vS a8 l1 c8) st.t.h (qAc 1 [(82,vI y5.2)] (qAa rfl (qAo (d:=83) (t:=22) (e:=3) (len:=2) (parts:= #[(0,(.const (vI 0))),(1,(.const (vI 0)))]) (cInt .i64) (xs:=[0,0]) [vI 0,vI 0] kr rfl (fun _=>qAq kr _) rfl rfl st ⟨[vI 0],_,rfl,rfl,⟨[vI 0],_,rfl,rfl,rfl⟩⟩ fun b7 m22 w22 e20 st r23=> ?_))));have⟨x2,hx11,i⟩:=qAr i;obtain⟨zr2,cs2,hx12,hf2,hz2⟩:=(hrw1.mono e20).idx hx11;obtain⟨_,_,rfl,⟨_,_,rfl,rfl,⟨_,_,rfl,rfl,rfl⟩⟩,⟨a15,c15,rfl,r24⟩⟩:=hz2;obtain rfl:=qTf hf2;refine qAa rfl (qHg (d:=84) (t:=54) (e:=71) (x:=(.tmp 81)) (y:=(.tmp 82)) (k:=4) kr rfl (ev (vS a8 l1 c8)) (ev (vI y5.2)) kr hs1 hn1 hx12 (qAc 1 [(85,.pointer (some ⟨ab a8,Int.toNat y5.2*4+3,none⟩))] (qAa rfl (qHs (t:=22) (x:=(.tmp 85)) (y:=(.tmp 83)) (o:=3) (f:=row4) (z:=(vI x2.1.1,vT x2.1.2.1,vT x2.1.2.2,vS a15 x2.2 c15)) (u:=(vI x2.1.1,vT x2.1.2.1,vT x2.1.2.2,vS (aP b7) ([0,0]) 2)) (v:=vS (aP b7) ([0,0]) 2) (fun _=>rfl) (Int.toNat y5.2*4+3) rfl kr (ev (.pointer (some ⟨ab a8,Int.toNat y5.2*4+3,none⟩))) (ev (vS (aP b7) ([0,0]) 2)) st.f3 hs1 hn1 hx12 kr rfl fun w23 st=> ?_))))
        have hrw3:=(hrw1.mono e20).set (u:=(x2.1,[0,0])) (v:=(vI x2.1.1,vT x2.1.2.1,vT x2.1.2.2,vS (aP b7) ([0,0]) 2)) (Int.toNat y5.2) (show(C5).rep _ _ _ from⟨_,_,rfl,⟨_,_,rfl,rfl,⟨_,_,rfl,rfl,rfl⟩⟩,(qJy r23)⟩);have hn4:List.length (List.set vs1 (Int.toNat y5.2) (vI x2.1.1,vT x2.1.2.1,vT x2.1.2.2,vS (aP b7) ([0,0]) 2))=l1.length:=qIy hn1 _ _;have hn5:List.length (List.set l1 (Int.toNat y5.2) (x2.1,[0,0]))=l1.length:=qIy (rfl:_=l1.length) _ _;refine qAs rfl ?_;have st:=st.f1.t;refine qAz ?_;obtain rfl:=sI i;obtain⟨m23,e21,st,r25⟩:=St.freezeR (c:=C5) rfl st hs1 hn4 hrw3;have st:St m23 (.room a8 (List.length (List.set l1 (Int.toNat y5.2) (x2.1,[0,0]))) c8 71 4::kB b3 (V1 y6.1 a12 c12) 28::kB b5 #[.slice a8 (List.length (List.set l1 (Int.toNat y5.2) (x2.1,[0,0]))) c8,vI y3.1.2] 56::kB b4 (V1 y2.1 a6 c6) 56::kR a6 y2.1.1 c6 71 4::O) w23:=by(try simp only[vS,hn5]);(try simp only[vS,hn5] at st);exact st
        refine qJf [(4,vP b1 0),(5,vP b2 0),(7,vP b3 0),(11,vP b5 0)] (by(try simp only[vS,hn5]);kernel_rfl) ?_;exact xE (Ku1 _ _ ⟨a8,c8,a12,c12,m23,rfl,(q.t e20).t e21,st.f4.f2.f4.f4,(hb1.mono e20).mono e21,(r2.mono e20).mono e21,(hb2.mono e20).mono e21,(r3.mono e20).mono e21,r25,(r6.mono e20).mono e21,(r17.mono e20).mono e21⟩)
       ·intro A i;refine W_sr (qAd 2 [(86,vB (y6.2==3))] (W_if i ?_ ?_))
        ·intro A i;refine qFc [(8,fun w'=>Inv m17 w'∧Piece.holds m17 w' (kB b5 #[vS a8 l1 c8,vI y3.1.2] 56)∧True)] kr st fun w24 _ st=> ?_;have hmS1:=m17.le_refl;refine⟨⟨.inr ⟨Inv.anti st.inv hmS1,Piece.holds_anti st.t.h hmS1,trivial⟩,trivial⟩,?_⟩;refine qAn 0 88 (vP b5 0) (.head _) (qFy 54 88 1 89 0 (vS a8 l1 c8) (.head _) (fun _ h=>h.2.1) (qAn 2 90 (vI y5.2) (.head _) (qAn 3 91 (vP b3 0) (.head _) (qBi 4 kr (qCd 92 i (fun _ h=>qGd (p0:=y6.1) st r17 h) ?_)))));rintro y8 i _ w25 ⟨a16,c16,m24,rfl,e22,st,r26⟩;refine⟨_,rfl,?_⟩;have hmS1:=Mem.le_trans hmS1 e22;refine⟨⟨.inr ⟨Inv.anti st.inv hmS1,Piece.holds_anti st.t.h hmS1,trivial⟩,trivial⟩,?_⟩;have⟨x3,hx14,i⟩:=qAr i;obtain⟨zr3,cs3,hx15,hf3,hz3⟩:=(hrw1.mono e22).idx hx14;obtain⟨_,_,rfl,⟨_,_,rfl,rfl,⟨_,_,rfl,rfl,rfl⟩⟩,⟨a17,c17,rfl,r27⟩⟩:=hz3;obtain rfl:=qTf hf3;refine qIs (t:=54) (e:=71) (x:=(.tmp 89)) (y:=(.tmp 90)) (k:=4) 5 93 kr rfl kr (.head _) (qBa (qAi qCg)) (ev (vS a8 l1 c8)) (ev (vI y5.2)) kr hs1 hn1 hx15 ?_
         refine qAn 6 94 (.pointer (some ⟨ab a8,Int.toNat y5.2*4,none⟩)) (.head _) (qBi 7 kr (qHs (t:=51) (x:=(.tmp 94)) (y:=(.tmp 92)) (o:=0) (f:=row4) (z:=(vI x3.1.1,vT x3.1.2.1,vT x3.1.2.2,vS a17 x3.2 c17)) (u:=(vI y8.2.1,vT y8.2.2.1,vT y8.2.2.2,vS a17 x3.2 c17)) (v:= .agg (V2 y8.2)) (fun _=>rfl) (Int.toNat y5.2*4) rfl kr (ev (.pointer (some ⟨ab a8,Int.toNat y5.2*4,none⟩))) (ev (.agg (V2 y8.2))) st.f2 hs1 hn1 hx15 kr rfl fun w26 st=> ?_));have hrw4:=(hrw1.mono e22).set (u:=(y8.2,x3.2)) (v:=(vI y8.2.1,vT y8.2.2.1,vT y8.2.2.2,vS a17 x3.2 c17)) (Int.toNat y5.2) (show(C5).rep _ _ _ from⟨_,_,rfl,⟨_,_,rfl,rfl,⟨_,_,rfl,rfl,rfl⟩⟩,(qJy r27)⟩);have hn6:List.length (List.set vs1 (Int.toNat y5.2) (vI y8.2.1,vT y8.2.2.1,vT y8.2.2.2,vS a17 x3.2 c17))=l1.length:=qIy hn1 _ _;have hn7:List.length (List.set l1 (Int.toNat y5.2) (y8.2,x3.2))=l1.length:=qIy (rfl:_=l1.length) _ _;refine⟨⟨.inr ⟨Inv.anti st.inv hmS1,Piece.holds_anti st.t.t.h hmS1,trivial⟩,trivial⟩,?_⟩;refine qBp kr ?_;refine qAz ?_;obtain rfl:=sI i;obtain⟨m25,e23,st,r28⟩:=St.freezeR (c:=C5) rfl st hs1 hn6 hrw4
         have st:St m25 (.room a8 (List.length (List.set l1 (Int.toNat y5.2) (y8.2,x3.2))) c8 71 4::kB b3 (V1 y8.1 a16 c16) 28::kB b5 #[.slice a8 (List.length (List.set l1 (Int.toNat y5.2) (y8.2,x3.2))) c8,vI y3.1.2] 56::kB b4 (V1 y2.1 a6 c6) 56::kR a6 y2.1.1 c6 71 4::O) w26:=by(try simp only[vS,hn7]);(try simp only[vS,hn7] at st);exact st
         refine qJf [(4,vP b1 0),(5,vP b2 0),(7,vP b3 0),(11,vP b5 0)] (by(try simp only[vS,hn7]);kernel_rfl) ?_;exact xE (Ku1 _ _ ⟨a8,c8,a16,c16,m25,rfl,(q.t e22).t e23,st.f4.f2.f4.f4,(hb1.mono e22).mono e23,(r2.mono e22).mono e23,(hb2.mono e22).mono e23,(r3.mono e22).mono e23,r28,(r6.mono e22).mono e23,r26.mono e23⟩)
        ·intro A i;refine qAm (qAz ?_);cases i;have st:=st.f2;obtain⟨m26,e24,st,r29⟩:=St.freezeR (c:=C5) rfl st hs1 hn1 hrw1;exact xE (Ku1 _ _ ⟨a8,c8,a12,c12,m26,rfl,q.t e24,st.f4.f2.f4.f4,hb1.mono e24,r2.mono e24,hb2.mono e24,r3.mono e24,r29,r6.mono e24,r17.mono e24⟩)
    ·intro A i;refine qAm ?_;cases i;have st:=st.f1;obtain⟨m27,e25,st,r30⟩:=St.freezeR (c:=C5) rfl st hs1 hn1 hrw1;exact xE (Ku1 _ _ ⟨a8,c8,a4,c4,m27,rfl,q.t e25,st.f4.f4.f4.f4,hb1.mono e25,r2.mono e25,hb2.mono e25,r3.mono e25,r30,r6.mono e25,r4.mono e25⟩)
 ·intro K;refine qAc 4 [(44,vB (y2.2 !=y3.2))] (qEe 44 i ?_ ?_)
  ·intro A i;refine qAc 5 [(49,vB true)] ?_;cases i;exact qBf _ kr (K _ _ ⟨m6,rfl,((((q.t e1).t e2).t e4).t e5).t e6,st.f3.f2.f4.f4.f4,(((hb1.mono e2).mono e4).mono e5).mono e6,((((r2.mono e1).mono e2).mono e4).mono e5).mono e6,((hb2.mono e4).mono e5).mono e6,((((r3.mono e1).mono e2).mono e4).mono e5).mono e6,r7,r6,(r4.mono e5).mono e6⟩)
  ·intro A i;refine qAa rfl (qBk 45 56 9 0 (.agg (V1 y2.1 a6 c6)) st.t.t.h (qAa rfl (qBk 46 56 11 0 (.agg (V1 y3.1 a7 c7)) st.h (qAy 47 i (fun _ h=>qBs st r6 r7 h) ?_))));rintro y4 i _ w12 ⟨m8,rfl,e7,st⟩;refine qAc 2 [(49,vB (!y4))] ?_;cases i;exact qBf _ kr (K _ _ ⟨m8,rfl,(((((q.t e1).t e2).t e4).t e5).t e6).t e7,st.f3.f2.f4.f4.f4,((((hb1.mono e2).mono e4).mono e5).mono e6).mono e7,(((((r2.mono e1).mono e2).mono e4).mono e5).mono e6).mono e7,(((hb2.mono e4).mono e5).mono e6).mono e7,(((((r3.mono e1).mono e2).mono e4).mono e5).mono e6).mono e7,r7.mono e7,r6.mono e7,((r4.mono e5).mono e6).mono e7⟩)
end
section
open Go Go.Dc Go.Sort Go.Proofs
def qIa{α:Type}[DecidableEq α]:List α→List α
 |[]=>[]
 |[x]=>[x]
 |x::y::l=>if x=y then qIa (y::l) else x::qIa (y::l)
theorem qPp{α:Type}[DecidableEq α]:∀(l:List α) (z:α),z∈qIa l↔z∈l
 |[],z=>Iff.rfl
 |[x],z=>Iff.rfl
 |x::y::l,z=>by
  have ih:=qPp (y::l) z
  simp only[qIa]
  split
  ·rename_i h
   rw[ih,h];simp
  ·rw[jD,ih];simp
def qJe{α:Type}(c:α→α→Int)(l:List α):Prop:=l.Pairwise fun x y=>c x y<0
def Weak{α:Type}(c:α→α→Int)(l:List α):Prop:=l.Pairwise fun x y=>c x y≤0
theorem qOu{α:Type}[DecidableEq α]{c:α→α→Int}(hc:Lin c):∀{l:List α},Weak c l→qJe c (qIa l)
 |[],_=>List.Pairwise.nil
 |[x],_=>by simp[qJe,qIa]
 |x::y::l,h=>by
  obtain⟨h1,h2⟩:=jL.1 h
  have ih:=qOu hc (l:=y::l) h2
  simp only[qIa]
  split
  ·exact ih
  ·rename_i hne
   refine jL.2 ⟨fun z hz=> ?_,ih⟩
   rw[qPp] at hz
   have hxy:c x y<0:=by
    have a:=h1 y (jE ..)
    have b:=hc.zero x y
    rcases Int.lt_or_eq_of_le a with g|g
    ·exact g
    ·exact absurd (b.1 g) hne
   rcases jD.1 hz with rfl|hz
   ·exact hxy
   ·have hyz:=(jL.1 h2).1 z hz
    rcases Int.lt_or_eq_of_le hyz with g|g
    ·exact hc.trans _ _ _ hxy g
    ·rw[←(hc.zero y z).1 g];exact hxy
theorem qRq{α:Type}{c:α→α→Int}(hc:Lin c):∀{l k:List α},qJe c l→qJe c k→(∀z,z∈l↔z∈k)→l=k
 |[],[],_,_,_=>rfl
 |[],y::k,_,_,h=>by have:=(h y).2 (jE ..);cases this
 |x::l,[],_,_,h=>by have:=(h x).1 (jE ..);cases this
 |x::l,y::k,h1,h2,h=>by
  obtain⟨a1,a2⟩:=jL.1 h1
  obtain⟨b1,b2⟩:=jL.1 h2
  have irr:∀z,¬c z z<0:=fun z=>by have:=(hc.zero z z).2 rfl;omega
  have hxy:x=y:=by
   rcases jD.1 ((h x).1 (jE ..)) with e|e
   ·exact e
   ·rcases jD.1 ((h y).2 (jE ..)) with g|g
    ·exact g.symm
    ·have p:=b1 x e;have q:=a1 y g
     exact absurd (hc.trans _ _ _ p q) (irr y)
  subst hxy
  have:l=k:=qRq hc a2 b2 fun z=>by
   constructor
   ·intro hz
    rcases jD.1 ((h z).1 (jM _ hz)) with e|e
    ·rw[e] at hz;exact absurd (a1 x hz) (irr x)
    ·exact e
   ·intro hz
    rcases jD.1 ((h z).2 (jM _ hz)) with e|e
    ·rw[e] at hz;exact absurd (b1 x hz) (irr x)
    ·exact e
  rw[this]
theorem qZe{α:Type}{c:α→α→Int}(hc:Lin c)(l:List α):Weak c (l.mergeSort fun x y=> !(ltOf c) y x):=by
 have:=List.pairwise_mergeSort (le:=fun x y=> !(ltOf c) y x) (fun x y z h1 h2=>by
  simp only[gP,ltOf,decide_eq_false_iff_not] at*
  intro h3
  have s:=hc.swo.ntrans z y x (by simpa[ltOf] using h2) (by simpa[ltOf] using h1)
  simp[ltOf] at s;omega) (fun x y=>by
  simp only[Bool.or_eq_true,gP,ltOf,decide_eq_false_iff_not]
  have:=hc.anti x y;omega) l
 refine this.imp fun h=> ?_
 rename_i x y
 simp only[gP,ltOf,decide_eq_false_iff_not] at h
 have:=hc.anti y x;have:=hc.anti x y
 omega
theorem qSd{α:Type}[DecidableEq α]:∀(l:List α) (z x:α),qIa (l++[z,x])=if z=x then qIa (l++[z]) else qIa (l++[z])++[x]
 |[],z,x=>by
  simp only[jW,qIa]
  split
  ·rename_i h;simp[h]
  ·simp
 |[a],z,x=>by
  simp only[fC,jW,qIa]
  by_cases h1:a=z
  ·by_cases h2:z=x<;>simp[h1,h2]
  ·by_cases h2:z=x<;>simp[h1,h2]
 |a::b::l,z,x=>by
  have ih:=qSd (b::l) z x
  simp only[fC] at ih ⊢
  simp only[qIa]
  by_cases h1:a=b
  ·rw[if_pos h1,if_pos h1];exact ih
  ·rw[if_neg h1,if_neg h1,ih]
   split<;>simp
end
section
open Go Go.Dc Go.Sort Go.Proofs
abbrev Ky:=Int×ByteArray×ByteArray
abbrev cK:Ky→Ky→Int:=lexC cmpI (lexC cmpS cmpS)
theorem cK_lin:Lin cK:=qMj cmpI_lin (qMj cmpS_lin cmpS_lin)
theorem qWz(x y:Ky):((x.1==y.1)&&((x.2.1.toList==y.2.1.toList)&&((x.2.2.toList==y.2.2.toList)&&true)))=decide (x=y):=by
 have bt:∀a b:ByteArray,(a.toList==b.toList)=decide (a=b):=fun a b=>by
  rw[kG]
  simp only[gB,j9]
  constructor
  ·intro h
   rw[ByteArray.toList_eq,ByteArray.toList_eq] at h
   exact Go.WideShapes.bytes_inj h
  ·rintro rfl;rfl
 rw[bt,bt,Bool.and_true,kG]
 simp only[jX,gB,j9]
 exact⟨fun h=>Prod.ext h.1 (Prod.ext h.2.1 h.2.2),fun h=>by subst h;exact⟨rfl,rfl,rfl⟩⟩
section
variable {α:Type} [DecidableEq α]
theorem qRr(y:List α)(k:Nat)(hk:k+1<y.length):qIa (y.take (k+2))=if y[k]=y[k+1] then qIa (y.take (k+1)) else qIa (y.take (k+1))++[y[k+1]]:=by
 have e1:y.take (k+1)=y.take k++[y[k]]:=k9 (by omega)
 have e2:y.take (k+2)=y.take k++[y[k],y[k+1]]:=by
  rw[k9 (show k+1<y.length from hk),e1,jR];rfl
 rw[e2,qSd,←e1]
theorem qZw(y:List α)(h:0<y.length):qIa (y.take 1)=y.take 1:=by
 cases y with
 |nil=>simp at h
 |cons a y=>simp[qIa]
end
theorem zDh{N:Nat}{y:List Ky}{k:Nat}(hlen:y.length<5000000):∀(d j k1 M:Nat) (l:List Ky),k+j+d=y.length→d<M→1≤j→k≤k1→k1+1≤k+j→l.length=y.length→l.drop k1=y.drop k1→l.take k1=qIa (y.take (k+j))→
  ∃(k2:Nat) (l2:List Ky),qAl (qIg N y (k:Int)) M ((k1:Int),(j:Int),l)=some ((k2:Int),l2)∧k2<y.length∧l2.length=y.length∧l2.take k2=qIa y
 |d,j,k1,0,l,_,h,_,_,_,_,_,_=>absurd h (jN _)
 |d,j,k1,M+1,l,h1,h2,h3,h4,h5,h6,h7,h8=>by
  have elen:Int.toNat (List.length y:Int)=y.length:=by simp
  have etk:Int.toNat (k:Int)=k:=by simp
  have get:∀i,k1≤i→(hi:i<y.length)→l[i]? =some y[i]:=fun i hi hl=>by
   have e1:(l.drop k1)[i-k1]? =(y.drop k1)[i-k1]? :=by rw[h7]
   rw[List.getElem?_drop,List.getElem?_drop] at e1
   have:k1+(i-k1)=i:=by omega
   rw[this] at e1
   rw[e1];simp[hl]
  simp only[qAl,qIg,elen,etk]
  rw[kP (by omega)]
  cases d with
  |zero=>
   have hc:¬((j:Int)<((y.length-k:Nat):Int)):=by omega
   simp only[hc,decide_false,j7,jC,j0]
   refine⟨k1,l,rfl,by omega,h6,?_⟩
   rw[h8,kP (by omega)]
  |succ d=>
   have hc:((j:Int)<((y.length-k:Nat):Int)):=by omega
   have w1:IntKind.wrap .i64 ((j:Int)-1)=((j-1:Nat):Int):=by rw[wi64 (by omega) (by omega)];omega
   have w2:IntKind.wrap .i64 ((j:Int)+1)=((j+1:Nat):Int):=by rw[wi64 (by omega) (by omega)];omega
   have w3:IntKind.wrap .i64 ((k1:Int)+1)=((k1+1:Nat):Int):=by rw[wi64 (by omega) (by omega)];omega
   have x3:idx (l.drop k) (j:Int)=some (y[k+j]'(by omega)):=by
    simp only[idx,Int.natCast_nonneg,jH,k0,List.getElem?_drop]
    exact get (k+j) (by omega) (by omega)
   have x4:idx (l.drop k) ((j-1:Nat):Int)=some (y[k+(j-1)]'(by omega)):=by
    simp only[idx,Int.natCast_nonneg,jH,k0,List.getElem?_drop]
    exact get (k+(j-1)) (by omega) (by omega)
   have x6:idx l (k1:Int)=some (l[k1]'(by omega)):=qBn (by omega)
   have ejj:k+(j-1)+1=k+j:=by omega
   have hd:=qRr y (k+(j-1)) (by omega)
   have ed:k+(j-1)+2=k+j+1:=by omega
   simp only[ed,ejj] at hd
   simp only[hc,decide_true,jH,w1,x3,x4,j0,qWz]
   by_cases heq:y[k+j]'(by omega)=y[k+(j-1)]'(by omega)
   ·simp only[heq,decide_true,jQ,j7,jC,j0,w2]
    rw[if_pos heq.symm] at hd
    exact zDh hlen d (j+1) k1 M l (by omega) (by omega) (by omega) h4 (by omega) h6 h7 (by rw[h8,←hd];rfl)
   ·simp only[heq,decide_false,kJ,jH,j0,x6,w3,w2]
    rw[if_neg (fun e=>heq e.symm)] at hd
    refine zDh hlen d (j+1) (k1+1) M _ (by omega) (by omega) (by omega) (by omega) (by omega) (by simpa using h6) ?_ ?_
    ·simp only[k0]
     rw[List.drop_set_of_lt (by omega)]
     have:=congrArg (List.drop 1) h7
     simpa[List.drop_drop] using this
    ·simp only[k0]
     rw[k9 (by simp;omega)]
     simp only[List.getElem_set_self]
     rw[List.take_set_of_le (by omega),h8]
     exact hd.symm
theorem outer{N:Nat}{y1 y:List Ky}(hlen:y.length<5000000)(hy1:y1.length=y.length)(hN:y.length<N):∀(d k M:Nat),k+1+d=y.length→d<M→qIa (y.take (k+1))=y.take (k+1)→
  ∃o,qAl (qIj N y1 y) M ((k+1:Nat):Int)=some o∧(o= .inl ()∧qIa y=y∨o= .inr (qIa y))
 |d,k,0,_,h,_=>absurd h (jN _)
 |d,k,M+1,h1,h2,h3=>by
  simp only[qAl,qIj,hy1]
  cases d with
  |zero=>
   have hc:¬(((k+1:Nat):Int)<(y.length:Int)):=by omega
   simp only[hc,decide_false,j7,jC,j0]
   refine⟨_,rfl,.inl ⟨rfl,?_⟩⟩
   rw[kP (by omega)] at h3;exact h3
  |succ d=>
   have hc:(((k+1:Nat):Int)<(y.length:Int)):=by omega
   have w1:IntKind.wrap .i64 (((k+1:Nat):Int)-1)=(k:Int):=by rw[wi64 (by omega) (by omega)];omega
   have w2:IntKind.wrap .i64 (((k+1:Nat):Int)+1)=((k+1+1:Nat):Int):=by rw[wi64 (by omega) (by omega)];omega
   have x1:idx y ((k+1:Nat):Int)=some (y[k+1]'(by omega)):=qBn (by omega)
   have x2:idx y (k:Int)=some (y[k]'(by omega)):=qBn (by omega)
   have hd:=qRr y k (by omega)
   simp only[hc,decide_true,jH,w1,x1,x2,j0,qWz]
   by_cases heq:y[k+1]'(by omega)=y[k]'(by omega)
   ·rw[if_pos heq.symm] at hd
    simp only[heq,decide_true,jH]
    have hchk:chkS y ((k+1:Nat):Int) (y.length:Int)=some ():=by unfold chkS;rw[if_pos (by omega)]
    obtain⟨k2,l2,e1,e2,e3,e4⟩:=zDh (N:=N) (y:=y) (k:=k+1) hlen (y.length-(k+2)) 1 (k+1) N y (by omega) (by omega) (by omega) (by omega) (by omega) rfl rfl (by rw[show k+1+1=k+2 by omega,hd,h3])
    have e1':qAl (qIg N y ((k+1:Nat):Int)) N (((k+1:Nat):Int),1,y)=some ((k2:Int),l2):=e1
    simp only[hchk,e1',j0]
    have hchk2:chkS l2 (k2:Int) (l2.length:Int)=some ():=by unfold chkS;rw[if_pos (by omega)]
    have hcl:qQg l2 (k2:Int) ((0,(⟨#[]⟩:ByteArray),(⟨#[]⟩:ByteArray)):Ky)=some (l2.take k2++List.replicate (l2.length-k2) (0,(⟨#[]⟩:ByteArray),(⟨#[]⟩:ByteArray))):=by
     unfold qQg;rw[if_pos (by omega)];simp
    have hchk3:chkS (l2.take k2++List.replicate (l2.length-k2) ((0,(⟨#[]⟩:ByteArray),(⟨#[]⟩:ByteArray)):Ky)) 0 (k2:Int)=some ():=by
     unfold chkS;rw[if_pos];simp only[jG,kL,gC];omega
    simp only[hchk2,hcl,hchk3,j0]
    refine⟨_,rfl,.inr ?_⟩
    simp only[k0]
    rw[k7 (by simp only[kL];omega),List.take_take,Nat.min_self,e4]
   ·rw[if_neg (fun e=>heq e.symm)] at hd
    simp only[heq,decide_false,j7,jC,w2,j0]
    refine outer hlen hy1 hN d (k+1) M (by omega) (by omega) ?_
    rw[show k+1+1=k+2 by omega,hd,h3,k9 (show k+1<y.length by omega)]
theorem qUa{α:Type}[DecidableEq α]:∀l:List α,(qIa l).length≤l.length
 |[]=>jP _
 |[x]=>jP _
 |x::y::l=>by
  have:=qUa (y::l)
  simp only[qIa]
  split
  ·simp only[j8] at*;omega
  ·simp only[j8] at*;omega
def qJg(L:List Ky):List Ky:=qIa (L.mergeSort fun x y=> !(ltOf cK) y x)
theorem qKb(L:List Ky):qJe cK (qJg L):=qOu cK_lin (qZe cK_lin L)
theorem qKs{L:List Ky}{z:Ky}:z∈qJg L↔z∈L:=by unfold qJg;rw[qPp];exact List.mem_mergeSort
theorem qNu(L:List Ky):(qJg L).length≤L.length:=by
 have:=qUa (L.mergeSort fun x y=> !(ltOf cK) y x)
 simpa[qJg] using this
theorem qUs{N:Nat}{L:List Ky}(hL:L.length<5000000)(hN:L.length+10<N):qMl N L=some (qJg L):=by
 have hm:(maxLen:Nat)=9223372036854775807:=rfl
 have h1:qBy L=some L:=by
  unfold qBy appM;rw[if_pos (by omega)]
 have h2:qAu N L=some (L.mergeSort fun x y=> !(ltOf cK) y x):=by
  unfold qAu;rw[if_pos (by omega)]
 unfold qJg
 generalize hy:(L.mergeSort fun x y=> !(ltOf cK) y x)=y at h2
 have hly:y.length=L.length:=by rw[←hy];simp
 simp only[qMl,h1,h2,j0]
 by_cases hc:(L.length:Int)<2
 ·simp only[hc,decide_true,jH,j0]
  rcases y with _|⟨a,_|⟨b,y⟩⟩
  ·rfl
  ·rfl
  ·simp only[j8] at hly;omega
 ·simp only[hc,decide_false,j7,jC,j0]
  obtain⟨o,e1,e2⟩:=outer (N:=N) (y1:=L) (y:=y) (by omega) (by omega) (by omega) (y.length-1) 0 N (by omega) (by omega) (qZw y (by omega))
  have e1':qAl (qIj N L y) N 1=some o:=e1
  rcases e2 with ⟨rfl,h⟩|rfl
  ·simp only[e1',j0,h]
  ·simp only[e1',j0]
end
section
open Go Go.Dc
def Ok{α:Type}(x:Option α)(Q:α→Prop):Prop:=∃a,x=some a∧Q a
section
variable {α β γ:Type} {Q:β→Prop}
theorem Ok.mk{a:β}(h:Q a):Ok (some a) Q:=⟨a,rfl,h⟩
theorem Ok.bind{x:Option α}{P:α→Prop}{f:α→Option β}(h:Ok x P)(k:∀a,P a→Ok (f a) Q):Ok (x.bind f) Q:=by
 obtain⟨a,rfl,ha⟩:=h
 exact k a ha
theorem Ok.mono{x:Option β}{P:β→Prop}(h:Ok x P)(k:∀a,P a→Q a):Ok x Q:=by
 obtain⟨a,e,ha⟩:=h
 exact⟨a,e,k a ha⟩
theorem Ok.assoc{x:Option α}{g:α→Option γ}{f:γ→Option β}(h:Ok (x.bind fun a=>(g a).bind f) Q):Ok ((x.bind g).bind f) Q:=by
 rw[Option.bind_assoc];exact h
theorem Ok.ite{c:Prop}[Decidable c]{x y:Option β}(h1:c→Ok x Q)(h2:¬c→Ok y Q):Ok (if c then x else y) Q:=by
 by_cases h:c
 ·rw[if_pos h];exact h1 h
 ·rw[if_neg h];exact h2 h
theorem Ok.someb{a:α}{f:α→Option β}(h:Ok (f a) Q):Ok ((some a).bind f) Q:=h
theorem Ok.app{b:Nat}{l k:List α}{f:List α→Option β}(hs:(l.length+k.length)*b≤140737488355328)(hb:0<b)(h:Ok (f (l++k)) Q):Ok ((qDe b l k).bind f) Q:=by
 rw[qBo hs hb];exact h
theorem Ok.loop{σ:Type}{f:σ→Option (σ⊕α)}{g:α→Option β}{s:σ}{N:Nat}(I:σ→Prop)(μ:σ→Nat)(R:α→Prop)
  (h:∀s,I s→Ok (f s) fun r=>match r with| .inl s'=>I s'∧μ s'<μ s| .inr b=>R b) (hs:I s) (hN:μ s<N) (k:∀b,R b→Ok (g b) Q):Ok ((qAl f N s).bind g) Q:=by
 obtain⟨b,h1,h2⟩:=qXg I μ R (fun s hs=>by
  obtain⟨r,h1,h2⟩:=h s hs
  cases r with
  |inl s'=>exact .inr ⟨s',h1,h2.1,h2.2⟩
  |inr b=>exact .inl ⟨b,h1,h2⟩) N s hs hN
 rw[h1];exact k b h2
end
theorem zBr{N:Nat}{v n:Int}(hn:n≤9223372036854775807):∃r,qFw N v n=some r∧0≤r∧(1≤n→r<n):=by
 simp only[qFw]
 by_cases h:n≤1
 ·exact⟨0,by simp[h],by omega,by omega⟩
 ·have hne:n≠0:=by omega
  have h1:=Int.tmod_lt_of_pos v (show 0<n by omega)
  have h2:=Int.lt_tmod_of_pos v (show 0<n by omega)
  simp only[h,decide_false,j7,jC,remS,hne,j0]
  by_cases h3:Int.tmod v n<0
  ·refine⟨Int.tmod v n+n,?_,by omega,by omega⟩
   simp only[h3,decide_true,jH,j0]
   rw[wi64 (by omega) (by omega)]
  ·exact⟨Int.tmod v n,by simp only[h3,decide_false,j7,jC,j0],by omega,by omega⟩
theorem qPf{N:Nat}{l:List Int}{a n:Int}(h0:0≤a)(h1:a<4611686018427387904)(hn:n≤9223372036854775807):∃r,qBe N (l,a) n=some ((l,a+1),r)∧0≤r∧(1≤n→r<n):=by
 simp only[qBe]
 have hv:∃v,(if(decide (a<(List.length l:Int)))=true then((idx l a).bind fun x1=>some x1) else(some (Int.tmod (IntKind.wrap .i64 (a*7)) 11)):Option Int)=some v:=by
  by_cases h:a<(l.length:Int)
  ·exact⟨_,by simp only[h,decide_true,jH];rw[qTo h0 (by omega)];rfl⟩
  ·exact⟨_,by simp only[h,decide_false,j7,jC];rfl⟩
 obtain⟨v,hv⟩:=hv
 obtain⟨r,hr,h2,h3⟩:=zBr (N:=N) (v:=v) hn
 exact⟨r,by simp only[hv,j0,hr];rw[wi64 (by omega) (by omega)],h2,h3⟩
section
variable {β:Type} {Q:β→Prop} {N:Nat} {l:List Int} {a:Int}
theorem Ok.next{n:Int}{f:(List Int×Int)×Int→Option β}(h0:0≤a)(h1:a<4611686018427387904)(hn:1≤n)(hn2:n≤1000000)(h:∀r,0≤r→r<n→Ok (f ((l,a+1),r)) Q):Ok ((qBe N (l,a) n).bind f) Q:=by
 obtain⟨r,hr,g1,g2⟩:=qPf (N:=N) (l:=l) h0 h1 (show n≤9223372036854775807 by omega)
 rw[hr];exact h r g1 (g2 hn)
theorem Ok.chance{n m:Int}{f:(List Int×Int)×Bool→Option β}(h0:0≤a)(h1:a<4611686018427387904)(hn:1≤m)(hn2:m≤1000000)(h:∀r,Ok (f ((l,a+1),r)) Q):Ok ((qCi N (l,a) n m).bind f) Q:=by
 obtain⟨r,hr,g1,g2⟩:=qPf (N:=N) (l:=l) h0 h1 (show m≤9223372036854775807 by omega)
 simp only[qCi,hr,j0]
 exact h _
theorem Ok.one{L:List ByteArray}{f:(List Int×Int)×ByteArray→Option β}(h0:0≤a)(h1:a<4611686018427387904)(hL:0<L.length)(hL2:L.length<1000)(h:∀x∈L,Ok (f ((l,a+1),x)) Q):Ok ((qBt N (l,a) L).bind f) Q:=by
 obtain⟨r,hr,g1,g2⟩:=qPf (N:=N) (l:=l) h0 h1 (show(L.length:Int)≤9223372036854775807 by omega)
 have g2:=g2 (by omega)
 have hlt:r.toNat<L.length:=by omega
 simp only[qBt]
 rw[if_neg (by rw[gB];omega),hr]
 simp only[j0]
 rw[qTo g1 hlt]
 exact h _ (jV hlt)
theorem Ok.pick{L:List Int}{f:(List Int×Int)×Int→Option β}(h0:0≤a)(h1:a<4611686018427387904)(hL:0<L.length)(hL2:L.length<1000)(h:∀x∈L,Ok (f ((l,a+1),x)) Q):Ok ((qEb N (l,a) L).bind f) Q:=by
 obtain⟨r,hr,g1,g2⟩:=qPf (N:=N) (l:=l) h0 h1 (show(L.length:Int)≤9223372036854775807 by omega)
 have g2:=g2 (by omega)
 have hlt:r.toNat<L.length:=by omega
 simp only[qEb]
 rw[if_neg (by rw[gB];omega),hr]
 simp only[j0]
 rw[qTo g1 hlt]
 exact h _ (jV hlt)
end
end
end Go.Proofs.YtiblcebedkllpaaGreatDoor
section
namespace Go.Dc
theorem qXv{σ β:Type}{f:σ→Option (σ⊕β)}(st:Nat→σ)(k:Nat)(res:β)(step:∀i,i<k→f (st i)=some (.inl (st (i+1))))(stop:f (st k)=some (.inr res)){N:Nat}(hN:k<N):qAl f N (st 0)=some res:=by
 have key:∀d i M,i+d=k→d<M→qAl f M (st i)=some res:=by
  intro d
  induction d with
  |zero=>intro i M h hM;obtain⟨M',rfl⟩:∃M',M=M'+1:=⟨M-1,by omega⟩;simp only[gS] at h;subst h;simp[qAl,stop]
  |succ d ih=>
   intro i M h hM
   obtain⟨M',rfl⟩:∃M',M=M'+1:=⟨M-1,by omega⟩
   have:=ih (i+1) M' (by omega) (by omega)
   simp[qAl,step i (by omega),this]
 exact key k 0 N (by omega) hN
section
variable {ν:Type}
theorem qWe{l:List (Int×ν)}{k c:Int}{v:ν}(h:c≠k):mget (l.map fun p=>if k=p.1 then(k,v) else p) c=mget l c:=by
 induction l with
 |nil=>rfl
 |cons p l ih=>
  simp only[jY,mget]
  by_cases hk:k=p.1
  ·subst hk;rw[if_pos rfl,if_neg h,if_neg h,ih]
  ·rw[if_neg hk,ih]
theorem qVt{l:List (Int×ν)}{k:Int}{v:ν}(h:(mget l k).isSome=true):mget (l.map fun p=>if k=p.1 then(k,v) else p) k=some v:=by
 induction l with
 |nil=>cases h
 |cons p l ih=>
  simp only[jY,mget] at h ⊢
  by_cases hk:k=p.1
  ·subst hk;simp
  ·rw[if_neg hk] at h ⊢
   rw[if_neg hk]
   exact ih h
theorem qZo{l:List (Int×ν)}{k:Int}{v:ν}(h:mget l k=none)(c:Int):mget (mins l k v) c=if c=k then some v else mget l c:=by
 induction l with
 |nil=>rfl
 |cons p l ih=>
  simp only[mget] at h
  split at h
  ·cases h
  ·rename_i hk
   simp only[mins]
   split
   ·simp only[mget]
   ·simp only[mget,ih h]
    by_cases hc:c=k
    ·subst hc;simp[hk]
    ·simp[hc]
theorem qZb(l:List (Int×ν))(k:Int)(v:ν)(c:Int):mget (mset l k v) c=if c=k then some v else mget l c:=by
 unfold mset
 split
 ·rename_i h
  split
  ·rename_i hc;subst hc;exact qVt h
  ·rename_i hc;exact qWe hc
 ·rename_i h
  exact qZo (by simpa using h) c
def Srt(l:List (Int×ν)):Prop:=(l.map (·.1)).Pairwise (· < ·)
theorem Srt.nil:Srt ([]:List (Int×ν)):=List.Pairwise.nil
theorem Srt.mins{l:List (Int×ν)}{k:Int}{v:ν}(hs:Srt l)(h:mget l k=none):Srt (mins l k v):=by
 induction l with
 |nil=>simp[Srt,Go.Dc.mins]
 |cons p l ih=>
  have hs':=hs
  simp only[Srt,jY,jL] at hs
  simp only[mget] at h
  split at h
  ·cases h
  ·rename_i hk
   simp only[Go.Dc.mins]
   split
   ·rename_i hlt
    have hlt:k<p.1:=by simpa[KOrd.lt] using hlt
    refine jL.2 ⟨fun a ha=> ?_,hs'⟩
    simp only[jY,jD] at ha
    rcases ha with rfl|ha
    ·exact hlt
    ·exact Int.lt_trans hlt (hs.1 a ha)
   ·rename_i hlt
    have hlt:¬k<p.1:=by simpa[KOrd.lt] using hlt
    refine jL.2 ⟨fun a ha=> ?_,ih hs.2 h⟩
    obtain⟨q,hq,rfl⟩:=kF.1 ha
    rcases jD.1 ((qUh l k v).mem_iff.1 hq) with rfl|hq
    ·show p.1<k;omega
    ·exact hs.1 _ (kZ hq)
theorem Srt.mset{l:List (Int×ν)}(hs:Srt l)(k:Int)(v:ν):Srt (mset l k v):=by
 unfold Go.Dc.mset
 split
 ·unfold Srt
  have:(l.map fun p=>if k=p.1 then(k,v) else p).map (·.1)=l.map (·.1):=by
   rw[List.map_map]
   refine List.map_congr_left fun p _=> ?_
   simp only[Function.comp_apply]
   split
   ·rename_i h;exact h
   ·rfl
  rw[this];exact hs
 ·rename_i h
  exact hs.mins (by simpa using h)
theorem Srt.out{l:List (Int×ν)}{c:Int}(h:∀a∈l.map (·.1),c<a):mget l c=none:=by
 rw[qPo];intro hm;exact Int.lt_irrefl _ (h c hm)
theorem Srt.ext:∀{l k:List (Int×ν)},Srt l→Srt k→(∀c,mget l c=mget k c)→l=k
 |[],[],_,_,_=>rfl
 |[],q::k,_,_,h=>by have:=h q.1;simp[mget] at this
 |p::l,[],_,_,h=>by have:=h p.1;simp[mget] at this
 |p::l,q::k,hl,hk,h=>by
  have hl':(∀a∈l.map (·.1),p.1<a)∧Srt l:=jL.1 hl
  have hk':(∀a∈k.map (·.1),q.1<a)∧Srt k:=jL.1 hk
  have h1:p.1=q.1:=by
   rcases Int.lt_trichotomy p.1 q.1 with hlt|he|hlt
   ·have:=h p.1
    rw[Srt.out (l:=q::k) (c:=p.1)] at this
    ·simp[mget] at this
    ·intro a ha
     rcases jD.1 ha with rfl|ha
     ·exact hlt
     ·exact Int.lt_trans hlt (hk'.1 a ha)
   ·exact he
   ·have:=h q.1
    rw[Srt.out (l:=p::l) (c:=q.1)] at this
    ·simp[mget] at this
    ·intro a ha
     rcases jD.1 ha with rfl|ha
     ·exact hlt
     ·exact Int.lt_trans hlt (hl'.1 a ha)
  have h2:p.2=q.2:=by have:=h p.1;simpa[mget,h1] using this
  have h3:l=k:=by
   refine Srt.ext hl'.2 hk'.2 fun c=> ?_
   by_cases hc:c=p.1
   ·rw[Srt.out (l:=l) (fun a ha=>hc▸hl'.1 a ha),Srt.out (l:=k) (fun a ha=>by rw[hc,h1];exact hk'.1 a ha)]
   ·have:=h c
    simpa[mget,hc,h1▸hc] using this
  rw[h3,Prod.ext h1 h2]
def qJx(v:ν)(m:List (Int×ν))(xs:List UInt8):List (Int×ν):=xs.foldl (fun m x=>mset m (x.toNat:Int) v) m
theorem qSc{v:ν}:∀{xs:List UInt8} {m:List (Int×ν)},Srt m→Srt (qJx v m xs)
 |[],_,h=>h
 |_::xs,_,h=>qSc (xs:=xs) (h.mset _ _)
theorem qQz{v:ν}(c:Int):∀(xs:List UInt8) (m:List (Int×ν)),mget (qJx v m xs) c=if xs.any (fun x=>decide ((x.toNat:Int)=c))=true then some v else mget m c
 |[],m=>by simp[qJx]
 |x::xs,m=>by
  have:=qQz (v:=v) c xs (mset m (x.toNat:Int) v)
  rw[show qJx v m (x::xs)=qJx v (mset m (x.toNat:Int) v) xs from rfl,this,qZb]
  by_cases h1:xs.any (fun x=>decide ((x.toNat:Int)=c))=true
  ·simp[h1]
  ·by_cases h2:(x.toNat:Int)=c
   ·subst h2;simp[h1]
   ·have h3:¬c=(x.toNat:Int):=fun e=>h2 e.symm
    simp[h1,h2,h3]
end
end Go.Dc
namespace Go.Proofs.YtiblcebedkllpaaGreatDoor
open Go Go.Dc
def allK:List (Int×ByteArray):=[(1,⟨#[97,98,99,100,101,102,103,104,105,106,107,108,109,110,111,112,113,114,115,116,117,118,119,120,121,122]⟩),(2,⟨#[48,49,50,51,52,53,54,55,56,57]⟩),(3,⟨#[95]⟩),(4,⟨#[46]⟩),(5,⟨#[9,10,13,32]⟩),(6,⟨#[35]⟩),(7,⟨#[34]⟩),(8,⟨#[59,44,40,41,43,45,42,47,37,60,61]⟩)]
def kdL:List (Int×Int):=[(9,5),(10,5),(13,5),(32,5),(34,7),(35,6),(37,8),(40,8),(41,8),(42,8),(43,8),(44,8),(45,8),(46,4),(47,8),(48,2),(49,2),(50,2),(51,2),(52,2),(53,2),(54,2),(55,2),(56,2),(57,2),(59,8),(60,8),(61,8),(95,3),(97,1),(98,1),(99,1),(100,1),(101,1),(102,1),(103,1),(104,1),(105,1),(106,1),(107,1),(108,1),(109,1),(110,1),(111,1),(112,1),(113,1),(114,1),(115,1),(116,1),(117,1),(118,1),(119,1),(120,1),(121,1),(122,1)]
def kdI(c:Int):Int:=(mget kdL c).getD 0
def inE(e:Int×ByteArray)(c:Int):Bool:=e.2.data.toList.any fun x=>decide ((x.toNat:Int)=c)
def layK(m:List (Int×Int))(k:List (Int×ByteArray)):List (Int×Int):=k.foldl (fun m e=>qJx e.1 m e.2.data.toList) m
theorem qXc:∀{k:List (Int×ByteArray)} {m:List (Int×Int)},Srt m→Srt (layK m k)
 |[],_,h=>h
 |_::k,_,h=>qXc (k:=k) (qSc h)
theorem qXe(c:Int):∀(k:List (Int×ByteArray)) (m:List (Int×Int)),(∀e∈k,inE e c=true→e.1=kdI c)→(∀v,mget m c=some v→v=kdI c)→
  mget (layK m k) c=if(k.any fun e=>inE e c)=true then some (kdI c) else mget m c
 |[],m,_,_=>by simp[layK]
 |e::k,m,h,hm=>by
  have hg:=qQz (v:=e.1) c e.2.data.toList m
  have:=qXe c k (qJx e.1 m e.2.data.toList) (fun e' he=>h e' (jM _ he)) (fun v hv=>by
   rw[hg] at hv
   split at hv
   ·rename_i hi
    rw[←gL hv]
    exact h e (jE ..) hi
   ·exact hm v hv)
  rw[show layK m (e::k)=layK (qJx e.1 m e.2.data.toList) k from rfl,this,hg]
  by_cases h1:(k.any fun e=>inE e c)=true
  ·simp[h1]
  ·by_cases h2:inE e c=true
   ·have:=h e (jE ..) h2
    have h2':(e.2.data.toList.any fun x=>decide ((x.toNat:Int)=c))=true:=h2
    simp only[List.any_cons,h2,Bool.true_or,jH,h1,h2',this]
    simp
   ·have h2':(e.2.data.toList.any fun x=>decide ((x.toNat:Int)=c))=false:=by simpa[inE] using h2
    simp only[List.any_cons,h1,h2',Bool.or_false,j7,jC]
    simp[h2]
theorem qXj:(allK.all fun e=>e.2.data.toList.all fun x=>decide (e.1=kdI (x.toNat:Int)))=true∧(kdL.all fun p=>allK.any fun e=>inE e p.1)=true:=⟨by kernel_rfl,by kernel_rfl⟩
theorem kd_in{e:Int×ByteArray}{c:Int}(he:e∈allK)(h:inE e c=true):e.1=kdI c:=by
 have:=k8.1 qXj.1 e he
 obtain⟨x,hx,hc⟩:=fD.1 h
 have h2:=k8.1 this x hx
 have hc:(x.toNat:Int)=c:=by simpa using hc
 subst hc
 simpa using h2
theorem zCn(c:Int):mget kdL c=if(allK.any fun e=>inE e c)=true then some (kdI c) else none:=by
 cases h:mget kdL c with
 |none=>
  rw[if_neg]
  intro ha
  obtain⟨e,he,hi⟩:=fD.1 ha
  have h1:=kd_in he hi
  have h0:kdI c=0:=by simp[kdI,h]
  have:(allK.all fun e=>decide (e.1≠0))=true:=by kernel_rfl
  have:=k8.1 this e he
  simp[h1,h0] at this
 |some v=>
  have hm:(c,v)∈kdL:=(qTi (l:=kdL) (by
   have:decide ((kdL.map (·.1)).Nodup)=true:=by kernel_rfl
   simpa using this)).1 h
  have:=k8.1 qXj.2 _ hm
  rw[if_pos this]
  simp[kdI,h]
theorem zCq:Srt kdL:=by
 have:decide ((kdL.map (·.1)).Pairwise (· < ·))=true:=by kernel_rfl
 simpa[Srt] using this
theorem zAr{k:List (Int×ByteArray)}(h:k.Perm allK):layK [] k=kdL:=by
 refine Srt.ext (qXc Srt.nil) zCq fun c=> ?_
 rw[qXe c k [] (fun e he hi=>kd_in (h.mem_iff.1 he) hi) (fun v hv=>by cases hv),zCn]
 have:(k.any fun e=>inE e c)=(allK.any fun e=>inE e c):=by
  rw[kG,fD,fD]
  exact⟨fun⟨e,he,hi⟩=>⟨e,h.mem_iff.1 he,hi⟩,fun⟨e,he,hi⟩=>⟨e,h.mem_iff.2 he,hi⟩⟩
 rw[this]
 rfl
theorem zBf{N:Nat}{e:Int×ByteArray}(m:List (Int×Int))(he:e.2.size≤26)(hN:30<N):qDn N (some e) (some m)=some (.inl (some (qJx e.1 m e.2.data.toList))):=by
 have hsz:e.2.data.toList.length=e.2.size:=by simp
 have hb:qPs e.2=some e.2.data.toList:=by unfold qPs;rw[if_pos (by simp only[maxLen];omega)]
 simp only[qDn,hb,j0]
 have key:=qXv (f:=qGk N e e.2.data.toList) (fun i=>((i:Int),some (qJx e.1 m (e.2.data.toList.take i)))) e.2.data.toList.length (some (qJx e.1 m e.2.data.toList)) (fun i hi=> ?_) ?_ (N:=N) (by omega)
 ·simp only[Int.natCast_zero,List.take_zero] at key
  rw[show qJx e.1 m []=m from rfl] at key
  rw[key];rfl
 ·simp only[qGk]
  rw[if_pos (by simpa using hi),qBn hi]
  simp only[j0,qMr,kU]
  rw[wi64 (by omega) (by omega),k9 hi]
  simp[qJx]
 ·simp only[qGk]
  rw[if_neg (by simp),fA]
theorem qRw{N:Nat}(hN:30<N):∀(k:List (Int×ByteArray)) (m:List (Int×Int)),(∀e∈k,e.2.size≤26)→qKh (qDn N) k (some m)=some (some (layK m k))
 |[],m,_=>by simp[qKh,qDn,layK]
 |e::k,m,h=>by
  have:=qRw hN k (qJx e.1 m e.2.data.toList) (fun e' he=>h e' (jM _ he))
  simp only[qKh,zBf m (h e (jE ..)) hN,j0,this]
  rfl
theorem qXo{N:Nat}(hN:30<N):qIn N=some (some kdL):=by
 have h8:∀e∈allK,e.2.size≤26:=by
  have:(allK.all fun e=>decide (e.2.size≤26))=true:=by kernel_rfl
  intro e he
  simpa using k8.1 this e he
 have key:qOo (qDn N) allK (some [])=some (some kdL):=qZk fun k hk=>by
  rw[qRw hN k [] (fun e he=>h8 e (hk.mem_iff.1 he)),zAr hk]
 have h1:qIn N=(qOo (qDn N) allK (some [])).bind fun o1=>some o1:=by kernel_rfl
 rw[h1,key];rfl
end Go.Proofs.YtiblcebedkllpaaGreatDoor
end
namespace Go.Proofs.YtiblcebedkllpaaGreatDoor
section
open Go Go.Dc
theorem qEl(s:ByteArray):s.data.toList.length=s.size:=by simp
theorem qKr{s:ByteArray}{i:Nat}(h:i<s.data.toList.length):idxB s (i:Int)=some (s.data.toList[i]):=by
 have h':i<s.size:=by simpa using h
 rw[zBm h']
 simp[ByteArray.getElem_eq_getElem_data]
def tw(p:UInt8→Bool)(l:List UInt8)(a:Nat):Nat:=a+((l.drop a).takeWhile p).length
section
variable {p:UInt8→Bool} {l:List UInt8} {a:Nat}
theorem zAe(h:a<l.length)(hb:p l[a]=true):tw p l (a+1)=tw p l a:=by
 unfold tw
 rw[kV h,gJ hb]
 simp only[j8];omega
theorem qZi(h:a<l.length)(hb:p l[a]=false):tw p l a=a:=by
 unfold tw
 rw[kV h,gX (by simp[hb])]
 simp
theorem tw_out(h:l.length≤a):tw p l a=a:=by
 unfold tw
 rw[kQ h];rfl
theorem qWr{β:Type}{f:Int→Option (Int⊕β)}(out:Nat→β)(go:∀i:Nat,∀h:i<l.length,p l[i]=true→f (i:Int)=some (.inl ((i:Int)+1)))
  (no:∀i:Nat,∀h:i<l.length,p l[i]=false→f (i:Int)=some (.inr (out i))) (en:f (l.length:Int)=some (.inr (out l.length))):
  ∀(d a N:Nat),a+d=l.length→d<N→qAl f N (a:Int)=some (out (tw p l a))
 |d,a,0,_,h=>by omega
 |0,a,N+1,hd,h=>by
  have:a=l.length:=by omega
  subst this
  rw[tw_out (jP _)];simp[qAl,en]
 |d+1,a,N+1,hd,h=>by
  have ha:a<l.length:=by omega
  cases hb:p l[a] with
  |true=>
   have:=qWr out go no en d (a+1) N (by omega) (by omega)
   rw[zAe ha hb] at this
   simpa[qAl,go a ha hb] using this
  |false=>
   rw[qZi ha hb];simp[qAl,no a ha hb]
end
def kd(c:UInt8):Int:=kdI (c.toNat:Int)
def inK(ks:List Int)(c:UInt8):Bool:=ks.any fun k=>kd c==k
theorem qRh{N:Nat}{s:ByteArray}{ks:List Int}{i:Nat}(h:i<s.data.toList.length)(hk:ks.length≤10)(hN:10<N):qAl (qGe N s (some kdL) ks (i:Int)) N (false,0)=some (inK ks (s.data.toList[i])):=by
 have key:=qXv (f:=qGe N s (some kdL) ks (i:Int)) (fun j=>((ks.take j).any (fun k=>kd (s.data.toList[i])==k),(j:Int))) ks.length (inK ks (s.data.toList[i])) (fun j hj=> ?_) ?_ (N:=N) (by omega)
 ·simpa using key
 ·simp only[qGe]
  rw[if_pos (by simpa using hj),qBn hj,qKr h]
  simp only[j0]
  rw[wi64 (by omega) (by omega),k9 hj,List.any_append]
  cases(ks.take j).any (fun k=>kd (s.data.toList[i])==k)
  ·simp[kd,kdI,qNb]
  ·simp
 ·simp only[qGe]
  rw[if_neg (by simp),fA]
  rfl
theorem zAj{N:Nat}{s:ByteArray}{ks:List Int}{i:Nat}(hi:i≤s.data.toList.length)(hl:s.data.toList.length<1000000)(hk:ks.length≤10)(hN:s.data.toList.length+10<N):
  qIi N s (i:Int) (some kdL) ks=some ((tw (inK ks) s.data.toList i:Nat):Int):=by
 have hs:=qEl s
 have key:=qWr (f:=qGc N s (some kdL) ks) (l:=s.data.toList) (p:=inK ks) (fun n=>(n:Int)) (fun j hj hb=>by
   simp only[qGc]
   rw[if_pos (by simp only[j9];omega),qRh hj hk (by omega),hb]
   simp only[j0]
   rw[wi64 (by omega) (by omega)]
   rfl) (fun j hj hb=>by
   simp only[qGc]
   rw[if_pos (by simp only[j9];omega),qRh hj hk (by omega),hb]
   rfl) (by
   simp only[qGc]
   rw[if_neg (by simp only[j9];omega)]) (s.data.toList.length-i) i N (by omega) (by omega)
 unfold qIi
 rw[key]
 rfl
end
section
open Go Go.Dc
theorem kd_def(c:UInt8):(qNb (some kdL) (c.toNat:Int)).getD 0=kd c:=rfl
theorem qTp{l:List UInt8}{i:Nat}(h:i<l.length):l.getD i 0=l[i]:=by simp[gY,h]
theorem zCj{p:UInt8→Bool}:∀{l:List UInt8} {c:UInt8},c∈l.takeWhile p→p c=true
 |[],_,h=>by simp at h
 |x::l,c,h=>by
  cases hx:p x with
  |true=>
   rw[gJ hx] at h
   rcases jD.1 h with rfl|h
   ·exact hx
   ·exact zCj h
  |false=>rw[gX (by simp[hx])] at h;cases h
theorem qXd{s:ByteArray}{i e:Nat}(h1:i≤e)(h2:e≤s.data.toList.length):subB s (i:Int) (e:Int)=some (s.extract i e):=by
 have:=qEl s
 rw[zAw (by omega) (by omega) (by omega)]
 simp
theorem qZn{s:ByteArray}{i:Nat}(h1:i≤s.data.toList.length):subB s (i:Int) (s.size:Int)=some (s.extract i s.data.toList.length):=by
 have hs:=qEl s
 rw[←qXd h1 (jP _),hs]
theorem qUn(x y:ByteArray):(x.toList==y.toList)=decide (x=y):=by
 rw[kG]
 simp only[gB,j9]
 constructor
 ·intro h
  rw[ByteArray.toList_eq,ByteArray.toList_eq] at h
  exact Go.WideShapes.bytes_inj h
 ·rintro rfl;rfl
end
section
open Go Go.Dc
theorem zCk{p:UInt8→Bool}{l:List UInt8}(h:∀c∈l,p c=true):tw p l 0=l.length:=by
 unfold tw
 have:l.takeWhile p=l:=by
  induction l with
  |nil=>rfl
  |cons c l ih=>rw[gJ (h c (jE ..)),ih fun d hd=>h d (jM _ hd)]
 simp[this]
end
section
open Go Go.Dc
theorem zAq{p:UInt8→Bool}(h:((List.range 256).all fun n=>p (UInt8.ofNat n))=true)(c:UInt8):p c=true:=by
 have:=k8.1 h c.toNat (fM.2 c.toNat_lt)
 simpa using this
theorem qTu{N:Nat}(c:UInt8):qDs N (c.toNat:Int)=some (kd c==1):=by
 have h:=zAq (p:=fun c=>(decide (97≤c.toNat)&&decide (c.toNat≤122))==(kd c==1)) (by kernel_rfl) c
 rw[gB] at h
 rw[←h]
 unfold qDs
 by_cases h1:97≤c.toNat
 ·rw[if_pos (by simp only[j9];omega)]
  simp only[h1,decide_true,kA,j0]
  congr 1
  exact decide_eq_decide.2 (by omega)
 ·rw[if_neg (by simp only[j9];omega)]
  simp[h1]
theorem qTn{N:Nat}(c:UInt8):qDc N (c.toNat:Int)=some (inK [1,2,3] c):=by
 have h:=zAq (p:=fun c=>(kd c==1||(decide (48≤c.toNat)&&decide (c.toNat≤57)||decide (c.toNat=95)))==inK [1,2,3] c) (by kernel_rfl) c
 rw[gB] at h
 rw[←h]
 unfold qDc
 rw[qTu]
 simp only[j0]
 cases kd c==1
 ·have e95:((c.toNat:Int)==95)=decide (c.toNat=95):=by rw[kG,gB,j9];omega
  simp only[j7,jC,fP,e95]
  by_cases h1:48≤c.toNat
  ·by_cases h2:c.toNat≤57
   ·rw[if_pos (by simp only[j9];omega),if_pos (by simp only[j9];omega)];simp[h1,h2]
   ·rw[if_pos (by simp only[j9];omega),if_neg (by simp only[j9];omega)];simp[h2]
  ·rw[if_neg (by simp only[j9];omega)];simp[h1]
 ·rfl
end
section
open Go Go.Dc
def qLt(s:ByteArray):Bool:=decide (1≤s.data.toList.length∧s.data.toList.length≤24∧kd (s.data.toList.getD 0 0)=1∧tw (inK [1,2,3]) s.data.toList 0=s.data.toList.length)
theorem qLl{s:ByteArray}(h:¬(1≤s.data.toList.length∧s.data.toList.length≤24∧kd (s.data.toList.getD 0 0)=1∧tw (inK [1,2,3]) s.data.toList 0=s.data.toList.length)):false=qLt s:=(decide_eq_false h).symm
theorem qZz{s:ByteArray}(h:1≤s.data.toList.length∧s.data.toList.length≤24∧kd (s.data.toList.getD 0 0)=1∧tw (inK [1,2,3]) s.data.toList 0=s.data.toList.length):true=qLt s:=(f0 h).symm
theorem zAa{N:Nat}{s:ByteArray}(hN:100<N):qIo N s=some (qLt s):=by
 have hs:=qEl s
 simp only[qIo,qXo (show 30<N by omega),j0]
 by_cases h1:1≤s.data.toList.length
 ·by_cases h2:s.data.toList.length≤24
  ·rw[if_pos (by simp only[j9];omega),if_pos (by simp only[j9];omega)]
   have hi:=qKr (s:=s) (i:=0) (by omega)
   rw[show((0:Nat):Int)=0 from rfl] at hi
   rw[hi]
   simp only[j0,kd_def,gB]
   have hsp:=zAj (N:=N) (s:=s) (ks:=[1,2,3]) (i:=0) (by omega) (by omega) (by simp) (by omega)
   rw[show((0:Nat):Int)=0 from rfl] at hsp
   by_cases h3:kd (s.data.toList[0])=1
   ·rw[if_pos h3,hsp]
    simp only[j0]
    congr 1
    rw[kG,gB,qLt,j9,qTp (by omega)]
    exact⟨fun h=>⟨h1,h2,h3,by omega⟩,fun h=>by have:=h.2.2.2;omega⟩
   ·rw[if_neg h3]
    refine congrArg some (qLl fun h=> ?_)
    rw[qTp (by omega)] at h
    exact h3 h.2.2.1
  ·rw[if_pos (by simp only[j9];omega),if_neg (by simp only[j9];omega)]
   exact congrArg some (qLl fun h=>h2 h.2.1)
 ·rw[if_neg (by simp only[j9];omega)]
  exact congrArg some (qLl fun h=>h1 h.1)
theorem qRp{N:Nat}{s:ByteArray}(hN:100<N):qDp N s=some (qLt s):=by
 have hs:=qEl s
 simp only[qDp]
 by_cases h1:1≤s.data.toList.length
 ·by_cases h2:s.data.toList.length≤24
  ·rw[if_neg (by simp only[j9];omega),if_neg (by simp only[j9];omega)]
   have hi:=qKr (s:=s) (i:=0) (by omega)
   rw[show((0:Nat):Int)=0 from rfl] at hi
   rw[hi]
   simp only[j0,qTu]
   by_cases h3:kd (s.data.toList[0])=1
   ·rw[h3,if_neg (by simp)]
    have key:=qWr (f:=qCl N s) (l:=s.data.toList) (p:=inK [1,2,3]) (fun e=>if e=s.data.toList.length then .inl () else .inr false) (fun j hj hb=>by
     simp only[qCl]
     rw[if_pos (by simp only[j9];omega),qKr hj]
     simp only[j0,qTn,hb]
     rw[wi64 (by omega) (by omega)]
     rfl) (fun j hj hb=>by
     simp only[qCl]
     rw[if_pos (by simp only[j9];omega),qKr hj]
     simp only[j0,qTn,hb]
     rw[if_neg (show ¬j=s.data.toList.length by omega)]
     rfl) (by
     simp only[qCl]
     rw[if_neg (by simp only[j9];omega)]
     simp) s.data.toList.length 0 N (by omega) (by omega)
    rw[show((0:Nat):Int)=0 from rfl] at key
    rw[key]
    simp only[j0]
    by_cases h4:tw (inK [1,2,3]) s.data.toList 0=s.data.toList.length
    ·rw[if_pos h4]
     exact congrArg some (qZz ⟨h1,h2,by rw[qTp (by omega)];exact h3,h4⟩)
    ·rw[if_neg h4]
     exact congrArg some (qLl fun h=>h4 h.2.2.2)
   ·rw[if_pos (by rw[gP,beq_eq_false_iff_ne];exact h3)]
    refine congrArg some (qLl fun h=> ?_)
    rw[qTp (by omega)] at h
    exact h3 h.2.2.1
  ·rw[if_neg (by simp only[j9];omega),if_pos (by simp only[j9];omega)]
   simp only[j0,jH]
   exact congrArg some (qLl fun h=>h2 h.2.1)
 ·rw[if_pos (by simp only[j9];omega)]
  simp only[j0,jH]
  exact congrArg some (qLl fun h=>h1 h.1)
end
section
open Go Go.Dc
def sp:List UInt8→List (List UInt8)
 |[]=>[[]]
 |c::l=>if c=47 then[]::sp l else match sp l with
  |[]=>[[c]]
  |p::q=>(c::p)::q
theorem qYl:∀l:List UInt8,sp l≠[]
 |[]=>by simp[sp]
 |c::l=>by
  simp only[sp]
  split
  ·simp
  ·split<;>simp
theorem qZu:∀l:List UInt8,(sp l).length=l.count 47+1
 |[]=>rfl
 |c::l=>by
  simp only[sp]
  split
  ·rename_i h;subst h;simp[qZu l]
  ·rename_i h
   have:=qZu l
   split
   ·rename_i e;exact absurd e (qYl l)
   ·rename_i e
    rw[e] at this
    simp only[j8] at this ⊢
    rw[List.count_cons_of_ne h,←this]
def qJb(c:UInt8):Bool:=c !=47
theorem zAc:∀l:List UInt8,sp l=if(l.takeWhile qJb).length=l.length then[l] else l.takeWhile qJb::sp (l.drop ((l.takeWhile qJb).length+1))
 |[]=>rfl
 |c::l=>by
  have ih:=zAc l
  by_cases h:c=47
  ·subst h
   rw[gX (by decide)]
   simp[sp]
  ·have hc:qJb c=true:=by simpa[qJb] using h
   rw[gJ hc]
   simp only[sp,h,jC,ih,j8,Nat.add_right_cancel_iff,List.drop_succ_cons]
   by_cases he:(l.takeWhile qJb).length=l.length
   ·simp[he]
   ·simp[he]
def qQv:Nat→Nat→List UInt8→Option (Nat×Nat)
 |a,b,[]=>some (a,b)
 |a,b,c::l=>if c=47 then(if b=0 then none else qQv (a+1) 0 l) else if inK [1,2,3,4] c=true then(if b+1>24 then none else qQv a (b+1) l) else none
def partOk(p:List UInt8):Prop:=1≤p.length∧p.length≤24∧∀c∈p,inK [1,2,3,4] c=true
theorem qQo:∀(l:List UInt8) (a b:Nat),b≤24→((∃x y,qQv a b l=some (x,y)∧0<y∧x≤8)↔
  ∃p q,sp l=p::q∧1≤b+p.length∧b+p.length≤24∧(∀c∈p,inK [1,2,3,4] c=true)∧(∀r∈q,partOk r)∧a+q.length≤8)
 |[],a,b,hb=>by
  constructor
  ·rintro⟨x,y,h,h1,h2⟩
   simp only[qQv,jF,Prod.mk.injEq] at h
   exact⟨[],[],rfl,by simp;omega,by simpa using hb,by simp,by simp,by simp;omega⟩
  ·rintro⟨p,q,h,h1,h2,_,_,h3⟩
   simp only[sp,kN] at h
   obtain⟨rfl,rfl⟩:=h
   simp only[jB] at h1 h3
   exact⟨a,b,rfl,by omega,by omega⟩
 |c::l,a,b,hb=>by
  by_cases hc:c=47
  ·have hsp:sp (c::l)=[]::sp l:=by simp[sp,hc]
   rw[hsp]
   simp only[qQv,hc,jH]
   by_cases h0:b=0
   ·subst h0
    simp only[jH]
    constructor
    ·rintro⟨x,y,h,_⟩;cases h
    ·rintro⟨p,q,h,h1,_⟩
     simp only[kN] at h
     rw[←h.1] at h1;simp at h1
   ·rw[if_neg h0]
    rw[qQo l (a+1) 0 (by omega)]
    constructor
    ·rintro⟨p,q,h,h1,h2,h3,h4,h5⟩
     refine⟨[],sp l,rfl,by simp;omega,by simpa using hb,by simp,?_,by rw[h];simp only[j8];omega⟩
     intro r hr
     rw[h] at hr
     rcases jD.1 hr with rfl|hr
     ·exact⟨by omega,by omega,h3⟩
     ·exact h4 r hr
    ·rintro⟨p,q,h,h1,h2,h3,h4,h5⟩
     simp only[kN] at h
     obtain⟨rfl,rfl⟩:=h
     obtain⟨p,q,hpq⟩:∃p q,sp l=p::q:=by
      cases he:sp l with
      |nil=>exact absurd he (qYl l)
      |cons p q=>exact⟨p,q,rfl⟩
     rw[hpq] at h4 h5
     obtain⟨g1,g2,g3⟩:=h4 p (jE ..)
     exact⟨p,q,hpq,by omega,by omega,g3,fun r hr=>h4 r (jM _ hr),by simp only[j8] at h5;omega⟩
  ·obtain⟨p0,q0,hpq⟩:∃p q,sp l=p::q:=by
    cases he:sp l with
    |nil=>exact absurd he (qYl l)
    |cons p q=>exact⟨p,q,rfl⟩
   have hsp:sp (c::l)=(c::p0)::q0:=by simp only[sp,hc,jC,hpq]
   rw[hsp]
   simp only[qQv,hc,jC]
   by_cases hk:inK [1,2,3,4] c=true
   ·rw[if_pos hk]
    by_cases h24:b+1>24
    ·rw[if_pos h24]
     constructor
     ·rintro⟨x,y,h,_⟩;cases h
     ·rintro⟨p,q,h,h1,h2,_⟩
      simp only[kN] at h
      rw[←h.1] at h2
      simp only[j8] at h2
      omega
    ·rw[if_neg h24,qQo l a (b+1) (by omega)]
     constructor
     ·rintro⟨p,q,h,h1,h2,h3,h4,h5⟩
      rw[hpq] at h
      simp only[kN] at h
      obtain⟨rfl,rfl⟩:=h
      refine⟨_,_,rfl,by simp only[j8];omega,by simp only[j8];omega,?_,h4,h5⟩
      intro d hd
      rcases jD.1 hd with rfl|hd
      ·exact hk
      ·exact h3 d hd
     ·rintro⟨p,q,h,h1,h2,h3,h4,h5⟩
      simp only[kN] at h
      obtain⟨rfl,rfl⟩:=h
      simp only[j8] at h1 h2
      exact⟨p0,q0,hpq,by omega,by omega,fun d hd=>h3 d (jM _ hd),h4,h5⟩
   ·rw[if_neg hk]
    constructor
    ·rintro⟨x,y,h,_⟩;cases h
    ·rintro⟨p,q,h,h1,h2,h3,_⟩
     simp only[kN] at h
     rw[←h.1] at h3
     exact absurd (h3 c (jE ..)) hk
theorem inK4{N:Nat}(c:UInt8):((qDc N (c.toNat:Int)).bind fun y1=>if y1=true then(some true) else(some ((c.toNat:Int)==46)))=some (inK [1,2,3,4] c):=by
 have h:=zAq (p:=fun c=>(inK [1,2,3] c||decide (c.toNat=46))==inK [1,2,3,4] c) (by kernel_rfl) c
 rw[gB] at h
 rw[←h,qTn]
 simp only[j0]
 have e:((c.toNat:Int)==46)=decide (c.toNat=46):=by rw[kG,gB,j9];omega
 rw[e]
 cases inK [1,2,3] c<;>simp
theorem qMd{N:Nat}{s:ByteArray}(hl:s.data.toList.length<1000000):∀(d i M a b:Nat),i+d=s.data.toList.length→d<M→a≤i+1→b≤24→
  qAl (qDi N s) M ((a:Int),(b:Int),(i:Int))=some (match qQv a b (s.data.toList.drop i) with|some z=> .inl ((z.1:Int),(z.2:Int))|none=> .inr false)
 |d,i,0,_,_,_,h,_,_=>by omega
 |0,i,M+1,a,b,h1,h2,h3,h4=>by
  have hs:=qEl s
  simp only[qAl,qDi]
  rw[if_neg (by simp only[j9];omega),kQ (by omega)]
  rfl
 |d+1,i,M+1,a,b,h1,h2,h3,h4=>by
  have hs:=qEl s
  have hi:i<s.data.toList.length:=by omega
  simp only[qAl,qDi]
  rw[if_pos (by simp only[j9];omega),kV hi,qKr hi]
  simp only[j0,inK4,gB,qQv]
  by_cases hc:s.data.toList[i]=47
  ·rw[if_pos (show((s.data.toList[i]).toNat:Int)=47 by rw[hc];rfl),if_pos hc]
   by_cases hb:b=0
   ·rw[if_pos (show(b:Int)=0 by omega),if_pos hb]
    rfl
   ·rw[if_neg (show ¬(b:Int)=0 by omega),if_neg hb,wi64 (x:=(a:Int)+1) (by omega) (by omega)]
    simp only[j0]
    rw[if_neg (by simp),wi64 (by omega) (by omega)]
    have:=qMd (N:=N) hl d (i+1) M (a+1) 0 (by omega) (by omega) (by omega) (by omega)
    exact this
  ·have hc':¬((s.data.toList[i]).toNat:Int)=47:=fun h=>hc (UInt8.toNat_inj.1 (by show _=47;omega))
   rw[if_neg hc',if_neg hc]
   by_cases hk:inK [1,2,3,4] (s.data.toList[i])=true
   ·rw[if_pos hk,if_pos hk,wi64 (x:=(b:Int)+1) (by omega) (by omega)]
    simp only[j0]
    by_cases h24:b+1>24
    ·rw[if_pos (by simp only[j9];omega),if_pos h24]
     rfl
    ·rw[if_neg (by simp only[j9];omega),if_neg h24,wi64 (by omega) (by omega)]
     have:=qMd (N:=N) hl d (i+1) M a (b+1) (by omega) (by omega) (by omega) (by omega)
     exact this
   ·rw[if_neg hk,if_neg hk]
    rfl
def qQa(l:List UInt8):Bool:=decide (l.length≤80∧(sp l).length≤8∧∀p∈sp l,1≤p.length∧p.length≤24∧∀c∈p,inK [1,2,3,4] c=true)
theorem qVk(l:List UInt8):qQa l=true↔l.length≤80∧∃x y,qQv 1 0 l=some (x,y)∧0<y∧x≤8:=by
 rw[qQo l 1 0 (by omega)]
 simp only[qQa,j9]
 obtain⟨p,q,hpq⟩:∃p q,sp l=p::q:=by
  cases he:sp l with
  |nil=>exact absurd he (qYl l)
  |cons p q=>exact⟨p,q,rfl⟩
 constructor
 ·rintro⟨h1,h2,h3⟩
  rw[hpq] at h2 h3
  obtain⟨g1,g2,g3⟩:=h3 p (jE ..)
  exact⟨h1,p,q,hpq,by omega,by omega,g3,fun r hr=>h3 r (jM _ hr),by simp only[j8] at h2;omega⟩
 ·rintro⟨h1,p',q',h,h2,h3,h4,h5,h6⟩
  refine⟨h1,by rw[h];simp only[j8];omega,?_⟩
  intro r hr
  rw[h] at hr
  rcases jD.1 hr with rfl|hr
  ·exact⟨by omega,by omega,h4⟩
  ·exact h5 r hr
theorem qYj{N:Nat}{s:ByteArray}(hN:100<N):qFg N s=some (qQa s.data.toList):=by
 have hs:=qEl s
 simp only[qFg]
 by_cases h80:s.data.toList.length≤80
 ·rw[if_neg (by simp only[j9];omega)]
  have key:=qMd (N:=N) (s:=s) (by omega) s.data.toList.length 0 N 1 0 (by omega) (by omega) (by omega) (by omega)
  rw[show((0:Nat):Int)=0 from rfl,show((1:Nat):Int)=1 from rfl,jT] at key
  rw[key]
  have hp:=qVk s.data.toList
  cases hR:qQv 1 0 s.data.toList with
  |none=>
   simp only[j0]
   refine congrArg some ?_
   rw[kG,hp]
   constructor
   ·intro h;cases h
   ·rintro⟨_,x,y,h,_⟩;rw[hR] at h;cases h
  |some z=>
   obtain⟨x,y⟩:=z
   simp only[j0]
   by_cases hy:0<y
   ·rw[if_pos (by simp only[j9];omega)]
    simp only[j0]
    refine congrArg some ?_
    rw[kG,hp,j9]
    constructor
    ·intro h;exact⟨h80,x,y,hR,hy,by omega⟩
    ·rintro⟨_,x',y',h,_,h2⟩;rw[hR] at h;simp only[jF,Prod.mk.injEq] at h;omega
   ·rw[if_neg (by simp only[j9];omega)]
    simp only[j0]
    refine congrArg some ?_
    rw[kG,hp]
    constructor
    ·intro h;cases h
    ·rintro⟨_,x',y',h,h1,_⟩;rw[hR] at h;simp only[jF,Prod.mk.injEq] at h;omega
 ·rw[if_pos (by simp only[j9];omega)]
  refine congrArg some ?_
  rw[kG,qVk]
  exact⟨fun h=>(by cases h),fun h=>absurd h.1 h80⟩
end
section
open Go Go.Dc
theorem tw_is{p:UInt8→Bool}{l:List UInt8}{k:Nat}(hk:k<l.length)(h1:∀j,∀h:j<l.length,j<k→p l[j]=true)(h2:p l[k]=false):tw p l 0=k:=by
 have key:∀d j,j+d=k→tw p l j=k:=by
  intro d
  induction d with
  |zero=>
   intro j h
   have:j=k:=by omega
   subst this
   exact qZi hk h2
  |succ d ih=>intro j h;rw[←zAe (by omega) (h1 j (by omega) (by omega))];exact ih (j+1) (by omega)
 exact key k 0 (by omega)
theorem ix_eq(x:ByteArray):ixB x 47=if(x.data.toList.takeWhile qJb).length=x.data.toList.length then-1 else((x.data.toList.takeWhile qJb).length:Int):=by
 have hs:=qEl x
 have htw:tw qJb x.data.toList 0=(x.data.toList.takeWhile qJb).length:=by simp[tw]
 have hget:∀j,∀h:j<x.data.toList.length,x[j]! =x.data.toList[j]:=by
  intro j hj
  rw[getElem!_pos x j (by omega)]
  simp[ByteArray.getElem_eq_getElem_data]
 have h47:(47:Int).toNat.toUInt8=47:=rfl
 rw[←htw]
 unfold ixB
 rw[h47,←hs]
 cases hf:(List.range x.data.toList.length).find? (fun j=>x[j]! ==47) with
 |none=>
  rw[List.find?_eq_none] at hf
  simp only
  rw[if_pos]
  refine zCk fun c hc=> ?_
  obtain⟨j,hj,rfl⟩:=List.getElem_of_mem hc
  have:=hf j (fM.2 hj)
  rw[hget j hj] at this
  simpa[qJb] using this
 |some k=>
  have h1:=List.find?_some hf
  have hk:k<x.data.toList.length:=fM.1 (List.mem_of_find?_eq_some hf)
  rw[hget k hk] at h1
  have e:tw qJb x.data.toList 0=k:=by
   refine tw_is hk (fun j h hj=> ?_) (by simpa[qJb] using h1)
   have:=(List.find?_range_eq_some.1 hf).2.2 j hj
   rw[hget j h] at this
   simpa[qJb] using this
  simp only
  rw[e,if_neg (by omega)]
theorem zCa{N:Nat}(x:ByteArray):qHh N x (⟨#[47]⟩:ByteArray)=some (ixB x 47):=by
 have h1:idxB (⟨#[47]⟩:ByteArray) 0=some 47:=by kernel_rfl
 simp only[qHh,qDz,qCs,show(⟨#[47]⟩:ByteArray).size=1 from rfl,qUn]
 rw[if_neg (by decide)]
 simp only[j0,j9]
 by_cases h:(⟨#[47]⟩:ByteArray)=x
 ·have h0:ixB (⟨#[47]⟩:ByteArray) 47=0:=by kernel_rfl
  rw[if_pos h,←h,h0]
  rfl
 ·rw[if_neg h,if_pos (by decide),h1]
  rfl
theorem cnt_eq(x:ByteArray):cntB x 47=((x.data.toList.count 47:Nat):Int):=by
 unfold cntB
 rw[Go.Lib.foldl_data]
 have key:∀(l:List UInt8) (n:Int),l.foldl (fun n x=>if x==(47:Int).toNat.toUInt8 then n+1 else n) n=n+((l.count 47:Nat):Int):=by
  intro l
  induction l with
  |nil=>intro n;simp
  |cons c l ih=>
   intro n
   rw[kI,ih,List.count_cons]
   have h47:(47:Int).toNat.toUInt8=47:=rfl
   rw[h47]
   by_cases h:(c==47)=true
   ·simp only[h,jH];omega
   ·simp only[h,j7,jC];omega
 rw[key]
 omega
theorem zDd{α:Type}(l:List α)(k:Nat)(a b:α):(l++List.replicate (k+1) a).set l.length b=(l++[b])++List.replicate k a:=by
 rw[List.set_append_right _ _ (jP _)]
 simp[List.replicate_succ]
theorem qRf{N n:Nat}{s:ByteArray}(hn:n<1000000000)(hns:n≤s.size+1)(hs:s.size<1000000000):∀(r M:Nat) (x:ByteArray) (done:List ByteArray),(sp x.data.toList).length=r→done.length+r=n→r<M→x.size<1000000000→
  ∃y D,qAl (qEv N s (⟨#[47]⟩:ByteArray) 0 (n:Int)) M (x,(done.length:Int),done++List.replicate r (⟨#[]⟩:ByteArray))=some (y,((n-1:Nat):Int),D++[(⟨#[]⟩:ByteArray)])∧D.length=n-1∧D++[y]=done++(sp x.data.toList).map qPr
 |_,0,_,_,_,_,h,_=>by omega
 |0,_,x,_,h,_,_,_=>by exact absurd (List.length_eq_zero_iff.1 h) (qYl _)
 |r+1,M+1,x,done,h1,h2,h3,h4=>by
  have hxs:=qEl x
  have hmin:(if IntKind.wrap .i64 ((s.size:Int)+1)<(n:Int) then IntKind.wrap .i64 ((s.size:Int)+1) else(n:Int))=(n:Int):=by
   rw[wi64 (by omega) (by omega)];split<;>omega
  have hstep:=zAc x.data.toList
  simp only[qAl,qEv]
  rw[hmin,wi64 (x:=(n:Int)-1) (by omega) (by omega)]
  by_cases hlast:(x.data.toList.takeWhile qJb).length=x.data.toList.length
  ·rw[if_pos hlast] at hstep
   rw[hstep] at h1
   simp only[j8,jB] at h1
   have hr:r=0:=by omega
   subst hr
   rw[if_neg (by simp only[j9];omega)]
   refine⟨x,done,?_,by omega,?_⟩
   ·simp only[j0]
    rw[show(n-1:Nat)=done.length by omega]
    rfl
   ·rw[hstep];simp[qPr]
  ·rw[if_neg hlast] at hstep
   rw[hstep] at h1
   simp only[j8] at h1
   have hpos:0<(sp (x.data.toList.drop ((x.data.toList.takeWhile qJb).length+1))).length:=List.length_pos_iff.2 (qYl _)
   have hle:(x.data.toList.takeWhile qJb).length≤x.data.toList.length:=(List.takeWhile_sublist _).length_le
   have hix:=ix_eq x
   rw[if_neg hlast] at hix
   rw[if_pos (by simp only[j9];omega),zCa,hix]
   simp only[j0,show(⟨#[47]⟩:ByteArray).size=1 from rfl]
   have he:(x.data.toList.takeWhile qJb)=x.data.toList.take (x.data.toList.takeWhile qJb).length:=List.prefix_iff_eq_take.1 (List.takeWhile_prefix _)
   have hx1:x.extract 0 (x.data.toList.takeWhile qJb).length=qPr (x.data.toList.takeWhile qJb):=by
    apply Go.WideShapes.bytes_inj
    simp only[ByteArray.data_extract,Array.toList_extract,List.extract_eq_take_drop,qPr,jT,Nat.sub_zero]
    exact he.symm
   have hx2:(x.extract ((x.data.toList.takeWhile qJb).length+1) x.data.toList.length).data.toList=x.data.toList.drop ((x.data.toList.takeWhile qJb).length+1):=by
    simp only[ByteArray.data_extract,Array.toList_extract,List.extract_eq_take_drop]
    exact kP (by simp only[kH];omega)
   generalize hk:(x.data.toList.takeWhile qJb).length=k at*
   rw[if_neg (by simp only[j9];omega),wi64 (x:=(k:Int)+0) (by omega) (by omega),Int.add_zero]
   have hsub0:subB x 0 (k:Int)=some (x.extract 0 k):=by
    have:=qXd (s:=x) (i:=0) (e:=k) (by omega) (by omega)
    simpa only[Int.natCast_zero] using this
   rw[hsub0]
   simp only[j0]
   rw[qBn (by simp),wi64 (x:=(k:Int)+((1:Nat):Int)) (by omega) (by omega),show((k:Int)+((1:Nat):Int))=((k+1:Nat):Int) by omega,qZn (by omega)]
   simp only[j0,k0]
   rw[zDd,hx1,wi64 (by omega) (by omega)]
   have hxs2:=qEl (x.extract (k+1) x.data.toList.length)
   rw[hx2,kH] at hxs2
   obtain⟨y,D,g1,g2,g3⟩:=qRf (N:=N) hn hns hs r M (x.extract (k+1) x.data.toList.length) (done++[qPr (x.data.toList.takeWhile qJb)]) (by rw[hx2];omega) (by simp;omega) (by omega) (by omega)
   refine⟨y,D,?_,g2,?_⟩
   ·rw[←g1];simp
   ·rw[g3,hx2,hstep];simp
termination_by r=>r
theorem zBh{N:Nat}{s:ByteArray}(hl:s.size<100000000)(hN:2*s.size+1000<N):qHw N s (⟨#[47]⟩:ByteArray)=some ((sp s.data.toList).map qPr):=by
 have hs:=qEl s
 have hlen:=qZu s.data.toList
 have hc:s.data.toList.count 47≤s.data.toList.length:=List.count_le_length
 have h1:idxB (⟨#[47]⟩:ByteArray) 0=some 47:=by kernel_rfl
 have hcount:qHv N s (⟨#[47]⟩:ByteArray)=some ((s.data.toList.count 47:Nat):Int):=by
  simp only[qHv,show(⟨#[47]⟩:ByteArray).size=1 from rfl]
  rw[if_neg (by decide),if_pos (by decide),h1]
  simp only[j0]
  rw[←cnt_eq];rfl
 simp only[qHw,qHl,qUn,hcount,j0]
 rw[if_neg (by decide),if_neg (by decide),if_pos (by decide)]
 simp only[j0]
 rw[wi64 (x:=((s.data.toList.count 47:Nat):Int)+1) (by omega) (by omega),show((s.data.toList.count 47:Nat):Int)+1=(((sp s.data.toList).length:Nat):Int) by omega]
 generalize hn:(sp s.data.toList).length=n at*
 have hmin:(if IntKind.wrap .i64 ((s.size:Int)+1)<(n:Int) then IntKind.wrap .i64 ((s.size:Int)+1) else(n:Int))=(n:Int):=by
  rw[wi64 (by omega) (by omega)];split<;>omega
 rw[hmin]
 have hm:qNx 16 (⟨#[]⟩:ByteArray) (n:Int)=some (List.replicate n (⟨#[]⟩:ByteArray)):=by
  unfold qNx
  rw[if_pos (by simp only[maxLen];omega),k0]
 rw[hm]
 simp only[j0]
 obtain⟨y,D,g1,g2,g3⟩:=qRf (N:=N) (n:=n) (s:=s) (by omega) (by omega) (by omega) n N s [] hn (by simp) (by omega) (by omega)
 simp only[jB,jW] at g1 g3
 rw[show((0:Nat):Int)=0 from rfl] at g1
 rw[g1]
 simp only[j0]
 rw[qBn (by simp;omega)]
 simp only[j0,k0]
 have hset:(D++[(⟨#[]⟩:ByteArray)]).set (n-1) y=D++[y]:=by
  rw[←g2,List.set_append_right _ _ (jP _)];simp
 rw[hset,g3,wi64 (by omega) (by omega),show((n-1:Nat):Int)+1=(n:Int) by omega,qUr (by omega) (by omega) (by rw[kM,hn];omega)]
 simp only[j0,k0,Int.toNat_zero,jT]
 rw[kP (by rw[kM,hn];exact jP _)]
theorem zCf{p:UInt8→Bool}{l:List UInt8}:tw p l 0=l.length↔∀c∈l,p c=true:=by
 constructor
 ·intro h c hc
  have h1:(l.takeWhile p).length=l.length:=by simpa[tw] using h
  have h2:=(List.takeWhile_prefix p (l:=l)).eq_of_length h1
  rw[←h2] at hc
  exact zCj hc
 ·exact zCk
def qWl(x:ByteArray):Bool:=decide (1≤x.data.toList.length∧x.data.toList.length≤24∧∀c∈x.data.toList,inK [1,2,3,4] c=true)
theorem qTx(x:ByteArray):qWl x=true↔1≤x.data.toList.length∧x.data.toList.length≤24∧∀c∈x.data.toList,inK [1,2,3,4] c=true:=decide_eq_true_iff
theorem zCw{N:Nat}{x:ByteArray}(hN:100<N):(if(decide ((x.size:Int)<1))=true then(some true) else(if(decide ((x.size:Int)>24))=true then(some true) else((qIi N x 0 (some kdL) ([1,2,3,4])).bind fun y3=>some (y3 !=(x.size:Int)))))=some (!qWl x):=by
 have hs:=qEl x
 have hno:∀h:¬(1≤x.data.toList.length∧x.data.toList.length≤24∧∀c∈x.data.toList,inK [1,2,3,4] c=true),qWl x=false:=fun h=>decide_eq_false h
 by_cases h1:1≤x.data.toList.length
 ·rw[if_neg (by simp only[j9];omega)]
  by_cases h2:x.data.toList.length≤24
  ·rw[if_neg (by simp only[j9];omega)]
   have hsp:=zAj (N:=N) (s:=x) (ks:=[1,2,3,4]) (i:=0) (by omega) (by omega) (by simp) (by omega)
   rw[show((0:Nat):Int)=0 from rfl] at hsp
   rw[hsp]
   simp only[j0]
   refine congrArg some ?_
   by_cases h3:tw (inK [1,2,3,4]) x.data.toList 0=x.data.toList.length
   ·have:qWl x=true:=f0 ⟨h1,h2,zCf.1 h3⟩
    rw[this,h3,hs]
    simp
   ·rw[hno fun h=>h3 (zCf.2 h.2.2)]
    simp only[kJ,bne_iff_ne,ne_eq]
    omega
  ·rw[if_pos (by simp only[j9];omega),hno fun h=>h2 h.2.1]
   rfl
 ·rw[if_pos (by simp only[j9];omega),hno fun h=>h1 h.1]
  rfl
theorem qTt{N:Nat}{L:List ByteArray}(hL:L.length<1000)(hN:100<N):∀(d j M:Nat),j+d=L.length→d<M→qAl (qHc N L (some kdL)) M (j:Int)=some (if(L.drop j).all qWl=true then .inl () else .inr false)
 |d,j,0,_,h=>by omega
 |0,j,M+1,h1,h2=>by
  simp only[qAl,qHc]
  rw[if_neg (by simp only[j9];omega),kQ (by omega)]
  rfl
 |d+1,j,M+1,h1,h2=>by
  have hj:j<L.length:=by omega
  simp only[qAl,qHc]
  rw[if_pos (by simp only[j9];omega),qBn hj]
  simp only[j0,zCw hN]
  rw[kV hj,kY]
  cases hp:qWl L[j] with
  |true=>
   rw[if_neg (by simp),wi64 (by omega) (by omega)]
   simp only[j0,kA]
   exact qTt hL hN d (j+1) M (by omega) (by omega)
  |false=>simp
theorem zDk{N:Nat}{s:ByteArray}(hl:s.size<100000000)(hN:2*s.size+1000<N):qKn N s=some (qQa s.data.toList):=by
 have hs:=qEl s
 have hno:∀h:¬(s.data.toList.length≤80∧(sp s.data.toList).length≤8∧∀p∈sp s.data.toList,1≤p.length∧p.length≤24∧∀c∈p,inK [1,2,3,4] c=true),qQa s.data.toList=false:=fun h=>decide_eq_false h
 simp only[qKn,zBh hl hN,j0,kM]
 by_cases h80:s.data.toList.length≤80
 ·rw[if_neg (by simp only[j9];omega)]
  by_cases h8:(sp s.data.toList).length≤8
  ·have e8:decide (((sp s.data.toList).length:Int)>8)=false:=decide_eq_false (by omega)
   simp only[j0,e8,j7,jC,qXo (show 30<N by omega)]
   have key:=qTt (N:=N) (L:=(sp s.data.toList).map qPr) (by rw[kM];omega) (by omega) _ 0 N (kD _) (by rw[kM];omega)
   rw[show((0:Nat):Int)=0 from rfl,jT] at key
   rw[key]
   simp only[j0]
   by_cases hp:((sp s.data.toList).map qPr).all qWl=true
   ·have:qQa s.data.toList=true:=f0 ⟨h80,h8,fun p hp'=>by
     have:=(qTx _).1 (k8.1 hp (qPr p) (kZ hp'))
     simpa[qPr] using this⟩
    rw[if_pos hp,this]
   ·rw[if_neg hp,hno fun h=>hp (k8.2 fun x hx=>by
     obtain⟨p,hp',rfl⟩:=kF.1 hx
     exact(qTx _).2 (by simpa[qPr] using h.2.2 p hp'))]
  ·have e8:decide (((sp s.data.toList).length:Int)>8)=true:=f0 (by omega)
   simp only[j0,e8,jH]
   rw[hno fun h=>h8 h.2.1]
 ·rw[if_pos (by simp only[j9];omega)]
  simp only[j0,jH]
  rw[hno fun h=>h80 h.1]
end
section
open Go Go.Dc Go.Sort Go.Proofs
def e0:ByteArray:=⟨#[]⟩
def pkgL:List ByteArray:=[⟨#[112]⟩,⟨#[113]⟩,⟨#[115]⟩]
def fnL:List ByteArray:=[⟨#[102]⟩,⟨#[103]⟩,⟨#[104]⟩,⟨#[107]⟩]
def tsL:List ByteArray:=[⟨#[116]⟩,⟨#[117]⟩,⟨#[118]⟩]
def paL:List ByteArray:=[⟨#[97,46,100,97,116]⟩,⟨#[100,47,98,46,100,97,116]⟩,⟨#[99]⟩,⟨#[97,46,115,114,99]⟩,⟨#[120,46,115,114,99]⟩]
def vaL:List ByteArray:=[⟨#[110]⟩,⟨#[109]⟩]
def madeL:List Ky:=
 (pkgL.flatMap fun p=>fnL.map fun f=>(1,p,f))++(pkgL.flatMap fun p=>tsL.map fun f=>(2,p,f))++paL.map (fun p=>(3,p,e0))++paL.map (fun p=>(4,p,e0))++vaL.map (fun p=>(5,p,e0))++pkgL.map (fun p=>(6,p,e0))++pkgL.map (fun p=>(7,p,e0))
def qDo(k:Ky):Bool:=
 if k.1=1∨k.1=2 then qLt k.2.1&&qLt k.2.2 else if k.1=3∨k.1=4 then qQa k.2.1.data.toList&&decide (k.2.2=e0) else if k.1=5∨k.1=6∨k.1=7 then qLt k.2.1&&decide (k.2.2=e0) else false
theorem zCd(s:ByteArray):(s.toList==(⟨#[]⟩:ByteArray).toList)=decide (s=e0):=by
 rw[kG]
 simp only[gB,j9]
 constructor
 ·intro h
  rw[ByteArray.toList_eq,ByteArray.toList_eq] at h
  exact Go.WideShapes.bytes_inj h
 ·rintro rfl;rfl
theorem qSk{N:Nat}{k:Ky}(h1:k.2.1.size<100000000)(hN:2*k.2.1.size+1000<N):qHa N k=some (qDo k):=by
 obtain⟨q,x,y⟩:=k
 try simp only at h1 hN
 simp only[qHa,qDo,zAa (N:=N) (s:=x) (by omega),zAa (N:=N) (s:=y) (by omega),zDk h1 hN,j0,zCd]
 by_cases g1:q=1
 ·subst g1;simp;cases qLt x<;>rfl
 by_cases g2:q=2
 ·subst g2;simp;cases qLt x<;>rfl
 by_cases g3:q=3
 ·subst g3;simp;cases qQa x.data.toList<;>rfl
 by_cases g4:q=4
 ·subst g4;simp;cases qQa x.data.toList<;>rfl
 by_cases g5:q=5
 ·subst g5;simp;cases qLt x<;>rfl
 by_cases g6:q=6
 ·subst g6;simp;cases qLt x<;>rfl
 by_cases g7:q=7
 ·subst g7;simp;cases qLt x<;>rfl
 simp[g1,g2,g3,g4,g5,g6,g7]
theorem qWa:(madeL.all fun k=>qDo k&&decide (k.2.1.size<100))=true:=by kernel_rfl
section
variable {N:Nat} {l:List Int} {a:Int}
theorem qXs(h0:0≤a)(h1:a<1000000000000000000):Ok (qDv N (l,a)) fun y=>∃a' k,y=((l,a'),k)∧a≤a'∧a'≤a+3∧k∈madeL:=by
 unfold qDv qFj qEx qGp qGq qEz
 refine Ok.next h0 (by omega) (by decide) (by decide) fun r r0 r1=> ?_
 simp only[j0]
 refine Ok.one (by omega) (by omega) (by decide) (by decide) fun p hp=> ?_
 have hp:p∈pkgL:=hp
 have hr:r=0∨r=1∨r=2∨r=3∨r=4∨r=5∨r=6:=by omega
 have w:∀z:Int,0≤z→z≤6→IntKind.wrap .i64 (1+z)=1+z:=fun z h0 h1=>wi64 (by omega) (by omega)
 rw[w r r0 (by omega)]
 have mem:∀{k:Ky} {A B:List Ky},k∈A∨k∈B→k∈A++B:=fun h=>jZ.2 h
 rcases hr with rfl|rfl|rfl|rfl|rfl|rfl|rfl
 ·refine Ok.assoc (Ok.one (by first|omega|(simp only;omega)) (by first|omega|(simp only;omega)) (by decide) (by decide) fun f hf=>Ok.someb (Ok.mk ⟨_,_,rfl,by first|omega|(simp only;omega),by first|omega|(simp only;omega),?_⟩))
  have hf:f∈fnL:=hf
  simp only[madeL,jZ,kW,kF]
  exact .inl (.inl (.inl (.inl (.inl (.inl ⟨p,hp,f,hf,rfl⟩)))))
 ·refine Ok.assoc (Ok.one (by first|omega|(simp only;omega)) (by first|omega|(simp only;omega)) (by decide) (by decide) fun f hf=>Ok.someb (Ok.mk ⟨_,_,rfl,by first|omega|(simp only;omega),by first|omega|(simp only;omega),?_⟩))
  have hf:f∈tsL:=hf
  simp only[madeL,jZ,kW,kF]
  exact .inl (.inl (.inl (.inl (.inl (.inr ⟨p,hp,f,hf,rfl⟩)))))
 ·refine Ok.assoc (Ok.one (by first|omega|(simp only;omega)) (by first|omega|(simp only;omega)) (by decide) (by decide) fun f hf=>Ok.someb (Ok.mk ⟨_,_,rfl,by first|omega|(simp only;omega),by first|omega|(simp only;omega),?_⟩))
  have hf:f∈paL:=hf
  simp only[madeL,jZ,kW,kF]
  exact .inl (.inl (.inl (.inl (.inr ⟨f,hf,rfl⟩))))
 ·refine Ok.assoc (Ok.one (by first|omega|(simp only;omega)) (by first|omega|(simp only;omega)) (by decide) (by decide) fun f hf=>Ok.someb (Ok.mk ⟨_,_,rfl,by first|omega|(simp only;omega),by first|omega|(simp only;omega),?_⟩))
  have hf:f∈paL:=hf
  simp only[madeL,jZ,kW,kF]
  exact .inl (.inl (.inl (.inr ⟨f,hf,rfl⟩)))
 ·refine Ok.assoc (Ok.one (by first|omega|(simp only;omega)) (by first|omega|(simp only;omega)) (by decide) (by decide) fun f hf=>Ok.someb (Ok.mk ⟨_,_,rfl,by first|omega|(simp only;omega),by first|omega|(simp only;omega),?_⟩))
  have hf:f∈vaL:=hf
  simp only[madeL,jZ,kW,kF]
  exact .inl (.inl (.inr ⟨f,hf,rfl⟩))
 ·refine Ok.someb (Ok.mk ⟨_,_,rfl,by first|omega|(simp only;omega),by first|omega|(simp only;omega),?_⟩)
  simp only[madeL,jZ,kW,kF]
  exact .inl (.inr ⟨p,hp,rfl⟩)
 ·refine Ok.someb (Ok.mk ⟨_,_,rfl,by first|omega|(simp only;omega),by first|omega|(simp only;omega),?_⟩)
  simp only[madeL,jZ,kW,kF]
  exact .inr ⟨p,hp,rfl⟩
end
theorem zDa{k:Ky}(h:(madeL.any fun k'=>decide (k'=k))=true):k∈madeL:=by
 obtain⟨k',h4,h5⟩:=fD.1 h
 rw[←g9 h5];exact h4
end
section
open Go Go.Dc Go.Sort Go.Proofs
theorem qUx:∀a b:List UInt8,Op.bytesLess a b=decide (cmpL a b<0)
 |[],[]=>rfl
 |[],_::_=>rfl
 |_::_,[]=>rfl
 |x::a,y::b=>by
  rw[show Op.bytesLess (x::a) (y::b)=(decide (x<y)||((x==y)&&Op.bytesLess a b)) from rfl,qUx a b]
  by_cases h:x=y
  ·subst h
   have h0:¬x<x:=by simp only[zCx];omega
   have e:cmpL (x::a) (x::b)=cmpL a b:=by simp[cmpL]
   simp[h0,e]
  ·have h2:(x==y)=false:=by simpa using h
   by_cases h3:x<y
   ·have e:cmpL (x::a) (y::b)= -1:=by simp[cmpL,h,h3]
    simp[h3,e]
   ·have e:cmpL (x::a) (y::b)=1:=by simp[cmpL,h,h3]
    simp[h2,h3,e]
theorem qZj(a b:ByteArray):Op.bytesLess a.toList b.toList=decide (cmpS a b<0):=by
 rw[qUx,qPk,ByteArray.toList_eq,ByteArray.toList_eq]
theorem btK(a b:ByteArray):(a.toList==b.toList)=decide (a=b):=by
 rw[kG]
 simp only[gB,j9]
 constructor
 ·intro h
  rw[ByteArray.toList_eq,ByteArray.toList_eq] at h
  exact Go.WideShapes.bytes_inj h
 ·rintro rfl;rfl
theorem zBq{x y:Int}(h:x≠y):cmpI x y<0↔x<y:=by
 unfold cmpI;split<;>(try split)<;>omega
theorem qSh{N:Nat}(x y:Ky):qCr N x y=some (decide (cK x y<0)):=by
 have hI:=cmpI_lin.zero x.1 y.1
 have hS:=cmpS_lin.zero x.2.1 y.2.1
 simp only[qCr,btK,qZj]
 by_cases h1:x.1=y.1
 ·have e0:cmpI x.1 y.1=0:=hI.2 h1
  have e1:(x.1 !=y.1)=false:=by simp[h1]
  rw[e1]
  simp only[j7,jC]
  have e2:cK x y=lexC cmpS cmpS x.2 y.2:=by simp only[cK,lexC,e0,ne_eq,not_true_eq_false,jC]
  by_cases h2:x.2.1=y.2.1
  ·have e3:cmpS x.2.1 y.2.1=0:=hS.2 h2
   have e4:cK x y=cmpS x.2.2 y.2.2:=by rw[e2];simp only[lexC,e3,ne_eq,not_true_eq_false,jC]
   rw[e4];simp[h2]
  ·have e3:cmpS x.2.1 y.2.1≠0:=fun g=>h2 (hS.1 g)
   have e4:cK x y=cmpS x.2.1 y.2.1:=by rw[e2];simp only[lexC,ne_eq,e3,fL,jH]
   rw[e4];simp[h2]
 ·have e0:cmpI x.1 y.1≠0:=fun g=>h1 (hI.1 g)
  have e1:(x.1 !=y.1)=true:=by simp[h1]
  have e2:cK x y=cmpI x.1 y.1:=by simp only[cK,lexC,ne_eq,e0,fL,jH]
  rw[e1,if_pos rfl,e2]
  simp only[zBq h1]
def insK:List Ky→Ky→List Ky
 |[],x=>[x]
 |y::L,x=>if cK y x<0 then y::insK L x else if y=x then y::L else x::y::L
def posK:List Ky→Ky→Nat
 |[],_=>0
 |y::L,x=>if cK y x<0 then posK L x+1 else 0
theorem qZy:∀(L:List Ky) (x:Ky),posK L x≤L.length
 |[],_=>jP _
 |y::L,x=>by
  have:=qZy L x
  simp only[posK,j8]
  split<;>omega
theorem qXp:∀(L:List Ky) (x:Ky),insK L x=if L[posK L x]? =some x then L else L.take (posK L x)++x::L.drop (posK L x)
 |[],x=>by simp[insK,posK]
 |y::L,x=>by
  simp only[insK,posK]
  by_cases h:cK y x<0
  ·simp only[h,jH,List.getElem?_cons_succ,List.take_succ_cons,List.drop_succ_cons]
   rw[qXp L x]
   split<;>rfl
  ·simp only[h,jC,List.getElem?_cons_zero,jF,List.take_zero,jT,jW]
theorem qSl:∀{L:List Ky} {x z:Ky},z∈insK L x↔z=x∨z∈L
 |[],x,z=>by simp[insK]
 |y::L,x,z=>by
  simp only[insK]
  split
  ·simp only[jD,qSl (L:=L)]
   constructor
   ·rintro(h|h|h)
    ·exact .inr (.inl h)
    ·exact .inl h
    ·exact .inr (.inr h)
   ·rintro(h|h|h)
    ·exact .inr (.inl h)
    ·exact .inl h
    ·exact .inr (.inr h)
  ·split
   ·rename_i e;subst e
    simp only[jD]
    constructor
    ·exact fun h=> .inr h
    ·rintro(h|h)
     ·exact .inl h
     ·exact h
   ·simp only[jD]
theorem qPe:∀(L:List Ky) (x:Ky),(insK L x).length≤L.length+1
 |[],_=>jP _
 |y::L,x=>by
  have:=qPe L x
  simp only[insK]
  split
  ·simp only[j8];omega
  ·split<;>simp only[j8]<;>omega
theorem qQp:∀{L:List Ky} {x:Ky},qJe cK L→qJe cK (insK L x)
 |[],x,_=>fJ _ x
 |y::L,x,h=>by
  have h':=jL.1 h
  simp only[insK]
  split
  ·rename_i hc
   refine jL.2 ⟨fun z hz=> ?_,qQp h'.2⟩
   rcases qSl.1 hz with rfl|hz
   ·exact hc
   ·exact h'.1 z hz
  ·rename_i hc
   split
   ·exact h
   ·rename_i hne
    have hxy:cK x y<0:=by
     have a1:=cK_lin.zero y x;have a2:=cK_lin.anti x y
     refine a2.2 ?_
     have:cK y x≠0:=fun g=>hne (a1.1 g)
     omega
    refine jL.2 ⟨fun z hz=> ?_,h⟩
    rcases jD.1 hz with rfl|hz
    ·exact hxy
    ·exact cK_lin.trans x y z hxy (h'.1 z hz)
theorem qVn{N:Nat}{L:List Ky}{x:Ky}(hl:L.length<25000000):∀(d i M:Nat),i+d=L.length→d<M→qAl (qCp N L x) M (i:Int)=some ((i+posK (L.drop i) x:Nat):Int)
 |_,_,0,_,h=>absurd h (jN _)
 |d,i,M+1,h1,h2=>by
  simp only[qAl,qCp]
  cases d with
  |zero=>
   have hc:¬((i:Int)<(L.length:Int)):=by omega
   simp only[hc,decide_false,j7,jC,j0]
   rw[jJ (by omega)];rfl
  |succ d=>
   have hi:i<L.length:=by omega
   have hc:((i:Int)<(L.length:Int)):=by omega
   have w2:IntKind.wrap .i64 ((i:Int)+1)=((i+1:Nat):Int):=by rw[wi64 (by omega) (by omega)];omega
   have hb:=qSh (N:=N) L[i] x
   simp only[hc,decide_true,jH,qBn hi,j0]
   rw[hb]
   have hdrop:L.drop i=L[i]::L.drop (i+1):=(jI hi).symm
   simp only[j0]
   rw[hdrop]
   simp only[posK]
   by_cases hbb:cK L[i] x<0
   ·simp only[hbb,decide_true,jH,w2,j0]
    rw[qVn hl d (i+1) M (by omega) (by omega)]
    congr 2;omega
   ·simp[hbb]
theorem qUo{N:Nat}{L:List Ky}(x:Ky)(hl:L.length<25000000)(hN:L.length<N):qBr N L x=some (insK L x):=by
 have h1:=qVn (N:=N) (L:=L) (x:=x) hl L.length 0 N (by omega) hN
 have h1':qAl (qCp N L x) N 0=some ((posK L x:Nat):Int):=by
  have e:(0+posK (L.drop 0) x:Nat)=posK L x:=by rw[jT,kD]
  rw[e] at h1;exact h1
 have hp:=qZy L x
 rw[qXp]
 generalize hk:posK L x=k at*
 have w:IntKind.wrap .i64 ((k:Int)+1)=((k+1:Nat):Int):=by rw[wi64 (by omega) (by omega)];omega
 have fin:∀(_:L[k]?≠some x),((qDe 40 L [((0,(⟨#[]⟩:ByteArray),(⟨#[]⟩:ByteArray)):Ky)]).bind fun l1=>(chkS l1 (IntKind.wrap .i64 ((k:Int)+1)) (List.length l1:Int)).bind fun _=>(chkS l1 (k:Int) (List.length l1:Int)).bind fun _=>(qUm l1 (IntKind.wrap .i64 ((k:Int)+1)) (k:Int)).bind fun l2=>(idx l2 (k:Int)).bind fun _=>some (List.set l2 (Int.toNat (k:Int)) (x.1,x.2.1,x.2.2)))=some (L.take k++x::L.drop k):=by
  intro _
  rw[w,qBo (by simp only[j8,jB];omega) (by decide)]
  simp only[j0]
  generalize hz:((0,(⟨#[]⟩:ByteArray),(⟨#[]⟩:ByteArray)):Ky)=z
  have hlen:(L++[z]).length=L.length+1:=by simp
  have c1:chkS (L++[z]) ((k+1:Nat):Int) ((L++[z]).length:Int)=some ():=by unfold chkS;rw[if_pos (by rw[hlen];omega)]
  have c2:chkS (L++[z]) (k:Int) ((L++[z]).length:Int)=some ():=by unfold chkS;rw[if_pos (by rw[hlen];omega)]
  have c3:qUm (L++[z]) ((k+1:Nat):Int) (k:Int)=some (qOc (L++[z]) (k+1) k):=by unfold qUm;rw[if_pos (by rw[hlen];omega)];rfl
  simp only[c1,c2,c3,j0]
  have e:qOc (L++[z]) (k+1) k=(L++[z]).take (k+1)++L.drop k:=by
   have t1:((L++[z]).drop k).take (L.length-k)=L.drop k:=by
    rw[kX hp,k7 (by rw[kH];omega),kP (by rw[kH];omega)]
   have t2:(L++[z]).drop (L.length+1)=[]:=jJ (by rw[hlen];omega)
   unfold qOc
   rw[hlen,show min (L.length+1-k) (L.length+1-(k+1))=L.length-k by omega,show k+1+(L.length-k)=L.length+1 by omega,t1,t2,gO]
  have hlt:k<(qOc (L++[z]) (k+1) k).length:=by rw[e];simp only[jG,kL,j8,jB,kH];omega
  rw[qBn hlt]
  simp only[j0,k0]
  congr 1
  rw[e]
  have e2:(L++[z]).take (k+1)=L.take k++[((L++[z])[k]'(by rw[hlen];omega))]:=by
   rw[k9 (by rw[hlen];omega),k7 hp]
  rw[e2,jR,List.set_append_right _ _ (by simp only[kL];omega)]
  have e3:k-(L.take k).length=0:=by simp only[kL];omega
  rw[e3];rfl
 simp only[qBr,h1',j0]
 by_cases hc:(k:Int)<(L.length:Int)
 ·have hi:k<L.length:=by omega
  simp only[hc,decide_true,jH,qBn hi,j0,qWz]
  by_cases he:L[k]=x
  ·simp only[he,decide_true,jH]
   rw[if_pos (by rw[List.getElem?_eq_getElem hi,he])]
  ·simp only[he,decide_false,j7,jC]
   have hne:L[k]?≠some x:=by rw[List.getElem?_eq_getElem hi];intro g;exact he (gL g)
   rw[if_neg hne]
   exact fin hne
 ·simp only[hc,decide_false,j7,jC,j0]
  have hne:L[k]?≠some x:=by rw[List.getElem?_eq_none (by omega)];intro g;cases g
  rw[if_neg hne]
  exact fin hne
theorem qXa{N:Nat}{L:List Ky}(hl:L.length<2500000)(hN:L.length<N):∀(d i M:Nat) (S:List Ky),i+d=L.length→d<M→S.length≤i→qAl (qDq N L) M (S,(i:Int))=some ((L.drop i).foldl insK S)
 |_,_,0,_,_,h,_=>absurd h (jN _)
 |d,i,M+1,S,h1,h2,h3=>by
  simp only[qAl,qDq]
  cases d with
  |zero=>
   have hc:¬((i:Int)<(L.length:Int)):=by omega
   simp only[hc,decide_false,j7,jC,j0]
   rw[jJ (by omega)];rfl
  |succ d=>
   have hi:i<L.length:=by omega
   have hc:((i:Int)<(L.length:Int)):=by omega
   have w2:IntKind.wrap .i64 ((i:Int)+1)=((i+1:Nat):Int):=by rw[wi64 (by omega) (by omega)];omega
   have hins:=qUo (N:=N) (L:=S) L[i] (by omega) (by omega)
   simp only[hc,decide_true,jH,qBn hi,j0]
   rw[show qBr N S (L[i].1,L[i].2.1,L[i].2.2)=some (insK S L[i]) from hins]
   have hdrop:L.drop i=L[i]::L.drop (i+1):=(jI hi).symm
   have hle:=qPe S L[i]
   simp only[j0,w2]
   rw[qXa hl hN d (i+1) M _ (by omega) (by omega) (by omega),hdrop]
   rfl
theorem qKf:∀(L S:List Ky),qJe cK S→qJe cK (L.foldl insK S)
 |[],_,h=>h
 |_::L,_,h=>qKf L _ (qQp h)
theorem qKw:∀{L S:List Ky} {z:Ky},z∈L.foldl insK S↔z∈L∨z∈S
 |[],S,z=>by simp
 |x::L,S,z=>by
  simp only[kI,jD]
  rw[qKw,qSl]
  constructor
  ·rintro(h|h|h)
   ·exact .inl (.inr h)
   ·exact .inl (.inl h)
   ·exact .inr h
  ·rintro((h|h)|h)
   ·exact .inr (.inl h)
   ·exact .inl h
   ·exact .inr (.inr h)
theorem qZx{N:Nat}{L:List Ky}(hl:L.length<2500000)(hN:L.length<N):qFt N L=some (qJg L):=by
 have h1:qAl (qDq N L) N (([]:List Ky),0)=some (L.foldl insK []):=qXa hl hN L.length 0 N [] (by omega) (by omega) (jP _)
 simp only[qFt,h1,j0]
 congr 1
 exact qRq cK_lin (qKf L [] List.Pairwise.nil) (qKb L) fun z=>by rw[qKw,qKs];simp
end
section
open Go Go.Dc Go.Sort Go.Proofs
abbrev Pst:=Ky×List Int
abbrev Ixx:=List Pst×Int
abbrev Rcd:=(ByteArray×ByteArray)×Int×Int×Int×(Int×Int×Int)×Bool×(List (Ky×Int))
def qJh{α:Type}(L:List α):Nat→Option α
 |0=>none
 |j+1=>L[j]?
def recB(n:Int):Option Int→List Int→Bool
 |_,[]=>true
 |o,r::R=>(decide (0≤r∧r<n)&&o.all fun q=>decide (q<r))&&recB n (some r) R
def qNc(n:Int):Option Pst→List Pst→Bool
 |_,[]=>true
 |o,p::L=>(qDo p.1&&((o.all fun q=>decide (cK q.1 p.1<0))&& !p.2.isEmpty))&&(recB n none p.2&&qNc n (some p) L)
def qFo(x:Ixx):Bool:=decide (0≤x.2∧x.2≤512)&&qNc x.2 none x.1
def SmallX(x:Ixx):Prop:=x.1.length≤1048576∧∀p∈x.1,p.1.2.1.size≤1048576∧p.2.length≤1048576
theorem qJa{N:Nat}(hN:3000000<N){k:Ky}(h:k.2.1.size≤1048576):qHa N (k.1,k.2.1,k.2.2)=some (qDo k):=qSk (k:=k) (by omega) (by omega)
theorem qNy{N:Nat}(hN:3000000<N)(x y:Ky):qEq N (x.1,x.2.1,x.2.2) (y.1,y.2.1,y.2.2)=some (cK x y):=qMu (by omega) x y
theorem qXu{N:Nat}{x:Ixx}{p:Pst}(hl:p.2.length<2000000):∀(d i M:Nat),i+d=p.2.length→d<M→
  qAl (qGf N x p) M (i:Int)=some (if recB x.2 (qJh p.2 i) (p.2.drop i)=true then .inl () else .inr false)
 |_,_,0,_,h=>absurd h (jN _)
 |d,i,M+1,h1,h2=>by
  simp only[qAl,qGf]
  cases d with
  |zero=>
   have hc:¬((i:Int)<(p.2.length:Int)):=by omega
   simp only[hc,decide_false,j7,jC,j0]
   rw[jJ (by omega)];simp[recB]
  |succ d=>
   have hi:i<p.2.length:=by omega
   have hc:((i:Int)<(p.2.length:Int)):=by omega
   have w2:IntKind.wrap .i64 ((i:Int)+1)=((i+1:Nat):Int):=by rw[wi64 (by omega) (by omega)];omega
   have hdrop:p.2.drop i=p.2[i]::p.2.drop (i+1):=(jI hi).symm
   have hp1:qJh p.2 (i+1)=some p.2[i]:=List.getElem?_eq_getElem hi
   have ho:(if(decide (p.2[i]<0))=true then(some true) else(if(decide (p.2[i]≥x.2))=true then(some true) else(if(decide ((i:Int)>0))=true then((idx p.2 (IntKind.wrap .i64 ((i:Int)-1))).bind fun x4=>some (decide (p.2[i]≤x4))) else(some false))):Option Bool)=some (!(decide (0≤p.2[i]∧p.2[i]<x.2)&&(qJh p.2 i).all fun q=>decide (q<p.2[i]))):=by
    by_cases g1:p.2[i]<0
    ·have:¬(0≤p.2[i]∧p.2[i]<x.2):=by omega
     simp[g1,this]
    ·by_cases g2:p.2[i]≥x.2
     ·have:¬(0≤p.2[i]∧p.2[i]<x.2):=by omega
      simp only[g1,g2,this,decide_true,decide_false,j7,jC,jH,kO,kJ]
     ·have:(0≤p.2[i]∧p.2[i]<x.2):=by omega
      simp only[g1,g2,this,and_self,decide_true,decide_false,j7,jC,kA]
      cases i with
      |zero=>simp[qJh]
      |succ j=>
       have hj:j<p.2.length:=by omega
       have g3:((j+1:Nat):Int)>0:=by omega
       have w1:IntKind.wrap .i64 (((j+1:Nat):Int)-1)=(j:Int):=by rw[wi64 (by omega) (by omega)];omega
       have hp:qJh p.2 (j+1)=some p.2[j]:=List.getElem?_eq_getElem hj
       simp only[g3,decide_true,jH,w1,qBn hj,j0,hp,Option.all_some]
       congr 1
       by_cases g4:p.2[j]<p.2[j+1]
       ·have:¬p.2[j+1]≤p.2[j]:=by omega
        simp[g4,this]
       ·have:p.2[j+1]≤p.2[j]:=by omega
        simp[g4,this]
   simp only[hc,decide_true,jH,qBn hi,j0]
   rw[ho,hdrop]
   simp only[j0,recB]
   rcases gD (decide (0≤p.2[i]∧p.2[i]<x.2)&&(qJh p.2 i).all fun q=>decide (q<p.2[i])) with hb|hb
   ·simp only[hb,jQ,j7,jC,j0,w2,kA]
    rw[qXu hl d (i+1) M (by omega) (by omega),hp1]
   ·simp only[hb,kJ,jH,j0,kO,j7,jC]
theorem qUj{N:Nat}(hN:3000000<N){x:Ixx}(hx:SmallX x):∀(d i M:Nat),i+d=x.1.length→d<M→
  qAl (qGj N x) M (i:Int)=some (if qNc x.2 (qJh x.1 i) (x.1.drop i)=true then .inl () else .inr false)
 |_,_,0,_,h=>absurd h (jN _)
 |d,i,M+1,h1,h2=>by
  have hl:=hx.1
  simp only[qAl,qGj]
  cases d with
  |zero=>
   have hc:¬((i:Int)<(x.1.length:Int)):=by omega
   simp only[hc,decide_false,j7,jC,j0]
   rw[jJ (by omega)];simp[qNc]
  |succ d=>
   have hi:i<x.1.length:=by omega
   have hc:((i:Int)<(x.1.length:Int)):=by omega
   have w2:IntKind.wrap .i64 ((i:Int)+1)=((i+1:Nat):Int):=by rw[wi64 (by omega) (by omega)];omega
   have hdrop:x.1.drop i=x.1[i]::x.1.drop (i+1):=(jI hi).symm
   have hp1:qJh x.1 (i+1)=some x.1[i]:=List.getElem?_eq_getElem hi
   have hs:=hx.2 x.1[i] (jV hi)
   have he:((List.length x.1[i].2:Int)==0)=x.1[i].2.isEmpty:=by
    cases x.1[i].2 with
    |nil=>rfl
    |cons a l=>simp only[j8,List.isEmpty_cons,beq_eq_false_iff_ne];omega
   have ho:((qHa N (x.1[i].1.1,x.1[i].1.2.1,x.1[i].1.2.2)).bind fun y1=>if(!y1)=true then(some true) else(if(decide ((i:Int)>0))=true then((idx x.1 (IntKind.wrap .i64 ((i:Int)-1))).bind fun x2=>(qEq N (x2.1.1,x2.1.2.1,x2.1.2.2) (x.1[i].1.1,x.1[i].1.2.1,x.1[i].1.2.2)).bind fun y2=>if(decide (y2≥0))=true then(some true) else(some ((List.length x.1[i].2:Int)==0))) else(some ((List.length x.1[i].2:Int)==0))):Option Bool)
     =some (!(qDo x.1[i].1&&(((qJh x.1 i).all fun q=>decide (cK q.1 x.1[i].1<0))&& !x.1[i].2.isEmpty))):=by
    rw[qJa hN hs.1]
    simp only[j0,he]
    cases qDo x.1[i].1 with
    |false=>rfl
    |true=>
     simp only[jQ,j7,jC,kA]
     cases i with
     |zero=>simp[qJh]
     |succ j=>
      have hj:j<x.1.length:=by omega
      have g3:((j+1:Nat):Int)>0:=by omega
      have w1:IntKind.wrap .i64 (((j+1:Nat):Int)-1)=(j:Int):=by rw[wi64 (by omega) (by omega)];omega
      have hp:qJh x.1 (j+1)=some x.1[j]:=List.getElem?_eq_getElem hj
      simp only[g3,decide_true,jH,w1,qBn hj,j0,hp,Option.all_some,qNy hN]
      by_cases g4:cK x.1[j].1 x.1[j+1].1<0
      ·have:¬cK x.1[j].1 x.1[j+1].1≥0:=by omega
       simp[g4,this]
      ·have:cK x.1[j].1 x.1[j+1].1≥0:=by omega
       simp[g4,this]
   have hr:qAl (qGf N x x.1[i]) N 0=some (if recB x.2 none x.1[i].2=true then .inl () else .inr false):=qXu (by omega) x.1[i].2.length 0 N (by omega) (by omega)
   simp only[hc,decide_true,jH,qBn hi,j0]
   rw[ho,hdrop,hr]
   simp only[j0,qNc]
   rcases gD (qDo x.1[i].1&&(((qJh x.1 i).all fun q=>decide (cK q.1 x.1[i].1<0))&& !x.1[i].2.isEmpty)) with hb|hb
   ·rcases gD (recB x.2 none x.1[i].2) with hc2|hc2
    ·simp only[hb,hc2,jQ,j7,jC,jH,j0,w2,kA]
     rw[qUj hN hx d (i+1) M (by omega) (by omega),hp1]
    ·simp only[hb,hc2,jQ,j7,jC,j0,kA,kO]
   ·simp only[hb,kJ,jH,j0,kO,j7,jC]
theorem qMm{N:Nat}(hN:3000000<N){x:Ixx}(hx:SmallX x):qDd N x=some (qFo x):=by
 have h1:qAl (qGj N x) N 0=some (if qNc x.2 none x.1=true then .inl () else .inr false):=qUj hN hx x.1.length 0 N (by omega) (by have:=hx.1;omega)
 simp only[qDd,qFo]
 by_cases g1:x.2<0
 ·have:¬(0≤x.2∧x.2≤512):=by omega
  simp[g1,this]
 ·by_cases g2:x.2>512
  ·have:¬(0≤x.2∧x.2≤512):=by omega
   simp[g1,g2,this]
  ·have:(0≤x.2∧x.2≤512):=by omega
   simp only[g1,g2,this,and_self,decide_true,decide_false,j7,jC,kA,j0,h1]
   cases qNc x.2 none x.1<;>rfl
def RecOK(n:Int)(R:List Int):Prop:=(∀r∈R,0≤r∧r<n)∧R.Pairwise (· < ·)
theorem qXk{n:Int}:∀{R:List Int} {o:Option Int},recB n o R=true↔RecOK n R∧∀q,o=some q→∀r∈R,q<r
 |[],o=>by simp[recB,RecOK]
 |r::R,o=>by
  have ih:=qXk (n:=n) (R:=R) (o:=some r)
  simp only[recB,jX,j9,ih,RecOK,jD,jL]
  constructor
  ·rintro⟨⟨h1,h2⟩,⟨h3,h4⟩,h5⟩
   refine⟨⟨fun q hq=> ?_,fun q hq=>h5 r rfl q hq,h4⟩,fun q hq z hz=> ?_⟩
   ·rcases hq with rfl|hq
    ·exact h1
    ·exact h3 q hq
   ·subst hq
    have h2:q<r:=by simpa using h2
    rcases hz with rfl|hz
    ·exact h2
    ·have:=h5 r rfl z hz;omega
  ·rintro⟨⟨h1,h2,h3⟩,h4⟩
   refine⟨⟨h1 r (.inl rfl),?_⟩,⟨fun q hq=>h1 q (.inr hq),h3⟩,fun q hq z hz=> ?_⟩
   ·cases o with
    |none=>rfl
    |some q=>simpa using h4 q rfl r (.inl rfl)
   ·cases hq;exact h2 z hz
def qVo(n:Int)(p:Pst):Prop:=qDo p.1=true∧p.2≠[]∧RecOK n p.2
abbrev Asc(L:List Pst):Prop:=L.Pairwise fun p q=>cK p.1 q.1<0
theorem qTz{n:Int}:∀{L:List Pst} {o:Option Pst},qNc n o L=true↔(∀p∈L,qVo n p)∧Asc L∧∀q,o=some q→∀p∈L,cK q.1 p.1<0
 |[],o=>by simp[qNc]
 |p::L,o=>by
  have ih:=qTz (n:=n) (L:=L) (o:=some p)
  have hr:=qXk (n:=n) (R:=p.2) (o:=none)
  simp only[qNc,jX,gP,List.isEmpty_eq_false_iff,ih,hr,jD,jL]
  constructor
  ·rintro⟨⟨h1,h2,h3⟩,⟨h4,_⟩,h5,h6,h7⟩
   refine⟨fun q hq=> ?_,⟨fun q hq=>h7 p rfl q hq,h6⟩,fun q hq z hz=> ?_⟩
   ·rcases hq with rfl|hq
    ·exact⟨h1,h3,h4⟩
    ·exact h5 q hq
   ·subst hq
    have h2:cK q.1 p.1<0:=by simpa using h2
    rcases hz with rfl|hz
    ·exact h2
    ·exact cK_lin.trans _ _ _ h2 (h7 p rfl z hz)
  ·rintro⟨h1,⟨h2,h3⟩,h4⟩
   obtain⟨a1,a2,a3⟩:=h1 p (.inl rfl)
   refine⟨⟨a1,?_,a2⟩,⟨a3,fun q hq=>by cases hq⟩,fun q hq=>h1 q (.inr hq),h3,fun q hq z hz=> ?_⟩
   ·cases o with
    |none=>rfl
    |some q=>simpa using h4 q rfl p (.inl rfl)
   ·cases hq;exact h2 z hz
def qOx(x:Ixx):Prop:=(0≤x.2∧x.2≤512)∧(∀p∈x.1,qVo x.2 p)∧Asc x.1
theorem qFf{x:Ixx}:qFo x=true↔qOx x:=by
 simp only[qFo,jX,j9,qTz,qOx]
 constructor
 ·rintro⟨h1,h2,h3,_⟩;exact⟨h1,h2,h3⟩
 ·rintro⟨h1,h2,h3⟩;exact⟨h1,h2,h3,fun q hq=>by cases hq⟩
end
section
open Go Go.Dc Go.Sort Go.Proofs
def qDw:Nat→List Pst→List Ky→Int→List Pst
 |0,_,_,_=>[]
 |_+1,[],[],_=>[]
 |d+1,[],k::K,n=>(k,[n])::qDw d [] K n
 |d+1,p::L,[],n=>p::qDw d L [] n
 |d+1,p::L,k::K,n=>if cK p.1 k<0 then p::qDw d L (k::K) n else if p.1=k then(k,p.2++[n])::qDw d L K n else(k,[n])::qDw d (p::L) K n
theorem qTe{N:Nat}{R:List Int}(h:R.length≤2000000):qDr N R=some R:=by
 unfold qDr
 cases R with
 |nil=>rfl
 |cons r R=>
  simp only[nilS]
  rw[qBo (by simp only[j8,jB] at*;omega) (by decide)]
  rfl
theorem qSo{α:Type}(a:α)(l:List α):((List.length (a::l):Int)>0)∧((List.length (a::l):Int)==0)=false:=by
 simp only[j8,beq_eq_false_iff_ne]
 omega
theorem qSz{α:Type}(a:α)(l:List α):subS (a::l) 1 (List.length (a::l):Int)=some l:=by
 rw[qUr (by omega) (by simp only[j8];omega) (Int.le_refl _)]
 simp
theorem zDb{α:Type}(a:α)(l:List α):idx (a::l) 0=some a:=rfl
section
variable {N:Nat} {x:Ixx} {L:List Pst} {K:List Ky} {out:List Pst} {p:Pst} {k:Ky}
theorem n1{α:Type}:decide ((List.length ([]:List α):Int)>0)=false:=rfl
theorem n2{α:Type}:((List.length ([]:List α):Int)==0)=true:=rfl
theorem zAl:qCo N x ([],[],out)=some (.inr (.inl ([],[],out))):=rfl
theorem zDi(ho:out.length≤10000000):qCo N x (k::K,[],out)=some (.inl (K,[],out++[(k,[x.2])])):=by
 have h:=qSo k K
 simp only[qCo,n1,n2,h.1,decide_true,j7,jC,jH,zDb,qSz,j0]
 rw[if_neg (by decide)]
 simp only[j0]
 rw[if_pos (by decide)]
 rw[qBo (l:=([]:List Int)) (by simp) (by decide)]
 simp only[j0]
 rw[qBo (l:=out) (by simp only[j8,jB];omega) (by decide)]
 rfl
theorem zDg(ho:out.length≤10000000)(hp:p.2.length≤2000000):qCo N x ([],p::L,out)=some (.inl ([],L,out++[p])):=by
 have h:=qSo p L
 simp only[qCo,n1,n2,h.1,h.2,decide_true,j7,jC,jH,zDb,qSz,j0,qTe hp]
 rw[if_pos (by decide)]
 simp only[j0]
 rw[if_neg (by decide)]
 simp only[j0]
 rw[qBo (l:=out) (by simp only[j8,jB];omega) (by decide)]
 rfl
theorem zCu(hN:3000000<N)(ho:out.length≤10000000)(hp:p.2.length≤2000000):qCo N x (k::K,p::L,out)=
  some (.inl (if cK p.1 k<0 then(k::K,L,out++[p]) else if p.1=k then(K,L,out++[(k,p.2++[x.2])]) else(K,p::L,out++[(k,[x.2])]))):=by
 have h:=qSo p L
 have h':=qSo k K
 have hz:=cK_lin.zero p.1 k
 have hc:=qNy (N:=N) hN p.1 k
 simp only[qCo,h.1,h.2,h'.2,decide_true,jH,j7,jC,zDb,qSz,j0,qTe hp,hc]
 by_cases h1:cK p.1 k<0
 ·have h2:cK p.1 k≤0:=by omega
  have h3:¬cK p.1 k≥0:=by omega
  simp only[h1,h2,h3,decide_true,decide_false,jH,j7,jC,j0]
  rw[qBo (l:=out) (by simp only[j8,jB];omega) (by decide)]
  rfl
 ·by_cases h4:p.1=k
  ·have e:=hz.2 h4
   have h2:cK p.1 k≤0:=by omega
   have h3:cK p.1 k≥0:=by omega
   subst h4
   simp only[h1,h2,h3,decide_true,jH,jC,j0]
   rw[qBo (l:=p.2) (by simp only[j8,jB];omega) (by decide)]
   simp only[j0]
   rw[qBo (l:=out) (by simp only[j8,jB];omega) (by decide)]
   rfl
  ·have hne:cK p.1 k≠0:=fun g=>h4 (hz.1 g)
   have h2:¬cK p.1 k≤0:=by omega
   have h3:cK p.1 k≥0:=by omega
   simp only[h1,h2,h3,h4,decide_true,decide_false,jH,j7,jC,j0]
   rw[qBo (l:=([]:List Int)) (by simp) (by decide)]
   simp only[j0]
   rw[qBo (l:=out) (by simp only[j8,jB];omega) (by decide)]
   rfl
end
theorem qJn{N:Nat}(hN:3000000<N){x:Ixx}:∀(d M:Nat) (L:List Pst) (K:List Ky) (out:List Pst),L.length+K.length≤d→d<M→out.length+d≤10000000→(∀p∈L,p.2.length≤2000000)→
  qAl (qCo N x) M (K,L,out)=some (.inl ([],[],out++qDw d L K x.2))
 |d,0,_,_,_,_,h,_,_=>absurd h (jN _)
 |0,M+1,L,K,out,h1,_,_,_=>by
  have e1:L=[]:=jK (by omega)
  have e2:K=[]:=jK (by omega)
  subst e1;subst e2
  simp only[qAl,zAl,j0,qDw,gO]
 |d+1,M+1,[],[],out,_,_,_,_=>by simp only[qAl,zAl,j0,qDw,gO]
 |d+1,M+1,[],k::K,out,h1,h2,h3,h4=>by
  simp only[qAl]
  rw[zDi (by omega)]
  simp only[j0,qDw]
  rw[qJn hN d M [] K _ (by simp only[j8,jB] at*;omega) (by omega) (by simp only[jG,j8,jB];omega) h4,jR];rfl
 |d+1,M+1,p::L,[],out,h1,h2,h3,h4=>by
  simp only[qAl]
  rw[zDg (by omega) (h4 p (jE ..))]
  simp only[j0,qDw]
  rw[qJn hN d M L [] _ (by simp only[j8,jB] at*;omega) (by omega) (by simp only[jG,j8,jB];omega) (fun q hq=>h4 q (jM _ hq)),jR];rfl
 |d+1,M+1,p::L,k::K,out,h1,h2,h3,h4=>by
  have h4':∀q∈L,q.2.length≤2000000:=fun q hq=>h4 q (jM _ hq)
  simp only[qAl]
  rw[zCu hN (by omega) (h4 p (jE ..))]
  simp only[j0,qDw]
  by_cases g1:cK p.1 k<0
  ·simp only[g1,jH]
   rw[qJn hN d M L (k::K) _ (by simp only[j8] at*;omega) (by omega) (by simp only[jG,j8,jB];omega) h4',jR];rfl
  ·by_cases g2:p.1=k
   ·simp only[g1,g2,jH,jC]
    rw[if_neg (by rw[←g2];have:=(cK_lin.zero p.1 p.1).2 rfl;omega)]
    rw[qJn hN d M L K _ (by simp only[j8] at*;omega) (by omega) (by simp only[jG,j8,jB];omega) h4',jR]
    rw[if_neg (by have:=(cK_lin.zero k k).2 rfl;omega)];rfl
   ·simp only[g1,g2,jC]
    rw[qJn hN d M (p::L) K _ (by simp only[j8] at*;omega) (by omega) (by simp only[jG,j8,jB];omega) h4,jR];rfl
def qBg(c:Rcd):List Ky:=c.2.2.2.2.2.2.map (·.1)
def qEh(x:Ixx)(c:Rcd):Ixx:=(qDw (x.1.length+(qJg (qBg c)).length) x.1 (qJg (qBg c)) x.2,x.2+1)
theorem qOl{N:Nat}{c:Rcd}(hl:c.2.2.2.2.2.2.length≤2000000):∀(d i M:Nat) (S:List Ky),i+d=c.2.2.2.2.2.2.length→d<M→S.length≤i→
  qAl (qGh N c) M (S,(i:Int))=some (S++(c.2.2.2.2.2.2.drop i).map (·.1))
 |_,_,0,_,_,h,_=>absurd h (jN _)
 |d,i,M+1,S,h1,h2,h3=>by
  simp only[qAl,qGh]
  cases d with
  |zero=>
   have hc:¬((i:Int)<(c.2.2.2.2.2.2.length:Int)):=by omega
   simp only[hc,decide_false,j7,jC,j0]
   rw[jJ (by omega)];simp
  |succ d=>
   have hi:i<c.2.2.2.2.2.2.length:=by omega
   have hc:((i:Int)<(c.2.2.2.2.2.2.length:Int)):=by omega
   have w2:IntKind.wrap .i64 ((i:Int)+1)=((i+1:Nat):Int):=by rw[wi64 (by omega) (by omega)];omega
   have hdrop:c.2.2.2.2.2.2.drop i=c.2.2.2.2.2.2[i]::c.2.2.2.2.2.2.drop (i+1):=(jI hi).symm
   simp only[hc,decide_true,jH,qBn hi,j0]
   rw[qBo (by simp only[j8,jB];omega) (by decide)]
   simp only[j0,w2]
   rw[qOl hl d (i+1) M _ (by omega) (by omega) (by simp only[jG,j8,jB];omega),hdrop,jR,jY];rfl
theorem qYk{N:Nat}(hN:3000000<N){c:Rcd}(hl:c.2.2.2.2.2.2.length≤2000000):qIm N c=some (qBg c):=by
 have h1:qAl (qGh N c) N (([]:List Ky),0)=_:=qOl hl c.2.2.2.2.2.2.length 0 N [] (by omega) (by omega) (jP _)
 simp only[qIm,h1,j0,jW,jT]
 rfl
theorem qXy{N:Nat}(hN:3000000<N){x:Ixx}{c:Rcd}(hc:c.2.2.2.2.2.2.length≤1100000)(hx:x.1.length≤1500000)(hr:∀p∈x.1,p.2.length≤2000000)(hn:0≤x.2∧x.2≤512):qGw N x c=some (qEh x c):=by
 have hk:(qBg c).length=c.2.2.2.2.2.2.length:=kM ..
 have h2:qMl N (qBg c)=some (qJg (qBg c)):=qUs (by omega) (by omega)
 have hcl:=qNu (qBg c)
 have h3:qAl (qCo N x) N (qJg (qBg c),x.1,([]:List Pst))=_:=qJn hN (x.1.length+(qJg (qBg c)).length) N x.1 (qJg (qBg c)) [] (jP _) (by omega) (by simp only[jB];omega) hr
 have w:IntKind.wrap .i64 (x.2+1)=x.2+1:=wi64 (by omega) (by omega)
 simp only[qGw]
 rw[show qIm N ((c.1.1,c.1.2),c.2.1,c.2.2.1,c.2.2.2.1,(c.2.2.2.2.1.1,c.2.2.2.2.1.2.1,c.2.2.2.2.1.2.2),c.2.2.2.2.2.1,c.2.2.2.2.2.2)=some (qBg c) from qYk (c:=c) hN (by omega)]
 simp only[j0,h2,h3,w,jW]
 rfl
theorem RecOK.up{n:Int}{R:List Int}(h:RecOK n R):RecOK (n+1) R:=⟨fun r hr=>by have:=h.1 r hr;omega,h.2⟩
theorem RecOK.snoc{n:Int}{R:List Int}(h0:0≤n)(h:RecOK n R):RecOK (n+1) (R++[n]):=by
 refine⟨fun r hr=> ?_,List.pairwise_append.2 ⟨h.2,fJ _ _,fun a ha b hb=> ?_⟩⟩
 ·rcases jZ.1 hr with hr|hr
  ·have:=h.1 r hr;omega
  ·simp only[jD,jU,gH] at hr;omega
 ·simp only[jD,jU,gH] at hb
  have:=h.1 a ha;omega
theorem RecOK.one{n:Int}(h0:0≤n):RecOK (n+1) [n]:=⟨fun r hr=>by simp only[jD,jU,gH] at hr;omega,fJ _ _⟩
theorem qGm{n:Int}{P Q:Pst→Prop}{R:Ky→Prop}(h1:∀p,P p→Q p)(h2:∀p,P p→R p.1→Q (p.1,p.2++[n]))(h3:∀k,R k→Q (k,[n])):∀(d:Nat) (L:List Pst) (K:List Ky),(∀p∈L,P p)→(∀k∈K,R k)→∀q∈qDw d L K n,Q q
 |0,_,_,_,_,q,hq=>by simp[qDw] at hq
 |_+1,[],[],_,_,q,hq=>by simp[qDw] at hq
 |d+1,[],k::K,a,b,q,hq=>by
  simp only[qDw,jD] at hq
  rcases hq with rfl|hq
  ·exact h3 k (b k (jE ..))
  ·exact qGm h1 h2 h3 d [] K a (fun z hz=>b z (jM _ hz)) q hq
 |d+1,p::L,[],a,b,q,hq=>by
  simp only[qDw,jD] at hq
  rcases hq with rfl|hq
  ·exact h1 _ (a _ (jE ..))
  ·exact qGm h1 h2 h3 d L [] (fun z hz=>a z (jM _ hz)) b q hq
 |d+1,p::L,k::K,a,b,q,hq=>by
  have a':∀z∈L,P z:=fun z hz=>a z (jM _ hz)
  have b':∀z∈K,R z:=fun z hz=>b z (jM _ hz)
  simp only[qDw] at hq
  split at hq
  ·rcases jD.1 hq with rfl|hq
   ·exact h1 _ (a _ (jE ..))
   ·exact qGm h1 h2 h3 d L (k::K) a' b q hq
  ·split at hq
   ·rename_i e
    subst e
    rcases jD.1 hq with rfl|hq
    ·exact h2 p (a p (jE ..)) (b _ (jE ..))
    ·exact qGm h1 h2 h3 d L K a' b' q hq
   ·rcases jD.1 hq with rfl|hq
    ·exact h3 k (b k (jE ..))
    ·exact qGm h1 h2 h3 d (p::L) K a b' q hq
theorem qIt{n:Int}{b:Ky}{d:Nat}{L:List Pst}{K:List Ky}(hL:∀p∈L,cK b p.1<0)(hK:∀k∈K,cK b k<0):∀q∈qDw d L K n,cK b q.1<0:=
 qGm (P:=fun p=>cK b p.1<0) (Q:=fun p=>cK b p.1<0) (R:=fun k=>cK b k<0) (fun _ h=>h) (fun _ h _=>h) (fun _ h=>h) d L K hL hK
theorem qIl{n:Int}:∀(d:Nat) (L:List Pst) (K:List Ky),Asc L→qJe cK K→Asc (qDw d L K n)
 |0,_,_,_,_=>List.Pairwise.nil
 |_+1,[],[],_,_=>List.Pairwise.nil
 |d+1,[],k::K,a,b=>by
  have b':=jL.1 b
  simp only[qDw]
  exact jL.2 ⟨qIt (by simp) b'.1,qIl d [] K a b'.2⟩
 |d+1,p::L,[],a,b=>by
  have a':=jL.1 a
  simp only[qDw]
  exact jL.2 ⟨qIt a'.1 (by simp),qIl d L [] a'.2 b⟩
 |d+1,p::L,k::K,a,b=>by
  have a':=jL.1 a
  have b':=jL.1 b
  simp only[qDw]
  split
  ·rename_i h
   refine jL.2 ⟨qIt a'.1 (fun z hz=> ?_),qIl d L (k::K) a'.2 b⟩
   rcases jD.1 hz with rfl|hz
   ·exact h
   ·exact cK_lin.trans _ _ _ h (b'.1 z hz)
  ·rename_i h
   split
   ·rename_i e
    subst e
    exact jL.2 ⟨qIt a'.1 b'.1,qIl d L K a'.2 b'.2⟩
   ·rename_i hne
    have hk:cK k p.1<0:=by
     have a1:=cK_lin.zero p.1 k;have a2:=cK_lin.anti k p.1
     refine a2.2 ?_
     have:cK p.1 k≠0:=fun g=>hne (a1.1 g)
     omega
    refine jL.2 ⟨qIt (fun z hz=> ?_) b'.1,qIl d (p::L) K a b'.2⟩
    rcases jD.1 hz with rfl|hz
    ·exact hk
    ·exact cK_lin.trans _ _ _ hk (a'.1 z hz)
theorem qIf{n:Int}:∀(d:Nat) (L:List Pst) (K:List Ky),(qDw d L K n).length≤d
 |0,_,_=>jP _
 |_+1,[],[]=>kK _
 |d+1,[],k::K=>by have:=qIf (n:=n) d [] K;simp only[qDw,j8];omega
 |d+1,p::L,[]=>by have:=qIf (n:=n) d L [];simp only[qDw,j8];omega
 |d+1,p::L,k::K=>by
  have h1:=qIf (n:=n) d L (k::K);have h2:=qIf (n:=n) d L K;have h3:=qIf (n:=n) d (p::L) K
  simp only[qDw]
  split
  ·simp only[j8];omega
  ·split<;>(simp only[j8];omega)
theorem qYf{x:Ixx}{c:Rcd}(hx:qOx x)(hlt:x.2<512)(hc:∀k∈qBg c,qDo k=true):qOx (qEh x c):=by
 obtain⟨h0,h1,h2⟩:=hx
 have hn:(qEh x c).2=x.2+1:=rfl
 refine⟨by omega,?_,qIl _ _ _ h2 (qKb _)⟩
 rw[hn]
 refine qGm (P:=qVo x.2) (Q:=qVo (x.2+1)) (R:=fun k=>qDo k=true) ?_ ?_ ?_ _ _ _ h1 (fun k hk=>hc k (qKs.1 hk))
 ·rintro p ⟨a,b,r⟩;exact⟨a,b,r.up⟩
 ·rintro p ⟨a,b,r⟩ _;exact⟨a,by simp,r.snoc h0.1⟩
 ·intro k hk;exact⟨hk,by simp,RecOK.one h0.1⟩
end
section
open Go Go.Dc Go.Sort Go.Proofs
def SmallR(c:Rcd):Prop:=c.2.2.2.2.2.2.length≤1000∧∀k∈qBg c,k.2.1.size≤1048576
def BigR(c:Rcd):Prop:=c.2.2.2.2.2.2.length≤1048576∧∀k∈qBg c,k.2.1.size≤1048576
theorem SmallR.big{c:Rcd}(h:SmallR c):BigR c:=⟨by have:=h.1;omega,h.2⟩
def InvX(i:Nat)(x:Ixx):Prop:=x.2=(i:Int)∧x.1.length≤1000*i∧∀p∈x.1,p.2.length≤i∧p.1.2.1.size≤1048576
theorem qVj{i:Nat}{x:Ixx}{c:Rcd}(h:InvX i x)(hc:SmallR c):InvX (i+1) (qEh x c):=by
 obtain⟨h1,h2,h3⟩:=h
 have hk:(qBg c).length=c.2.2.2.2.2.2.length:=kM ..
 have hcl:=qNu (qBg c)
 have hc1:=hc.1
 refine⟨by show x.2+1=_;omega,?_,?_⟩
 ·have:=qIf (n:=x.2) (x.1.length+(qJg (qBg c)).length) x.1 (qJg (qBg c))
  show(qDw _ _ _ _).length≤_
  omega
 ·refine qGm (P:=fun p=>p.2.length≤i∧p.1.2.1.size≤1048576) (Q:=fun p=>p.2.length≤i+1∧p.1.2.1.size≤1048576) (R:=fun k=>k.2.1.size≤1048576) ?_ ?_ ?_ _ _ _ h3 (fun k hk=>hc.2 k (qKs.1 hk))
  ·rintro p ⟨a,b⟩;exact⟨by omega,b⟩
  ·rintro p ⟨a,b⟩ _;exact⟨by simp only[jG,j8,jB];omega,b⟩
  ·intro k hk;exact⟨by simp only[j8,jB];omega,hk⟩
def qJs(c:Rcd):Bool:=c.2.2.2.2.2.2.all fun f=>qDo f.1
theorem qYi{c:Rcd}(h:qJs c=true):∀k∈qBg c,qDo k=true:=fun k hk=>by
 obtain⟨f,hf,rfl⟩:=kF.1 hk
 exact k8.1 h f hf
theorem qUy{N:Nat}(hN:3000000<N){c:Rcd}(hc:BigR c):∀(d i M:Nat),i+d=c.2.2.2.2.2.2.length→d<M→
  ∃o,qAl (qHf N c) M (i:Int)=some o∧((((c.2.2.2.2.2.2.drop i).all fun f=>qDo f.1)=true∧o= .inl ())∨(((c.2.2.2.2.2.2.drop i).all fun f=>qDo f.1)=false∧∃j:Nat,o= .inr (j:Int)))
 |_,_,0,_,h=>absurd h (jN _)
 |d,i,M+1,h1,h2=>by
  have hl:=hc.1
  simp only[qAl,qHf]
  cases d with
  |zero=>
   have hc:¬((i:Int)<(c.2.2.2.2.2.2.length:Int)):=by omega
   simp only[hc,decide_false,j7,jC,j0]
   exact⟨_,rfl,.inl ⟨by rw[jJ (by omega)];rfl,rfl⟩⟩
  |succ d=>
   have hi:i<c.2.2.2.2.2.2.length:=by omega
   have hc':((i:Int)<(c.2.2.2.2.2.2.length:Int)):=by omega
   have w2:IntKind.wrap .i64 ((i:Int)+1)=((i+1:Nat):Int):=by rw[wi64 (by omega) (by omega)];omega
   have hdrop:c.2.2.2.2.2.2.drop i=c.2.2.2.2.2.2[i]::c.2.2.2.2.2.2.drop (i+1):=(jI hi).symm
   have hs:=hc.2 c.2.2.2.2.2.2[i].1 (kZ (jV hi))
   have hk:qIu N ((c.2.2.2.2.2.2[i].1.1,c.2.2.2.2.2.2[i].1.2.1,c.2.2.2.2.2.2[i].1.2.2),c.2.2.2.2.2.2[i].2)=some (!qDo c.2.2.2.2.2.2[i].1):=by
    simp only[qIu,qJa hN hs,j0]
   simp only[hc',decide_true,jH,qBn hi,j0,hk]
   rw[hdrop]
   simp only[kY]
   by_cases hck:qDo c.2.2.2.2.2.2[i].1=true
   ·simp only[hck,jQ,j7,jC,j0,w2,kA]
    exact qUy hN hc d (i+1) M (by omega) (by omega)
   ·have hck:=gQ.2 hck
    simp only[hck,kJ,jH,j0,kO]
    exact⟨_,rfl,.inr ⟨trivial,i,rfl⟩⟩
theorem qVs{N:Nat}(hN:3000000<N){c:Rcd}(hc:BigR c):qHe N c=some (qJs c):=by
 obtain⟨o,h1,h2⟩:=qUy hN hc c.2.2.2.2.2.2.length 0 N (by omega) (by have:=hc.1;omega)
 have h1':qAl (qHf N c) N 0=some o:=h1
 simp only[qHe,h1',j0]
 rw[jT] at h2
 rcases h2 with ⟨h2,rfl⟩|⟨h2,j,rfl⟩
 ·rw[show qJs c=true from h2];rfl
 ·rw[show qJs c=false from h2]
  have:(j:Int)≥0:=by omega
  simp[this]
theorem zCc{N:Nat}(hN:3000000<N){l:List Rcd}(hl:l.length≤512)(hL:∀c∈l,SmallR c):∀(d i M:Nat),i+d=l.length→d<M→
  ∃o,qAl (qGl N l) M (i:Int)=some o∧(((l.drop i).all qJs=true∧o= .inl ())∨((l.drop i).all qJs=false∧∃j:Nat,o= .inr (j:Int)))
 |_,_,0,_,h=>absurd h (jN _)
 |d,i,M+1,h1,h2=>by
  simp only[qAl,qGl]
  cases d with
  |zero=>
   have hc:¬((i:Int)<(l.length:Int)):=by omega
   simp only[hc,decide_false,j7,jC,j0]
   exact⟨_,rfl,.inl ⟨by rw[jJ (by omega)];rfl,rfl⟩⟩
  |succ d=>
   have hi:i<l.length:=by omega
   have hc':((i:Int)<(l.length:Int)):=by omega
   have w2:IntKind.wrap .i64 ((i:Int)+1)=((i+1:Nat):Int):=by rw[wi64 (by omega) (by omega)];omega
   have hdrop:l.drop i=l[i]::l.drop (i+1):=(jI hi).symm
   have hk:∀c:Rcd,SmallR c→qHb N ((c.1.1,c.1.2),c.2.1,c.2.2.1,c.2.2.2.1,(c.2.2.2.2.1.1,c.2.2.2.2.1.2.1,c.2.2.2.2.1.2.2),c.2.2.2.2.2.1,c.2.2.2.2.2.2)=some (!qJs c):=fun c hc=>by
    show qHb N c=_
    simp only[qHb]
    rw[show qHe N ((c.1.1,c.1.2),c.2.1,c.2.2.1,c.2.2.2.1,(c.2.2.2.2.1.1,c.2.2.2.2.1.2.1,c.2.2.2.2.1.2.2),c.2.2.2.2.2.1,c.2.2.2.2.2.2)=some (qJs c) from qVs hN hc.big]
    rfl
   simp only[hc',decide_true,jH,qBn hi,j0,hk l[i] (hL _ (jV hi))]
   rw[hdrop]
   simp only[kY]
   by_cases hck:qJs l[i]=true
   ·simp only[hck,jQ,j7,jC,j0,w2,kA]
    exact zCc hN hl hL d (i+1) M (by omega) (by omega)
   ·have hck:=gQ.2 hck
    simp only[hck,kJ,jH,j0,kO]
    exact⟨_,rfl,.inr ⟨trivial,i,rfl⟩⟩
theorem qTv{N:Nat}(hN:3000000<N){i:Nat}{x:Ixx}{c:Rcd}(hi:i≤512)(hx:InvX i x)(hc:SmallR c):qGw N (x.1,x.2) ((c.1.1,c.1.2),c.2.1,c.2.2.1,c.2.2.2.1,(c.2.2.2.2.1.1,c.2.2.2.2.1.2.1,c.2.2.2.2.1.2.2),c.2.2.2.2.2.1,c.2.2.2.2.2.2)=some (qEh x c):=by
 obtain⟨h1,h2,h3⟩:=hx
 have hc1:=hc.1
 exact qXy (x:=x) (c:=c) hN (by omega) (by omega) (fun p hp=>by have:=(h3 p hp).1;omega) (by omega)
theorem zCe{N:Nat}(hN:3000000<N){l:List Rcd}(hl:l.length≤512)(hL:∀c∈l,SmallR c):∀(d i M:Nat) (x:Ixx),i+d=l.length→d<M→InvX i x→
  qAl (qGg N l) M ((i:Int),x.1,x.2)=some ((l.drop i).foldl qEh x)
 |_,_,0,_,_,h,_=>absurd h (jN _)
 |d,i,M+1,x,h1,h2,h3=>by
  simp only[qAl,qGg]
  cases d with
  |zero=>
   have hc:¬((i:Int)<(l.length:Int)):=by omega
   simp only[hc,decide_false,j7,jC,j0]
   rw[jJ (by omega)];rfl
  |succ d=>
   have hi:i<l.length:=by omega
   have hc':((i:Int)<(l.length:Int)):=by omega
   have w2:IntKind.wrap .i64 ((i:Int)+1)=((i+1:Nat):Int):=by rw[wi64 (by omega) (by omega)];omega
   have hdrop:l.drop i=l[i]::l.drop (i+1):=(jI hi).symm
   have hci:=hL _ (jV hi)
   simp only[hc',decide_true,jH,qBn hi,j0]
   rw[qTv hN (by omega) h3 hci]
   simp only[j0,w2]
   rw[zCe hN hl hL d (i+1) M (qEh x l[i]) (by omega) (by omega) (qVj h3 hci),hdrop]
   rfl
def qGv:Ixx:=([],0)
theorem qNj:InvX 0 qGv:=⟨rfl,jP _,fun p hp=>by simp[qGv] at hp⟩
theorem qSi:qOx qGv:=⟨⟨by decide,by decide⟩,fun p hp=>by simp[qGv] at hp,List.Pairwise.nil⟩
theorem qYb{N:Nat}(hN:3000000<N){l:List Rcd}(hl:l.length≤512)(hL:∀c∈l,SmallR c):qGr N l=some (if l.all qJs=true then(l.foldl qEh qGv,0) else(qGv,1)):=by
 obtain⟨o,h1,h2⟩:=zCc hN hl hL l.length 0 N (by omega) (by omega)
 have h1':qAl (qGl N l) N 0=some o:=h1
 have h3:qAl (qGg N l) N (0,([]:List Pst),0)=some (l.foldl qEh qGv):=zCe hN hl hL l.length 0 N qGv (by omega) (by omega) qNj
 have hc:¬((l.length:Int)>512):=by omega
 simp only[qGr,hc,decide_false,j7,jC,h1',j0]
 rw[jT] at h2
 rcases h2 with ⟨h2,rfl⟩|⟨h2,j,rfl⟩
 ·have e:¬((-1:Int)≥0):=by omega
  simp only[j0,e,decide_false,j7,jC,h3,h2,jH]
 ·have:(j:Int)≥0:=by omega
  simp only[j0,this,decide_true,jH,h2,j7,jC]
  rfl
theorem qJt{i:Nat}{x:Ixx}(hi:i≤512)(h:InvX i x):SmallX x:=by
 obtain⟨h1,h2,h3⟩:=h
 exact⟨by omega,fun p hp=>⟨(h3 p hp).2,by have:=(h3 p hp).1;omega⟩⟩
theorem Add_eq{N:Nat}(hN:3000000<N){i:Nat}{x:Ixx}{c:Rcd}(hi:i<512)(hx:InvX i x)(hw:qOx x)(hc:SmallR c)(hwc:qJs c=true):
  qHu N (x.1,x.2) ((c.1.1,c.1.2),c.2.1,c.2.2.1,c.2.2.2.1,(c.2.2.2.2.1.1,c.2.2.2.2.1.2.1,c.2.2.2.2.1.2.2),c.2.2.2.2.2.1,c.2.2.2.2.2.2)=some (qEh x c,0):=by
 have h1:=qMm hN (qJt (by omega) hx)
 rw[qFf.2 hw] at h1
 have h2:(x.2==512)=false:=by have:=hx.1;simp only[beq_eq_false_iff_ne];omega
 simp only[qHu]
 rw[show qDd N (x.1,x.2)=some true from h1]
 simp only[j0,jQ,j7,jC,h2]
 rw[show qHe N ((c.1.1,c.1.2),c.2.1,c.2.2.1,c.2.2.2.1,(c.2.2.2.2.1.1,c.2.2.2.2.1.2.1,c.2.2.2.2.1.2.2),c.2.2.2.2.2.1,c.2.2.2.2.2.2)=some true from(qVs hN hc.big).trans (by rw[hwc])]
 simp only[j0,jQ,j7,jC]
 rw[qTv hN (by omega) hx hc]
 rfl
end
section
open Go Go.Dc Go.Sort Go.Proofs
def qBx:List Pst→Ky→List Int
 |[],_=>[]
 |p::L,k=>if p.1=k then p.2 else qBx L k
theorem qSm{k:Ky}:∀{L:List Pst} {m:Nat},Asc L→(hm:m<L.length)→L[m].1=k→qBx L k=L[m].2
 |p::L,0,_,_,h=>by simp only[List.getElem_cons_zero] at h ⊢;simp[qBx,h]
 |p::L,m+1,ha,hm,h=>by
  have ha':=jL.1 ha
  simp only[j8] at hm
  simp only[List.getElem_cons_succ] at h ⊢
  have hp:=ha'.1 L[m] (jV (by omega))
  have hne:¬p.1=k:=fun e=>by rw[e,h] at hp;have:=(cK_lin.zero k k).2 rfl;omega
  simp only[qBx,hne,jC]
  exact qSm ha'.2 (by omega) h
theorem qMk{k:Ky}:∀{L:List Pst},(∀p∈L,p.1≠k)→qBx L k=[]
 |[],_=>rfl
 |p::L,h=>by
  simp only[qBx,h p (jE ..),jC]
  exact qMk fun q hq=>h q (jM _ hq)
theorem qSn{n:Int}{k:Ky}:∀{L:List Pst},(∀p∈L,qVo n p)→RecOK n (qBx L k)
 |[],_=>⟨fun r hr=>by simp[qBx] at hr,List.Pairwise.nil⟩
 |p::L,h=>by
  simp only[qBx]
  split
  ·exact(h p (jE ..)).2.2
  ·exact qSn fun q hq=>h q (jM _ hq)
theorem zDe{i j:Nat}(hi:i<2000000)(hj:j<2000000):IntKind.wrap .i64 (Int.fdiv (IntKind.wrap .u64 (IntKind.wrap .i64 ((i:Int)+(j:Int)))) (2^1))=(((i+j)/2:Nat):Int):=by
 have w1:IntKind.wrap .i64 ((i:Int)+(j:Int))=((i+j:Nat):Int):=by rw[wi64 (by omega) (by omega)];omega
 have w2:IntKind.wrap .u64 ((i+j:Nat):Int)=((i+j:Nat):Int):=wu64 (by omega) (by omega)
 have w3:Int.fdiv ((i+j:Nat):Int) (2^1)=(((i+j)/2:Nat):Int):=by
  rw[Int.fdiv_eq_ediv_of_nonneg _ (by decide)]
  omega
 rw[w1,w2,w3,wi64 (by omega) (by omega)]
theorem qQr{N:Nat}(hN:3000000<N){x:Ixx}{k:Ky}(hl:x.1.length≤1048576):∀(d i j M:Nat),j-i≤d→d<M→i≤j→(hj:j≤x.1.length)→(∀t (h:t<x.1.length),t<i→cK x.1[t].1 k<0)→(∀t (h:t<x.1.length),j≤t→¬cK x.1[t].1 k<0)→
  Asc x.1→∃m:Nat,qAl (qHd N x k) M ((i:Int),(j:Int))=some (m:Int)∧m≤x.1.length∧(∀t (h:t<x.1.length),t<m→cK x.1[t].1 k<0)∧(∀t (h:t<x.1.length),m≤t→¬cK x.1[t].1 k<0)
 |_,_,_,0,_,h,_,_,_,_,_=>absurd h (jN _)
 |d,i,j,M+1,h1,h2,h3,h4,h5,h6,ha=>by
  simp only[qAl,qHd]
  by_cases hij:i<j
  ·have hc:((i:Int)<(j:Int)):=by omega
   have hh:=zDe (i:=i) (j:=j) (by omega) (by omega)
   generalize hg:(i+j)/2=g at hh
   have g1:i≤g:=by omega
   have g2:g<j:=by omega
   have hgl:g<x.1.length:=by omega
   have mono:∀t s (ht:t<x.1.length) (hs:s<x.1.length),t<s→cK x.1[t].1 x.1[s].1<0:=fun t s ht hs hts=>List.pairwise_iff_getElem.1 ha t s ht hs hts
   have w2:IntKind.wrap .i64 ((g:Int)+1)=((g+1:Nat):Int):=by rw[wi64 (by omega) (by omega)];omega
   have hcmp:qEq N (x.1[g].1.1,x.1[g].1.2.1,x.1[g].1.2.2) (k.1,k.2.1,k.2.2)=some (cK x.1[g].1 k):=qNy hN _ _
   simp only[hc,decide_true,jH,hh,qBn hgl,j0,hcmp]
   by_cases hlt:cK x.1[g].1 k<0
   ·have:¬cK x.1[g].1 k≥0:=by omega
    simp only[this,decide_false,kJ,jH,j0,w2]
    refine qQr hN hl (d-1) (g+1) j M (by omega) (by omega) (by omega) h4 (fun t ht htg=> ?_) h6 ha
    by_cases e:t=g
    ·subst e;exact hlt
    ·exact cK_lin.trans _ _ _ (mono t g ht hgl (by omega)) hlt
   ·have:cK x.1[g].1 k≥0:=by omega
    simp only[this,decide_true,jQ,j7,jC,j0]
    refine qQr hN hl (d-1) i g M (by omega) (by omega) (by omega) (by omega) h5 (fun t ht htg hneg=> ?_) ha
    by_cases e:t=g
    ·subst e;exact hlt hneg
    ·exact hlt (cK_lin.trans _ _ _ (mono g t hgl ht (by omega)) hneg)
  ·have hc:¬((i:Int)<(j:Int)):=by omega
   simp only[hc,decide_false,j7,jC,j0]
   have:i=j:=by omega
   subst this
   exact⟨i,rfl,h4,h5,h6⟩
theorem qVy{N:Nat}(hN:3000000<N){x:Ixx}{k:Ky}(hx:SmallX x):qHi N (x.1,x.2) (k.1,k.2.1,k.2.2)=some (if qFo x=true then qBx x.1 k else[]):=by
 show qHi N x k=_
 have hl:=hx.1
 have h0:=qMm hN hx
 simp only[qHi]
 rw[show qDd N (x.1,x.2)=some (qFo x) from h0]
 cases hck:qFo x with
 |false=>rfl
 |true=>
  have hw:=qFf.1 hck
  obtain⟨m,e1,e2,e3,e4⟩:=qQr (N:=N) hN (x:=x) (k:=k) hl x.1.length 0 x.1.length N (by omega) (by omega) (by omega) (jP _) (fun t _ h=>by omega) (fun t h1 h2=>by omega) hw.2.2
  have e1':qAl (qHd N x k) N (0,(x.1.length:Int))=some (m:Int):=e1
  simp only[j0,jQ,j7,jC,e1',jH]
  have none_of:(∀(h:m<x.1.length),x.1[m].1≠k)→qBx x.1 k=[]:=fun hne=>qMk fun p hp e=>by
   obtain⟨t,ht,rfl⟩:=List.getElem_of_mem hp
   have hz:=(cK_lin.zero x.1[t].1 k).2 e
   by_cases h1:t<m
   ·have:=e3 t ht h1;omega
   ·by_cases h2:t=m
    ·subst h2;exact hne ht e
    ·have hml:m<x.1.length:=by omega
     have a1:=e4 m hml (jP _)
     have a2:=List.pairwise_iff_getElem.1 hw.2.2 m t hml ht (by omega)
     rw[e] at a2;exact a1 a2
  by_cases hm:m=x.1.length
  ·have:((m:Int)==(x.1.length:Int))=true:=by simp[hm]
   simp only[this,jH,j0]
   rw[none_of (fun h=>by omega)]
  ·have:((m:Int)==(x.1.length:Int))=false:=by simp only[beq_eq_false_iff_ne];omega
   have hml:m<x.1.length:=by omega
   simp only[this,j7,jC,qBn hml,j0,qWz]
   by_cases he:x.1[m].1=k
   ·have hs:=hx.2 x.1[m] (jV hml)
    simp only[he,decide_true,jQ,j7,jC]
    rw[qTe (by omega),qSm hw.2.2 hml he]
    rfl
   ·simp only[he,decide_false,kJ,jH]
    rw[none_of (fun _=>he)]
def qUp(R:List Int)(l:List Bool):List Bool:=R.foldl (fun l t=>l.set t.toNat true) l
def qLp(L:List Pst)(keys:List Ky)(l:List Bool):List Bool:=keys.foldl (fun l k=>qUp (qBx L k) l) l
theorem qNs:∀(R:List Int) (l:List Bool),(qUp R l).length=l.length
 |[],_=>rfl
 |r::R,l=>by
  show(qUp R (l.set r.toNat true)).length=_
  rw[qNs R];simp
theorem qMo(L:List Pst):∀(keys:List Ky) (l:List Bool),(qLp L keys l).length=l.length
 |[],_=>rfl
 |k::keys,l=>by
  show(qLp L keys (qUp (qBx L k) l)).length=_
  rw[qMo L keys,qNs]
theorem qUu{N:Nat}{R:List Int}(hR:R.length≤2000000):∀(d i M:Nat) (l:List Bool),i+d=R.length→d<M→(∀r∈R,0≤r∧r<(l.length:Int))→qAl (qFu N R) M ((i:Int),l)=some (qUp (R.drop i) l)
 |_,_,0,_,_,h,_=>absurd h (jN _)
 |d,i,M+1,l,h1,h2,h3=>by
  simp only[qAl,qFu]
  cases d with
  |zero=>
   have hc:¬((i:Int)<(R.length:Int)):=by omega
   simp only[hc,decide_false,j7,jC,j0]
   rw[jJ (by omega)];rfl
  |succ d=>
   have hi:i<R.length:=by omega
   have hc:((i:Int)<(R.length:Int)):=by omega
   have w2:IntKind.wrap .i64 ((i:Int)+1)=((i+1:Nat):Int):=by rw[wi64 (by omega) (by omega)];omega
   have hdrop:R.drop i=R[i]::R.drop (i+1):=(jI hi).symm
   obtain⟨r0,r1⟩:=h3 _ (jV hi)
   have hx:idx l R[i]=some (l[R[i].toNat]'(by omega)):=by
    have:idx l ((R[i].toNat:Nat):Int)=some (l[R[i].toNat]'(by omega)):=qBn (by omega)
    rwa[Int.toNat_of_nonneg r0] at this
   simp only[hc,decide_true,jH,qBn hi,j0,hx,w2]
   rw[qUu hR d (i+1) M _ (by omega) (by omega) (by simpa using h3),hdrop]
   rfl
theorem qRb{N:Nat}(hN:3000000<N){x:Ixx}(hx:SmallX x)(hw:qOx x){keys:List Ky}(hk:keys.length≤1000000):∀(d i M:Nat) (l:List Bool),i+d=keys.length→d<M→(l.length:Int)=x.2→
  qAl (qFx N x keys) M ((i:Int),l)=some (qLp x.1 (keys.drop i) l)
 |_,_,0,_,_,h,_=>absurd h (jN _)
 |d,i,M+1,l,h1,h2,h3=>by
  simp only[qAl,qFx]
  cases d with
  |zero=>
   have hc:¬((i:Int)<(keys.length:Int)):=by omega
   simp only[hc,decide_false,j7,jC,j0]
   rw[jJ (by omega)];rfl
  |succ d=>
   have hi:i<keys.length:=by omega
   have hc:((i:Int)<(keys.length:Int)):=by omega
   have w2:IntKind.wrap .i64 ((i:Int)+1)=((i+1:Nat):Int):=by rw[wi64 (by omega) (by omega)];omega
   have hdrop:keys.drop i=keys[i]::keys.drop (i+1):=(jI hi).symm
   have hf:=qVy (N:=N) hN (x:=x) (k:=keys[i]) hx
   rw[qFf.2 hw,if_pos rfl] at hf
   have hr:RecOK x.2 (qBx x.1 keys[i]):=qSn hw.2.1
   have hlen:(qBx x.1 keys[i]).length≤1048576:=by
    have:∀L:List Pst,(∀p∈L,p.2.length≤1048576)→(qBx L keys[i]).length≤1048576:=by
     intro L
     induction L with
     |nil=>intro _;simp[qBx]
     |cons p L ih=>
      intro h
      simp only[qBx]
      split
      ·exact h p (jE ..)
      ·exact ih fun q hq=>h q (jM _ hq)
    exact this x.1 fun p hp=>(hx.2 p hp).2
   have hm:qAl (qFu N (qBx x.1 keys[i])) N (0,l)=some (qUp (qBx x.1 keys[i]) l):=qUu (by omega) (qBx x.1 keys[i]).length 0 N l (by omega) (by omega) (fun r hr'=>by have:=hr.1 r hr';omega)
   simp only[hc,decide_true,jH,qBn hi,j0,hf,hm,w2]
   rw[qRb hN hx hw hk d (i+1) M _ (by omega) (by omega) (by rw[qNs];exact h3),hdrop]
   rfl
def selB(b:Bool):Nat→List Bool→List Int
 |_,[]=>[]
 |i,a::l=>if a=b then(i:Int)::selB b (i+1) l else selB b (i+1) l
theorem qXr:∀(i:Nat) (l:List Bool),(selB true i l).length+(selB false i l).length=l.length
 |_,[]=>rfl
 |i,a::l=>by
  have:=qXr (i+1) l
  cases a<;>simp[selB]<;>omega
theorem qSp{N:Nat}{x:Ixx}{b:Bool}{l:List Bool}(hn:x.2=(l.length:Int))(hl:l.length≤1000000):∀(d i M:Nat) (S:List Int),i+d=l.length→d<M→S.length≤i→qAl (qFs N x b l) M (S,(i:Int))=some (S++selB b i (l.drop i))
 |_,_,0,_,_,h,_=>absurd h (jN _)
 |d,i,M+1,S,h1,h2,h3=>by
  have hn':x.2.toNat=l.length:=by omega
  simp only[qAl,qFs,hn']
  cases d with
  |zero=>
   have hc:¬((i:Int)<(l.length:Int)):=by omega
   simp only[hc,decide_false,j7,jC,j0]
   rw[jJ (by omega)];simp[selB]
  |succ d=>
   have hi:i<l.length:=by omega
   have hc:((i:Int)<(l.length:Int)):=by omega
   have w2:IntKind.wrap .i64 ((i:Int)+1)=((i+1:Nat):Int):=by rw[wi64 (by omega) (by omega)];omega
   have hdrop:l.drop i=l[i]::l.drop (i+1):=(jI hi).symm
   simp only[hc,decide_true,jH,qBn hi,j0]
   rw[hdrop]
   simp only[selB]
   by_cases he:l[i]=b
   ·have:(l[i]==b)=true:=by simp[he]
    simp only[this,jH]
    rw[if_pos he,qBo (by simp only[j8,jB];omega) (by decide)]
    simp only[j0,w2]
    rw[qSp hn hl d (i+1) M _ (by omega) (by omega) (by simp only[jG,j8,jB];omega),jR]
    rfl
   ·have:(l[i]==b)=false:=by simp[he]
    simp only[this,j7,jC,j0,w2]
    rw[if_neg he,qSp hn hl d (i+1) M _ (by omega) (by omega) (by omega)]
theorem qVm{N:Nat}(hN:3000000<N){keys:List Ky}(hk:keys.length≤1000000)(hs:∀k∈keys,k.2.1.size≤1048576):∀(d i M:Nat),i+d=keys.length→d<M→
  ∃o,qAl (qFr N keys) M (i:Int)=some o∧(((keys.drop i).all qDo=true∧o= .inl ())∨((keys.drop i).all qDo=false∧∃j:Nat,o= .inr (j:Int)))
 |_,_,0,_,h=>absurd h (jN _)
 |d,i,M+1,h1,h2=>by
  simp only[qAl,qFr]
  cases d with
  |zero=>
   have hc:¬((i:Int)<(keys.length:Int)):=by omega
   simp only[hc,decide_false,j7,jC,j0]
   exact⟨_,rfl,.inl ⟨by rw[jJ (by omega)];rfl,rfl⟩⟩
  |succ d=>
   have hi:i<keys.length:=by omega
   have hc':((i:Int)<(keys.length:Int)):=by omega
   have w2:IntKind.wrap .i64 ((i:Int)+1)=((i+1:Nat):Int):=by rw[wi64 (by omega) (by omega)];omega
   have hdrop:keys.drop i=keys[i]::keys.drop (i+1):=(jI hi).symm
   have hk1:qHj N (keys[i].1,keys[i].2.1,keys[i].2.2)=some (!qDo keys[i]):=by
    simp only[qHj,qJa hN (hs _ (jV hi)),j0]
   simp only[hc',decide_true,jH,qBn hi,j0,hk1]
   rw[hdrop]
   simp only[kY]
   by_cases hck:qDo keys[i]=true
   ·simp only[hck,jQ,j7,jC,j0,w2,kA]
    exact qVm hN hk hs d (i+1) M (by omega) (by omega)
   ·have hck:=gQ.2 hck
    simp only[hck,kJ,jH,j0,kO]
    exact⟨_,rfl,.inr ⟨trivial,i,rfl⟩⟩
def qGo(x:Ixx)(keys:List Ky)(b:Bool):List Int×Int:=
 if qFo x=true∧keys.all qDo=true then(selB b 0 (qLp x.1 keys (List.replicate x.2.toNat false)),0) else([],1)
theorem qUg{N:Nat}(hN:3000000<N){x:Ixx}(hx:SmallX x){keys:List Ky}(hk:keys.length≤1000000)(hs:∀k∈keys,k.2.1.size≤1048576)(b:Bool):qGa N x keys b=some (qGo x keys b):=by
 have h0:=qMm hN hx
 simp only[qGa,qGo]
 rw[show qDd N (x.1,x.2)=some (qFo x) from h0]
 cases hck:qFo x with
 |false=>rfl
 |true=>
  have hw:=qFf.1 hck
  obtain⟨o,e1,e2⟩:=qVm hN hk hs keys.length 0 N (by omega) (by omega)
  have e1':qAl (qFr N keys) N 0=some o:=e1
  rw[jT] at e2
  simp only[j0,jQ,j7,jC,e1',fO]
  rcases e2 with ⟨e2,rfl⟩|⟨e2,j,rfl⟩
  ·have e:¬((-1:Int)≥0):=by omega
   have hm:qNx 1 false x.2=some (List.replicate x.2.toNat false):=by
    have hmx:(maxLen:Nat)=9223372036854775807:=rfl
    have h1:=hw.1
    unfold qNx;rw[if_pos ⟨h1.1,by omega,by omega⟩]
   have hlen:(List.replicate x.2.toNat false).length=x.2.toNat:=gC
   have h1:=hw.1
   have hmk:qAl (qFx N x keys) N (0,List.replicate x.2.toNat false)=some (qLp x.1 keys (List.replicate x.2.toNat false)):=qRb hN hx hw hk keys.length 0 N _ (by omega) (by omega) (by rw[hlen];omega)
   have hml:=qMo x.1 keys (List.replicate x.2.toNat false)
   have hsl:qAl (qFs N x b (qLp x.1 keys (List.replicate x.2.toNat false))) N (([]:List Int),0)=some (selB b 0 (qLp x.1 keys (List.replicate x.2.toNat false))):=qSp (by rw[hml,hlen];omega) (by rw[hml,hlen];omega) _ 0 N [] (kD _) (by rw[hml,hlen];omega) (jP _)
   simp only[j0,e,decide_false,j7,jC,e2,jH,hm,hmk,hsl]
  ·have:(j:Int)≥0:=by omega
   simp only[j0,this,decide_true,jH,e2,j7,jC]
theorem qQc{N:Nat}(hN:3000000<N){x:Ixx}(hx:SmallX x){keys:List Ky}(hk:keys.length≤1000000)(hs:∀k∈keys,k.2.1.size≤1048576):qGi N (x.1,x.2) keys=some (qGo x keys true):=by
 simp only[qGi]
 rw[show qGa N (x.1,x.2) keys true=some (qGo x keys true) from qUg hN hx hk hs true]
 rfl
theorem qNm{N:Nat}(hN:3000000<N){x:Ixx}(hx:SmallX x){keys:List Ky}(hk:keys.length≤1000000)(hs:∀k∈keys,k.2.1.size≤1048576):qFe N (x.1,x.2) keys=some (qGo x keys false):=by
 simp only[qFe]
 rw[show qGa N (x.1,x.2) keys false=some (qGo x keys false) from qUg hN hx hk hs false]
 rfl
end
section
open Go Go.Dc Go.Sort Go.Proofs
theorem qVb{N:Nat}{L:List Int}(hl:L.length<2000000):∀(d i M:Nat),i+d=L.length→d<M→qAl (qDl N L L) M (i:Int)=some (.inl ())
 |_,_,0,_,h=>absurd h (jN _)
 |d,i,M+1,h1,h2=>by
  simp only[qAl,qDl]
  cases d with
  |zero=>
   have hc:¬((i:Int)<(L.length:Int)):=by omega
   simp only[hc,decide_false,j7,jC,j0]
  |succ d=>
   have hi:i<L.length:=by omega
   have hc:((i:Int)<(L.length:Int)):=by omega
   have w2:IntKind.wrap .i64 ((i:Int)+1)=((i+1:Nat):Int):=by rw[wi64 (by omega) (by omega)];omega
   simp only[hc,decide_true,jH,qBn hi,j0,gA,j7,jC,w2]
   exact qVb hl d (i+1) M (by omega) (by omega)
theorem zAi{N:Nat}{L:List Int}(hl:L.length<2000000)(hN:L.length<N):qEj N L L=some true:=by
 have h1:qAl (qDl N L L) N 0=some (.inl ()):=qVb hl L.length 0 N (by omega) hN
 simp only[qEj,gA,j7,jC,h1,j0]
theorem qQy{N:Nat}{L:List Int}(hl:L.length<2000000):∀(d i M:Nat),i+d=L.length→d<M→qAl (qCh N L L) M (i:Int)=some (.inl ())
 |_,_,0,_,h=>absurd h (jN _)
 |d,i,M+1,h1,h2=>by
  simp only[qAl,qCh]
  cases d with
  |zero=>
   have hc:¬((i:Int)<(L.length:Int)):=by omega
   simp only[hc,decide_false,j7,jC,j0]
  |succ d=>
   have hi:i<L.length:=by omega
   have hc:((i:Int)<(L.length:Int)):=by omega
   have w2:IntKind.wrap .i64 ((i:Int)+1)=((i+1:Nat):Int):=by rw[wi64 (by omega) (by omega)];omega
   simp only[hc,decide_true,jH,qBn hi,j0,gA,j7,jC,w2]
   exact qQy hl d (i+1) M (by omega) (by omega)
theorem qKv{N:Nat}{L:List Int}(hl:L.length<2000000)(hN:L.length<N):qBd N L L=some true:=by
 have h1:qAl (qCh N L L) N 0=some (.inl ()):=qQy hl L.length 0 N (by omega) hN
 simp only[qBd,gA,j7,jC,h1,j0]
theorem qSy:∀(L:List Rcd) (i:Nat) (x:Ixx),InvX i x→qOx x→i+L.length≤512→(∀c∈L,SmallR c)→L.all qJs=true→InvX (i+L.length) (L.foldl qEh x)∧qOx (L.foldl qEh x)
 |[],i,x,h1,h2,_,_,_=>⟨h1,h2⟩
 |c::L,i,x,h1,h2,h3,h4,h5=>by
  simp only[kY,jX] at h5
  simp only[j8] at h3
  have hlt:x.2<512:=by have:=h1.1;omega
  have:=qSy L (i+1) (qEh x c) (qVj h1 (h4 c (jE ..))) (qYf h2 hlt (qYi h5.1)) (by omega) (fun d hd=>h4 d (jM _ hd)) h5.2
  simp only[j8,kI]
  rw[show i+(L.length+1)=i+1+L.length by omega]
  exact this
theorem qJp{k:Ky}(h:k∈madeL):k.2.1.size<100∧qDo k=true:=by
 have h:=k8.1 qWa k h
 simp only[jX,j9] at h
 exact⟨h.2,h.1⟩
theorem qSf{N:Nat}(hN:3000000<N){l:List Int}{a:Int}(h0:0≤a)(h1:a≤1000000):Ok (qDg N (l,a)) fun y=>∃a' L,y=((l,a'),L)∧a≤a'∧a'≤a+200∧L.length≤6∧∀c∈L,SmallR c:=by
 unfold qDg
 refine Ok.next h0 (by omega) (by decide) (by decide) fun r r0 r1=> ?_
 refine Ok.loop (fun s=>s.2.2.1=l∧a≤s.2.2.2∧s.2.2.2+20*s.2.1≤a+140∧0≤s.2.1∧s.2.1+s.1.length≤6∧∀c∈s.1,SmallR c) (fun s=>s.2.1.toNat) (fun b=>b.1.length≤6∧(∀c∈b.1,SmallR c)∧b.2.1=l∧a≤b.2.2∧b.2.2≤a+140)
  (fun s hs=> ?_) ⟨rfl,by first|omega|(simp only;omega),by first|omega|(simp only;omega),r0,by simp only[jB];omega,fun c hc=>by simp at hc⟩ (by first|omega|(simp only;omega)) fun b hb=> ?_
 ·obtain⟨S,i,t,z⟩:=s
  obtain⟨g1,g2,g3,g4,g5,g6⟩:=hs
  try simp only at g1 g2 g3 g4 g5 g6
  subst g1
  unfold qEg
  refine Ok.ite (fun hc=> ?_) fun hc=>Ok.mk ⟨by first|omega|(simp only;omega),g6,rfl,g2,by first|omega|(simp only;omega)⟩
  have hc:=g9 hc
  try simp only at hc
  refine Ok.next (by first|omega|(simp only;omega)) (by first|omega|(simp only;omega)) (by decide) (by decide) fun q q0 q1=> ?_
  refine Ok.loop (fun s=>s.2.2.1=t∧z+1≤s.2.2.2∧s.2.2.2+3*s.2.1≤z+13∧0≤s.2.1∧s.2.1+s.1.length≤4∧∀k∈s.1,k∈madeL) (fun s=>s.2.1.toNat) (fun b=>b.1.length≤4∧(∀k∈b.1,k∈madeL)∧b.2.1=t∧z+1≤b.2.2∧b.2.2≤z+13)
   (fun s hs=> ?_) ⟨rfl,Int.le_refl _,by first|omega|(simp only;omega),q0,by simp only[jB];omega,fun k hk=>by simp at hk⟩ (by first|omega|(simp only;omega)) fun b hb=> ?_
  ·obtain⟨S',i',t',z'⟩:=s
   obtain⟨e1,e2,e3,e4,e5,e6⟩:=hs
   try simp only at e1 e2 e3 e4 e5 e6
   subst e1
   unfold qEm
   refine Ok.ite (fun hc=> ?_) fun hc=>Ok.mk ⟨by first|omega|(simp only;omega),e6,rfl,e2,by first|omega|(simp only;omega)⟩
   have hc:=g9 hc
   try simp only at hc
   refine Ok.bind (qXs (l:=t') (a:=z') (by omega) (by omega)) ?_
   rintro _ ⟨a2,k,rfl,f1,f2,f3⟩
   refine Ok.app (by simp only[j8,jB];omega) (by decide) (Ok.mk ?_)
   have w:IntKind.wrap .i64 (i'-1)=i'-1:=wi64 (by omega) (by omega)
   refine⟨⟨rfl,by first|omega|(simp only;omega),?_,?_,?_,fun k' hk'=> ?_⟩,?_⟩
   ·simp only[w];omega
   ·simp only[w];omega
   ·simp only[w,jG,j8,jB];omega
   ·rcases jZ.1 hk' with hk'|hk'
    ·exact e6 k' hk'
    ·simp only[jD,jU,gH] at hk';subst hk';exact f3
   ·simp only[w];omega
  ·obtain⟨b1,b2,b3,b4,b5⟩:=hb
   rw[qZx (by omega) (by omega)]
   simp only[j0]
   have hcl:=qNu b.1
   have hcm:∀k∈qJg b.1,k.2.1.size≤1048576:=fun k hk=>by have:=(qJp (b2 k (qKs.1 hk))).1;omega
   generalize qJg b.1=C at hcl hcm
   refine Ok.loop (fun s=>∃j:Nat,s.1=(j:Int)∧j≤C.length∧s.2.1.length=j∧(∀f∈s.2.1,f.1.2.1.size≤1048576)∧s.2.2.1=t∧z+1≤s.2.2.2∧s.2.2.2≤z+13+j) (fun s=>C.length-s.1.toNat) (fun b=>b.1.length≤4∧(∀f∈b.1,f.1.2.1.size≤1048576)∧b.2.1=t∧z+1≤b.2.2∧b.2.2≤z+17)
    (fun s hs=> ?_) ⟨0,rfl,kK _,rfl,fun f hf=>by simp at hf,b3,b4,by first|omega|(simp only;omega)⟩ (by simp only[Int.toNat_zero];omega) fun o ho=> ?_
   ·obtain⟨i',F,t',z'⟩:=s
    obtain⟨j,e1,e2,e3,e4,e5,e6,e7⟩:=hs
    try simp only at e1 e2 e3 e4 e5 e6 e7
    subst e1;subst e5
    unfold qEn
    refine Ok.ite (fun hc=> ?_) fun hc=>Ok.mk ⟨by first|omega|(simp only;omega),e4,rfl,e6,by first|omega|(simp only;omega)⟩
    have hc:=g9 hc
    try simp only at hc
    have hj:j<C.length:=by omega
    simp only[qBn hj,j0]
    refine Ok.next (by omega) (by omega) (by decide) (by decide) fun q' _ _=> ?_
    refine Ok.app (by simp only[j8,jB];omega) (by decide) (Ok.mk ?_)
    have w:IntKind.wrap .i64 ((j:Int)+1)=((j+1:Nat):Int):=by rw[wi64 (by omega) (by omega)];omega
    refine⟨⟨j+1,w,hj,by simp only[jG,j8,jB];omega,fun f hf=> ?_,rfl,by first|omega|(simp only;omega),by first|omega|(simp only;omega)⟩,by simp only[w,k0];omega⟩
    rcases jZ.1 hf with hf|hf
    ·exact e4 f hf
    ·simp only[jD,jU,gH] at hf
     subst hf
     exact hcm C[j] (jV hj)
   ·obtain⟨F0,t0,z0⟩:=o
    obtain⟨o1,o2,o3,o4,o5⟩:=ho
    try dsimp only at o1 o2 o3 o4 o5
    refine Ok.chance (by omega) (by omega) (by decide) (by decide) fun ch=> ?_
    refine Ok.bind (P:=fun F=>F.length≤5∧∀f∈F,f.1.2.1.size≤1048576) ?_ ?_
    ·refine Ok.ite (fun _=> ?_) fun _=>Ok.mk ⟨by first|omega|(dsimp only;omega),o2⟩
     refine Ok.app (by simp only[j8,jB];omega) (by decide) (Ok.mk ⟨by simp only[jG,j8,jB];omega,fun f hf=> ?_⟩)
     rcases jZ.1 hf with hf|hf
     ·exact o2 f hf
     ·simp only[jD,jU,gH] at hf
      subst hf
      exact kK _
    ·rintro F ⟨F1,F2⟩
     refine Ok.app (by simp only[j8,jB];omega) (by decide) (Ok.mk ?_)
     have w:IntKind.wrap .i64 (i-1)=i-1:=wi64 (by omega) (by omega)
     refine⟨⟨o3,by first|omega|(simp only;omega),by simp only[w];omega,by simp only[w];omega,by simp only[w,jG,j8,jB];omega,fun c hc'=> ?_⟩,by simp only[w];omega⟩
     rcases jZ.1 hc' with hc'|hc'
     ·exact g6 c hc'
     ·simp only[jD,jU,gH] at hc'
      subst hc'
      refine⟨by first|omega|(simp only;omega),fun k hk=> ?_⟩
      obtain⟨f,hf,rfl⟩:=kF.1 hk
      exact F2 f hf
 ·obtain⟨b1,b2,b3,b4,b5⟩:=hb
  exact Ok.mk ⟨b.2.2,b.1,by first|rw[b3]|rw[←b3],b4,by omega,b1,b2⟩
end
section
open Go Go.Dc Go.Sort Go.Proofs
def kC:Ky:=(4,(⟨#[99]⟩:ByteArray),(⟨#[]⟩:ByteArray))
def rC:Rcd:=(((⟨#[]⟩:ByteArray),(⟨#[]⟩:ByteArray)),0,0,0,(0,0,0),false,[(kC,0)])
def r0:Rcd:=(((⟨#[]⟩:ByteArray),(⟨#[]⟩:ByteArray)),0,0,0,(0,0,0),false,[])
theorem qWc:kC∈madeL:=zDa (by kernel_rfl)
theorem qXt:qDo kC=true:=(qJp qWc).2
theorem qTy(k:Ky):qJg [k]=[k]:=by simp[qJg,qIa]
theorem zAy:qJg []=[]:=by simp[qJg,qIa]
theorem zCz:¬cK kC kC<0:=by have:=(cK_lin.zero kC kC).2 rfl;omega
theorem qWo:qBg rC=[kC]:=rfl
theorem qZd:qBg r0=[]:=rfl
theorem g1:qEh qGv rC=([(kC,[0])],1):=by
 simp only[qEh,qWo,qTy,qGv,jB,j8,qDw]
 rfl
theorem g2:qEh ([(kC,[0])],1) r0=([(kC,[0])],2):=by
 simp only[qEh,qZd,zAy,jB,j8,qDw]
 rfl
theorem g3(R:List Int)(n:Int):qEh ([(kC,R)],n) rC=([(kC,R++[n])],n+1):=by
 simp only[qEh,qWo,qTy,jB,j8,qDw,zCz,jC,jH]
theorem sC:SmallR rC:=⟨by decide,fun k hk=>by
 rw[qWo] at hk
 simp only[jD,jU,gH] at hk
 subst hk;have:=(qJp qWc).1;omega⟩
theorem s0:SmallR r0:=⟨by decide,fun k hk=>by rw[qZd] at hk;simp at hk⟩
theorem wC:qJs rC=true:=by show(qDo kC&&true)=true;rw[qXt];rfl
theorem w0:qJs r0=true:=rfl
theorem qUv:InvX 3 ([(kC,[0,2])],3)∧qOx ([(kC,[0,2])],3):=by
 have h:=qSy [rC,r0,rC] 0 qGv qNj qSi (by decide) (fun c hc=>by
  simp only[jD,jU,gH] at hc
  rcases hc with rfl|rfl|rfl
  ·exact sC
  ·exact s0
  ·exact sC) (by simp only[kY,wC,w0,List.all_nil,Bool.and_self])
 simp only[kI,List.foldl_nil,g1,g2,g3] at h
 exact h
theorem zCy:InvX 4 ([(kC,[0,2,3])],4)∧qOx ([(kC,[0,2,3])],4):=by
 have h:=qSy [rC] 3 _ qUv.1 qUv.2 (by decide) (fun c hc=>by
  simp only[jD,jU,gH] at hc
  subst hc;exact sC) (by simp only[kY,wC,List.all_nil,Bool.and_self])
 simp only[kI,List.foldl_nil,g3] at h
 exact h
theorem zBe{α β:Type}{x:Option α}{v:α}{f:α→Option β}{r:Option β}(h:x=some v)(k:f v=r):x.bind f=r:=by rw[h];exact k
theorem qWt{N:Nat}(hN:3000000<N):qEu N=some true:=by
 have hB:qGr N [rC,r0,rC]=some (([(kC,[0,2])],3),0):=by
  rw[qYb hN (by decide) (fun c hc=>by
   simp only[jD,jU,gH] at hc
   rcases hc with rfl|rfl|rfl
   ·exact sC
   ·exact s0
   ·exact sC),if_pos (by simp only[kY,wC,w0,List.all_nil,Bool.and_self])]
  simp only[kI,List.foldl_nil,g1,g2,g3]
  rfl
 have hA:qHu N ([(kC,[0,2])],3) rC=some (([(kC,[0,2,3])],4),0):=by
  have h:=Add_eq (N:=N) hN (i:=3) (by decide) qUv.1 qUv.2 sC wC
  rw[g3] at h
  exact h
 have hk1:∀k∈[kC],k.2.1.size≤1048576:=fun k hk=>by
  simp only[jD,jU,gH] at hk
  subst hk;have:=(qJp qWc).1;omega
 have hd:∀b,qGo ([(kC,[0,2,3])],4) [kC] b=(selB b 0 [true,false,true,true],0):=fun b=>by
  unfold qGo
  rw[if_pos ⟨qFf.2 zCy.2,by simp only[kY,qXt,List.all_nil,Bool.and_self]⟩]
  have hf:qBx [(kC,[0,2,3])] kC=[0,2,3]:=by simp only[qBx,jH]
  simp only[qLp,kI,List.foldl_nil,hf]
  rfl
 have hAf:=qQc hN (qJt (by decide) zCy.1) (keys:=[kC]) (by decide) hk1
 have hUn:=qNm hN (qJt (by decide) zCy.1) (keys:=[kC]) (by decide) hk1
 rw[hd] at hAf hUn
 have hC:=qMm hN (qJt (by decide) qUv.1)
 rw[qFf.2 qUv.2] at hC
 have hF:=qVy (N:=N) hN (k:=kC) (qJt (by decide) qUv.1)
 rw[qFf.2 qUv.2,if_pos rfl] at hF
 have hf:qBx [(kC,[0,2])] kC=[0,2]:=by simp only[qBx,jH]
 rw[hf] at hF
 have q1:qBd N [0,2] [0,2]=some true:=qKv (by decide) (by simp only[j8,jB];omega)
 have q2:qBd N (selB true 0 [true,false,true,true]) [0,2,3]=some true:=qKv (L:=[0,2,3]) (by decide) (by simp only[j8,jB];omega)
 have q3:qBd N (selB false 0 [true,false,true,true]) [1]=some true:=qKv (L:=[1]) (by decide) (by simp only[j8,jB];omega)
 unfold qEu
 refine zBe hB ?_
 refine zBe hA ?_
 refine zBe hAf ?_
 refine zBe hUn ?_
 simp only[beq_self_eq_true,jH]
 rw[show qDd N ([(kC,[0,2])],3)=some true from hC]
 simp only[j0,jH]
 rw[show qHi N ([(kC,[0,2])],3) (4,(⟨#[99]⟩:ByteArray),(⟨#[]⟩:ByteArray))=some [0,2] from hF]
 simp only[j0,jH,q1,q2,q3]
end
section
open Go Go.Dc Go.Sort Go.Proofs
theorem qVx{N:Nat}{k:Ky}(hN:100<N):qBq N k=some (qDo k):=by
 obtain⟨q,x,y⟩:=k
 simp only[qBq,qDo,qRp (N:=N) (s:=x) hN,qRp (N:=N) (s:=y) hN,qYj (N:=N) (s:=x) hN,j0,zCd]
 by_cases g1:q=1
 ·subst g1;simp;cases qLt x<;>rfl
 by_cases g2:q=2
 ·subst g2;simp;cases qLt x<;>rfl
 by_cases g3:q=3
 ·subst g3;simp;cases qQa x.data.toList<;>rfl
 by_cases g4:q=4
 ·subst g4;simp;cases qQa x.data.toList<;>rfl
 by_cases g5:q=5
 ·subst g5;simp;cases qLt x<;>rfl
 by_cases g6:q=6
 ·subst g6;simp;cases qLt x<;>rfl
 by_cases g7:q=7
 ·subst g7;simp;cases qLt x<;>rfl
 simp[g1,g2,g3,g4,g5,g6,g7]
theorem qWv{N:Nat}(hN:3000000<N){k:Ky}:qBq N (k.1,k.2.1,k.2.2)=some (qDo k):=qVx (k:=k) (by omega)
theorem zBu{N:Nat}(x y:Ky):qCr N (x.1,x.2.1,x.2.2) (y.1,y.2.1,y.2.2)=some (decide (cK x y<0)):=qSh x y
theorem qVr{N:Nat}{x:Ixx}{p:Pst}(hl:p.2.length<2000000):∀(d i M:Nat),i+d=p.2.length→d<M→
  qAl (qCw N x p) M (i:Int)=some (if recB x.2 (qJh p.2 i) (p.2.drop i)=true then .inl () else .inr false)
 |_,_,0,_,h=>absurd h (jN _)
 |d,i,M+1,h1,h2=>by
  simp only[qAl,qCw]
  cases d with
  |zero=>
   have hc:¬((i:Int)<(p.2.length:Int)):=by omega
   simp only[hc,decide_false,j7,jC,j0]
   rw[jJ (by omega)];simp[recB]
  |succ d=>
   have hi:i<p.2.length:=by omega
   have hc:((i:Int)<(p.2.length:Int)):=by omega
   have w2:IntKind.wrap .i64 ((i:Int)+1)=((i+1:Nat):Int):=by rw[wi64 (by omega) (by omega)];omega
   have hdrop:p.2.drop i=p.2[i]::p.2.drop (i+1):=(jI hi).symm
   have hp1:qJh p.2 (i+1)=some p.2[i]:=List.getElem?_eq_getElem hi
   have ho:(if(decide (p.2[i]<0))=true then(some true) else(if(decide (p.2[i]≥x.2))=true then(some true) else(if(decide ((i:Int)>0))=true then((idx p.2 (IntKind.wrap .i64 ((i:Int)-1))).bind fun x4=>some (decide (p.2[i]≤x4))) else(some false))):Option Bool)=some (!(decide (0≤p.2[i]∧p.2[i]<x.2)&&(qJh p.2 i).all fun q=>decide (q<p.2[i]))):=by
    by_cases g1:p.2[i]<0
    ·have:¬(0≤p.2[i]∧p.2[i]<x.2):=by omega
     simp[g1,this]
    ·by_cases g2:p.2[i]≥x.2
     ·have:¬(0≤p.2[i]∧p.2[i]<x.2):=by omega
      simp only[g1,g2,this,decide_true,decide_false,j7,jC,jH,kO,kJ]
     ·have:(0≤p.2[i]∧p.2[i]<x.2):=by omega
      simp only[g1,g2,this,and_self,decide_true,decide_false,j7,jC,kA]
      cases i with
      |zero=>simp[qJh]
      |succ j=>
       have hj:j<p.2.length:=by omega
       have g3:((j+1:Nat):Int)>0:=by omega
       have w1:IntKind.wrap .i64 (((j+1:Nat):Int)-1)=(j:Int):=by rw[wi64 (by omega) (by omega)];omega
       have hp:qJh p.2 (j+1)=some p.2[j]:=List.getElem?_eq_getElem hj
       simp only[g3,decide_true,jH,w1,qBn hj,j0,hp,Option.all_some]
       congr 1
       by_cases g4:p.2[j]<p.2[j+1]
       ·have:¬p.2[j+1]≤p.2[j]:=by omega
        simp[g4,this]
       ·have:p.2[j+1]≤p.2[j]:=by omega
        simp[g4,this]
   simp only[hc,decide_true,jH,qBn hi,j0]
   rw[ho,hdrop]
   simp only[j0,recB]
   rcases gD (decide (0≤p.2[i]∧p.2[i]<x.2)&&(qJh p.2 i).all fun q=>decide (q<p.2[i])) with hb|hb
   ·simp only[hb,jQ,j7,jC,j0,w2,kA]
    rw[qVr hl d (i+1) M (by omega) (by omega),hp1]
   ·simp only[hb,kJ,jH,j0,kO,j7,jC]
theorem qRc{N:Nat}(hN:3000000<N){x:Ixx}(hx:SmallX x):∀(d i M:Nat),i+d=x.1.length→d<M→
  qAl (qDb N x) M (i:Int)=some (if qNc x.2 (qJh x.1 i) (x.1.drop i)=true then .inl () else .inr false)
 |_,_,0,_,h=>absurd h (jN _)
 |d,i,M+1,h1,h2=>by
  have hl:=hx.1
  simp only[qAl,qDb]
  cases d with
  |zero=>
   have hc:¬((i:Int)<(x.1.length:Int)):=by omega
   simp only[hc,decide_false,j7,jC,j0]
   rw[jJ (by omega)];simp[qNc]
  |succ d=>
   have hi:i<x.1.length:=by omega
   have hc:((i:Int)<(x.1.length:Int)):=by omega
   have w2:IntKind.wrap .i64 ((i:Int)+1)=((i+1:Nat):Int):=by rw[wi64 (by omega) (by omega)];omega
   have hdrop:x.1.drop i=x.1[i]::x.1.drop (i+1):=(jI hi).symm
   have hp1:qJh x.1 (i+1)=some x.1[i]:=List.getElem?_eq_getElem hi
   have hs:=hx.2 x.1[i] (jV hi)
   have he:((List.length x.1[i].2:Int)==0)=x.1[i].2.isEmpty:=by
    cases x.1[i].2 with
    |nil=>rfl
    |cons a l=>simp only[j8,List.isEmpty_cons,beq_eq_false_iff_ne];omega
   have ho:((qBq N (x.1[i].1.1,x.1[i].1.2.1,x.1[i].1.2.2)).bind fun y1=>if(!y1)=true then(some true) else(if(decide ((i:Int)>0))=true then((idx x.1 (IntKind.wrap .i64 ((i:Int)-1))).bind fun x2=>(qCr N (x2.1.1,x2.1.2.1,x2.1.2.2) (x.1[i].1.1,x.1[i].1.2.1,x.1[i].1.2.2)).bind fun y2=>if(!y2)=true then(some true) else(some ((List.length x.1[i].2:Int)==0))) else(some ((List.length x.1[i].2:Int)==0))):Option Bool)
     =some (!(qDo x.1[i].1&&(((qJh x.1 i).all fun q=>decide (cK q.1 x.1[i].1<0))&& !x.1[i].2.isEmpty))):=by
    rw[qWv hN]
    simp only[j0,he]
    cases qDo x.1[i].1 with
    |false=>rfl
    |true=>
     simp only[jQ,j7,jC,kA]
     cases i with
     |zero=>simp[qJh]
     |succ j=>
      have hj:j<x.1.length:=by omega
      have g3:((j+1:Nat):Int)>0:=by omega
      have w1:IntKind.wrap .i64 (((j+1:Nat):Int)-1)=(j:Int):=by rw[wi64 (by omega) (by omega)];omega
      have hp:qJh x.1 (j+1)=some x.1[j]:=List.getElem?_eq_getElem hj
      simp only[g3,decide_true,jH,w1,qBn hj,j0,hp,Option.all_some,zBu]
      by_cases g4:cK x.1[j].1 x.1[j+1].1<0
      ·simp[g4]
      ·simp[g4]
   have hr:qAl (qCw N x x.1[i]) N 0=some (if recB x.2 none x.1[i].2=true then .inl () else .inr false):=qVr (by omega) x.1[i].2.length 0 N (by omega) (by omega)
   simp only[hc,decide_true,jH,qBn hi,j0]
   rw[ho,hdrop,hr]
   simp only[j0,qNc]
   rcases gD (qDo x.1[i].1&&(((qJh x.1 i).all fun q=>decide (cK q.1 x.1[i].1<0))&& !x.1[i].2.isEmpty)) with hb|hb
   ·rcases gD (recB x.2 none x.1[i].2) with hc2|hc2
    ·simp only[hb,hc2,jQ,j7,jC,jH,j0,w2,kA]
     rw[qRc hN hx d (i+1) M (by omega) (by omega),hp1]
    ·simp only[hb,hc2,jQ,j7,jC,j0,kA,kO]
   ·simp only[hb,kJ,jH,j0,kO,j7,jC]
theorem qMn{N:Nat}(hN:3000000<N){x:Ixx}(hx:SmallX x):qBl N x=some (qFo x):=by
 have h1:qAl (qDb N x) N 0=some (if qNc x.2 none x.1=true then .inl () else .inr false):=qRc hN hx x.1.length 0 N (by omega) (by have:=hx.1;omega)
 simp only[qBl,qFo]
 by_cases g1:x.2<0
 ·have:¬(0≤x.2∧x.2≤512):=by omega
  simp[g1,this]
 ·by_cases g2:x.2>512
  ·have:¬(0≤x.2∧x.2≤512):=by omega
   simp[g1,g2,this]
  ·have:(0≤x.2∧x.2≤512):=by omega
   simp only[g1,g2,this,and_self,decide_true,decide_false,j7,jC,kA,j0,h1]
   cases qNc x.2 none x.1<;>rfl
def resF(k:Ky)(L:List Pst):Unit⊕List Int:=match L.find? fun p=>decide (p.1=k) with
 |some p=> .inr p.2
 |none=> .inl ()
theorem qRg(k:Ky):∀L:List Pst,(match resF k L with| .inl _=>some ([]:List Int)| .inr z=>some z)=some (qBx L k)
 |[]=>rfl
 |p::L=>by
  have ih:=qRg k L
  unfold resF at ih ⊢
  simp only[List.find?_cons,qBx]
  by_cases h:p.1=k
  ·simp[h]
  ·simp only[h,decide_false,jC];exact ih
theorem qRi{N:Nat}{x:Ixx}{k:Ky}(hx:SmallX x):∀(d i M:Nat),i+d=x.1.length→d<M→qAl (qDh N x k) M (i:Int)=some (resF k (x.1.drop i))
 |_,_,0,_,h=>absurd h (jN _)
 |d,i,M+1,h1,h2=>by
  have hl:=hx.1
  simp only[qAl,qDh]
  cases d with
  |zero=>
   have hc:¬((i:Int)<(x.1.length:Int)):=by omega
   simp only[hc,decide_false,j7,jC,j0]
   rw[jJ (by omega)];rfl
  |succ d=>
   have hi:i<x.1.length:=by omega
   have hc:((i:Int)<(x.1.length:Int)):=by omega
   have w2:IntKind.wrap .i64 ((i:Int)+1)=((i+1:Nat):Int):=by rw[wi64 (by omega) (by omega)];omega
   have hdrop:x.1.drop i=x.1[i]::x.1.drop (i+1):=(jI hi).symm
   have hs:=hx.2 x.1[i] (jV hi)
   simp only[hc,decide_true,jH,qBn hi,j0,qWz]
   rw[hdrop]
   unfold resF
   simp only[List.find?_cons]
   by_cases he:x.1[i].1=k
   ·simp only[he,decide_true,jH]
    rw[qBo (by simp only[jB];omega) (by decide)]
    rfl
   ·simp only[he,decide_false,j7,jC,j0,w2]
    exact qRi hx d (i+1) M (by omega) (by omega)
theorem qSs{N:Nat}(hN:3000000<N){x:Ixx}{k:Ky}(hx:SmallX x):qCq N (x.1,x.2) (k.1,k.2.1,k.2.2)=some (if qFo x=true then qBx x.1 k else[]):=by
 show qCq N x k=_
 have hl:=hx.1
 simp only[qCq]
 rw[show qBl N (x.1,x.2)=some (qFo x) from qMn hN hx]
 cases hck:qFo x with
 |false=>rfl
 |true=>
  have e1:qAl (qDh N x k) N 0=some (resF k (x.1.drop 0)):=qRi hx x.1.length 0 N (by omega) (by omega)
  rw[jT] at e1
  simp only[j0,jQ,j7,jC,e1,jH]
  exact qRg k x.1
theorem qRj{N:Nat}{R:List Int}(hR:R.length≤2000000):∀(d i M:Nat) (l:List Bool),i+d=R.length→d<M→(∀r∈R,0≤r∧r<(l.length:Int))→qAl (qCv N R) M ((i:Int),l)=some (qUp (R.drop i) l)
 |_,_,0,_,_,h,_=>absurd h (jN _)
 |d,i,M+1,l,h1,h2,h3=>by
  simp only[qAl,qCv]
  cases d with
  |zero=>
   have hc:¬((i:Int)<(R.length:Int)):=by omega
   simp only[hc,decide_false,j7,jC,j0]
   rw[jJ (by omega)];rfl
  |succ d=>
   have hi:i<R.length:=by omega
   have hc:((i:Int)<(R.length:Int)):=by omega
   have w2:IntKind.wrap .i64 ((i:Int)+1)=((i+1:Nat):Int):=by rw[wi64 (by omega) (by omega)];omega
   have hdrop:R.drop i=R[i]::R.drop (i+1):=(jI hi).symm
   obtain⟨r0,r1⟩:=h3 _ (jV hi)
   have hx:idx l R[i]=some (l[R[i].toNat]'(by omega)):=by
    have:idx l ((R[i].toNat:Nat):Int)=some (l[R[i].toNat]'(by omega)):=qBn (by omega)
    rwa[Int.toNat_of_nonneg r0] at this
   simp only[hc,decide_true,jH,qBn hi,j0,hx,w2]
   rw[qRj hR d (i+1) M _ (by omega) (by omega) (by simpa using h3),hdrop]
   rfl
theorem qPv{N:Nat}{x:Ixx}{b:Bool}{l:List Bool}(hn:x.2=(l.length:Int))(hl:l.length≤1000000):∀(d i M:Nat) (S:List Int),i+d=l.length→d<M→S.length≤i→qAl (qCu N x b l) M (S,(i:Int))=some (S++selB b i (l.drop i))
 |_,_,0,_,_,h,_=>absurd h (jN _)
 |d,i,M+1,S,h1,h2,h3=>by
  simp only[qAl,qCu,hn]
  cases d with
  |zero=>
   have hc:¬((i:Int)<(l.length:Int)):=by omega
   simp only[hc,decide_false,j7,jC,j0]
   rw[jJ (by omega)];simp[selB]
  |succ d=>
   have hi:i<l.length:=by omega
   have hc:((i:Int)<(l.length:Int)):=by omega
   have w2:IntKind.wrap .i64 ((i:Int)+1)=((i+1:Nat):Int):=by rw[wi64 (by omega) (by omega)];omega
   have hdrop:l.drop i=l[i]::l.drop (i+1):=(jI hi).symm
   simp only[hc,decide_true,jH,qBn hi,j0]
   rw[hdrop]
   simp only[selB]
   by_cases he:l[i]=b
   ·have:(l[i]==b)=true:=by simp[he]
    simp only[this,jH]
    rw[if_pos he,qBo (by simp only[j8,jB];omega) (by decide)]
    simp only[j0,w2]
    rw[qPv hn hl d (i+1) M _ (by omega) (by omega) (by simp only[jG,j8,jB];omega),jR]
    rfl
   ·have:(l[i]==b)=false:=by simp[he]
    simp only[this,j7,jC,j0,w2]
    rw[if_neg he,qPv hn hl d (i+1) M _ (by omega) (by omega) (by omega)]
theorem qNr{k:Ky}:∀L:List Pst,(∀p∈L,p.2.length≤1048576)→(qBx L k).length≤1048576
 |[],_=>by simp[qBx]
 |p::L,h=>by
  simp only[qBx]
  split
  ·exact h p (jE ..)
  ·exact qNr L fun q hq=>h q (jM _ hq)
theorem qQd{N:Nat}(hN:3000000<N){x:Ixx}(hx:SmallX x)(hw:qOx x){keys:List Ky}(hk:keys.length≤1000000):∀(d i M:Nat) (l:List Bool),i+d=keys.length→d<M→(l.length:Int)=x.2→
  qAl (qDa N x keys) M ((i:Int),l)=some (if(keys.drop i).all qDo=true then .inl (qLp x.1 (keys.drop i) l) else .inr ([],1))
 |_,_,0,_,_,h,_=>absurd h (jN _)
 |d,i,M+1,l,h1,h2,h3=>by
  simp only[qAl,qDa]
  cases d with
  |zero=>
   have hc:¬((i:Int)<(keys.length:Int)):=by omega
   simp only[hc,decide_false,j7,jC,j0]
   rw[jJ (by omega)];rfl
  |succ d=>
   have hi:i<keys.length:=by omega
   have hc:((i:Int)<(keys.length:Int)):=by omega
   have w2:IntKind.wrap .i64 ((i:Int)+1)=((i+1:Nat):Int):=by rw[wi64 (by omega) (by omega)];omega
   have hdrop:keys.drop i=keys[i]::keys.drop (i+1):=(jI hi).symm
   have hf:=qSs (N:=N) hN (x:=x) (k:=keys[i]) hx
   rw[qFf.2 hw,if_pos rfl] at hf
   have hr:RecOK x.2 (qBx x.1 keys[i]):=qSn hw.2.1
   have hlen:(qBx x.1 keys[i]).length≤1048576:=qNr x.1 fun p hp=>(hx.2 p hp).2
   have hm:qAl (qCv N (qBx x.1 keys[i])) N (0,l)=some (qUp (qBx x.1 keys[i]) l):=qRj (by omega) (qBx x.1 keys[i]).length 0 N l (by omega) (by omega) (fun r hr'=>by have:=hr.1 r hr';omega)
   simp only[hc,decide_true,jH,qBn hi,j0,qWv hN]
   rw[hdrop]
   simp only[kY]
   by_cases hck:qDo keys[i]=true
   ·simp only[hck,jQ,j7,jC,j0,hf,hm,w2,kA]
    rw[qQd hN hx hw hk d (i+1) M _ (by omega) (by omega) (by rw[qNs];exact h3)]
    rfl
   ·have hck:=gQ.2 hck
    simp only[hck,kJ,jH,j0,kO,j7,jC]
theorem qVh{N:Nat}(hN:3000000<N){x:Ixx}(hx:SmallX x){keys:List Ky}(hk:keys.length≤1000000)(b:Bool):qCm N x keys b=some (qGo x keys b):=by
 simp only[qCm,qGo]
 rw[show qBl N (x.1,x.2)=some (qFo x) from qMn hN hx]
 cases hck:qFo x with
 |false=>rfl
 |true=>
  have hw:=qFf.1 hck
  have h1:=hw.1
  have hm:qNx 1 false x.2=some (List.replicate x.2.toNat false):=by
   have hmx:(maxLen:Nat)=9223372036854775807:=rfl
   unfold qNx;rw[if_pos ⟨h1.1,by omega,by omega⟩]
  have hlen:(List.replicate x.2.toNat false).length=x.2.toNat:=gC
  have e1:qAl (qDa N x keys) N (0,List.replicate x.2.toNat false)=_:=qQd hN hx hw hk keys.length 0 N _ (by omega) (by omega) (by rw[hlen];omega)
  rw[jT] at e1
  simp only[j0,jQ,j7,jC,hm,e1,fO]
  by_cases hall:keys.all qDo=true
  ·have hml:=qMo x.1 keys (List.replicate x.2.toNat false)
   have hsl:qAl (qCu N x b (qLp x.1 keys (List.replicate x.2.toNat false))) N (([]:List Int),0)=some (selB b 0 (qLp x.1 keys (List.replicate x.2.toNat false))):=qPv (by rw[hml,hlen];omega) (by rw[hml,hlen];omega) _ 0 N [] (kD _) (by rw[hml,hlen];omega) (jP _)
   simp only[hall,jH,hsl,j0]
  ·simp only[hall,jC,j7]
theorem qVa{N:Nat}(hN:3000000<N){x:Ixx}(hx:SmallX x){keys:List Ky}(hk:keys.length≤1000000):qEc N (x.1,x.2) keys=some (qGo x keys true):=by
 simp only[qEc]
 rw[show qCm N (x.1,x.2) keys true=some (qGo x keys true) from qVh hN hx hk true]
 rfl
theorem qQs{N:Nat}(hN:3000000<N){x:Ixx}(hx:SmallX x){keys:List Ky}(hk:keys.length≤1000000):qDj N (x.1,x.2) keys=some (qGo x keys false):=by
 simp only[qDj]
 rw[show qCm N (x.1,x.2) keys false=some (qGo x keys false) from qVh hN hx hk false]
 rfl
end
section
open Go Go.Dc Go.Sort Go.Proofs
instance decMemK(k:Ky)(l:List Ky):Decidable (k∈l):=@List.instDecidableMemOfLawfulBEq Ky instBEqOfDecidableEq inferInstance k l
theorem zAp(k:Ky):¬cK k k<0:=by have:=(cK_lin.zero k k).2 rfl;omega
theorem zCg(a b:Ky):cK a b<0∨a=b∨cK b a<0:=by
 rcases Int.lt_trichotomy (cK a b) 0 with h|h|h
 ·exact .inl h
 ·exact .inr (.inl ((cK_lin.zero a b).1 h))
 ·exact .inr (.inr ((cK_lin.anti b a).2 h))
theorem qKm{k:Ky}{L:List Pst}(h:∀p∈L,cK k p.1<0):qBx L k=[]:=qMk fun p hp e=>by
 have:=h p hp;rw[e] at this;exact zAp k this
theorem qWq:∀{L K:List Pst},Asc L→Asc K→(∀p∈L,p.2≠[])→(∀p∈K,p.2≠[])→(∀k,qBx L k=qBx K k)→L=K
 |[],[],_,_,_,_,_=>rfl
 |[],q::K,_,_,_,h4,h=>by
  have:=h q.1
  simp only[qBx,jH] at this
  exact absurd this.symm (h4 q (jE ..))
 |p::L,[],_,_,h3,_,h=>by
  have:=h p.1
  simp only[qBx,jH] at this
  exact absurd this (h3 p (jE ..))
 |p::L,q::K,h1,h2,h3,h4,h=>by
  have h1':=jL.1 h1
  have h2':=jL.1 h2
  have e:p.1=q.1:=by
   rcases zCg p.1 q.1 with g|g|g
   ·have:=h p.1
    rw[show qBx (p::L) p.1=p.2 by simp[qBx],qKm (L:=q::K) (fun r hr=>by
     rcases jD.1 hr with rfl|hr
     ·exact g
     ·exact cK_lin.trans _ _ _ g (h2'.1 r hr))] at this
    exact absurd this (h3 p (jE ..))
   ·exact g
   ·have:=h q.1
    rw[show qBx (q::K) q.1=q.2 by simp[qBx],qKm (L:=p::L) (fun r hr=>by
     rcases jD.1 hr with rfl|hr
     ·exact g
     ·exact cK_lin.trans _ _ _ g (h1'.1 r hr))] at this
    exact absurd this.symm (h4 q (jE ..))
  have e2:p.2=q.2:=by
   have:=h p.1
   rw[show qBx (p::L) p.1=p.2 by simp[qBx],show qBx (q::K) p.1=q.2 by simp[qBx,e]] at this
   exact this
  have e3:p=q:=Prod.ext e e2
  subst e3
  congr 1
  refine qWq h1'.2 h2'.2 (fun r hr=>h3 r (jM _ hr)) (fun r hr=>h4 r (jM _ hr)) fun k=> ?_
  by_cases hk:p.1=k
  ·subst hk;rw[qKm h1'.1,qKm h2'.1]
  ·have:=h k
   simpa[qBx,hk] using this
theorem qIh{n:Int}{k:Ky}:∀(d:Nat) (L:List Pst) (K:List Ky),L.length+K.length≤d→Asc L→qJe cK K→qBx (qDw d L K n) k=qBx L k++(if k∈K then[n] else[])
 |0,L,K,h,_,_=>by
  have e1:L=[]:=jK (by omega)
  have e2:K=[]:=jK (by omega)
  subst e1;subst e2
  simp[qDw,qBx]
 |d+1,[],[],_,_,_=>by simp[qDw,qBx]
 |d+1,[],q::K,h,a,b=>by
  have b':=jL.1 b
  have ih:=qIh (n:=n) (k:=k) d [] K (by simp only[j8,jB] at*;omega) a b'.2
  simp only[qDw,qBx]
  by_cases e:q=k
  ·subst e;simp
  ·rw[if_neg e,ih]
   simp only[qBx,jD,fun h:k=q=>e h.symm,false_or,show ¬k=q from fun h=>e h.symm]
 |d+1,p::L,[],h,a,b=>by
  have a':=jL.1 a
  have ih:=qIh (n:=n) (k:=k) d L [] (by simp only[j8,jB] at*;omega) a'.2 b
  simp only[qDw,qBx]
  by_cases e:p.1=k
  ·simp[e]
  ·rw[if_neg e,if_neg e,ih]
 |d+1,p::L,q::K,h,a,b=>by
  have a':=jL.1 a
  have b':=jL.1 b
  have ih1:=qIh (n:=n) (k:=k) d L (q::K) (by simp only[j8] at*;omega) a'.2 b
  have ih2:=qIh (n:=n) (k:=k) d L K (by simp only[j8] at*;omega) a'.2 b'.2
  have ih3:=qIh (n:=n) (k:=k) d (p::L) K (by simp only[j8] at*;omega) a b'.2
  simp only[qDw]
  split
  ·rename_i g
   rw[qBx,ih1]
   by_cases e:p.1=k
   ·have:k∉q::K:=fun hk=>by
     rw[e] at g
     rcases jD.1 hk with rfl|hk
     ·exact zAp _ g
     ·exact zAp k (cK_lin.trans _ _ _ g (b'.1 k hk))
    rw[if_pos e,if_neg this,qBx,if_pos e,gO]
   ·rw[if_neg e];simp only[qBx,if_neg e]
  ·rename_i g
   split
   ·rename_i e
    rw[qBx,ih2]
    by_cases hk:q=k
    ·rw[if_pos hk,qBx,if_pos (e.trans hk),if_pos (by rw[hk];exact jE ..)]
    ·rw[if_neg hk]
     simp only[qBx,if_neg (show ¬p.1=k by rw[e];exact hk),jD,show ¬k=q from fun h=>hk h.symm,false_or]
   ·rename_i e
    have g2:cK q p.1<0:=by
     rcases zCg p.1 q with h|h|h
     ·exact absurd h g
     ·exact absurd h e
     ·exact h
    rw[qBx,ih3]
    by_cases hk:q=k
    ·rw[if_pos hk,if_pos (by rw[hk];exact jE ..),qKm (L:=p::L) (fun r hr=>by
      rw[←hk]
      rcases jD.1 hr with rfl|hr
      ·exact g2
      ·exact cK_lin.trans _ _ _ g2 (a'.1 r hr))]
     rfl
    ·rw[if_neg hk]
     simp only[jD,show ¬k=q from fun h=>hk h.symm,false_or]
theorem qRz{x:Ixx}{c:Rcd}(hx:Asc x.1)(k:Ky):qBx (qEh x c).1 k=qBx x.1 k++(if k∈qBg c then[x.2] else[]):=by
 unfold qEh
 rw[qIh _ _ _ (jP _) hx (qKb _)]
 by_cases h:k∈qBg c
 ·rw[if_pos h,if_pos (qKs.2 h)]
 ·rw[if_neg h,if_neg (fun g=>h (qKs.1 g))]
theorem qVd{x:Ixx}{c:Rcd}(hx:Asc x.1):Asc (qEh x c).1:=qIl _ _ _ hx (qKb _)
theorem qRv{x:Ixx}{c:Rcd}(hx:∀p∈x.1,p.2≠[]):∀p∈(qEh x c).1,p.2≠[]:=
 qGm (P:=fun p=>p.2≠[]) (Q:=fun p=>p.2≠[]) (R:=fun _=>True) (fun _ h=>h) (fun _ _ _=>by simp) (fun _ _=>by simp) _ _ _ hx (fun _ _=>trivial)
def idxL(k:Ky):Nat→List Rcd→List Int
 |_,[]=>[]
 |i,c::l=>if k∈qBg c then(i:Int)::idxL k (i+1) l else idxL k (i+1) l
theorem qNk(k:Ky):∀(l:List Rcd) (i:Nat) (x:Ixx),x.2=(i:Int)→Asc x.1→(∀p∈x.1,p.2≠[])→Asc (l.foldl qEh x).1∧(∀p∈(l.foldl qEh x).1,p.2≠[])∧qBx (l.foldl qEh x).1 k=qBx x.1 k++idxL k i l∧(l.foldl qEh x).2=((i+l.length:Nat):Int)
 |[],i,x,h0,h1,h2=>⟨h1,h2,by simp[idxL],by simpa using h0⟩
 |c::l,i,x,h0,h1,h2=>by
  obtain⟨g1,g2,g3,g4⟩:=qNk k l (i+1) (qEh x c) (by show x.2+1=_;omega) (qVd h1) (qRv h2)
  rw[kI]
  refine⟨g1,g2,?_,by rw[g4,j8];omega⟩
  rw[g3,qRz h1,jR]
  congr 1
  simp only[idxL]
  split
  ·rw[h0];rfl
  ·rfl
def qNf(F:Ky→List Int)(K:List Ky):List Pst:=K.map fun k=>(k,F k)
theorem qQb(F:Ky→List Int)(k:Ky):∀K:List Ky,qBx (qNf F K) k=if k∈K then F k else[]
 |[]=>by simp[qNf,qBx]
 |q::K=>by
  have ih:=qQb F k K
  unfold qNf at ih ⊢
  simp only[jY,qBx]
  by_cases e:q=k
  ·subst e;simp
  ·rw[if_neg e,ih]
   simp only[jD,show ¬k=q from fun h=>e h.symm,false_or]
theorem qXb(F:Ky→List Int){K:List Ky}(h:qJe cK K):Asc (qNf F K):=by
 unfold qNf Asc
 rw[List.pairwise_map]
 exact h
theorem qSu{N:Nat}{k:Ky}{c:Rcd}{f:Bool×Int→Option ((Bool×Int)⊕Bool)}(hl:c.2.2.2.2.2.2.length≤1048576)
  (hf:∀s:Bool×Int,f s=if(decide (s.2<(List.length c.2.2.2.2.2.2:Int)))=true then((idx c.2.2.2.2.2.2 s.2).bind fun x5=>(if s.1=true then(some true) else(some ((x5.1.1==k.1)&&((x5.1.2.1.toList==k.2.1.toList)&&((x5.1.2.2.toList==k.2.2.toList)&&true)))):Option (Bool)).bind fun o7=>some (.inl (o7,IntKind.wrap .i64 (s.2+1)))) else(some (.inr s.1))):
  ∀(d i M:Nat) (b:Bool),i+d=c.2.2.2.2.2.2.length→d<M→qAl f M (b,(i:Int))=some (b||decide (k∈(c.2.2.2.2.2.2.drop i).map (·.1)))
 |_,_,0,_,_,h=>absurd h (jN _)
 |d,i,M+1,b,h1,h2=>by
  simp only[qAl]
  rw[hf]
  cases d with
  |zero=>
   have hc:¬((i:Int)<(c.2.2.2.2.2.2.length:Int)):=by omega
   simp only[hc,decide_false,j7,jC,j0]
   rw[jJ (by omega)];simp
  |succ d=>
   have hi:i<c.2.2.2.2.2.2.length:=by omega
   have hc:((i:Int)<(c.2.2.2.2.2.2.length:Int)):=by omega
   have w2:IntKind.wrap .i64 ((i:Int)+1)=((i+1:Nat):Int):=by rw[wi64 (by omega) (by omega)];omega
   have hdrop:c.2.2.2.2.2.2.drop i=c.2.2.2.2.2.2[i]::c.2.2.2.2.2.2.drop (i+1):=(jI hi).symm
   have ho:(if b=true then(some true) else(some (decide (c.2.2.2.2.2.2[i].1=k))):Option Bool)=some (b||decide (c.2.2.2.2.2.2[i].1=k)):=by cases b<;>simp
   simp only[hc,decide_true,jH,qBn hi,j0,qWz]
   rw[ho]
   simp only[j0,w2]
   rw[qSu (N:=N) hl hf d (i+1) M _ (by omega) (by omega),hdrop,jY]
   congr 1
   rw[Bool.or_assoc]
   congr 1
   rw[kG,Bool.or_eq_true,j9,j9,j9,jD]
   exact⟨fun h=>h.imp Eq.symm id,fun h=>h.imp Eq.symm id⟩
def insR(S:List Ky):List (Ky×Int)→List Ky⊕Unit
 |[]=> .inl S
 |f::l=>if qDo f.1=true then insR (insK S f.1) l else .inr ()
theorem qPc:∀(l:List (Ky×Int)) (S:List Ky),insR S l=if(l.all fun f=>qDo f.1)=true then .inl ((l.map (·.1)).foldl insK S) else .inr ()
 |[],_=>rfl
 |f::l,S=>by
  simp only[insR,kY,jY,kI]
  by_cases h:qDo f.1=true
  ·rw[if_pos h,qPc l];simp only[h,kA]
  ·rw[if_neg h];simp only[gQ.2 h,kO,j7,jC]
theorem qTa{N:Nat}(hN:3000000<N){c:Rcd}{f:List Ky×Int→Option ((List Ky×Int)⊕(List Ky⊕(Ixx×Int)))}(hl:c.2.2.2.2.2.2.length≤1048576)
  (hf:∀s:List Ky×Int,f s=if(decide (s.2<(List.length c.2.2.2.2.2.2:Int)))=true then((idx c.2.2.2.2.2.2 s.2).bind fun x2=>(qBq N (x2.1.1,x2.1.2.1,x2.1.2.2)).bind fun y1=>if(!y1)=true then(some (.inr (.inr (((([]:List Pst),0),1))))) else((qBr N s.1 (x2.1.1,x2.1.2.1,x2.1.2.2)).bind fun y2=>some (.inl (y2,IntKind.wrap .i64 (s.2+1))))) else(some (.inr (.inl s.1)))):
  ∀(d i M:Nat) (S:List Ky),i+d=c.2.2.2.2.2.2.length→d<M→S.length≤1600000+i→S.length+d<2900000→qAl f M (S,(i:Int))=some (match insR S (c.2.2.2.2.2.2.drop i) with| .inl K=> .inl K| .inr _=> .inr (([],0),1))
 |_,_,0,_,_,h,_,_=>absurd h (jN _)
 |d,i,M+1,S,h1,h2,h3,h4=>by
  simp only[qAl]
  rw[hf]
  cases d with
  |zero=>
   have hc:¬((i:Int)<(c.2.2.2.2.2.2.length:Int)):=by omega
   simp only[hc,decide_false,j7,jC,j0]
   rw[jJ (by omega)];rfl
  |succ d=>
   have hi:i<c.2.2.2.2.2.2.length:=by omega
   have hc:((i:Int)<(c.2.2.2.2.2.2.length:Int)):=by omega
   have w2:IntKind.wrap .i64 ((i:Int)+1)=((i+1:Nat):Int):=by rw[wi64 (by omega) (by omega)];omega
   have hdrop:c.2.2.2.2.2.2.drop i=c.2.2.2.2.2.2[i]::c.2.2.2.2.2.2.drop (i+1):=(jI hi).symm
   have hil:=qPe S c.2.2.2.2.2.2[i].1
   simp only[hc,decide_true,jH,qBn hi,j0,qWv hN]
   rw[hdrop]
   simp only[insR]
   by_cases hck:qDo c.2.2.2.2.2.2[i].1=true
   ·rw[if_neg (by simp[hck]),if_pos hck,show qBr N S (c.2.2.2.2.2.2[i].1.1,c.2.2.2.2.2.2[i].1.2.1,c.2.2.2.2.2.2[i].1.2.2)=some (insK S c.2.2.2.2.2.2[i].1) from qUo _ (by omega) (by omega)]
    simp only[j0,w2]
    exact qTa hN hl hf d (i+1) M _ (by omega) (by omega) (by omega) (by omega)
   ·rw[if_pos (by simpa using hck),if_neg hck]
    rfl
end
end Go.Proofs.YtiblcebedkllpaaGreatDoor
