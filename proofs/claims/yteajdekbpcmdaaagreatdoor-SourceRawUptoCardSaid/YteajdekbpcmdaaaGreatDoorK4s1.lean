/- No condition but those of each theorem. -/
import Derived.Test.YteajdekbpcmdaaaGreatDoorProg
import Derived.WalkKit
import Derived.Deep.LoopGhost
import Derived.KernelRfl
import Derived.OrdersHeld
import Derived.OrdersIn
import Derived.LoopNIn
import Derived.Sort.LoopGhostIn
import Derived.Laws.AppendOwn
import Derived.RangeFuncLeaves
import Derived.RangeFuncRecord
import Derived.MapKept
import Derived.Maps.RangeRun
import Derived.ChangeKeysEq
import Derived.HandedShaped
import Derived.ChangeStays
import Derived.ChangeSame
import Derived.OpenShut
import Derived.WideShapes
import Derived.JoinedOf
import Derived.ReadAgain
import Derived.ChangeAt
import Derived.RowKit
import Derived.Lib.Overlaps
import Derived.WalkSmall
import Derived.Recover
import Derived.Lib.Builder
import Derived.Lib.UnsafeStr
import Derived.Shelf.Strconv.Itoa3
import Derived.Room.Shelf.Join48
import Derived.Test.YteajdekbpcmdaaaGreatDoorRows
import Derived.Test.YteajdekbpcmdaaaGreatDoorK3s1
namespace Go.Proofs.YteajdekbpcmdaaaGreatDoor
section
open Go Go.Dc
set_option maxHeartbeats 4000000
set_option maxRecDepth 100000
variable {N bp0 c1 c2 c3 c4 c5 c6:Nat} {m:Mem} {O:List Piece} {w:World} {a1 a2 a3 a4 a5 a6:Option Addr}
def qBb(N:Nat)(a:T1d):Option (T1d⊕T1d):=
 (if(a.2.2.2.1==0)=true then((qBm N (a.1,a.2.1,a.2.2.1,a.2.2.2.1,a.2.2.2.2.1,a.2.2.2.2.2.1,a.2.2.2.2.2.2.1) (⟨#[41]⟩:ByteArray)).bind fun b=>some (!b.2,b.1.1,b.1.2.1,b.1.2.2.1,b.1.2.2.2.1,b.1.2.2.2.2.1,b.1.2.2.2.2.2.1,b.1.2.2.2.2.2.2)) else(some (false,a.1,a.2.1,a.2.2.1,a.2.2.2.1,a.2.2.2.2.1,a.2.2.2.2.2.1,a.2.2.2.2.2.2.1)):T14).bind fun c=>if c.1=true then((if(decide ((List.length a.2.2.2.2.2.2.2:Int)>0))=true then((qAj N c.2 (⟨#[44]⟩:ByteArray)).bind fun b=>some b) else(some c.2):T15).bind fun b=>(qAm N b).bind fun b=>(qBf N b.1).bind fun d=>(if((List.length a.2.2.2.2.2.2.2:Int)==8)=true then((qAn N d.1 b.2.2.2.2 2).bind fun e=>some e) else(some d.1):T15).bind fun e=>(qCy N a.2.2.2.2.2.2.2 d.2).bind fun f=>(if f=true then((qAn N e b.2.2.2.2 10).bind fun b=>some b) else(some e):T15).bind fun b=>(qCx 16 a.2.2.2.2.2.2.2 ([d.2])).bind fun d=>some (.inl (b.1,b.2.1,b.2.2.1,b.2.2.2.1,b.2.2.2.2.1,b.2.2.2.2.2.1,b.2.2.2.2.2.2,d))) else(some (.inr (c.2.1,c.2.2.1,c.2.2.2.1,c.2.2.2.2.1,c.2.2.2.2.2.1,c.2.2.2.2.2.2.1,c.2.2.2.2.2.2.2,a.2.2.2.2.2.2.2)))
def qHh(N:Nat)(p0:T11)(p1:Tn):Option T1e:=
 (qAm N (p0.1,p0.2.1,p0.2.2.1,p0.2.2.2.1,([]:Tf),([]:Tj),p0.2.2.2.2.2.2)).bind fun b=>(qBo N b.1 (⟨#[102,117,110,99]⟩:ByteArray)).bind fun a=>(if a.2=true then(some (.inl (a.1.1,a.1.2.1,a.1.2.2.1,a.1.2.2.2.1,a.1.2.2.2.2.1,a.1.2.2.2.2.2.1,a.1.2.2.2.2.2.2,1))) else((qBo N a.1 (⟨#[116,101,115,116]⟩:ByteArray)).bind fun a=>if a.2=true then(some (.inl (a.1.1,a.1.2.1,a.1.2.2.1,a.1.2.2.2.1,a.1.2.2.2.2.1,a.1.2.2.2.2.2.1,a.1.2.2.2.2.2.2,2))) else((qBo N a.1 (⟨#[103,101,110]⟩:ByteArray)).bind fun a=>if a.2=true then(some (.inl (a.1.1,a.1.2.1,a.1.2.2.1,a.1.2.2.2.1,a.1.2.2.2.2.1,a.1.2.2.2.2.2.1,a.1.2.2.2.2.2.2,3))) else((qAn N a.1 b.2.2.2.2 9).bind fun a=>some (.inr (a,(0,(⟨#[]⟩:ByteArray),([]:Tf),([]:Tj))))))):Option (T1f⊕T1e)).bind fun a=>(match a with| .inl a=>(if((List.length p1.2.2:Int)==64)=true then((qAn N (a.1,a.2.1,a.2.2.1,a.2.2.2.1,a.2.2.2.2.1,a.2.2.2.2.2.1,a.2.2.2.2.2.2.1) b.2.2.2.2 2).bind fun b=>some b) else(some (a.1,a.2.1,a.2.2.1,a.2.2.2.1,a.2.2.2.2.1,a.2.2.2.2.2.1,a.2.2.2.2.2.2.1)):T15).bind fun b=>(qAm N b).bind fun c=>(if(a.2.2.2.2.2.2.2==3)=true then((qBt N c.1 true).bind fun b=>some (b.1.1,b.1.2.1,b.1.2.2.1,b.1.2.2.2.1,b.1.2.2.2.2.1,b.1.2.2.2.2.2.1,b.1.2.2.2.2.2.2,b.2)) else((qBf N c.1).bind fun b=>some (b.1.1,b.1.2.1,b.1.2.2.1,b.1.2.2.2.1,b.1.2.2.2.2.1,b.1.2.2.2.2.2.1,b.1.2.2.2.2.2.2,b.2)):Option (Ty×Int×Int×Int×Tf×Tj×Tb×T5)).bind fun b=>(if(b.2.2.2.1==0)=true then((qEv N p1 a.2.2.2.2.2.2.2 b.2.2.2.2.2.2.2).bind fun d=>some d) else(some false):Tc).bind fun d=>(if d=true then((qAn N (b.1,b.2.1,b.2.2.1,b.2.2.2.1,b.2.2.2.2.1,b.2.2.2.2.2.1,b.2.2.2.2.2.2.1) c.2.2.2.2 10).bind fun c=>some c) else(some (b.1,b.2.1,b.2.2.1,b.2.2.2.1,b.2.2.2.2.1,b.2.2.2.2.2.1,b.2.2.2.2.2.2.1)):T15).bind fun d=>(if(a.2.2.2.2.2.2.2==1)=true then((qAj N d (⟨#[40]⟩:ByteArray)).bind fun c=>(qAt (qBb N) N (c.1,c.2.1,c.2.2.1,c.2.2.2.1,c.2.2.2.2.1,c.2.2.2.2.2.1,c.2.2.2.2.2.2,([]:Tf))).bind fun c=>some c) else(some (d.1,d.2.1,d.2.2.1,d.2.2.2.1,d.2.2.2.2.1,d.2.2.2.2.2.1,d.2.2.2.2.2.2,([]:Tf))):Option T1d).bind fun c=>(qAj N (c.1,c.2.1,c.2.2.1,c.2.2.2.1,c.2.2.2.2.2.2.2,c.2.2.2.2.2.1,c.2.2.2.2.2.2.1) (⟨#[61]⟩:ByteArray)).bind fun d=>(qDp N d 1).bind fun d=>(qAj N d.1 (⟨#[59]⟩:ByteArray)).bind fun d=>some (d,(a.2.2.2.2.2.2.2,b.2.2.2.2.2.2.2,c.2.2.2.2.2.2.2,d.2.2.2.2.2.1))| .inr z=>some z)
theorem qQm{p0:T11}{p1:Tn}{r:T1e}(g:St m (kB bp0 (Vb p0 a1 c1 a2 c2 a3 c3 a4 c4) 106::kR a3 p0.2.2.2.2.2.1 c3 73 5::O) w)(r1:RepS C5 m a1 c1 p0.1)(r2:RepS cStr m a2 c2 p0.2.2.2.2.1)(r3:RepS C2 m a3 c3 p0.2.2.2.2.2.1)(r4:RepS (cInt .i64) m a4 c4 p0.2.2.2.2.2.2)(M:RepS cStr m a5 c5 p1.2.1)(R:RepS C3 m a6 c6 p1.2.2)(i:qHh N p0 p1=some r):Calls Tryz.prog 78 #[vP bp0 0,.agg (V5 p1 a5 c5 a6 c6)] w fun e w'=>∃B4 B8 B5 B9 x9 z0 B6 D0 y0 z1 B7 D1 m',e= .returned (.agg (V3 r.2 y0 z1 B7 D1))∧m.le m'∧St m' (kR y0 r.2.2.2.1 z1 9 1::kB bp0 (Vb r.1 B4 B8 B5 B9 x9 z0 B6 D0) 106::kR x9 r.1.2.2.2.2.2.1 z0 73 5::O) w'∧RepS C5 m' B4 B8 r.1.1∧RepS cStr m' B5 B9 r.1.2.2.2.2.1∧RepS C2 m' x9 z0 r.1.2.2.2.2.2.1∧RepS (cInt .i64) m' B6 D0 r.1.2.2.2.2.2.2∧RepS cStr m' y0 z1 r.2.2.2.1∧RepS C2 m' B7 D1 r.2.2.2.2:=by
 unfold qHh at i;have q:=m.le_refl;refine W_cA Tryz.func78 rfl Tryz.ntmps78 ?_;refine W_sr (qAb rfl (qMl 3 25 1 (.agg (V5 p1 a5 c5 a6 c6)) g fun b1 m1 w1 e1 g u=>(qAb rfl (qEh 4 48 (.agg #[vI 0,vT eB,v6,v6]) g fun p w2 g=>(WO_e (W_sr (qAb rfl (qEh 5 48 (.agg #[vI 0,vT eB,v6,v6]) g fun k w3 g=>(WO_e (W_sr (qAa 4 [(9,vP bp0 0),(11,vP bp0 4)] (qAb rfl (qDv 22 11 ((.const (v6))) 4 (v1) #[vS a1 p0.1 c1,vI p0.2.1,vI p0.2.2.1,vI p0.2.2.2.1,v1,vS a3 p0.2.2.2.2.2.1 c3,vS a4 p0.2.2.2.2.2.2 c4] g.f2 fun w4 g=>(qAa 2 [(13,vP bp0 5)] (qAb rfl (qDv 46 13 ((.const (v6))) 5 (vb) #[vS a1 p0.1 c1,vI p0.2.1,vI p0.2.2.1,vI p0.2.2.2.1,v1,vb,vS a4 p0.2.2.2.2.2.2 c4] g fun w5 g=>(qAv rfl ?_)))))))))))))))));have g:=g.f3.t;refine qAf (W_sr (qAa 1 [(14,vP bp0 0)] ?_));have g:=(g.nilroom 73 5).front1;refine qAp 15 i (fun _ h=>qAy (p0:=(p0.1,p0.2.1,p0.2.2.1,p0.2.2.2.1,([]:Tf),([]:Tj),p0.2.2.2.2.2.2)) g (r1.mono e1) (RepS.nil _ _) (RepS.nil _ _) (r4.mono e1) h) ?_;rintro y1 i _ w6 ⟨a7,c7,a8,c8,a9,c9,M5,R2,m2,rfl,e2,g,r7,r8,r9,H6⟩;refine qAd 2 [(6,vI y1.2.2.2.2)] (qAs (W_sr (qAa 1 [(17,vP bp0 0)] (qAp 18 i (fun _ h=>qBy (p0:=y1.1) g.f1.f1 r7 r8 r9 H6 h) ?_))));rintro y2 i _ w7 ⟨F4,G2,F5,G3,F6,G4,F7,G5,m3,rfl,e3,g,z4,z5,z6,z7⟩;have u:=(u.mono e2).mono e3
 have M:=((M.mono e1).mono e2).mono e3;have R:=((R.mono e1).mono e2).mono e3;refine WO_e ?_;have⟨H5,i,j1⟩:=qBa i;refine qCg .normal (fun L' w'=>∃(b:T1f),∃n0 q6 n2 q7 g5 h5 n3 q8 m4,(.inl b:T1f⊕T1e)=H5∧L'=[(0,vP bp0 0),(3,vP b1 0),(4,vP p 0),(5,vP k 0),(6,vI y1.2.2.2.2)]∧m.le m4∧St m4 (kB bp0 (Vc n0 b.1 q6 b.2.1 b.2.2.1 b.2.2.2.1 n2 b.2.2.2.2.1 q7 g5 b.2.2.2.2.2.1 h5 n3 b.2.2.2.2.2.2.1 q8) 106::kB k #[vI b.2.2.2.2.2.2.2,vT eB,v1,vb] 48::kB p #[vI 0,vT eB,v1,vb] 48::kR g5 b.2.2.2.2.2.1 h5 73 5::O) w'∧MRow m4 b1 0 (V6 p1 a5 c5 a6 c6)∧RepS cStr m4 a5 c5 p1.2.1∧RepS C3 m4 a6 c6 p1.2.2∧P5 m4 n0 q6 n2 q7 g5 h5 n3 q8 b) ?_ ?_
 ·rintro _ w8 ⟨b,n0,q6,n2,q7,g5,h5,n3,q8,m4,rfl,rfl,q,g,u,M,R,z8,z9,A0,A1⟩;have i:=j1;refine qAf (qAs (W_sr (qAa 1 [(30,vP b1 2)] (qAb rfl (qAr (d:=31) (t:=23) (x:=(.tmp 30)) (vS a6 p1.2.2 c6) kr rfl (ev (vP b1 2)) g (u.drop 2) kr (qAd 2 [(33,vB ((p1.2.2.length:Int)==64))] ?_))))));have⟨o2,i,j2⟩:=qBa i;refine qCg .normal (fun L' w'=>∃t7 u4 t8 u5 n4 q9 t9 u6 m8,L'=[(0,vP bp0 0),(3,vP b1 0),(4,vP p 0),(5,vP k 0)]∧m.le m8∧St m8 (kB bp0 (Vb o2 t7 u4 t8 u5 n4 q9 t9 u6) 106::kB k #[vI b.2.2.2.2.2.2.2,vT eB,v1,vb] 48::kB p #[vI 0,vT eB,v1,vb] 48::kR n4 o2.2.2.2.2.2.1 q9 73 5::O) w'∧MRow m8 b1 0 (V6 p1 a5 c5 a6 c6)∧RepS cStr m8 a5 c5 p1.2.1∧RepS C3 m8 a6 c6 p1.2.2∧P4 m8 t7 u4 t8 u5 n4 q9 t9 u6 o2) ?_ ?_
  ·have i:=j2;rintro _ S2 ⟨t7,u4,t8,u5,n4,q9,t9,u6,m8,rfl,q,g,u,M,R,H7,H8,H9,K0⟩;refine qAf (W_sr (qAa 1 [(37,vP bp0 0)] (qAp 38 i (fun _ h=>qAy (p0:=o2) g.f3.f1 H7 H8 H9 K0 h) ?_)));rintro y7 i _ S3 ⟨M6,R3,M7,R4,M8,R5,M9,R6,R9,rfl,e8,g,A2,A3,A4,A5⟩;refine qAd 2 [(6,vI y7.2.2.2.2)] (qAs (W_sr (qCj 1 41 3 40 0 (vI b.2.2.2.2.2.2.2) g.t.t.h (qAd 1 [(42,vB (b.2.2.2.2.2.2.2==3))] ?_))));have⟨a,i,j3⟩:=qBa i;refine qCg .normal (fun L' w'=>∃d0 d4 d1 d5 S U d2 d6 V,L'=[(0,vP bp0 0),(3,vP b1 0),(4,vP p 0),(5,vP k 0),(6,vI y7.2.2.2.2)]∧m.le V∧St V (kB bp0 (Vc d0 a.1 d4 a.2.1 a.2.2.1 a.2.2.2.1 d1 a.2.2.2.2.1 d5 S a.2.2.2.2.2.1 U d2 a.2.2.2.2.2.2.1 d6) 106::kB k #[vI b.2.2.2.2.2.2.2,vT a.2.2.2.2.2.2.2,v1,vb] 48::kB p #[vI 0,vT eB,v1,vb] 48::kR S a.2.2.2.2.2.1 U 73 5::O) w'∧MRow V b1 0 (V6 p1 a5 c5 a6 c6)∧RepS cStr V a5 c5 p1.2.1∧RepS C3 V a6 c6 p1.2.2∧P5 V d0 d4 d1 d5 S U d2 d6 a) ?_ ?_
   ·have i:=j3;rintro _ S4 ⟨d0,d4,d1,d5,S,U,d2,d6,V,rfl,q,g,u,M,R,l3,l4,l5,l6⟩;refine qAf (qAs (W_sr ?_));have⟨o4,i,J⟩:=qBa i;refine qDk (j:=13) (fun L' w'=>∃k7,L'=[(0,vP bp0 0),(4,vP p 0),(5,vP k 0),(6,vI y7.2.2.2.2),(61,vB o4)]∧m.le k7∧St k7 (kB bp0 (Vc d0 a.1 d4 a.2.1 a.2.2.1 a.2.2.2.1 d1 a.2.2.2.2.1 d5 S a.2.2.2.2.2.1 U d2 a.2.2.2.2.2.2.1 d6) 106::kB k #[vI b.2.2.2.2.2.2.2,vT a.2.2.2.2.2.2.2,v1,vb] 48::kB p #[vI 0,vT eB,v1,vb] 48::kR S a.2.2.2.2.2.1 U 73 5::O) w'∧P5 k7 d0 d4 d1 d5 S U d2 d6 a) ?_ ?_
    ·have i:=J;rintro _ S5 ⟨k7,rfl,q,g,l3,l4,l5,l6⟩;refine WO_e ?_;have⟨o5,i,j4⟩:=qBa i;refine qCg .normal (fun L' w'=>∃n5 r0 n6 s0 g6 h6 n7 s2 k8,L'=[(0,vP bp0 0),(4,vP p 0),(5,vP k 0)]∧m.le k8∧St k8 (kB bp0 (Vb o5 n5 r0 n6 s0 g6 h6 n7 s2) 106::kB k #[vI b.2.2.2.2.2.2.2,vT a.2.2.2.2.2.2.2,v1,vb] 48::kB p #[vI 0,vT eB,v1,vb] 48::kR g6 o5.2.2.2.2.2.1 h6 73 5::O) w'∧P4 k8 n5 r0 n6 s0 g6 h6 n7 s2 o5) ?_ ?_
     ·have i:=j4;rintro _ S6 ⟨n5,r0,n6,s0,g6,h6,n7,s2,k8,rfl,q,g,A6,A7,A8,A9⟩;refine qAf (qAs (W_sr (qCj 1 66 3 65 0 (vI b.2.2.2.2.2.2.2) g.t.h (qAd 1 [(67,vB (b.2.2.2.2.2.2.2==1))] ?_))));have⟨n,i,j5⟩:=qBa i;refine qCg .normal (fun L' w'=>∃n8 s3 u0 u7 g7 h7 n9 s4 y z t6,L'=[(0,vP bp0 0),(4,vP p 0),(5,vP k 0)]∧m.le t6∧St t6 (kB bp0 (Vc n8 n.1 s3 n.2.1 n.2.2.1 n.2.2.2.1 u0 n.2.2.2.2.1 u7 g7 n.2.2.2.2.2.1 h7 n9 n.2.2.2.2.2.2.1 s4) 106::kB k #[vI b.2.2.2.2.2.2.2,vT a.2.2.2.2.2.2.2,vS y n.2.2.2.2.2.2.2 z,vb] 48::kB p #[vI 0,vT eB,v1,vb] 48::kR g7 n.2.2.2.2.2.1 h7 73 5::kR y n.2.2.2.2.2.2.2 z 9 1::O) w'∧P6 t6 n8 s3 u0 u7 g7 h7 n9 s4 y z n) ?_ ?_
      ·have i:=j5;rintro _ l8 ⟨n8,s3,u0,u7,g7,h7,n9,s4,y,z,t6,rfl,q,g,f7,l7,f8,f9,F⟩;refine qAf (W_sr (qAa 2 [(111,vP bp0 0),(112,vP k 2)] (qAb rfl (qBx 113 22 112 2 (vS y n.2.2.2.2.2.2.2 z) g.t.h (qAa 2 [(115,vP bp0 4)] (qAb rfl (qDv 22 115 113 4 (vS y n.2.2.2.2.2.2.2 z) (Vc n8 n.1 s3 n.2.1 n.2.2.1 n.2.2.2.1 y n.2.2.2.2.2.2.2 z g7 n.2.2.2.2.2.1 h7 n9 n.2.2.2.2.2.2.1 s4) g fun l9 g=>(WO_e (W_sr (qAa 1 [(116,vP bp0 0)] (qAp 117 i (fun _ h=>qBr (p0:=(n.1,n.2.1,n.2.2.1,n.2.2.2.1,n.2.2.2.2.2.2.2,n.2.2.2.2.2.1,n.2.2.2.2.2.2.1)) g.f3.f1 f7 F f8 f9 h) ?_)))))))))));rintro g0 i _ o0 ⟨g2,h4,g3,h8,g4,h9,g8,k2,l0,rfl,B,g,b5,b6,b7,b8⟩;refine WO_e (W_sr (qAa 1 [(118,vP bp0 0)] (qAp 119 i (fun _ h=>qQs (p0:=g0) g.f1.f1 b5 b6 b7 b8 h) ?_)));rintro g1 i _ q0 ⟨h0,k3,h1,k4,h2,k5,h3,k6,l2,rfl,D,g,b9,d3,d7,d8⟩;refine WO_e (W_sr (qAa 1 [(120,vP bp0 0)] (qAp 121 i (fun _ h=>qBr (p0:=g1.1) g.f1.f1 b9 d3 d7 d8 h) ?_)));rintro l i _ q1 ⟨G,Z,H,a0,c,f,Y,b0,f6,rfl,E,g,d9,e0,s,f5⟩
       refine WO_e (W_sr (qCj 3 125 46 124 5 (vS c l.2.2.2.2.2.1 f) g.h (qAa 1 [(126,vP k 3)] (qAb rfl (qDv 46 126 125 3 (vS c l.2.2.2.2.2.1 f) #[vI b.2.2.2.2.2.2.2,vT a.2.2.2.2.2.2.2,vS y n.2.2.2.2.2.2.2 z,vS c l.2.2.2.2.2.1 f] g.f2 fun q2 g=>(WO_e (W_sr (qAb rfl (qBx 127 48 5 0 (.agg #[vI b.2.2.2.2.2.2.2,vT a.2.2.2.2.2.2.2,vS y n.2.2.2.2.2.2.2 z,vS c l.2.2.2.2.2.1 f]) g.h (qAb rfl (qCm 48 4 127 (.agg #[vI b.2.2.2.2.2.2.2,vT a.2.2.2.2.2.2.2,vS y n.2.2.2.2.2.2.2 z,vS c l.2.2.2.2.2.1 f]) g.f3 fun q3 g=>(WO_e (qBd ?_)))))))))))));cases i;exact qMn [.cell 4 48] [.agg #[vI b.2.2.2.2.2.2.2,vT a.2.2.2.2.2.2.2,vS y n.2.2.2.2.2.2.2 z,vS c l.2.2.2.2.2.1 f]] rfl (ResAll.cons (ResAt.blk (v:= .agg #[vI b.2.2.2.2.2.2.2,vT a.2.2.2.2.2.2.2,vS y n.2.2.2.2.2.2.2 z,vS c l.2.2.2.2.2.1 f]) (o:=0) kr g.h kr) ResAll.nil) ⟨G,Z,H,a0,c,f,Y,b0,y,z,c,f,f6,rfl,((q.t B).t D).t E,g.t.t.f1.f1.f2,d9,e0,s,f5,((F.mono B).mono D).mono E,s⟩
      ·intro z3;refine W_if i ?_ ?_
       ·intro A i;refine W_sr (qAa 1 [(68,vP bp0 0)] (qAp 69 i (fun _ h=>qBr (p0:=o5) g.f3.f1 A6 A7 A8 A9 h) ?_));rintro b9 i _ S7 ⟨F8,G6,F9,G7,G0,G8,G1,G9,H1,rfl,H0,g,K1,K2,K3,K4⟩;refine WO_e (qAw ?_);have⟨v3,i,j6⟩:=qBa i;refine qCg (.exit 0) (fun L' w'=>∃(H:T1d),∃o0 s5 q0 s6 g8 h8 q1 s7 h0 h9 l0,H=v3∧L'=[(0,vP bp0 0),(4,vP p 0),(5,vP k 0)]∧m.le l0∧St l0 (kB bp0 (Vc o0 H.1 s5 H.2.1 H.2.2.1 H.2.2.2.1 q0 H.2.2.2.2.1 s6 g8 H.2.2.2.2.2.1 h8 q1 H.2.2.2.2.2.2.1 s7) 106::kB k #[vI b.2.2.2.2.2.2.2,vT a.2.2.2.2.2.2.2,vS h0 H.2.2.2.2.2.2.2 h9,vb] 48::kB p #[vI 0,vT eB,v1,vb] 48::kR g8 H.2.2.2.2.2.1 h8 73 5::kR h0 H.2.2.2.2.2.2.2 h9 9 1::O) w'∧P6 l0 o0 s5 q0 s6 g8 h8 q1 s7 h0 h9 H) ?_ ?_
        ·rintro _ D ⟨H,o0,s5,q0,s6,g8,h8,q1,s7,h0,h9,l0,rfl,rfl,q,g,c,f,l,s,B⟩;have i:=j6;refine qBh ?_;cases i;exact xE (z3 _ _ ⟨o0,s5,q0,s6,g8,h8,q1,s7,h0,h9,l0,rfl,q,g.f4.f4.f4.f4.f4,c,f,l,s,B⟩)
        intro z2;have g:=(g.nilroom 9 1).front2.front4.front4.front4;refine qGm _ kr (qDl (fun k1 L' w'=>∃(c:T1d),∃q2 s8 q3 s9 h1 k2 q4 t0 f l l2,qAt (qBb N) k1 c=some v3∧L'=[(0,vP bp0 0),(4,vP p 0),(5,vP k 0)]∧m.le l2∧St l2 (kB bp0 (Vc q2 c.1 s8 c.2.1 c.2.2.1 c.2.2.2.1 q3 c.2.2.2.2.1 s9 h1 c.2.2.2.2.2.1 k2 q4 c.2.2.2.2.2.2.1 t0) 106::kB k #[vI b.2.2.2.2.2.2.2,vT a.2.2.2.2.2.2.2,vS f c.2.2.2.2.2.2.2 l,vb] 48::kB p #[vI 0,vT eB,v1,vb] 48::kR h1 c.2.2.2.2.2.1 k2 73 5::kR f c.2.2.2.2.2.2.2 l 9 1::O) w'∧P6 l2 q2 s8 q3 s9 h1 k2 q4 t0 f l c) N ⟨(b9.1,b9.2.1,b9.2.2.1,b9.2.2.2.1,b9.2.2.2.2.1,b9.2.2.2.2.2.1,b9.2.2.2.2.2.2,([]:Tf)),F8,G6,F9,G7,G0,G8,G1,G9,none,0,H1,i,rfl,q.t H0,g,K1,K2,K3,K4,(RepS.nil _ _)⟩ ?_);rintro k1 _ S8 ⟨c,q2,s8,q3,s9,h1,k2,q4,t0,f,l,l2,hL,rfl,q,g,B0,B1,B2,B3,s⟩;rcases k1 with _|k1
        ·exact qBj hL
        ·obtain⟨S1,i,E7,E6⟩:=qBi hL;clear hL;unfold qBb at i;refine qAs (W_sr ?_);have⟨F,i,J⟩:=qBa i;refine qDk (j:=10) (fun L' w'=>∃h2 k3 h3 k4 d3 d7 h4 k5 E,L'=[(0,vP bp0 0),(4,vP p 0),(5,vP k 0),(79,vB F.1)]∧m.le E∧St E (kB bp0 (Vb F.2 h2 k3 h3 k4 d3 d7 h4 k5) 106::kB k #[vI b.2.2.2.2.2.2.2,vT a.2.2.2.2.2.2.2,vS f c.2.2.2.2.2.2.2 l,vb] 48::kB p #[vI 0,vT eB,v1,vb] 48::kR f c.2.2.2.2.2.2.2 l 9 1::kR d3 F.2.2.2.2.2.2.1 d7 73 5::O) w'∧RepS C5 E h2 k3 F.2.1∧RepS cStr E h3 k4 F.2.2.2.2.2.1∧RepS C2 E d3 d7 F.2.2.2.2.2.2.1∧RepS (cInt .i64) E h4 k5 F.2.2.2.2.2.2.2∧RepS cStr E f l c.2.2.2.2.2.2.2) ?_ ?_
         ·have i:=J;rintro _ S9 ⟨h2,k3,h3,k4,d3,d7,h4,k5,E,rfl,q,g,x5,x6,x7,x8,s⟩;refine WO_e (W_if i ?_ ?_)
          ·intro A i;refine qAq (qAf (qAw (qAs (W_sr (qCj 1 81 22 80 2 (vS f c.2.2.2.2.2.2.2 l) g.t.h (qAd 2 [(83,vB (decide ((c.2.2.2.2.2.2.2.length:Int)>0)))] ?_))))));have⟨o9,i,j7⟩:=qBa i;refine qCg .normal (fun L' w'=>∃u1 u9 u2 v0 q5 t3 u3 v2 Y,L'=[(0,vP bp0 0),(4,vP p 0),(5,vP k 0)]∧m.le Y∧St Y (kB bp0 (Vb o9 u1 u9 u2 v0 q5 t3 u3 v2) 106::kB k #[vI b.2.2.2.2.2.2.2,vT a.2.2.2.2.2.2.2,vS f c.2.2.2.2.2.2.2 l,vb] 48::kB p #[vI 0,vT eB,v1,vb] 48::kR f c.2.2.2.2.2.2.2 l 9 1::kR q5 o9.2.2.2.2.2.1 t3 73 5::O) w'∧RepS C5 Y u1 u9 o9.1∧RepS cStr Y u2 v0 o9.2.2.2.2.1∧RepS C2 Y q5 t3 o9.2.2.2.2.2.1∧RepS (cInt .i64) Y u3 v2 o9.2.2.2.2.2.2∧RepS cStr Y f l c.2.2.2.2.2.2.2) ?_ ?_
           ·have i:=j7;rintro _ U0 ⟨u1,u9,u2,v0,q5,t3,u3,v2,Y,rfl,q,g,K5,K6,K7,K8,s⟩;refine qAf (W_sr (qAa 1 [(86,vP bp0 0)] (qAp 87 i (fun _ h=>qAy (p0:=o9) g.f4.f1 K5 K6 K7 K8 h) ?_)));rintro l7 i _ U1 ⟨R0,R7,R1,R8,M1,M3,M2,M4,S0,rfl,t4,g,K9,M0,E8,E9⟩;refine qAd 2 [(6,vI l7.2.2.2.2)] (W_sr (qAa 1 [(89,vP bp0 0)] (qAp 90 i (fun _ h=>qFm (p0:=l7.1) g.f1.f1 K9 M0 E8 E9 h) ?_)));rintro G i _ U2 ⟨D2,D8,D3,D9,D4,E0,D5,E1,H2,rfl,t5,g,v4,v5,v9,x0⟩;refine qAd 1 [(7,vT G.2)] (qAs (W_sr (qCj 1 92 22 91 2 (vS f c.2.2.2.2.2.2.2 l) g.t.t.h (qAd 2 [(94,vB ((c.2.2.2.2.2.2.2.length:Int)==8))] ?_))));have⟨b8,i,j8⟩:=qBa i
            refine qCg .normal (fun L' w'=>∃d9 f9 e0 g0 b0 b6 f5 g1 Z,L'=[(0,vP bp0 0),(4,vP p 0),(5,vP k 0),(6,vI l7.2.2.2.2),(7,vT G.2)]∧m.le Z∧St Z (kB bp0 (Vb b8 d9 f9 e0 g0 b0 b6 f5 g1) 106::kB k #[vI b.2.2.2.2.2.2.2,vT a.2.2.2.2.2.2.2,vS f c.2.2.2.2.2.2.2 l,vb] 48::kB p #[vI 0,vT eB,v1,vb] 48::kR f c.2.2.2.2.2.2.2 l 9 1::kR b0 b8.2.2.2.2.2.1 b6 73 5::O) w'∧RepS C5 Z d9 f9 b8.1∧RepS cStr Z e0 g0 b8.2.2.2.2.1∧RepS C2 Z b0 b6 b8.2.2.2.2.2.1∧RepS (cInt .i64) Z f5 g1 b8.2.2.2.2.2.2∧RepS cStr Z f l c.2.2.2.2.2.2.2) ?_ ?_
            ·have i:=j8;rintro _ U3 ⟨d9,f9,e0,g0,b0,b6,f5,g1,Z,rfl,q,g,x1,x2,x3,x4,s⟩;refine qAf (qAs (W_sr (qCj 1 99 22 98 2 (vS f c.2.2.2.2.2.2.2 l) g.t.h (qAa 1 [(100,vT G.2)] (qAp 101 i (fun _ h=>qLl g s h) ?_)))));rintro U6 i _ U4 ⟨H3,rfl,D,g⟩;refine WO_e ?_;have⟨B,i,j9⟩:=qBa i;refine qCg .normal (fun L' w'=>∃f6 g2 f7 g3 b5 b7 f8 g4 a0,L'=[(0,vP bp0 0),(4,vP p 0),(5,vP k 0),(7,vT G.2)]∧m.le a0∧St a0 (kB bp0 (Vb B f6 g2 f7 g3 b5 b7 f8 g4) 106::kB k #[vI b.2.2.2.2.2.2.2,vT a.2.2.2.2.2.2.2,vS f c.2.2.2.2.2.2.2 l,vb] 48::kB p #[vI 0,vT eB,v1,vb] 48::kR f c.2.2.2.2.2.2.2 l 9 1::kR b5 B.2.2.2.2.2.1 b7 73 5::O) w'∧RepS C5 a0 f6 g2 B.1∧RepS cStr a0 f7 g3 B.2.2.2.2.1∧RepS C2 a0 b5 b7 B.2.2.2.2.2.1∧RepS (cInt .i64) a0 f8 g4 B.2.2.2.2.2.2∧RepS cStr a0 f l c.2.2.2.2.2.2.2) ?_ ?_
             ·have i:=j9;rintro _ F2 ⟨f6,g2,f7,g3,b5,b7,f8,g4,a0,rfl,q,g,D6,D7,E2,E3,s⟩;refine qAf (qAl (qCj 1 106 22 105 2 (vS f c.2.2.2.2.2.2.2 l) g.t.h (qAa 1 [(107,vT G.2)] (qAb rfl (qBl (d:=108) (t:=22) (e:=9) (len:=1) (parts:= #[(0,(.tmp 107))]) cStr (xs:=[G.2]) [vT G.2] kr rfl (fun _=>qBn kr _) rfl rfl g ⟨[vT G.2],_,rfl,rfl,rfl⟩ fun b4 F1 F3 d8 g E4=>(qAb rfl (qGi 109 22 22 9 16 106 108 g.f4 (.inl kr) (s.mono d8) E4.src i fun l1 i l8 l9 F0 H4 k6 g E5=>(qAa 1 [(110,vP k 2)] (qAb rfl (qDv 22 110 109 2 (vS l8 l1 l9) #[vI b.2.2.2.2.2.2.2,vT a.2.2.2.2.2.2.2,vS l8 l1 l9,vb] g.f3 fun U5 g=>(qAv rfl ?_)))))))))));have g:=g.f2.t;refine qBe ?_;obtain rfl:=sI i;have hL:=E7 _ rfl;exact xE (qCh k1 (jG _) ⟨(B.1,B.2.1,B.2.2.1,B.2.2.2.1,B.2.2.2.2.1,B.2.2.2.2.2.1,B.2.2.2.2.2.2,l1),f6,g2,f7,g3,b5,b7,f8,g4,l8,l9,F0,hL,rfl,(q.t d8).t k6,g.f1.f4.f4.f3.f4,(D6.mono d8).mono k6,(D7.mono d8).mono k6,(E2.mono d8).mono k6,(E3.mono d8).mono k6,E5⟩)
             ·intro d8;refine W_if i ?_ ?_
              ·intro A i;refine qAl (qAa 2 [(102,vP bp0 0),(103,vI l7.2.2.2.2)] (qAp 104 i (fun _ h=>qBg (p0:=b8) g.f4.f1 (x1.mono D) (x2.mono D) (x3.mono D) (x4.mono D) h) ?_));rintro U7 i _ U5 ⟨l8,E2,l9,E3,D6,E4,D7,E5,H4,rfl,k6,g,F0,F1,F2,F3⟩;refine qAv rfl ?_;cases i;exact xE (d8 _ _ ⟨l8,E2,l9,E3,D6,E4,D7,E5,H4,rfl,(q.t D).t k6,g.f1.f4.f4.f4.f4,F0,F1,F2,F3,(s.mono D).mono k6⟩)
              ·intro A i;refine qAq ?_;cases i;exact xE (d8 _ _ ⟨d9,f9,e0,g0,b0,b6,f5,g1,H3,rfl,q.t D,g.f4.f4.f4.f4.f4,x1.mono D,x2.mono D,x3.mono D,x4.mono D,s.mono D⟩)
            ·intro B;refine W_if i ?_ ?_
             ·intro A i;refine qAl (qAa 2 [(95,vP bp0 0),(96,vI l7.2.2.2.2)] (qAp 97 i (fun _ h=>qBg (p0:=G.1) g.f1.f1 v4 v5 v9 x0 h) ?_));rintro x2 i _ x1 ⟨a0,f6,b5,f7,b7,f8,d8,g2,l9,rfl,D,g,g3,g4,k6,l8⟩;refine qAv rfl ?_;cases i;exact xE (B _ _ ⟨a0,f6,b5,f7,b7,f8,d8,g2,l9,rfl,((q.t t4).t t5).t D,g.f1.f4.f4.f4.f4,g3,g4,k6,l8,((s.mono t4).mono t5).mono D⟩)
             ·intro A i;refine qAq ?_;cases i;exact xE (B _ _ ⟨D2,D8,D3,D9,D4,E0,D5,E1,H2,rfl,(q.t t4).t t5,g.f1.f4.f4.f4.f4,v4,v5,v9,x0,(s.mono t4).mono t5⟩)
           ·intro B;refine W_if i ?_ ?_
            ·intro A i;refine qAl (qAa 1 [(84,vP bp0 0)] (qAp 85 i (fun _ h=>qBr (p0:=F.2) g.f4.f1 x5 x6 x7 x8 h) ?_));rintro f8 i _ f7 ⟨G,b5,Z,b6,a0,b7,b0,b8,d8,rfl,D,g,d9,e0,f5,f6⟩;refine qAv rfl ?_;cases i;exact xE (B _ _ ⟨G,b5,Z,b6,a0,b7,b0,b8,d8,rfl,q.t D,g.f1.f4.f4.f4.f4,d9,e0,f5,f6,s.mono D⟩)
            ·intro A i;refine qAq ?_;cases i;exact xE (B _ _ ⟨h2,k3,h3,k4,d3,d7,h4,k5,E,rfl,q,g.f4.f4.f4.f4.f4,x5,x6,x7,x8,s⟩)
          ·intro A i;refine qDi (qAg ?_);cases i;have ho:=E6 _ rfl;have g:=g.f3.f4.f4.f4.f4;refine qAg ?_;exact xE (z2 _ _ ⟨(F.2.1,F.2.2.1,F.2.2.2.1,F.2.2.2.2.1,F.2.2.2.2.2.1,F.2.2.2.2.2.2.1,F.2.2.2.2.2.2.2,c.2.2.2.2.2.2.2),h2,k3,h3,k4,d3,d7,h4,k5,f,l,E,ho,rfl,q,g,x5,x6,x7,x8,s⟩)
         ·intro K;refine qCj 3 73 26 72 3 (vI c.2.2.2.1) g.h (qAa 2 [(75,vB (c.2.2.2.1==0))] (qCc 75 i ?_ ?_))
          ·intro A i;refine qAa 1 [(76,vP bp0 0)] (qAp 77 i (fun _ h=>qBu (p0:=(c.1,c.2.1,c.2.2.1,c.2.2.2.1,c.2.2.2.2.1,c.2.2.2.2.2.1,c.2.2.2.2.2.2.1)) g.f3.f1 B0 B1 B2 B3 h) ?_);rintro f5 i _ f6 ⟨D,a0,G,b0,Y,b5,Z,b6,b7,rfl,B,g,b8,d8,d9,e0⟩;refine qAa 2 [(79,vB (!f5.2))] ?_;cases i;exact qAu _ kr (K _ _ ⟨D,a0,G,b0,Y,b5,Z,b6,b7,rfl,q.t B,g.f1.f4.f4.f4.f4,b8,d8,d9,e0,s.mono B⟩)
          ·intro A i;refine qAa 4 [(79,vB false)] ?_;cases i;exact qAu _ kr (K _ _ ⟨q2,s8,q3,s9,h1,k2,q4,t0,l2,rfl,q,g.f3.f4.f4.f4.f4,B0,B1,B2,B3,s⟩)
       ·intro A i;refine qAq ?_;cases i;have g:=(g.nilroom 9 1).front4.front4.front4.front4;exact xE (z3 _ _ ⟨n5,r0,n6,s0,g6,h6,n7,s2,none,0,k8,rfl,q,g,A6,A7,A8,A9,(RepS.nil _ _)⟩)
     ·intro c;refine W_if i ?_ ?_
      ·intro A i;refine qAl (qAa 2 [(62,vP bp0 0),(63,vI y7.2.2.2.2)] (qAp 64 i (fun _ h=>qBg (p0:=(a.1,a.2.1,a.2.2.1,a.2.2.2.1,a.2.2.2.2.1,a.2.2.2.2.2.1,a.2.2.2.2.2.2.1)) g.f3.f1 l3 l4 l5 l6 h) ?_));rintro b0 i _ a0 ⟨f,y,l,z,n,B,s,D,F,rfl,E,g,G,H,Y,Z⟩;refine qAv rfl ?_;cases i;exact xE (c _ _ ⟨f,y,l,z,n,B,s,D,F,rfl,q.t E,g.f1.f3.f3.f3,G,H,Y,Z⟩)
      ·intro A i;refine qAq ?_;cases i;exact xE (c _ _ ⟨d0,d4,d1,d5,S,U,d2,d6,k7,rfl,q,g.f3.f3.f3.f3,l3,l4,l5,l6⟩)
    ·intro K;refine qCj 3 52 26 51 3 (vI a.2.2.2.1) g.h (qAa 2 [(54,vB (a.2.2.2.1==0))] (qCc 54 i ?_ ?_))
     ·intro A i;refine qEg 55 25 3 0 (.agg (V5 p1 a5 c5 a6 c6)) g u (qCj 1 57 3 56 0 (vI b.2.2.2.2.2.2.2) g.t.h (qCj 1 59 9 58 1 (vT a.2.2.2.2.2.2.2) g.t.h (qAp 60 i (fun _ h=>qOx (p0:=p1) g M R h) ?_)));rintro l i _ n ⟨f,rfl,c,g⟩;refine qAa 1 [(61,vB l)] ?_;cases i;exact qAu _ kr (K _ _ ⟨f,rfl,q.t c,g.f3.f3.f3.f3,l3.mono c,l4.mono c,l5.mono c,l6.mono c⟩)
     ·intro A i;refine qAa 7 [(61,vB false)] ?_;cases i;exact qAu _ kr (K _ _ ⟨V,rfl,q,g.f3.f3.f3.f3,l3,l4,l5,l6⟩)
   ·intro f;refine W_if i ?_ ?_
    ·intro A i;refine qAl (qAa 1 [(43,vP bp0 0)] (qAp 44 i (fun _ h=>qJw (p0:=y7.1) g.f1.f1 A2 A3 A4 A5 h) ?_));rintro y8 i _ a0 ⟨l,z,n,B,s,D,y,E,F,rfl,c,g,G,H,Y,Z⟩;refine qAa 1 [(45,vP k 1)] (qAb rfl (qDv 9 45 44 1 (vT y8.2) #[vI b.2.2.2.2.2.2.2,vT y8.2,v1,vb] g.f2 fun b0 g=>(qAv rfl ?_)));cases i;exact xE (f _ _ ⟨l,z,n,B,s,D,y,E,F,rfl,(q.t e8).t c,g.f2.f3.f2.f3,(u.mono e8).mono c,(M.mono e8).mono c,(R.mono e8).mono c,G,H,Y,Z⟩)
    ·intro A i;refine qAl (qAa 1 [(46,vP bp0 0)] (qAp 47 i (fun _ h=>qFm (p0:=y7.1) g.f1.f1 A2 A3 A4 A5 h) ?_));rintro y9 i _ a0 ⟨l,z,n,B,s,D,y,E,F,rfl,c,g,G,H,Y,Z⟩;refine qAa 1 [(48,vP k 1)] (qAb rfl (qDv 9 48 47 1 (vT y9.2) #[vI b.2.2.2.2.2.2.2,vT y9.2,v1,vb] g.f2 fun b0 g=>(qAv rfl ?_)));cases i;exact xE (f _ _ ⟨l,z,n,B,s,D,y,E,F,rfl,(q.t e8).t c,g.f2.f3.f2.f3,(u.mono e8).mono c,(M.mono e8).mono c,(R.mono e8).mono c,G,H,Y,Z⟩)
  ·intro c;refine W_if i ?_ ?_
   ·intro A i;refine qAl (qAa 2 [(34,vP bp0 0),(35,vI y1.2.2.2.2)] (qAp 36 i (fun _ h=>qBg (p0:=(b.1,b.2.1,b.2.2.1,b.2.2.2.1,b.2.2.2.2.1,b.2.2.2.2.2.1,b.2.2.2.2.2.2.1)) g.f3.f1 z8 z9 A0 A1 h) ?_));rintro V i _ U ⟨f,y,l,z,n,B,s,D,S,rfl,a,g,E,F,G,H⟩;refine qAv rfl ?_;cases i;exact xE (c _ _ ⟨f,y,l,z,n,B,s,D,S,rfl,q.t a,g.f1.f3.f3.f3,u.mono a,M.mono a,R.mono a,E,F,G,H⟩)
   ·intro A i;refine qAq ?_;cases i;exact xE (c _ _ ⟨n0,q6,n2,q7,g5,h5,n3,q8,m4,rfl,q,g.f3.f3.f3.f3,u,M,R,z8,z9,A0,A1⟩)
 ·intro l;refine W_if i ?_ ?_
  ·intro A i;refine qAl (qAa 1 [(19,vP k 0)] (qAb rfl (qDv 3 19 ((.const (vI 1))) 0 (vI 1) #[vI 1,vT eB,v1,vb] g.f2 fun a g=>(qAv rfl ?_))));have s:=jI i;exact xE (l _ _ ⟨(y2.1.1,y2.1.2.1,y2.1.2.2.1,y2.1.2.2.2.1,y2.1.2.2.2.2.1,y2.1.2.2.2.2.2.1,y2.1.2.2.2.2.2.2,1),F4,G2,F5,G3,F6,G4,F7,G5,m3,s,rfl,((q.t e1).t e2).t e3,g.f2.f3.f2.f3,u,M,R,z4,z5,z6,z7⟩)
  ·intro A i;refine W_sr (qAa 1 [(20,vP bp0 0)] (qAp 21 i (fun _ h=>qBy (p0:=y2.1) g.f1.f1 z4 z5 z6 z7 h) ?_));rintro a i _ f9 ⟨S,b9,U,d0,V,d1,Y,d2,m5,rfl,f,g,y,z,B,D⟩;have q:=(((q.t e1).t e2).t e3).t f;refine WO_e (W_if i ?_ ?_)
   ·intro A i;refine qAl (qAa 1 [(22,vP k 0)] (qAb rfl (qDv 3 22 ((.const (vI 2))) 0 (vI 2) #[vI 2,vT eB,v1,vb] g.f2 fun c g=>(qAv rfl ?_))));have s:=jI i;exact xE (l _ _ ⟨(a.1.1,a.1.2.1,a.1.2.2.1,a.1.2.2.2.1,a.1.2.2.2.2.1,a.1.2.2.2.2.2.1,a.1.2.2.2.2.2.2,2),S,b9,U,d0,V,d1,Y,d2,m5,s,rfl,q,g.f2.f3.f2.f3,u.mono f,M.mono f,R.mono f,y,z,B,D⟩)
   ·intro A i;refine W_sr (qAa 1 [(23,vP bp0 0)] (qAp 24 i (fun _ h=>qBy (p0:=a.1) g.f1.f1 y z B D h) ?_));rintro c i _ g0 ⟨Z,d3,a0,d4,b0,d5,b5,d6,m6,rfl,n,g,E,F,G,H⟩;refine WO_e (W_if i ?_ ?_)
    ·intro A i;refine qAl (qAa 1 [(25,vP k 0)] (qAb rfl (qDv 3 25 ((.const (vI 3))) 0 (vI 3) #[vI 3,vT eB,v1,vb] g.f2 fun b6 g=>(qAv rfl ?_))));have s:=jI i;exact xE (l _ _ ⟨(c.1.1,c.1.2.1,c.1.2.2.1,c.1.2.2.2.1,c.1.2.2.2.2.1,c.1.2.2.2.2.2.1,c.1.2.2.2.2.2.2,3),Z,d3,a0,d4,b0,d5,b5,d6,m6,s,rfl,q.t n,g.f2.f3.f2.f3,(u.mono f).mono n,(M.mono f).mono n,(R.mono f).mono n,E,F,G,H⟩)
    ·intro A i;refine W_sr (qAa 2 [(26,vP bp0 0),(27,vI y1.2.2.2.2)] (qAp 28 i (fun _ h=>qBg (p0:=c.1) g.f1.f1 E F G H h) ?_));rintro y5 i _ g1 ⟨s,d7,b6,d8,b7,d9,b8,e0,m7,rfl,e6,g,f5,f6,f7,f8⟩;refine WO_e (W_sr (qAb rfl (qBx 29 48 5 0 (.agg #[vI 0,vT eB,v1,vb]) g.t.t.h (qAb rfl (qCm 48 4 29 (.agg #[vI 0,vT eB,v1,vb]) g.f3 fun g2 g=>(WO_e (qBd ?_)))))));cases i;have i:=j1;refine qAc ?_;cases i;refine qMn [.cell 4 48] [.agg #[vI 0,vT eB,v1,vb]] rfl (ResAll.cons (ResAt.blk (v:= .agg #[vI 0,vT eB,v1,vb]) (o:=0) kr g.h kr) ResAll.nil) ?_;have g:=(g.nilroom 9 1).front1;exact⟨s,d7,b6,d8,b7,d9,b8,e0,none,0,none,0,m7,rfl,(q.t n).t e6,g.t.f3.t.f2.f2.f2,f5,f6,f7,f8,(RepS.nil _ _),(RepS.nil _ _)⟩
def qBv(N:Nat)(e:T16)(a:T1d):Option (T1d⊕T1d):=
 (if(a.2.2.2.1==0)=true then((qAm N (a.1,a.2.1,a.2.2.1,a.2.2.2.1,a.2.2.2.2.1,a.2.2.2.2.2.1,a.2.2.2.2.2.2.1)).bind fun b=>if(b.2.1==1)=true then((qAm N b.1).bind fun c=>some ((c.2.2.1.toList==(⟨#[105,109,112,111,114,116]⟩:ByteArray).toList),c.1.1,c.1.2.1,c.1.2.2.1,c.1.2.2.2.1,c.1.2.2.2.2.1,c.1.2.2.2.2.2.1,c.1.2.2.2.2.2.2)) else(some (false,b.1.1,b.1.2.1,b.1.2.2.1,b.1.2.2.2.1,b.1.2.2.2.2.1,b.1.2.2.2.2.2.1,b.1.2.2.2.2.2.2))) else(some (false,a.1,a.2.1,a.2.2.1,a.2.2.2.1,a.2.2.2.2.1,a.2.2.2.2.2.1,a.2.2.2.2.2.2.1)):T14).bind fun c=>if c.1=true then((if((List.length a.2.2.2.2.2.2.2:Int)==8)=true then((qAm N c.2).bind fun b=>(qAn N b.1 b.2.2.2.2 2).bind fun b=>some b) else(some c.2):T15).bind fun b=>(qAm N (b.1,IntKind.wrap .i64 (b.2.1+1),b.2.2.1,b.2.2.2.1,b.2.2.2.2.1,b.2.2.2.2.2.1,b.2.2.2.2.2.2)).bind fun b=>(qBf N b.1).bind fun d=>(if(d.1.2.2.2.1==0)=true then(if(d.2.toList==e.2.toList)=true then(some true) else((qCy N a.2.2.2.2.2.2.2 d.2).bind fun e=>some e)) else(some false):Tc).bind fun e=>(if e=true then((qAn N d.1 b.2.2.2.2 10).bind fun b=>some b) else(some d.1):T15).bind fun b=>(qAj N b (⟨#[59]⟩:ByteArray)).bind fun b=>(qCx 16 a.2.2.2.2.2.2.2 ([d.2])).bind fun d=>some (.inl (b.1,b.2.1,b.2.2.1,b.2.2.2.1,b.2.2.2.2.1,b.2.2.2.2.2.1,b.2.2.2.2.2.2,d))) else(some (.inr (c.2.1,c.2.2.1,c.2.2.2.1,c.2.2.2.2.1,c.2.2.2.2.2.1,c.2.2.2.2.2.2.1,c.2.2.2.2.2.2.2,a.2.2.2.2.2.2.2)))
def qCf(N:Nat)(e:T16)(d:T1d)(a:T1g):Option (T1g⊕T1g):=
 (if(a.2.2.2.1==0)=true then((qAm N (a.1,a.2.1,a.2.2.1,a.2.2.2.1,a.2.2.2.2.1,a.2.2.2.2.2.1,a.2.2.2.2.2.2.1)).bind fun b=>some (b.2.1 !=5,b.1.1,b.1.2.1,b.1.2.2.1,b.1.2.2.2.1,b.1.2.2.2.2.1,b.1.2.2.2.2.2.1,b.1.2.2.2.2.2.2)) else(some (false,a.1,a.2.1,a.2.2.1,a.2.2.2.1,a.2.2.2.2.1,a.2.2.2.2.2.1,a.2.2.2.2.2.2.1)):T14).bind fun c=>if c.1=true then((qHh N c.2 (e.2,d.2.2.2.2.2.2.2,a.2.2.2.2.2.2.2)).bind fun b=>(qCx 72 a.2.2.2.2.2.2.2 ([b.2])).bind fun d=>some (.inl (b.1.1,b.1.2.1,b.1.2.2.1,b.1.2.2.2.1,b.1.2.2.2.2.1,b.1.2.2.2.2.2.1,b.1.2.2.2.2.2.2,d))) else(some (.inr (c.2.1,c.2.2.1,c.2.2.2.1,c.2.2.2.2.1,c.2.2.2.2.2.1,c.2.2.2.2.2.2.1,c.2.2.2.2.2.2.2,a.2.2.2.2.2.2.2)))
def qKh(N:Nat)(p0:ByteArray):Option T1h:=
 (qJr N p0).bind fun a=>if(a.2.2 !=0)=true then(some (((⟨#[]⟩:ByteArray),([]:Tf),([]:Tm)),a.2.1,a.2.2)) else((qBo N (a.1,0,0,0,([]:Tf),([]:Tj),([]:Tb)) (⟨#[112,97,99,107,97,103,101]⟩:ByteArray)).bind fun a=>(if(!a.2)=true then((qAm N a.1).bind fun b=>(qAn N b.1 b.2.2.2.2 9).bind fun b=>some b) else(some a.1):T15).bind fun a=>(qBf N a).bind fun c=>(qAj N c.1 (⟨#[59]⟩:ByteArray)).bind fun a=>(qAt (qBv N c) N (a.1,a.2.1,a.2.2.1,a.2.2.2.1,a.2.2.2.2.1,a.2.2.2.2.2.1,a.2.2.2.2.2.2,([]:Tf))).bind fun a=>(qAt (qCf N c a) N (a.1,a.2.1,a.2.2.1,a.2.2.2.1,a.2.2.2.2.1,a.2.2.2.2.2.1,a.2.2.2.2.2.2.1,([]:Tm))).bind fun b=>if(b.2.2.2.1 !=0)=true then(some (((⟨#[]⟩:ByteArray),([]:Tf),([]:Tm)),b.2.2.1,b.2.2.2.1)) else(some ((c.2,a.2.2.2.2.2.2.2,b.2.2.2.2.2.2.2),0,0)))
theorem qTr{p0:ByteArray}{r:T1h}(g:St m (O) w)(i:qKh N p0=some r):Calls Tryz.prog 29 #[vT p0] w fun e w'=>∃n1 n3 n2 n4 m',e= .returned (.tuple #[.agg (V5 r.1 n1 n3 n2 n4),vI r.2.1,vI r.2.2])∧m.le m'∧St m' (kR n1 r.1.2.1 n3 9 1::kR n2 r.1.2.2 n4 48 4::O) w'∧P2 m' n1 n3 n2 n4 r.1.2:=by
 unfold qKh at i;have q:=m.le_refl;refine W_cA Tryz.func29 rfl Tryz.ntmps29 ?_;refine W_sr (qAb rfl (qEh 2 25 (.agg #[vT eB,v6,v6]) g fun u w1 g=>(qAd 2 [] (W_sr (qAa 1 [(10,vT p0)] (qAp 11 i (fun _ h=>qSw g h) ?_))))));rintro M i _ w2 ⟨a1,c1,m1,rfl,e1,g,r1⟩;have q:=q.t e1;refine qAd 7 [(5,vS a1 M.1 c1),(3,vI M.2.1),(4,vI M.2.2)] (qAs (W_sr (qAd 2 [(16,vB (M.2.2 !=0))] (W_if i ?_ ?_))))
 ·intro A i;refine W_sr (qAb rfl (qBx 17 25 2 0 (.agg #[vT eB,v1,vc]) g.t.h (qAa 2 [(18,vI M.2.1),(19,vI M.2.2)] (qAb rfl (qCm 25 2 17 (.agg #[vT eB,v1,vc]) g.f1 fun a g=>(qAa 2 [(3,vI M.2.1),(4,vI M.2.2)] (qAv rfl ?_)))))));have g:=g.f1.t;refine qAf (qBd (qAc ?_));cases i;refine qMn [.cell 2 25,.tmp 3,.tmp 4] [.agg #[vT eB,v1,vc],vI M.2.1,vI M.2.2] rfl (ResAll.cons (ResAt.blk (v:= .agg #[vT eB,v1,vc]) (o:=0) kr g.h kr) (ResAll.cons (ResAt.tmp kr) (ResAll.cons (ResAt.tmp kr) ResAll.nil))) ?_;have g:=(g.nilroom 9 1).nilroom 48 4;exact⟨none,0,none,0,m1,rfl,q,g.f2.t.f1,(RepS.nil _ _),(RepS.nil _ _)⟩
 ·intro A i;refine qAq (qAf (W_sr (qAa 2 [(21,.agg #[vS a1 M.1 c1,vI 0,vI 0,vI 0,v1,vb,v8])] (qAb rfl (zJz 22 106 21 (.agg #[vS a1 M.1 c1,vI 0,vI 0,vI 0,v1,vb,v8]) g fun a w4 g=>(qAd 1 [(6,vP a 0)] (qAs (W_sr (qAa 1 [(23,vP a 0)] ?_)))))))));have g:=(g.nilroom 73 5).front1;refine qAp 24 i (fun _ h=>qBy (p0:=(M.1,0,0,0,([]:Tf),([]:Tj),([]:Tb))) g r1 (RepS.nil _ _) (RepS.nil _ _) (RepS.nil _ _) h) ?_;rintro y2 i _ w5 ⟨a2,c2,a3,c3,a4,c4,a5,c5,m3,rfl,e3,g,r2,r3,r4,r5⟩;refine qAa 1 [(25,vB (!y2.2))] (qAv rfl ?_);have g:=g.f2.t;refine qAf ?_;have⟨o1,i,j1⟩:=qBa i;refine qCg .normal (fun L' w'=>∃a6 c6 a7 c7 a8 c8 a9 c9 m4,L'=[(2,vP u 0),(6,vP a 0)]∧m.le m4∧St m4 (kB a (Vb o1 a6 c6 a7 c7 a8 c8 a9 c9) 106::kB u #[vT eB,v1,vc] 25::kR a8 o1.2.2.2.2.2.1 c8 73 5::O) w'∧P4 m4 a6 c6 a7 c7 a8 c8 a9 c9 o1) ?_ ?_
  ·have i:=j1;rintro _ w6 ⟨a6,c6,a7,c7,a8,c8,a9,c9,m4,rfl,q,g,r6,r7,r8,r9⟩;refine qAf (W_sr (qAa 1 [(31,vP a 0)] (qAp 32 i (fun _ h=>qFm (p0:=o1) g.f2.f1 r6 r7 r8 r9 h) ?_)));rintro x i _ w9 ⟨x5,z2,x6,z3,x7,z4,x8,z5,m7,rfl,e6,g,t4,t5,t6,t7⟩;refine qAa 1 [(33,vP u 0)] (qAb rfl (qDv 9 33 32 0 (vT x.2) #[vT x.2,v1,vc] g.f2 fun A4 g=>(WO_e (W_sr (qAa 1 [(34,vP a 0)] (qAp 35 i (fun _ h=>qBr (p0:=x.1) g.f2.f2 t4 t5 t6 t7 h) ?_))))));rintro y6 i _ A5 ⟨q4,s3,q5,s4,q6,s5,q7,s6,m8,rfl,e7,g,t8,t9,u0,u1⟩;refine WO_e (qAs (qAw ?_));have⟨l6,i,j2⟩:=qBa i;refine qCg (.exit 0) (fun L' w'=>∃(c:T1d),∃d7 g3 d8 g4 a0 b9 d9 g5 l n m9,c=l6∧L'=[(2,vP u 0),(6,vP a 0)]∧m.le m9∧St m9 (kB a (Vc d7 c.1 g3 c.2.1 c.2.2.1 c.2.2.2.1 d8 c.2.2.2.2.1 g4 a0 c.2.2.2.2.2.1 b9 d9 c.2.2.2.2.2.2.1 g5) 106::kB u #[vT x.2,vS l c.2.2.2.2.2.2.2 n,vc] 25::kR a0 c.2.2.2.2.2.1 b9 73 5::kR l c.2.2.2.2.2.2.2 n 9 1::O) w'∧P6 m9 d7 g3 d8 g4 a0 b9 d9 g5 l n c) ?_ ?_
   ·rintro _ s9 ⟨c,d7,g3,d8,g4,a0,b9,d9,g5,l,n,m9,rfl,rfl,q,g,q3,q8,q9,r0,D⟩;have i:=j2;refine qBh (qAf (qAs (qAw ?_)));have⟨h5,i,j7⟩:=qBa i;refine qCg (.exit 2) (fun L' w'=>∃(f:T1g),∃d0 f7 d1 f8 V b0 d2 f9 G H p,f=h5∧L'=[(2,vP u 0),(6,vP a 0)]∧m.le p∧St p (kB a (Vc d0 f.1 f7 f.2.1 f.2.2.1 f.2.2.2.1 d1 f.2.2.2.2.1 f8 V f.2.2.2.2.2.1 b0 d2 f.2.2.2.2.2.2.1 f9) 106::kB u #[vT x.2,vS l c.2.2.2.2.2.2.2 n,vS G f.2.2.2.2.2.2.2 H] 25::kR l c.2.2.2.2.2.2.2 n 9 1::kR V f.2.2.2.2.2.1 b0 73 5::kR G f.2.2.2.2.2.2.2 H 48 4::O) w'∧RepS C5 p d0 f7 f.1∧RepS cStr p d1 f8 f.2.2.2.2.1∧RepS C2 p V b0 f.2.2.2.2.2.1∧RepS (cInt .i64) p d2 f9 f.2.2.2.2.2.2.1∧RepS cStr p l n c.2.2.2.2.2.2.2∧RepS C3 p G H f.2.2.2.2.2.2.2) ?_ ?_
    ·rintro _ E ⟨f,d0,f7,d1,f8,V,b0,d2,f9,G,H,p,rfl,rfl,q,g,s,y,z,B,D,k⟩;have i:=j7;refine qBh (qAf (qAs (W_sr (qCj 3 124 26 123 3 (vI f.2.2.2.1) g.h (qAd 1 [(125,vB (f.2.2.2.1 !=0))] (W_if i ?_ ?_))))))
     ·intro A i;refine qAs (qJa [(12,fun w'=>Inv p w'∧Piece.holds p w' (kB a (Vc d0 f.1 f7 f.2.1 f.2.2.1 f.2.2.2.1 d1 f.2.2.2.2.1 f8 V f.2.2.2.2.2.1 b0 d2 f.2.2.2.2.2.2.1 f9) 106)∧True)] kr g fun F _ g=> ?_);have b:=p.le_refl;refine⟨⟨.inr ⟨Inv.anti g.inv b,Piece.holds_anti g.h b,trivial⟩,trivial⟩,?_⟩;refine qBk 0 126 (.agg #[vT eB,v1,vc]) (.head _) (qBk 1 127 (vP a 0) (.head _) (qBk 2 128 (vP a 0) (.head _) (qBk 3 129 (vP a 2) (.head _) (qJe 3 129 4 130 2 (vI f.2.2.1) (.head _) (fun _ h=>h.2.1) (qBk 5 131 (vP a 0) (.head _) (qBk 6 132 (vP a 0) (.head _) (qBk 7 133 (vP a 3) (.head _) (qJe 26 133 8 134 3 (vI f.2.2.2.1) (.head _) (fun _ h=>h.2.1) (qDg 9 kr (qCm 25 2 126 (.agg #[vT eB,v1,vc]) g.f1 fun R g=>(⟨⟨.inr ⟨Inv.anti g.inv b,Piece.holds_anti g.t.h b,trivial⟩,trivial⟩,?_⟩)))))))))));refine qBk 10 3 (vI f.2.2.1) (.head _) (qBk 11 4 (vI f.2.2.2.1) (.head _) (qEc kr ?_));have g:=g.f2.t.f3.t;refine qAf (qBd (qAc ?_));cases i;refine qMn [.cell 2 25,.tmp 3,.tmp 4] [.agg #[vT eB,v1,vc],vI f.2.2.1,vI f.2.2.2.1] rfl (ResAll.cons (ResAt.blk (v:= .agg #[vT eB,v1,vc]) (o:=0) kr g.h kr) (ResAll.cons (ResAt.tmp kr) (ResAll.cons (ResAt.tmp kr) ResAll.nil))) ?_;have g:=(g.nilroom 9 1).nilroom 48 4;exact⟨none,0,none,0,p,rfl,q,g.f2.t.f2.t.f2.t.f1,(RepS.nil _ _),(RepS.nil _ _)⟩
     ·intro A i;refine qAq (qAf (W_sr (qAb rfl (qBx 135 25 2 0 (.agg #[vT x.2,vS l c.2.2.2.2.2.2.2 n,vS G f.2.2.2.2.2.2.2 H]) g.t.h (qAb rfl (qCm 25 2 135 (.agg #[vT x.2,vS l c.2.2.2.2.2.2.2 n,vS G f.2.2.2.2.2.2.2 H]) g.f1 fun b g=>(qAd 2 [(3,vI 0),(4,vI 0)] (qBd ?_))))))));cases i;exact qMn [.cell 2 25,.tmp 3,.tmp 4] [.agg #[vT x.2,vS l c.2.2.2.2.2.2.2 n,vS G f.2.2.2.2.2.2.2 H],vI 0,vI 0] rfl (ResAll.cons (ResAt.blk (v:= .agg #[vT x.2,vS l c.2.2.2.2.2.2.2 n,vS G f.2.2.2.2.2.2.2 H]) (o:=0) kr g.h kr) (ResAll.cons (ResAt.tmp kr) (ResAll.cons (ResAt.tmp kr) ResAll.nil))) ⟨l,n,G,H,p,rfl,q,g.t.t.f1.t.f1.f1,D,k⟩
    intro h6;have g:=(g.nilroom 48 4).front3.front4.front4.front4;refine qGm _ kr (qDl (fun k2 L' w'=>∃(k:T1g),∃d3 g0 d4 g1 Y b5 d5 g2 y z B,qAt (qCf N x c) k2 k=some h5∧L'=[(2,vP u 0),(6,vP a 0)]∧m.le B∧St B (kB a (Vc d3 k.1 g0 k.2.1 k.2.2.1 k.2.2.2.1 d4 k.2.2.2.2.1 g1 Y k.2.2.2.2.2.1 b5 d5 k.2.2.2.2.2.2.1 g2) 106::kB u #[vT x.2,vS l c.2.2.2.2.2.2.2 n,vS y k.2.2.2.2.2.2.2 z] 25::kR l c.2.2.2.2.2.2.2 n 9 1::kR Y k.2.2.2.2.2.1 b5 73 5::kR y k.2.2.2.2.2.2.2 z 48 4::O) w'∧RepS C5 B d3 g0 k.1∧RepS cStr B d4 g1 k.2.2.2.2.1∧RepS C2 B Y b5 k.2.2.2.2.2.1∧RepS (cInt .i64) B d5 g2 k.2.2.2.2.2.2.1∧RepS cStr B l n c.2.2.2.2.2.2.2∧RepS C3 B y z k.2.2.2.2.2.2.2) N ⟨(c.1,c.2.1,c.2.2.1,c.2.2.2.1,c.2.2.2.2.1,c.2.2.2.2.2.1,c.2.2.2.2.2.2.1,([]:Tm)),d7,g3,d8,g4,a0,b9,d9,g5,none,0,m9,i,rfl,q,g,q3,q8,q9,r0,D,(RepS.nil _ _)⟩ ?_);rintro k2 _ t0 ⟨k,d3,g0,d4,g1,Y,b5,d5,g2,y,z,B,hL,rfl,q,g,h7,h8,h9,k3,D,U⟩;rcases k2 with _|k2
    ·exact qBj hL
    ·obtain⟨s8,i,l9,l8⟩:=qBi hL;clear hL;unfold qCf at i;refine qAs (W_sr ?_);have⟨F,i,J⟩:=qBa i;refine qDk (j:=11) (fun L' w'=>∃d6 g6 e0 g7 Z b6 e2 g8 s,L'=[(2,vP u 0),(6,vP a 0),(112,vB F.1)]∧m.le s∧St s (kB a (Vb F.2 d6 g6 e0 g7 Z b6 e2 g8) 106::kB u #[vT x.2,vS l c.2.2.2.2.2.2.2 n,vS y k.2.2.2.2.2.2.2 z] 25::kR l c.2.2.2.2.2.2.2 n 9 1::kR y k.2.2.2.2.2.2.2 z 48 4::kR Z F.2.2.2.2.2.2.1 b6 73 5::O) w'∧RepS C5 s d6 g6 F.2.1∧RepS cStr s e0 g7 F.2.2.2.2.2.1∧RepS C2 s Z b6 F.2.2.2.2.2.2.1∧RepS (cInt .i64) s e2 g8 F.2.2.2.2.2.2.2∧RepS cStr s l n c.2.2.2.2.2.2.2∧RepS C3 s y z k.2.2.2.2.2.2.2) ?_ ?_
     ·have i:=J;rintro _ t3 ⟨d6,g6,e0,g7,Z,b6,e2,g8,s,rfl,q,g,k4,k5,k6,k7,D,U⟩;refine WO_e (W_if i ?_ ?_)
      ·intro A i;refine qAq (qAf (qAw (qJa [(9,fun w'=>Inv s w'∧True),(8,fun w'=>Inv s w'∧Piece.holds s w' (kB u #[vT x.2,vS l c.2.2.2.2.2.2.2 n,vS y k.2.2.2.2.2.2.2 z] 25)∧True)] kr g fun u2 _ g=> ?_)));have b:=s.le_refl;refine⟨⟨iA g b,⟨.inr ⟨Inv.anti g.inv b,Piece.holds_anti g.t.h b,trivial⟩,trivial⟩⟩,?_⟩;refine qBk 0 113 (vP u 2) (.head _) (qJe 23 113 1 114 2 (vS y k.2.2.2.2.2.2.2 z) (.tail _ (.head _)) (fun _ h=>h.2.1) (qBk 2 115 (vP a 0) (.head _) (qJe 25 2 3 116 0 (.agg #[vT x.2,vS l c.2.2.2.2.2.2.2 n,vS y k.2.2.2.2.2.2.2 z]) (.tail _ (.head _)) (fun _ h=>h.2.1) (qDg 4 kr (qJn 117 i (fun _ h=>qQm (p0:=F.2) (p1:=(x.2,c.2.2.2.2.2.2.2,k.2.2.2.2.2.2.2)) g.f4.f1 k4 k5 k6 k7 D U h) ?_)))));rintro E i _ u3 ⟨q0,q1,k8,l4,l0,l5,l3,l7,h1,h3,h2,h4,s0,rfl,h0,g,n0,n5,n6,n7,n8,n9⟩;refine⟨_,rfl,?_⟩;have b:=Mem.le_trans b h0;refine⟨⟨iA g b,⟨.inr ⟨Inv.anti g.inv b,Piece.holds_anti g.t.t.t.h b,trivial⟩,trivial⟩⟩,?_⟩
       refine qDg 5 kr (qBl (d:=118) (t:=23) (e:=48) (len:=1) (parts:= #[(0,(.tmp 117))]) C3 (xs:=[E.2]) (V4 E.2 h1 h3 h2 h4) kr rfl (fun _=>qBn kr _) rfl rfl g ⟨(V4 E.2 h1 h3 h2 h4),_,rfl,⟨_,_,rfl,rfl,⟨_,_,rfl,rfl,⟨_,_,rfl,(zCw n8),(zCw n9)⟩⟩⟩,rfl⟩ fun b4 s7 u4 R g o0=> ?_);have b:=Mem.le_trans b R;refine⟨⟨iA g b,⟨.inr ⟨Inv.anti g.inv b,Piece.holds_anti g.t.t.t.t.h b,trivial⟩,trivial⟩⟩,?_⟩;refine qDg 6 kr (qGi 119 23 23 48 72 114 118 g.f6 (.inl kr) ((U.mono h0).mono R) o0.src i fun l2 i b7 b8 q2 u5 S g o9=> ?_);have b:=Mem.le_trans b S;refine⟨⟨iA g b,⟨.inr ⟨Inv.anti g.inv b,Piece.holds_anti g.t.t.t.t.t.h b,trivial⟩,trivial⟩⟩,?_⟩;refine qBk 7 120 (vP u 2) (.head _) (qDg 8 kr (qDv 23 120 119 2 (vS b7 l2 b8) #[vT x.2,vS l c.2.2.2.2.2.2.2 n,vS b7 l2 b8] g.f5 fun u6 g=>(⟨⟨iA g b,⟨.inl rfl,trivial⟩⟩,?_⟩)));refine qEc kr ?_;have g:=g.f2.t.f2.t;refine qBe ?_;obtain rfl:=sI i;have hL:=l9 _ rfl
       exact xE (qCh k2 (jG _) ⟨(E.1.1,E.1.2.1,E.1.2.2.1,E.1.2.2.2.1,E.1.2.2.2.2.1,E.1.2.2.2.2.2.1,E.1.2.2.2.2.2.2,l2),q0,q1,k8,l4,l0,l5,l3,l7,b7,b8,q2,hL,rfl,((q.t h0).t R).t S,g.f1.f3.f4.f3.f4,(n0.mono R).mono S,(n5.mono R).mono S,(n6.mono R).mono S,(n7.mono R).mono S,((D.mono h0).mono R).mono S,o9⟩)
      ·intro A i;refine qDi (qAg ?_);cases i;have ho:=l8 _ rfl;have g:=g.f3.f4.f4.f4.f4;refine qAg ?_;exact xE (h6 _ _ ⟨(F.2.1,F.2.2.1,F.2.2.2.1,F.2.2.2.2.1,F.2.2.2.2.2.1,F.2.2.2.2.2.2.1,F.2.2.2.2.2.2.2,k.2.2.2.2.2.2.2),d6,g6,e0,g7,Z,b6,e2,g8,y,z,s,ho,rfl,q,g,k4,k5,k6,k7,D,U⟩)
     ·intro K;refine qCj 3 105 26 104 3 (vI k.2.2.2.1) g.h (qAa 2 [(107,vB (k.2.2.2.1==0))] (qCc 107 i ?_ ?_))
      ·intro A i;refine qAa 1 [(108,vP a 0)] (qAp 109 i (fun _ h=>qAy (p0:=(k.1,k.2.1,k.2.2.1,k.2.2.2.1,k.2.2.2.2.1,k.2.2.2.2.2.1,k.2.2.2.2.2.2.1)) g.f3.f1 h7 h8 h9 k3 h) ?_);rintro k7 i _ k8 ⟨E,b8,R,h0,S,h1,b7,h2,h3,rfl,b,g,h4,k4,k5,k6⟩;refine qAa 3 [(112,vB (k7.2.1 !=5))] ?_;cases i;exact qAu _ kr (K _ _ ⟨E,b8,R,h0,S,h1,b7,h2,h3,rfl,q.t b,g.f1.f4.f4.f4.f4,h4,k4,k5,k6,D.mono b,U.mono b⟩)
      ·intro A i;refine qAa 5 [(112,vB false)] ?_;cases i;exact qAu _ kr (K _ _ ⟨d3,g0,d4,g1,Y,b5,d5,g2,B,rfl,q,g.f3.f4.f4.f4.f4,h7,h8,h9,k3,D,U⟩)
   intro n5;have g:=(g.nilroom 9 1).front2.front3.front3;refine qGm _ kr (qDl (fun k1 L' w'=>∃(b:T1d),∃e0 g6 e2 g7 b0 d0 f7 g8 f k d6,qAt (qBv N x) k1 b=some l6∧L'=[(2,vP u 0),(6,vP a 0)]∧m.le d6∧St d6 (kB a (Vc e0 b.1 g6 b.2.1 b.2.2.1 b.2.2.2.1 e2 b.2.2.2.2.1 g7 b0 b.2.2.2.2.2.1 d0 f7 b.2.2.2.2.2.2.1 g8) 106::kB u #[vT x.2,vS f b.2.2.2.2.2.2.2 k,vc] 25::kR b0 b.2.2.2.2.2.1 d0 73 5::kR f b.2.2.2.2.2.2.2 k 9 1::O) w'∧P6 d6 e0 g6 e2 g7 b0 d0 f7 g8 f k b) N ⟨(y6.1,y6.2.1,y6.2.2.1,y6.2.2.2.1,y6.2.2.2.2.1,y6.2.2.2.2.2.1,y6.2.2.2.2.2.2,([]:Tf)),q4,s3,q5,s4,q6,s5,q7,s6,none,0,m8,i,rfl,(q.t e6).t e7,g,t8,t9,u0,u1,(RepS.nil _ _)⟩ ?_);rintro k1 _ A6 ⟨b,e0,g6,e2,g7,b0,d0,f7,g8,f,k,d6,hL,rfl,q,g,o0,o9,q0,q1,p⟩;rcases k1 with _|k1
   ·exact qBj hL
   ·obtain⟨A3,i,q3,q2⟩:=qBi hL;clear hL;unfold qBv at i;refine qAs (W_sr ?_);have⟨B,i,J⟩:=qBa i;refine qDk (j:=17) (fun L' w'=>∃b5 d1 b6 d2 H R b7 d3 z,L'=[(2,vP u 0),(6,vP a 0),(52,vB B.1)]∧m.le z∧St z (kB a (Vb B.2 b5 d1 b6 d2 H R b7 d3) 106::kB u #[vT x.2,vS f b.2.2.2.2.2.2.2 k,vc] 25::kR f b.2.2.2.2.2.2.2 k 9 1::kR H B.2.2.2.2.2.2.1 R 73 5::O) w'∧RepS C5 z b5 d1 B.2.1∧RepS cStr z b6 d2 B.2.2.2.2.2.1∧RepS C2 z H R B.2.2.2.2.2.2.1∧RepS (cInt .i64) z b7 d3 B.2.2.2.2.2.2.2∧RepS cStr z f k b.2.2.2.2.2.2.2) ?_ ?_
    ·have i:=J;rintro _ A7 ⟨b5,d1,b6,d2,H,R,b7,d3,z,rfl,q,g,l7,l8,l9,n0,p⟩;refine WO_e (W_if i ?_ ?_)
     ·intro A i;refine qAq (qAf (qAw (qAs (W_sr (qCj 1 54 22 53 1 (vS f b.2.2.2.2.2.2.2 k) g.t.h (qAd 2 [(56,vB ((b.2.2.2.2.2.2.2.length:Int)==8))] ?_))))));have⟨y,i,j3⟩:=qBa i;refine qCg .normal (fun L' w'=>∃f8 h0 f9 h1 b8 d4 g0 h2 E,L'=[(2,vP u 0),(6,vP a 0)]∧m.le E∧St E (kB a (Vb y f8 h0 f9 h1 b8 d4 g0 h2) 106::kB u #[vT x.2,vS f b.2.2.2.2.2.2.2 k,vc] 25::kR f b.2.2.2.2.2.2.2 k 9 1::kR b8 y.2.2.2.2.2.1 d4 73 5::O) w'∧RepS C5 E f8 h0 y.1∧RepS cStr E f9 h1 y.2.2.2.2.1∧RepS C2 E b8 d4 y.2.2.2.2.2.1∧RepS (cInt .i64) E g0 h2 y.2.2.2.2.2.2∧RepS cStr E f k b.2.2.2.2.2.2.2) ?_ ?_
      ·have i:=j3;rintro _ A8 ⟨f8,h0,f9,h1,b8,d4,g0,h2,E,rfl,q,g,u2,u3,u4,u5,p⟩;refine qAf (W_sr (qAa 3 [(62,vP a 0),(64,vP a 1)] (qAb rfl (qBx 65 3 64 1 (vI y.2.1) g.h (qAa 3 [(66,vI (wr (y.2.1+1))),(68,vP a 1)] (qAb rfl (qDv 3 68 66 1 (vI (wr (y.2.1+1))) (Vc f8 y.1 h0 (wr (y.2.1+1)) y.2.2.1 y.2.2.2.1 f9 y.2.2.2.2.1 h1 b8 y.2.2.2.2.2.1 d4 g0 y.2.2.2.2.2.2 h2) g fun A9 g=>(WO_e (W_sr (qAa 1 [(69,vP a 0)] (qAp 70 i (fun _ h=>qAy (p0:=(y.1,wr (y.2.1+1),y.2.2.1,y.2.2.2.1,y.2.2.2.2.1,y.2.2.2.2.2.1,y.2.2.2.2.2.2)) g.f3.f1 u2 u3 u4 u5 h) ?_)))))))))));rintro h5 i _ B0 ⟨x9,z6,y0,z7,z0,z8,z1,z9,A0,rfl,n6,g,u6,u7,u9,v0⟩;refine qAd 2 [(7,vI h5.2.2.2.2)] (W_sr (qAa 1 [(72,vP a 0)] (qAp 73 i (fun _ h=>qFm (p0:=h5.1) g.f1.f1 u6 u7 u9 v0 h) ?_)));rintro s i _ B1 ⟨h6,k6,h7,k7,g1,h3,h8,k8,n9,rfl,n7,g,U,V,Y,Z⟩;have q:=(q.t n6).t n7;have p:=(p.mono n6).mono n7;refine qAd 1 [(8,vT s.2)] (qAs (W_sr ?_));have⟨o5,i,J⟩:=qBa i
       refine qDk (j:=17) (fun L' w'=>∃D,L'=[(2,vP u 0),(6,vP a 0),(7,vI h5.2.2.2.2),(8,vT s.2),(90,vB o5)]∧m.le D∧St D (kB a (Vb s.1 h6 k6 h7 k7 g1 h3 h8 k8) 106::kB u #[vT x.2,vS f b.2.2.2.2.2.2.2 k,vc] 25::kR g1 s.1.2.2.2.2.2.1 h3 73 5::kR f b.2.2.2.2.2.2.2 k 9 1::O) w'∧RepS C5 D h6 k6 s.1.1∧RepS cStr D h7 k7 s.1.2.2.2.2.1∧RepS C2 D g1 h3 s.1.2.2.2.2.2.1∧RepS (cInt .i64) D h8 k8 s.1.2.2.2.2.2.2∧RepS cStr D f k b.2.2.2.2.2.2.2) ?_ ?_
       ·have i:=J;rintro _ B2 ⟨D,rfl,q,g,U,V,Y,Z,p⟩;refine WO_e ?_;have⟨o6,i,j4⟩:=qBa i;refine qCg .normal (fun L' w'=>∃h9 l0 k3 l3 g2 h4 k4 l4 F,L'=[(2,vP u 0),(6,vP a 0),(8,vT s.2)]∧m.le F∧St F (kB a (Vb o6 h9 l0 k3 l3 g2 h4 k4 l4) 106::kB u #[vT x.2,vS f b.2.2.2.2.2.2.2 k,vc] 25::kR f b.2.2.2.2.2.2.2 k 9 1::kR g2 o6.2.2.2.2.2.1 h4 73 5::O) w'∧RepS C5 F h9 l0 o6.1∧RepS cStr F k3 l3 o6.2.2.2.2.1∧RepS C2 F g2 h4 o6.2.2.2.2.2.1∧RepS (cInt .i64) F k4 l4 o6.2.2.2.2.2.2∧RepS cStr F f k b.2.2.2.2.2.2.2) ?_ ?_
        ·have i:=j4;rintro _ B3 ⟨h9,l0,k3,l3,g2,h4,k4,l4,F,rfl,q,g,v2,v3,v4,v5,p⟩;refine qAf (W_sr (qAa 1 [(94,vP a 0)] (qAp 95 i (fun _ h=>qBr (p0:=o6) g.f3.f1 v2 v3 v4 v5 h) ?_)));rintro G i _ B4 ⟨q8,s7,q9,s8,r0,s9,s0,t0,A1,rfl,n8,g,v9,x0,x1,x2⟩;refine WO_e (qAl (qCj 1 97 22 96 1 (vS f b.2.2.2.2.2.2.2 k) g.t.t.h (qAa 1 [(98,vT s.2)] (qAb rfl (qBl (d:=99) (t:=22) (e:=9) (len:=1) (parts:= #[(0,(.tmp 98))]) cStr (xs:=[s.2]) [vT s.2] kr rfl (fun _=>qBn kr _) rfl rfl g ⟨[vT s.2],_,rfl,rfl,rfl⟩ fun b3 A2 B5 S g x3=>(qAb rfl (qGi 100 22 22 9 16 97 99 g.f4 (.inl kr) ((p.mono n8).mono S) x3.src i fun l1 i k5 l5 t3 B6 d5 g x4=>(qAa 1 [(101,vP u 1)] (qAb rfl (qDv 22 101 100 1 (vS k5 l1 l5) #[vT x.2,vS k5 l1 l5,vc] g.f4 fun B7 g=>(qAv rfl ?_)))))))))));have g:=g.f2.t;refine qBe ?_;obtain rfl:=sI i;have hL:=q3 _ rfl;exact xE (qCh k1 (jG _) ⟨(G.1,G.2.1,G.2.2.1,G.2.2.2.1,G.2.2.2.2.1,G.2.2.2.2.2.1,G.2.2.2.2.2.2,l1),q8,s7,q9,s8,r0,s9,s0,t0,k5,l5,t3,hL,rfl,((q.t n8).t S).t d5,g.f1.f3.f2.f3,(v9.mono S).mono d5,(x0.mono S).mono d5,(x1.mono S).mono d5,(x2.mono S).mono d5,x4⟩)
        ·intro G;refine W_if i ?_ ?_
         ·intro A i;refine qAl (qAa 2 [(91,vP a 0),(92,vI h5.2.2.2.2)] (qAp 93 i (fun _ h=>qBg (p0:=s.1) g.f2.f1 U V Y Z h) ?_));rintro v3 i _ v2 ⟨d5,q8,k5,q9,l5,r0,n8,s0,s7,rfl,S,g,s8,s9,t0,t3⟩;refine qAv rfl ?_;cases i;exact xE (G _ _ ⟨d5,q8,k5,q9,l5,r0,n8,s0,s7,rfl,q.t S,g.f1.f3.f3.f3,s8,s9,t0,t3,p.mono S⟩)
         ·intro A i;refine qAq ?_;cases i;exact xE (G _ _ ⟨h6,k6,h7,k7,g1,h3,h8,k8,D,rfl,q,g.f2.f3.f3.f3,U,V,Y,Z,p⟩)
       ·intro K;refine qCj 3 77 26 76 3 (vI s.1.2.2.2.1) g.h (qAa 2 [(79,vB (s.1.2.2.2.1==0))] (qCc 79 i ?_ ?_))
        ·intro A i;refine qAa 2 [(80,vT s.2),(81,vP u 0)] (qAb rfl (qBx 82 9 81 0 (vT x.2) g.t.t.h (qAa 2 [(84,vB (s.2.toList==x.2.toList))] (qCc 84 i ?_ ?_))))
         ·intro A i;refine qAa 6 [(90,vB true)] ?_;cases i;exact qAu _ kr (K _ _ ⟨n9,rfl,q,g.f3.f2.f3.f3,U,V,Y,Z,p⟩)
         ·intro A i;refine qCj 1 86 22 85 1 (vS f b.2.2.2.2.2.2.2 k) g.t.t.h (qAa 1 [(87,vT s.2)] (qAp 88 i (fun _ h=>qLl g p h) ?_));rintro S i _ d5 ⟨G,rfl,F,g⟩;refine qAa 2 [(90,vB S)] ?_;cases i;exact qAu _ kr (K _ _ ⟨G,rfl,q.t F,g.f3.f2.f3.f3,U.mono F,V.mono F,Y.mono F,Z.mono F,p.mono F⟩)
        ·intro A i;refine qAa 11 [(90,vB false)] ?_;cases i;exact qAu _ kr (K _ _ ⟨n9,rfl,q,g.f3.f2.f3.f3,U,V,Y,Z,p⟩)
      ·intro s;refine W_if i ?_ ?_
       ·intro A i;refine qAl (qAa 2 [(57,vP a 0),(58,vP a 0)] (qAp 59 i (fun _ h=>qAy (p0:=B.2) g.f3.f1 l7 l8 l9 n0 h) ?_));rintro y9 i _ n6 ⟨k4,k8,k5,l0,k6,l3,k7,l4,l5,rfl,D,g,h3,h4,h5,h6⟩;refine qAa 1 [(60,vI y9.2.2.2.2)] (qAp 61 i (fun _ h=>qBg (p0:=y9.1) g.f1.f1 h3 h4 h5 h6 h) ?_);rintro n8 i _ n7 ⟨G,Y,S,Z,U,d5,V,g1,g2,rfl,F,g,h7,h8,h9,k3⟩;refine qAv rfl ?_;cases i;exact xE (s _ _ ⟨G,Y,S,Z,U,d5,V,g1,g2,rfl,(q.t D).t F,g.f1.f3.f3.f3,h7,h8,h9,k3,(p.mono D).mono F⟩)
       ·intro A i;refine qAq ?_;cases i;exact xE (s _ _ ⟨b5,d1,b6,d2,H,R,b7,d3,z,rfl,q,g.f3.f3.f3.f3,l7,l8,l9,n0,p⟩)
     ·intro A i;refine qDi (qAg ?_);cases i;have ho:=q2 _ rfl;have g:=g.f2.f3.f3.f3;refine qAg ?_;exact xE (n5 _ _ ⟨(B.2.1,B.2.2.1,B.2.2.2.1,B.2.2.2.2.1,B.2.2.2.2.2.1,B.2.2.2.2.2.2.1,B.2.2.2.2.2.2.2,b.2.2.2.2.2.2.2),b5,d1,b6,d2,H,R,b7,d3,f,k,z,ho,rfl,q,g,l7,l8,l9,n0,p⟩)
    ·intro K;refine qCj 3 39 26 38 3 (vI b.2.2.2.1) g.h (qAa 2 [(41,vB (b.2.2.2.1==0))] (qCc 41 i ?_ ?_))
     ·intro A i;refine qAa 1 [(42,vP a 0)] (qAp 43 i (fun _ h=>qAy (p0:=(b.1,b.2.1,b.2.2.1,b.2.2.2.1,b.2.2.2.2.1,b.2.2.2.2.2.1,b.2.2.2.2.2.2.1)) g.f2.f1 o0 o9 q0 q1 h) ?_);rintro y7 i _ h8 ⟨G,d5,S,f8,U,f9,V,g0,h2,rfl,s,g,y,D,E,F⟩;refine qAa 4 [(47,vB (y7.2.1==1))] (qCc 47 i ?_ ?_)
      ·intro A i;refine qAa 1 [(48,vP a 0)] (qAp 49 i (fun _ h=>qAy (p0:=y7.1) g.f1.f1 y D E F h) ?_);rintro y8 i _ h9 ⟨Y,g1,Z,g2,b8,h0,d4,h1,h3,rfl,e9,g,h4,h5,h6,h7⟩;refine qAa 3 [(52,vB (y8.2.2.1.toList==bj.toList))] ?_;cases i;exact qAu _ kr (K _ _ ⟨Y,g1,Z,g2,b8,h0,d4,h1,h3,rfl,(q.t s).t e9,g.f1.f3.f3.f3,h4,h5,h6,h7,(p.mono s).mono e9⟩)
      ·intro A i;refine qAa 5 [(52,vB false)] ?_;cases i;exact qAu _ kr (K _ _ ⟨G,d5,S,f8,U,f9,V,g0,h2,rfl,q.t s,g.f1.f3.f3.f3,y,D,E,F,p.mono s⟩)
     ·intro A i;refine qAa 11 [(52,vB false)] ?_;cases i;exact qAu _ kr (K _ _ ⟨e0,g6,e2,g7,b0,d0,f7,g8,d6,rfl,q,g.f2.f3.f3.f3,o0,o9,q0,q1,p⟩)
  ·intro b;refine W_if i ?_ ?_
   ·intro A i;refine qAl (qAa 2 [(26,vP a 0),(27,vP a 0)] (qAp 28 i (fun _ h=>qAy (p0:=y2.1) g.f1.f1 r2 r3 r4 r5 h) ?_));rintro R i _ w7 ⟨Y,b5,Z,b6,a0,b7,b0,b8,m5,rfl,S,g,y,z,B,D⟩;refine qAa 1 [(29,vI R.2.2.2.2)] (qAp 30 i (fun _ h=>qBg (p0:=R.1) g.f1.f1 y z B D h) ?_);rintro y4 i _ w8 ⟨c,n,f,p,k,s,l,x,V,rfl,U,g,E,F,G,H⟩;refine qAv rfl ?_;cases i;exact xE (b _ _ ⟨c,n,f,p,k,s,l,x,V,rfl,((q.t e3).t S).t U,g.f1.f2.f2,E,F,G,H⟩)
   ·intro A i;refine qAq ?_;cases i;exact xE (b _ _ ⟨a2,c2,a3,c3,a4,c4,a5,c5,m3,rfl,q.t e3,g.f1.f2.f2,r2,r3,r4,r5⟩)
def qGg(N:Nat)(p0:Tn)(a:Te):Option Tv:=
 if(decide (a.2<(List.length p0.2.2:Int)))=true then((idx p0.2.2 a.2).bind fun b=>(qKw N b).bind fun b=>(catB a.1 b).bind fun b=>some (.inl (b,IntKind.wrap .i64 (a.2+1)))) else(some (.inr a.1))
def qJt(N:Nat)(p0:Tn):Option Te:=
 (qIt N p0).bind fun a=>if(a !=0)=true then(some ((⟨#[]⟩:ByteArray),a)) else((qKv N p0).bind fun a=>(qAt (qGg N p0) N (a,0)).bind fun a=>if(decide ((ByteArray.size a:Int)>16384))=true then(some ((⟨#[]⟩:ByteArray),2)) else((qKh N a).bind fun b=>if(b.2.2==2)=true then(some ((⟨#[]⟩:ByteArray),2)) else(some (a,0))))
theorem qSr{p0:Tn}{r:Te}(g:St m (O) w)(S:RepS cStr m a1 c1 p0.2.1)(b:RepS C3 m a2 c2 p0.2.2)(i:qJt N p0=some r):Calls Tryz.prog 10 #[.agg (V5 p0 a1 c1 a2 c2)] w fun e w'=>∃m',e= .returned (.tuple #[vT r.1,vI r.2])∧m.le m'∧St m' (O) w':=by
 unfold qJt at i;have q:=m.le_refl;refine W_cA Tryz.func10 rfl Tryz.ntmps10 ?_;refine W_sr (qAb rfl (qMl 1 25 0 (.agg (V5 p0 a1 c1 a2 c2)) g fun K m1 w1 k g l=> ?_));have b:=b.mono k;refine qAd 2 [] (qAs (W_sr (qEg 11 25 1 0 (.agg (V5 p0 a1 c1 a2 c2)) g l (qAp 12 i (fun _ h=>qOy (p0:=p0) g (S.mono k) b h) ?_))));rintro y i _ w2 ⟨m2,rfl,c,g⟩;refine qAd 1 [(4,vI y)] (W_sr (qAd 2 [(14,vB (y !=0))] (W_if i ?_ ?_)))
 ·intro A i;refine W_sr (qAd 3 [(2,vT eB),(3,vI y)] (qBd (qAc ?_)));obtain rfl:=sI i;exact X_rt [2,3] [vT eB,vI y] ⟨m2,rfl,(q.t k).t c,g⟩
 ·intro A i;refine qAq (qAf (W_sr (qEg 16 25 1 0 (.agg (V5 p0 a1 c1 a2 c2)) g (l.mono c) (qAp 17 i (fun _ h=>qUx (p0:=p0) g ((S.mono k).mono c) (b.mono c) h) ?_))));rintro V i _ w3 ⟨m3,rfl,F,g⟩;refine qAd 1 [(5,vT V)] (qAs (W_sr (qAa 1 [(18,vP K 2)] (qAb rfl (qAr (d:=19) (t:=23) (x:=(.tmp 18)) (vS a2 p0.2.2 c2) kr rfl (ev (vP K 2)) g (((l.mono c).mono F).drop 2) kr (qAd 2 [(20,vI (p0.2.2.length:Int)),(21,vI 0)] (qAw ?_)))))));have⟨p,i,Z⟩:=qBa i;refine qCg (.exit 0) (fun L' w'=>∃(f:ByteArray),∃u,f=p∧L'=[(5,vT f)]∧m.le u∧St u (O) w') ?_ ?_
  ·rintro _ R ⟨f,u,rfl,rfl,q,g⟩;have i:=Z;refine qBh (qAf (qAs (W_sr (qAd 3 [(32,vB (decide ((f.size:Int)>16384)))] (W_if i ?_ ?_)))))
   ·intro A i;refine W_sr (qAd 2 [(2,vT eB),(3,vI 2)] (qBd (qAc ?_)));cases i;exact X_rt [2,3] [vT eB,vI 2] ⟨u,rfl,q,g⟩
   ·intro A i;refine qAq (qAf (qAs (W_sr (qAa 1 [(34,vT f)] (qAp 35 i (fun _ h=>qTr g h) ?_)))));rintro a i _ U ⟨n,s,o,v,B,rfl,z,g,H,M⟩;refine qAa 4 [(36,.agg (V5 a.1 n s o v)),(37,vI a.2.1),(38,vI a.2.2)] (qAb rfl (qEh 8 25 (.agg #[vT eB,v6,v6]) g fun G D g=>(qAb rfl (qCm 25 8 36 (.agg (V5 a.1 n s o v)) g fun E g=>(qAd 2 [(10,vI a.2.2)] (W_sr (qAd 2 [(40,vB (a.2.2==2))] (W_if i ?_ ?_))))))))
    ·intro A i;refine W_sr (qAd 2 [(2,vT eB),(3,vI 2)] (qBd (qAc ?_)));cases i;exact X_rt [2,3] [vT eB,vI 2] ⟨B,rfl,q.t z,g.t.t.t⟩
    ·intro A i;refine qAq (qAf (W_sr (qAd 3 [(2,vT f),(3,vI 0)] (qBd ?_))));obtain rfl:=sI i;exact X_rt [2,3] [vT f,vI 0] ⟨B,rfl,q.t z,g.t.t.t⟩
  intro s;refine qGm _ kr (qDl (fun n L' w'=>∃(a:Te),∃o,qAt (qGg N p0) n a=some p∧L'=[(5,vT a.1),(19,vS a2 p0.2.2 c2),(20,vI (p0.2.2.length:Int)),(21,vI a.2)]∧m.le o∧St o (O) w'∧RepS C3 o a2 c2 p0.2.2) N ⟨(V,0),m3,i,rfl,((q.t k).t c).t F,g,(b.mono c).mono F⟩ ?_);rintro n _ w5 ⟨a,o,hL,rfl,q,g,b⟩;rcases n with _|n
  ·exact qBj hL
  ·obtain⟨a7,i,H,G⟩:=qBi hL;clear hL;unfold qGg at i;refine W_sr (qAd 1 [(22,vB (decide (a.2<(p0.2.2.length:Int))))] (qAs (W_if i ?_ ?_)))
   ·intro A i;refine qAq (qAf (qAs (qAw (W_sr (qAb rfl (qDc 23 23 48 19 21 b i ?_))))));rintro v i b2 Y a0 ⟨_,_,rfl,rfl,⟨_,_,rfl,rfl,⟨_,_,rfl,⟨z,D,rfl,r3⟩,⟨B,E,rfl,r4⟩⟩⟩⟩ R;refine qEg 24 48 23 Y (.agg (V3 v z D B E)) g R (qAb rfl (qEh 7 48 (.agg #[vI 0,vT eB,v6,v6]) g fun b3 w6 g=>(qAb rfl (qCm 48 7 24 (.agg (V3 v z D B E)) g fun w7 g=>(WO_e (qAl (qAa 1 [(25,vT a.1)] (qAb rfl (qBx 26 48 7 0 (.agg (V3 v z D B E)) g.h (qAp 27 i (fun _ h=>qUn (p0:=v) g r3 r4 h) ?_))))))))));rintro y3 i _ w8 ⟨m6,rfl,M,g⟩;refine qAb rfl (qEj 28 9 9 25 27 i fun U i=>(qAa 1 [(5,vT U)] (qAv rfl (qBe (qAf (qAl (qAa 2 [(21,vI (wr (a.2+1)))] (qAv rfl ?_))))))));obtain rfl:=sI i;have hL:=H _ rfl;exact xE (qCh n (jG _) ⟨(U,wr (a.2+1)),m6,hL,rfl,q.t M,g.t,b.mono M⟩)
   ·intro A i;refine qDi (qAg ?_);cases i;have ho:=G _ rfl;refine qAg ?_;exact xE (s _ _ ⟨a.1,o,ho,rfl,q,g⟩)
def qNc(N:Nat)(p0:ByteArray)(p1:Int):Td:=
 (qDx N p0 p1).bind fun a=>some a
theorem qVv{p0:ByteArray}{p1:Int}{r:Int}(g:St m (O) w)(i:qNc N p0 p1=some r):Calls Tryz.prog 93 #[vT p0,.int .u8 p1] w fun e w'=>∃m',e= .returned (vI r)∧m.le m'∧St m' (O) w':=by
 unfold qNc at i;have q:=m.le_refl;refine W_cA Tryz.func93 rfl Tryz.ntmps93 ?_;refine W_sr (qAd 1 [] (W_sr (qAa 2 [(5,vT p0),(6,.int .u8 p1)] (qAp 7 i (fun _ h=>qLa g h) ?_))));rintro a i _ d ⟨c,rfl,b,g⟩;refine qAd 1 [(4,vI a)] (qBd ?_);obtain rfl:=sI i;exact X_rt [4] [vI a] ⟨c,rfl,q.t b,g⟩
def qGs(N:Nat)(p0:ByteArray)(p1:ByteArray):Tc:=
 (if(decide ((ByteArray.size p0:Int)≥(ByteArray.size p1:Int)))=true then((subB p0 0 (ByteArray.size p1:Int)).bind fun a=>some (a.toList==p1.toList)) else(some false):Tc).bind fun a=>some a
theorem qOo{p0:ByteArray}{p1:ByteArray}{r:Bool}(g:St m (O) w)(i:qGs N p0 p1=some r):Calls Tryz.prog 153 #[vT p0,vT p1] w fun e w'=>∃m',e= .returned (vB r)∧m.le m'∧St m' (O) w':=by
 unfold qGs at i;have q:=m.le_refl;refine W_cA Tryz.func153 rfl Tryz.ntmps153 ?_;refine W_sr (qAd 1 [] (W_sr ?_));have⟨b,i,J⟩:=qBa i;refine qDk (j:=14) (fun L' w'=>∃a,L'=[(4,vB b)]∧m.le a∧St a (O) w') ?_ ?_
 ·have i:=J;rintro _ c ⟨a,rfl,q,g⟩;refine WO_e (qBd ?_);obtain rfl:=sI i;exact X_rt [4] [vB b] ⟨a,rfl,q,g⟩
 ·intro K;refine qAa 6 [(10,vB (decide ((p0.size:Int)≥(p1.size:Int))))] (qCc 10 i ?_ ?_)
  ·intro A i;refine qAa 3 [(11,vT p0),(13,vI (p1.size:Int))] ?_;have⟨f,c,i⟩:=qBa i;refine qAb rfl (qGy (d:=14) (t:=9) (x:=(.tmp 11)) (lo:=none) (hi:=(some (.tmp 13))) kr rfl (ev (vT p0)) kr (.inl ⟨rfl,rfl⟩) (.inr ⟨_,_,rfl,(ev (vI (p1.size:Int)))⟩) c (qAa 4 [(4,vB (f.toList==p1.toList))] ?_));cases i;exact qAu _ kr (K _ _ ⟨m,rfl,q,g⟩)
  ·intro A i;refine qAa 8 [(4,vB false)] ?_;cases i;exact qAu _ kr (K _ _ ⟨m,rfl,q,g⟩)
def qLo(N:Nat)(p0:ByteArray)(p1:ByteArray):Tc:=
 (qGs N p0 p1).bind fun a=>some a
theorem qVu{p0:ByteArray}{p1:ByteArray}{r:Bool}(g:St m (O) w)(i:qLo N p0 p1=some r):Calls Tryz.prog 130 #[vT p0,vT p1] w fun e w'=>∃m',e= .returned (vB r)∧m.le m'∧St m' (O) w':=by
 unfold qLo at i;have q:=m.le_refl;refine W_cA Tryz.func130 rfl Tryz.ntmps130 ?_;refine W_sr (qAd 1 [] (W_sr (qAa 2 [(5,vT p0),(6,vT p1)] (qAp 7 i (fun _ h=>qOo g h) ?_))));rintro a i _ d ⟨c,rfl,b,g⟩;refine qAd 1 [(4,vB a)] (qBd ?_);obtain rfl:=sI i;exact X_rt [4] [vB a] ⟨c,rfl,q.t b,g⟩
def qLd(N:Nat)(b:T7)(a:T8):Option (T8⊕Int):=
 if(decide (a.2<(List.length b:Int)))=true then((idx b a.2).bind fun b=>some (.inl (if 9007199254740993<(IntKind.wrap .i64 ((IntKind.wrap .i64 (10*a.1))+(IntKind.wrap .i64 (IntKind.wrap .u8 ((b.toNat:Int)-48))))) then 9007199254740993 else(IntKind.wrap .i64 ((IntKind.wrap .i64 (10*a.1))+(IntKind.wrap .i64 (IntKind.wrap .u8 ((b.toNat:Int)-48))))),IntKind.wrap .i64 (a.2+1)))) else(some (.inr a.1))
def qIw(N:Nat)(p0:ByteArray)(p1:Int)(a:Int):Option (Int⊕Unit⊕Tx):=
 (if(decide (a<(ByteArray.size p0:Int)))=true then((idxB p0 a).bind fun b=>if(decide ((b.toNat:Int)≥32))=true then((idxB p0 a).bind fun b=>some (decide ((b.toNat:Int)≤126))) else(some false)) else(some false):Tc).bind fun b=>if b=true then((idxB p0 a).bind fun b=>if((b.toNat:Int)==34)=true then((subB p0 (IntKind.wrap .i64 (p1+1)) a).bind fun b=>some (.inr (.inr (((3,b,0,0),IntKind.wrap .i64 (a+1),0))))) else(some (.inl (IntKind.wrap .i64 (a+1))))) else(some (.inr (.inl ())))
def qRc(N:Nat)(p0:ByteArray)(p1:Int)(p2:T9):Option Tx:=
 (idxB p0 p1).bind fun a=>if(((qGe p2 (a.toNat:Int)).getD 0)==1)=true then((qMg N p0 p1 p2 ([(1:Int),2,3])).bind fun b=>if(decide ((IntKind.wrap .i64 (b-p1))>24))=true then(some ((0,(⟨#[]⟩:ByteArray),0,0),0,2)) else((subB p0 p1 b).bind fun c=>some ((1,c,0,0),b,0))) else(if(((qGe p2 (a.toNat:Int)).getD 0)==2)=true then((qMg N p0 p1 p2 ([(2:Int)])).bind fun c=>(subB p0 p1 c).bind fun b=>(qUo b).bind fun b=>(qAt (qLd N b) N (0,0)).bind fun b=>if(decide (b>9007199254740992))=true then(some ((0,(⟨#[]⟩:ByteArray),0,0),0,3)) else(some ((2,(⟨#[]⟩:ByteArray),b,0),c,0))) else(if(((qGe p2 (a.toNat:Int)).getD 0)==7)=true then((qAt (qIw N p0 p1) N (IntKind.wrap .i64 (p1+1))).bind fun b=>(match b with| .inl b=>some ((0,(⟨#[]⟩:ByteArray),0,0),0,9)| .inr (z)=>some z)) else(if(((qGe p2 (a.toNat:Int)).getD 0)==8)=true then((subB p0 p1 (ByteArray.size p0:Int)).bind fun a=>(qLo N a (⟨#[61,61]⟩:ByteArray)).bind fun a=>(if a=true then(some (IntKind.wrap .i64 ((IntKind.wrap .i64 (p1+1))+1))) else(some (IntKind.wrap .i64 (p1+1))):Td).bind fun a=>(subB p0 p1 a).bind fun b=>some ((4,b,0,0),a,0)) else(some ((0,(⟨#[]⟩:ByteArray),0,0),0,9)))))
theorem zBq{p0:ByteArray}{p1:Int}{p2:T9}{f:Option Nat}{b:Array MapEntry}{a:Nat}{r:Tx}(g:St m (qEf f b a::O) w)(l:MapQ (fun n:Int=>Value.int .u8 n) (cInt .i64) false m f b a p2)(i:qRc N p0 p1 p2=some r):Calls Tryz.prog 94 #[vT p0,vI p1,.map f] w fun e w'=>∃m',e= .returned (.tuple #[.agg (V8 r.1),vI r.2.1,vI r.2.2])∧m.le m'∧St m' (qEf f b a::O) w':=by
 unfold qRc at i;have q:=m.le_refl;refine W_cA Tryz.func94 rfl Tryz.ntmps94 ?_;refine W_sr (qAb rfl (qEh 6 109 (.agg (V9 0 eB 0 0)) g fun s w1 g=>(qAd 2 [] (qAs (W_sr (qAa 3 [(16,.map f),(17,vT p0),(18,vI p1)] (qAb rfl (qHj 19 9 17 18 i fun G i=>(qAb rfl (qPa (ek:=(fun n:Int=>Value.int .u8 n)) (c:=(cInt .i64)) (agg:=false) (k:=(G.toNat:Int)) (zx:=0) (zcs:=[vI 0]) (z:=(vI 0)) (kt:=5) (et:=3) (d:=20) (t:=125) (x:=(.tmp 16)) (y:=(.tmp 19)) (ok:=false) kr rfl (ev (.map f)) (ev (.int .u8 (G.toNat:Int))) kr (qMb kr) g.t.h l rfl rfl ?_))))))))));rintro a7 rfl;refine WO_e (qAw (W_sr (qAd 2 [(21,vB (((qGe p2 (G.toNat:Int)).getD 0)==1))] (W_if i ?_ ?_))))
 ·intro A i;refine W_sr (qAa 3 [(23,vT p0),(24,vI p1),(25,.map f)] (qAb rfl (qBl (d:=26) (t:=32) (e:=3) (len:=3) (parts:= #[(0,(.const (vI 1))),(1,(.const (vI 2))),(2,(.const (vI 3)))]) (cInt .i64) (xs:=[(1:Int),2,3]) [vI 1,vI 2,vI 3] kr rfl (fun _=>qBn kr _) rfl rfl g ⟨[vI 1],_,rfl,rfl,⟨[vI 2],_,rfl,rfl,⟨[vI 3],_,rfl,rfl,rfl⟩⟩⟩ fun M R S B g H=>(qAp 27 i (fun _ h=>qNz g.f2 (l.mono B) H h) ?_))));rintro p i _ U ⟨E,rfl,D,g⟩;refine qAa 1 [(9,vI p)] (qAv rfl ?_);have g:=g.f1.t;refine qAf (qAs (W_sr (qAd 4 [(31,vB (decide ((wr (p-p1))>24)))] (W_if i ?_ ?_))))
  ·intro A i;refine W_sr (qAa 1 [(32,.agg (V9 0 eB 0 0))] (qAb rfl (qCm 109 6 32 (.agg (V9 0 eB 0 0)) g.f1 fun u g=>(qAd 2 [(7,vI 0),(8,vI 2)] (qBd (qAc (qAe (qAc ?_))))))));cases i;exact qMn [.cell 6 109,.tmp 7,.tmp 8] [.agg (V9 0 eB 0 0),vI 0,vI 2] rfl (ResAll.cons (ResAt.blk (v:= .agg (V9 0 eB 0 0)) (o:=0) kr g.h kr) (ResAll.cons (ResAt.tmp kr) (ResAll.cons (ResAt.tmp kr) ResAll.nil))) ⟨E,rfl,(q.t B).t D,g.t⟩
  ·intro A i;refine qAq (qAf (W_sr (qAa 3 [(33,vT p0),(34,vI p1),(35,vI p)] ?_)));have⟨u,F,i⟩:=qBa i;refine qAb rfl (qGy (d:=36) (t:=9) (x:=(.tmp 33)) (lo:=(some (.tmp 34))) (hi:=(some (.tmp 35))) kr rfl (ev (vT p0)) kr (.inr ⟨_,_,rfl,(ev (vI p1))⟩) (.inr ⟨_,_,rfl,(ev (vI p))⟩) F (qAa 2 [(37,.agg (V9 1 u 0 0)),(38,vI p)] (qAb rfl (qCm 109 6 37 (.agg (V9 1 u 0 0)) g.f1 fun V g=>(qAd 2 [(7,vI p),(8,vI 0)] (qBd (qAe (qAc ?_))))))));obtain rfl:=sI i;exact qMn [.cell 6 109,.tmp 7,.tmp 8] [.agg (V9 1 u 0 0),vI p,vI 0] rfl (ResAll.cons (ResAt.blk (v:= .agg (V9 1 u 0 0)) (o:=0) kr g.h kr) (ResAll.cons (ResAt.tmp kr) (ResAll.cons (ResAt.tmp kr) ResAll.nil))) ⟨E,rfl,(q.t B).t D,g.t⟩
 ·intro A i;refine W_sr (qAd 2 [(39,vB (((qGe p2 (G.toNat:Int)).getD 0)==2))] (W_if i ?_ ?_))
  ·intro A i;refine W_sr (qAa 3 [(41,vT p0),(42,vI p1),(43,.map f)] (qAb rfl (qBl (d:=44) (t:=32) (e:=3) (len:=1) (parts:= #[(0,(.const (vI 2)))]) (cInt .i64) (xs:=[(2:Int)]) [vI 2] kr rfl (fun _=>qBn kr _) rfl rfl g ⟨[vI 2],_,rfl,rfl,rfl⟩ fun b3 m3 w6 V g r3=>(qAp 45 i (fun _ h=>qNz g.f2 (l.mono V) r3 h) ?_))));rintro B i _ w7 ⟨m4,rfl,e4,g⟩;refine qAa 1 [(10,vI B)] (qAv rfl ?_);have g:=g.f1.t;refine qAf (W_sr (qAd 1 [(11,vI 0)] (qAs (W_sr (qAa 3 [(46,vT p0),(47,vI p1),(48,vI B)] ?_)))));have⟨s2,d5,i⟩:=qBa i;refine qAb rfl (qGy (d:=49) (t:=9) (x:=(.tmp 46)) (lo:=(some (.tmp 47))) (hi:=(some (.tmp 48))) kr rfl (ev (vT p0)) kr (.inr ⟨_,_,rfl,(ev (vI p1))⟩) (.inr ⟨_,_,rfl,(ev (vI B))⟩) d5 ?_);have⟨E,d6,i⟩:=qBa i;refine qAb rfl (qYj (d:=50) (t1:=9) (t2:=58) (e:=5) (x:=(.tmp 49)) kr rfl (ev (vT s2)) kr kr g d6 fun b4 c1 m5 w8 e5 g U=>(qAd 2 [(51,vI (E.length:Int)),(52,vI 0)] (qAw ?_)));have⟨R,i,j1⟩:=qBa i;refine qCg (.exit 1) (fun L' w'=>∃(u:Int),∃F,u=R∧L'=[(6,vP s 0),(10,vI B),(11,vI u)]∧m.le F∧St F (kB s (V9 0 eB 0 0) 109::qEf f b a::O) w'∧MapQ (fun n:Int=>Value.int .u8 n) (cInt .i64) false F f b a p2) ?_ ?_
   ·rintro _ D ⟨u,F,rfl,rfl,q,g,l⟩;have i:=j1;refine qBh (qAf (qAs (W_sr (qAd 2 [(65,vB (decide (u>9007199254740992)))] (W_if i ?_ ?_)))))
    ·intro A i;refine W_sr (qAa 1 [(66,.agg (V9 0 eB 0 0))] (qAb rfl (qCm 109 6 66 (.agg (V9 0 eB 0 0)) g fun p g=>(qAd 2 [(7,vI 0),(8,vI 3)] (qBd (qAc (qAe (qAc ?_))))))));cases i;exact qMn [.cell 6 109,.tmp 7,.tmp 8] [.agg (V9 0 eB 0 0),vI 0,vI 3] rfl (ResAll.cons (ResAt.blk (v:= .agg (V9 0 eB 0 0)) (o:=0) kr g.h kr) (ResAll.cons (ResAt.tmp kr) (ResAll.cons (ResAt.tmp kr) ResAll.nil))) ⟨F,rfl,q,g.t⟩
    ·intro A i;refine qAq (qAf (W_sr (qAa 3 [(68,.agg (V9 2 eB u 0)),(69,vI B)] (qAb rfl (qCm 109 6 68 (.agg (V9 2 eB u 0)) g fun p g=>(qAd 2 [(7,vI B),(8,vI 0)] (qBd (qAe (qAc ?_)))))))));obtain rfl:=sI i;exact qMn [.cell 6 109,.tmp 7,.tmp 8] [.agg (V9 2 eB u 0),vI B,vI 0] rfl (ResAll.cons (ResAt.blk (v:= .agg (V9 2 eB u 0)) (o:=0) kr g.h kr) (ResAll.cons (ResAt.tmp kr) (ResAll.cons (ResAt.tmp kr) ResAll.nil))) ⟨F,rfl,q,g.t⟩
   intro S;refine qGm _ kr (qDl (fun M L' w'=>∃(p:T8),∃D,qAt (qLd N E) M p=some R∧L'=[(6,vP s 0),(10,vI B),(11,vI p.1),(50,vS (aP b4) E c1),(51,vI (E.length:Int)),(52,vI p.2)]∧m.le D∧St D (kB s (V9 0 eB 0 0) 109::qEf f b a::O) w'∧RepS cU8 D (aP b4) c1 E∧MapQ (fun n:Int=>Value.int .u8 n) (cInt .i64) false D f b a p2) N ⟨(0,0),m5,i,rfl,((q.t V).t e4).t e5,g.f1,U,((l.mono V).mono e4).mono e5⟩ ?_);rintro M _ b0 ⟨p,D,hL,rfl,q,g,U,l⟩;rcases M with _|M
   ·exact qBj hL
   ·obtain⟨a9,i,Z,Y⟩:=qBi hL;clear hL;unfold qLd at i;refine W_sr (qAd 1 [(53,vB (decide (p.2<(E.length:Int))))] (qAs (W_if i ?_ ?_)))
    ·intro A i;refine qAq (qAf (qAs (qAw (W_sr (qAb rfl (qDc 54 58 5 50 52 U i ?_))))));rintro H i b5 f1 a8 rfl a0;refine qEg 55 5 54 f1 (.int .u8 (H.toNat:Int)) g a0 (qAd 1 [(13,.int .u8 (H.toNat:Int))] (qAl (qAa 8 [(11,vI (if 9007199254740993<(wr ((wr (10*p.1))+(wr (IntKind.wrap .u8 ((H.toNat:Int)-48))))) then 9007199254740993 else(wr ((wr (10*p.1))+(wr (IntKind.wrap .u8 ((H.toNat:Int)-48)))))))] (qAv rfl (qBe (qAf (qAl (qAa 2 [(52,vI (wr (p.2+1)))] (qAv rfl ?_)))))))));obtain rfl:=sI i;have hL:=Z _ rfl;exact xE (qCh M (jG _) ⟨(if 9007199254740993<(wr ((wr (10*p.1))+(wr (IntKind.wrap .u8 ((H.toNat:Int)-48))))) then 9007199254740993 else(wr ((wr (10*p.1))+(wr (IntKind.wrap .u8 ((H.toNat:Int)-48))))),wr (p.2+1)),D,hL,rfl,q,g.f1.f1,U,l⟩)
    ·intro A i;refine qDi (qAg ?_);cases i;have ho:=Y _ rfl;have g:=g.f1.f1;refine qAg ?_;exact xE (S _ _ ⟨p.1,D,ho,rfl,q,g,l⟩)
  ·intro A i;refine W_sr (qAd 2 [(70,vB (((qGe p2 (G.toNat:Int)).getD 0)==7))] (W_if i ?_ ?_))
   ·intro A i;refine qAs (W_sr (qAd 3 [(14,vI (wr (p1+1)))] (qAw ?_)));have⟨H,i,V⟩:=qBa i;refine qCg (.exit 3) (fun L' w'=>∃(Y:Unit),∃F,(.inl Y)=H∧L'=[(6,vP s 0)]∧m.le F∧St F (kB s (V9 0 eB 0 0) 109::qEf f b a::O) w'∧MapQ (fun n:Int=>Value.int .u8 n) (cInt .i64) false F f b a p2) ?_ ?_
    ·rintro _ p ⟨Y,F,rfl,rfl,q,g,l⟩;have i:=V;refine qBh (qAf (W_sr (qAa 1 [(104,.agg (V9 0 eB 0 0))] (qAb rfl (qCm 109 6 104 (.agg (V9 0 eB 0 0)) g fun u g=>(qAd 2 [(7,vI 0),(8,vI 9)] (qBd (qAe (qAc ?_)))))))));cases i;exact qMn [.cell 6 109,.tmp 7,.tmp 8] [.agg (V9 0 eB 0 0),vI 0,vI 9] rfl (ResAll.cons (ResAt.blk (v:= .agg (V9 0 eB 0 0)) (o:=0) kr g.h kr) (ResAll.cons (ResAt.tmp kr) (ResAll.cons (ResAt.tmp kr) ResAll.nil))) ⟨F,rfl,q,g.t⟩
    intro M;refine qGm _ kr (qDl (fun E L' w'=>∃(p:Int),∃B,qAt (qIw N p0 p1) E p=some H∧L'=[(0,vT p0),(1,vI p1),(6,vP s 0),(14,vI p)]∧m.le B∧St B (kB s (V9 0 eB 0 0) 109::qEf f b a::O) w'∧MapQ (fun n:Int=>Value.int .u8 n) (cInt .i64) false B f b a p2) N ⟨wr (p1+1),m,i,rfl,q,g.f1.f1,l⟩ ?_);rintro E _ a8 ⟨p,B,hL,rfl,q,g,l⟩;rcases E with _|E
    ·exact qBj hL
    ·obtain⟨a0,i,S,D⟩:=qBi hL;clear hL;unfold qIw at i;refine qAs (W_sr ?_);have⟨Z,i,J⟩:=qBa i;refine qDk (j:=16) (fun L' w'=>∃u,L'=[(0,vT p0),(1,vI p1),(6,vP s 0),(14,vI p),(89,vB Z)]∧m.le u∧St u (kB s (V9 0 eB 0 0) 109::qEf f b a::O) w'∧MapQ (fun n:Int=>Value.int .u8 n) (cInt .i64) false u f b a p2) ?_ ?_
     ·have i:=J;rintro _ a9 ⟨u,rfl,q,g,l⟩;refine WO_e (W_if i ?_ ?_)
      ·intro A i;refine qAq (qAf (qAs (qAw (W_sr (qAa 2 [(92,vT p0),(93,vI p)] (qAb rfl (qHj 94 9 92 93 i fun x5 i=>(qAd 1 [(95,vB ((x5.toNat:Int)==34))] (W_if i ?_ ?_)))))))))
       ·intro A i;refine W_sr (qAa 4 [(96,vT p0),(98,vI (wr (p1+1))),(99,vI p)] ?_);have⟨R,U,i⟩:=qBa i;refine qAb rfl (qGy (d:=100) (t:=9) (x:=(.tmp 96)) (lo:=(some (.tmp 98))) (hi:=(some (.tmp 99))) kr rfl (ev (vT p0)) kr (.inr ⟨_,_,rfl,(ev (vI (wr (p1+1))))⟩) (.inr ⟨_,_,rfl,(ev (vI p))⟩) U (qAa 3 [(101,.agg (V9 3 R 0 0)),(103,vI (wr (p+1)))] (qAb rfl (qCm 109 6 101 (.agg (V9 3 R 0 0)) g fun b0 g=>(qAd 2 [(7,vI (wr (p+1))),(8,vI 0)] (qBd (qAe (qAc ?_))))))));obtain rfl:=sI i;have ho:=D _ rfl;subst ho;have i:=V;refine qAc (qAe (qAc (qAe (qAc ?_))));obtain rfl:=sI i;exact qMn [.cell 6 109,.tmp 7,.tmp 8] [.agg (V9 3 R 0 0),vI (wr (p+1)),vI 0] rfl (ResAll.cons (ResAt.blk (v:= .agg (V9 3 R 0 0)) (o:=0) kr g.h kr) (ResAll.cons (ResAt.tmp kr) (ResAll.cons (ResAt.tmp kr) ResAll.nil))) ⟨u,rfl,q,g.t⟩
       ·intro A i;refine qAq (qBe (qAf (qAl (qAa 3 [(14,vI (wr (p+1)))] (qAv rfl ?_)))));obtain rfl:=sI i;have hL:=S _ rfl;exact xE (qCh E (jG _) ⟨wr (p+1),u,hL,rfl,q,g.f1.f1,l⟩)
      ·intro A i;refine qDi (qAg ?_);cases i;have ho:=D _ rfl;have g:=g.f1.f1;refine qAg ?_;exact xE (M _ _ ⟨(),u,ho,rfl,q,g,l⟩)
     ·intro K;refine qAa 5 [(78,vB (decide (p<(p0.size:Int))))] (qCc 78 i ?_ ?_)
      ·intro A i;refine qAa 2 [(79,vT p0),(80,vI p)] (qAb rfl (qHj 81 9 79 80 i fun R i=>(qAa 3 [(84,vB (decide ((R.toNat:Int)≥32)))] (qCc 84 i ?_ ?_))))
       ·intro A i;refine qAa 2 [(85,vT p0),(86,vI p)] (qAb rfl (qHj 87 9 85 86 i fun U i=>(qAa 2 [(89,vB (decide ((U.toNat:Int)≤126)))] ?_)));cases i;exact qAu _ kr (K _ _ ⟨B,rfl,q,g.f1.f1,l⟩)
       ·intro A i;refine qAa 5 [(89,vB false)] ?_;cases i;exact qAu _ kr (K _ _ ⟨B,rfl,q,g.f1.f1,l⟩)
      ·intro A i;refine qAa 11 [(89,vB false)] ?_;cases i;exact qAu _ kr (K _ _ ⟨B,rfl,q,g.f1.f1,l⟩)
   ·intro A i;refine W_sr (qAd 2 [(105,vB (((qGe p2 (G.toNat:Int)).getD 0)==8))] (W_if i ?_ ?_))
    ·intro A i;refine W_sr (qAd 3 [(15,vI (wr (p1+1)))] (qAs (W_sr (qAa 2 [(109,vT p0),(110,vI p1)] ?_))));have⟨V,F,i⟩:=qBa i;refine qAb rfl (qGy (d:=111) (t:=9) (x:=(.tmp 109)) (lo:=(some (.tmp 110))) (hi:=none) kr rfl (ev (vT p0)) kr (.inr ⟨_,_,rfl,(ev (vI p1))⟩) (.inl ⟨rfl,rfl⟩) F (qAp 112 i (fun _ h=>qVu g h) ?_));rintro Y i _ R ⟨E,rfl,B,g⟩;refine WO_e ?_;have⟨u,i,M⟩:=qBa i;refine qCg .normal (fun L' w'=>∃p,L'=[(0,vT p0),(1,vI p1),(6,vP s 0),(15,vI u)]∧m.le p∧St p (kB s (V9 0 eB 0 0) 109::qEf f b a::O) w'∧MapQ (fun n:Int=>Value.int .u8 n) (cInt .i64) false p f b a p2) ?_ ?_
     ·have i:=M;rintro _ S ⟨p,rfl,q,g,l⟩;refine qAf (W_sr (qAa 3 [(115,vT p0),(116,vI p1),(117,vI u)] ?_));have⟨D,H,i⟩:=qBa i;refine qAb rfl (qGy (d:=118) (t:=9) (x:=(.tmp 115)) (lo:=(some (.tmp 116))) (hi:=(some (.tmp 117))) kr rfl (ev (vT p0)) kr (.inr ⟨_,_,rfl,(ev (vI p1))⟩) (.inr ⟨_,_,rfl,(ev (vI u))⟩) H (qAa 2 [(119,.agg (V9 4 D 0 0)),(120,vI u)] (qAb rfl (qCm 109 6 119 (.agg (V9 4 D 0 0)) g fun U g=>(qAd 2 [(7,vI u),(8,vI 0)] (qBd (qAe (qAc ?_))))))));obtain rfl:=sI i;exact qMn [.cell 6 109,.tmp 7,.tmp 8] [.agg (V9 4 D 0 0),vI u,vI 0] rfl (ResAll.cons (ResAt.blk (v:= .agg (V9 4 D 0 0)) (o:=0) kr g.h kr) (ResAll.cons (ResAt.tmp kr) (ResAll.cons (ResAt.tmp kr) ResAll.nil))) ⟨p,rfl,q,g.t⟩
     ·intro D;refine W_if i ?_ ?_
      ·intro A i;refine qAl (qAa 3 [(15,vI (wr ((wr (p1+1))+1)))] (qAv rfl ?_));cases i;exact xE (D _ _ ⟨E,rfl,q.t B,g.f1.f1,l.mono B⟩)
      ·intro A i;refine qAq ?_;cases i;exact xE (D _ _ ⟨E,rfl,q.t B,g.f1.f1,l.mono B⟩)
    ·intro A i;refine qAq (qBe (qAf (W_sr (qAa 1 [(121,.agg (V9 0 eB 0 0))] (qAb rfl (qCm 109 6 121 (.agg (V9 0 eB 0 0)) g fun p g=>(qAd 2 [(7,vI 0),(8,vI 9)] (qBd ?_))))))));cases i;exact qMn [.cell 6 109,.tmp 7,.tmp 8] [.agg (V9 0 eB 0 0),vI 0,vI 9] rfl (ResAll.cons (ResAt.blk (v:= .agg (V9 0 eB 0 0)) (o:=0) kr g.h kr) (ResAll.cons (ResAt.tmp kr) (ResAll.cons (ResAt.tmp kr) ResAll.nil))) ⟨m,rfl,q,g.t⟩
def qLm(N:Nat)(p0:ByteArray)(b:T9)(c:Tz):Option (Tz⊕T10):=
 (qMg N p0 c.2 b ([(5:Int)])).bind fun a=>if(a==(ByteArray.size p0:Int))=true then((qCx 40 c.1 ([(5,(⟨#[]⟩:ByteArray),0,a)])).bind fun d=>some (.inr (d,0,0))) else((idxB p0 a).bind fun d=>if(((qGe b (d.toNat:Int)).getD 0)==6)=true then((subB p0 a (ByteArray.size p0:Int)).bind fun d=>(qNc N d 10).bind fun d=>(if(decide (d<0))=true then(some (IntKind.wrap .i64 ((ByteArray.size p0:Int)-a))) else(some d):Td).bind fun d=>some (.inl (c.1,IntKind.wrap .i64 (a+d)))) else((qRc N p0 a b).bind fun b=>if(b.2.2 !=0)=true then(some (.inr (([]:Ty),a,b.2.2))) else((qCx 40 c.1 ([(b.1.1,b.1.2.1,b.1.2.2.1,a)])).bind fun a=>some (.inl (a,b.2.1)))))
def qPq(N:Nat)(p0:ByteArray):Option T10:=
 if(decide ((ByteArray.size p0:Int)>16384))=true then(some (([]:Ty),0,2)) else((qNm N).bind fun a=>(qAt (qLm N p0 a) N (([]:Ty),0)).bind fun z=>some z)
theorem zBi{p0:ByteArray}{r:T10}(g:St m (O) w)(i:qPq N p0=some r):Calls Tryz.prog 53 #[vT p0] w fun e w'=>∃K M m',e= .returned (.tuple #[vS K r.1 M,vI r.2.1,vI r.2.2])∧m.le m'∧St m' (kR K r.1 M 109 4::O) w'∧RepS C5 m' K M r.1:=by
 unfold qPq at i;have q:=m.le_refl;refine W_cA Tryz.func53 rfl Tryz.ntmps53 ?_;refine W_sr (qAd 3 [(2,va)] (zVh (qAs (W_sr (qAd 3 [(13,vB (decide ((p0.size:Int)>16384)))] (W_if i ?_ ?_))))))
 ·intro A i;refine W_sr (qAd 3 [(2,va),(3,vI 0),(4,vI 2)] (qBd (qAc (qWn ?_))));cases i;exact X_rt [2,3,4] [va,vI 0,vI 2] ⟨none,0,m,rfl,q,(g.nilroom 109 4),(RepS.nil _ _)⟩
 ·intro A i;refine qAq (qAf (W_sr (qAp 14 i (fun _ h=>qRs g h) ?_)));rintro S i _ w1 ⟨o,B,v,m1,rfl,e1,g,l⟩;refine qAd 1 [(5,.map o)] (W_sr (qAd 1 [(6,vI 0)] (qAs (zVs (qAf (qAw ?_))))));have⟨Z,i,j1⟩:=qBa i;have g:=(g.nilroom 109 4).front1;refine qGm _ kr (qDl (fun D L' w'=>∃(f:Tz),∃p s H,qAt (qLm N p0 S) D f=some Z∧L'=[(0,vT p0),(2,vS p f.1 s),(5,.map o),(6,vI f.2)]∧m.le H∧St H (qEf o B v::kR p f.1 s 109 4::O) w'∧RepS C5 H p s f.1∧MapQ (fun n:Int=>Value.int .u8 n) (cInt .i64) false H o B v S) N ⟨(([]:Ty),0),none,0,m1,i,rfl,q.t e1,g,(RepS.nil _ _),l⟩ ?_);rintro D _ w2 ⟨f,p,s,H,hL,rfl,q,g,u,l⟩;rcases D with _|D
  ·exact qBj hL
  ·obtain⟨a9,i,G,F⟩:=qBi hL;clear hL;unfold qLm at i;refine qAw (W_sr (qAa 3 [(15,vT p0),(16,vI f.2),(17,.map o)] (qAb rfl (qBl (d:=18) (t:=32) (e:=3) (len:=1) (parts:= #[(0,(.const (vI 5)))]) (cInt .i64) (xs:=[(5:Int)]) [vI 5] kr rfl (fun _=>qBn kr _) rfl rfl g ⟨[vI 5],_,rfl,rfl,rfl⟩ fun b1 m3 w3 R g r3=>(qAp 19 i (fun _ h=>qNz g.f1 (l.mono R) r3 h) ?_)))));rintro b i _ w4 ⟨m4,rfl,V,g⟩;have q:=(q.t R).t V;have u:=(u.mono R).mono V;have l:=(l.mono R).mono V;refine qAa 1 [(6,vI b)] (qAv rfl ?_);have g:=g.f1.t;refine qAf (qAs (qAw (W_sr (qAd 5 [(20,vB (b==(p0.size:Int)))] (W_if i ?_ ?_)))))
   ·intro A i;refine W_sr (qAa 3 [(25,vS p f.1 s),(27,.agg (V9 5 eB 0 b))] (qAb rfl (qBl (d:=28) (t:=85) (e:=109) (len:=1) (parts:= #[(0,(.tmp 27))]) C5 (xs:=[(5,eB,0,b)]) [vI 5,vT eB,vI 0,vI b] kr rfl (fun _=>qBn kr _) rfl rfl g ⟨[vI 5,vT eB,vI 0,vI b],_,rfl,⟨_,_,rfl,rfl,⟨_,_,rfl,rfl,⟨_,_,rfl,rfl,rfl⟩⟩⟩,rfl⟩ fun b2 m5 w5 U g r4=>(qAb rfl (qGi 29 85 85 109 40 25 28 g.f2 (.inl kr) (u.mono U) r4.src i fun Y i a E m6 w6 e5 g r5=>(qAa 3 [(2,vS a Y E),(3,vI 0),(4,vI 0)] (qAv rfl ?_)))))));have g:=g.f1.t;refine qAf (qBd (qAe (qAc (qAe ?_))));obtain rfl:=sI i;have ho:=F _ rfl;subst ho;have i:=j1;refine qAc (qAe (qWn ?_));obtain rfl:=sI i;exact X_rt [2,3,4] [vS a Y E,vI 0,vI 0] ⟨a,E,m6,rfl,(q.t U).t e5,g.f1.t,r5⟩
   ·intro A i;refine W_sr (qAa 3 [(31,.map o),(32,vT p0),(33,vI b)] (qAb rfl (qHj 34 9 32 33 i fun x1 i=>(qAb rfl (qPa (ek:=(fun n:Int=>Value.int .u8 n)) (c:=(cInt .i64)) (agg:=false) (k:=(x1.toNat:Int)) (zx:=0) (zcs:=[vI 0]) (z:=(vI 0)) (kt:=5) (et:=3) (d:=35) (t:=125) (x:=(.tmp 31)) (y:=(.tmp 34)) (ok:=false) kr rfl (ev (.map o)) (ev (.int .u8 (x1.toNat:Int))) kr (qMb kr) g.h l rfl rfl ?_)))));rintro a7 rfl;refine qAd 2 [(30,vB (((qGe S (x1.toNat:Int)).getD 0)==6))] (W_if i ?_ ?_)
    ·intro A i;refine W_sr (qAa 2 [(37,vT p0),(38,vI b)] ?_);have⟨s2,d5,i⟩:=qBa i;refine qAb rfl (qGy (d:=39) (t:=9) (x:=(.tmp 37)) (lo:=(some (.tmp 38))) (hi:=none) kr rfl (ev (vT p0)) kr (.inr ⟨_,_,rfl,(ev (vI b))⟩) (.inl ⟨rfl,rfl⟩) d5 (qAp 40 i (fun _ h=>qVv g h) ?_));rintro y3 i _ w7 ⟨m7,rfl,a,g⟩;refine qAd 1 [(7,vI y3)] (qAs (W_sr (qAd 2 [(42,vB (decide (y3<0)))] ?_)));have⟨Y,i,j2⟩:=qBa i;refine qCg .normal (fun L' w'=>∃E,L'=[(0,vT p0),(2,vS p f.1 s),(5,.map o),(6,vI b),(7,vI Y)]∧m.le E∧St E (qEf o B v::kR p f.1 s 109 4::O) w'∧RepS C5 E p s f.1∧MapQ (fun n:Int=>Value.int .u8 n) (cInt .i64) false E o B v S) ?_ ?_
     ·have i:=j2;rintro _ U ⟨E,rfl,q,g,u,l⟩;refine qAf (W_sr (qAd 4 [(6,vI (wr (b+Y)))] (qDi (qPn rfl (qAg (qBh ?_))))));obtain rfl:=sI i;have hL:=G _ rfl;exact xE (qCh D (jG _) ⟨(f.1,wr (b+Y)),p,s,E,hL,rfl,q,g.f1.f1,u,l⟩)
     ·intro U;refine W_if i ?_ ?_
      ·intro A i;refine qAl (qAa 5 [(7,vI (wr ((p0.size:Int)-b)))] (qAv rfl ?_));cases i;exact xE (U _ _ ⟨m7,rfl,q.t a,g.f1.f1,u.mono a,l.mono a⟩)
      ·intro A i;refine qAq ?_;cases i;exact xE (U _ _ ⟨m7,rfl,q.t a,g.f1.f1,u.mono a,l.mono a⟩)
    ·intro A i;refine qAq (qBe (qAf (W_sr (qAa 3 [(51,vT p0),(52,vI b),(53,.map o)] (qAp 54 i (fun _ h=>zBq g l h) ?_)))));rintro a i _ w9 ⟨m9,rfl,E,g⟩;refine qAa 4 [(55,.agg (V8 a.1)),(56,vI a.2.1),(57,vI a.2.2)] (qAb rfl (qEh 8 109 (.agg (V9 0 eB 0 0)) g fun b3 b0 g=>(qAb rfl (qCm 109 8 55 (.agg (V8 a.1)) g fun b5 g=>(qAd 2 [(9,vI a.2.1),(10,vI a.2.2)] (qAs (W_sr (qAd 2 [(59,vB (a.2.2 !=0))] (W_if i ?_ ?_)))))))))
     ·intro A i;refine W_sr (qAa 5 [(2,va),(3,vI b),(4,vI a.2.2)] (qAv rfl ?_));have g:=g.f2.t;refine qAf (qBd (qAc (qAe ?_)));obtain rfl:=sI i;have ho:=F _ rfl;subst ho;have i:=j1;refine qAc (qAe (qWn ?_));obtain rfl:=sI i;refine X_rt [2,3,4] [va,vI b,vI a.2.2] ?_;have g:=(g.nilroom 109 4).front1;exact⟨none,0,m9,rfl,q.t E,g.t.f1.t,(RepS.nil _ _)⟩
     ·intro A i;refine qAq (qAf (W_sr (qAa 2 [(62,vI b),(63,vP b3 3)] (qAb rfl (qDv 3 63 62 3 (vI b) (V9 a.1.1 a.1.2.1 a.1.2.2.1 b) g fun b6 g=>(WO_e (qAl (qAa 1 [(64,vS p f.1 s)] (qAb rfl (qBx 65 109 8 0 (.agg (V9 a.1.1 a.1.2.1 a.1.2.2.1 b)) g.h (qAb rfl (qBl (d:=66) (t:=85) (e:=109) (len:=1) (parts:= #[(0,(.tmp 65))]) C5 (xs:=[(a.1.1,a.1.2.1,a.1.2.2.1,b)]) [vI a.1.1,vT a.1.2.1,vI a.1.2.2.1,vI b] kr rfl (fun _=>qBn kr _) rfl rfl g ⟨[vI a.1.1,vT a.1.2.1,vI a.1.2.2.1,vI b],_,rfl,⟨_,_,rfl,rfl,⟨_,_,rfl,rfl,⟨_,_,rfl,rfl,rfl⟩⟩⟩,rfl⟩ fun b4 a8 b7 U g r6=>(qAb rfl (qGi 67 85 85 109 40 64 66 g.f3 (.inl kr) ((u.mono E).mono U) r6.src i fun l2 i Y c3 a0 b8 e9 g r7=>(qAa 3 [(2,vS Y l2 c3),(6,vI a.2.1)] (qAv rfl ?_))))))))))))))));have g:=g.f1.t;refine qBe ?_;obtain rfl:=sI i;have hL:=G _ rfl;exact xE (qCh D (jG _) ⟨(l2,a.2.1),Y,c3,a0,hL,rfl,((q.t E).t U).t e9,g.f1.t.f1,r7,((l.mono E).mono U).mono e9⟩)
def qCs(N:Nat)(p0:T1i):Option T1j:=
 (idx p0.1 p0.2.1).bind fun a=>some (p0,a)
theorem qDa{p0:T1i}{r:T1j}(g:St m (kB bp0 (Vd p0 a1 c1 a2 c2 a3 c3) 93::kR a3 p0.2.2.2 c3 73 5::O) w)(s:RepS C5 m a1 c1 p0.1)(A:RepS cStr m a2 c2 p0.2.2.1)(B:RepS C2 m a3 c3 p0.2.2.2)(i:qCs N p0=some r):Calls Tryz.prog 100 #[vP bp0 0] w fun e w'=>∃f l k n b c m',e= .returned (.agg (V8 r.2))∧m.le m'∧St m' (kB bp0 (Vd r.1 f l k n b c) 93::kR b r.1.2.2.2 c 73 5::O) w'∧P7 m' f l k n b c r.1:=by
 unfold qCs at i;have q:=m.le_refl;refine W_cA Tryz.func100 rfl Tryz.ntmps100 ?_;refine W_sr (qAb rfl (qEh 2 109 (.agg (V9 0 eB 0 0)) g fun E G g=>(WO_e (qAs (qJa [(11,fun w'=>Inv m w'∧Piece.holds m w' (kB bp0 (Vd p0 a1 c1 a2 c2 a3 c3) 93)∧True)] kr g fun H _ g=> ?_)))));have a:=m.le_refl;refine⟨⟨.inr ⟨Inv.anti g.inv a,Piece.holds_anti g.t.h a,trivial⟩,trivial⟩,?_⟩;refine qBk 0 3 (vP bp0 0) (.head _) (qBk 1 4 (vP bp0 0) (.head _) (qBk 2 5 (vP bp0 0) (.head _) (qJe 85 5 3 6 0 (vS a1 p0.1 c1) (.head _) (fun _ h=>h.2.1) (qBk 4 7 (vP bp0 0) (.head _) (qBk 5 8 (vP bp0 0) (.head _) (qBk 6 9 (vP bp0 1) (.head _) (qJe 3 9 7 10 1 (vI p0.2.1) (.head _) (fun _ h=>h.2.1) ?_)))))));have⟨d,u,i⟩:=qBa i;refine qLj (t:=85) (e:=109) (x:=(.tmp 6)) (y:=(.tmp 10)) 8 11 C5 kr rfl kr (.head _) (qCv qLf) (ev (vS a1 p0.1 c1)) (ev (vI p0.2.1)) kr s u ?_;rintro F z D ⟨_,_,rfl,rfl,⟨_,_,rfl,rfl,⟨_,_,rfl,rfl,rfl⟩⟩⟩ p;refine qRw 109 11 9 12 z (.agg (V8 d)) (.head _) (fun _ h=>h.1) p (qDg 10 kr (qCm 109 2 12 (.agg (V8 d)) g fun K g=>(⟨⟨.inr ⟨Inv.anti g.inv a,Piece.holds_anti g.t.h a,trivial⟩,trivial⟩,?_⟩)));refine qEc kr ?_;refine qAf (qBd ?_);obtain rfl:=sI i;exact qMn [.cell 2 109] [.agg (V8 d)] rfl (ResAll.cons (ResAt.blk (v:= .agg (V8 d)) (o:=0) kr g.h kr) ResAll.nil) ⟨a1,c1,a2,c2,a3,c3,m,rfl,q,g.t.f1.f1,s,A,B⟩
def qGd(N:Nat)(p0:T1i)(p1:Int)(p2:ByteArray):Option (T1i×Bool):=
 (qCs N p0).bind fun a=>(if(a.2.1==p1)=true then(some (a.2.2.1.toList==p2.toList)) else(some false):Tc).bind fun b=>some (a.1,b)
theorem qIq{p0:T1i}{p1:Int}{p2:ByteArray}{r:T1i×Bool}(g:St m (kB bp0 (Vd p0 a1 c1 a2 c2 a3 c3) 93::kR a3 p0.2.2.2 c3 73 5::O) w)(H:RepS C5 m a1 c1 p0.1)(M:RepS cStr m a2 c2 p0.2.2.1)(R:RepS C2 m a3 c3 p0.2.2.2)(i:qGd N p0 p1 p2=some r):Calls Tryz.prog 98 #[vP bp0 0,vI p1,vT p2] w fun e w'=>∃p u s v c d m',e= .returned (vB r.2)∧m.le m'∧St m' (kB bp0 (Vd r.1 p u s v c d) 93::kR c r.1.2.2.2 d 73 5::O) w'∧P7 m' p u s v c d r.1:=by
 unfold qGd at i;have q:=m.le_refl;refine W_cA Tryz.func98 rfl Tryz.ntmps98 ?_;refine W_sr (qAd 1 [] (W_sr (qAa 1 [(8,vP bp0 0)] (qAp 9 i (fun _ h=>qDa (p0:=p0) g.f1.f1 H M R h) ?_))));rintro a i _ S ⟨x,z,y,B,f,k,E,rfl,D,g,l,n,o⟩;refine qAb rfl (qEh 7 109 (.agg (V9 0 eB 0 0)) g fun G U g=>(qAb rfl (qCm 109 7 9 (.agg (V8 a.2)) g fun V g=>(WO_e (W_sr ?_)))));have⟨F,i,J⟩:=qBa i;refine qDk (j:=11) (fun L' w'=>∃b,L'=[(6,vB F)]∧m.le b∧St b (kB G (V8 a.2) 109::kB bp0 (Vd a.1 x z y B f k) 93::kR f a.1.2.2.2 k 73 5::O) w'∧P7 b x z y B f k a.1) ?_ ?_
 ·have i:=J;rintro _ Y ⟨b,rfl,q,g,l,n,o⟩;refine WO_e (qBd ?_);obtain rfl:=sI i;exact X_rt [6] [vB F] ⟨x,z,y,B,f,k,b,rfl,q,g.t.f1.f1,l,n,o⟩
 ·intro K;refine qCj 1 11 3 10 0 (vI a.2.1) g.h (qAa 3 [(14,vB (a.2.1==p1))] (qCc 14 i ?_ ?_))
  ·intro A i;refine qCj 1 16 9 15 1 (vT a.2.2.1) g.h (qAa 4 [(6,vB (a.2.2.1.toList==p2.toList))] ?_);cases i;exact qAu _ kr (K _ _ ⟨E,rfl,q.t D,g.f2.f2.f2,l,n,o⟩)
  ·intro A i;refine qAa 6 [(6,vB false)] ?_;cases i;exact qAu _ kr (K _ _ ⟨E,rfl,q.t D,g.f2.f2.f2,l,n,o⟩)
def qCi(N:Nat)(p0:Tw)(p1:Int):Option (T8⊕Unit):=
 some (.inl (p0.2.2.2,p1))
theorem qDd{p0:Tw}{p1:Int}{r:T8⊕Unit}(g:St m (O) w)(i:qCi N p0 p1=some r):Calls Tryz.prog 99 #[.agg (V8 p0),vI p1] w fun e w'=>(∃(c:T8),∃m',r= .inl c∧e= .panicked [{v:= .iface 89 (.agg (Ve c)),recovered:=false}]∧m.le m'∧St m' (O) w')∨(∃(k:Unit),r= .inr k∧∃m',e= .returned (.tuple #[])∧m.le m'∧St m' (O) w'):=by
 unfold qCi at i;have q:=m.le_refl;refine W_cA Tryz.func99 rfl Tryz.ntmps99 ?_;refine W_sr (qAb rfl (qMl 2 109 0 (.agg (V8 p0)) g fun a h l f g b=>(WO_e (qAl (qAa 1 [(4,vP a 3)] (qAb rfl (qAr (d:=5) (t:=3) (x:=(.tmp 4)) (vI p0.2.2.2) kr rfl (ev (vP a 3)) g (b.drop 3) kr (qAa 3 [(8,.iface 89 (.agg #[vI p0.2.2.2,vI p1]))] (qAb rfl (zPr (x:=(.tmp 8)) kr (ev (.iface 89 (.agg #[vI p0.2.2.2,vI p1]))) ?_))))))))));cases i;exact qAx (.inl ⟨(p0.2.2.2,p1),h,rfl,rfl,q.t f,g⟩)
def qIc(N:Nat)(p0:T1i)(p1:ByteArray):Option T1k:=
 (qGd N p0 1 p1).bind fun a=>(if(!a.2)=true then((qCs N a.1).bind fun b=>(qCi N b.2 9).bind fun c=>(match c with| .inl c=>some (.inr (.inl c))| .inr c=>some (.inl b.1))) else(some (.inl a.1)):Option T1l).bind fun a=>(match a with| .inl a=>some (.inr (a.1,IntKind.wrap .i64 (a.2.1+1),a.2.2.1,a.2.2.2))| .inr z=>some z)
theorem qMm{p0:T1i}{p1:ByteArray}{r:T1k}(g:St m (kB bp0 (Vd p0 a1 c1 a2 c2 a3 c3) 93::kR a3 p0.2.2.2 c3 73 5::O) w)(r1:RepS C5 m a1 c1 p0.1)(r2:RepS cStr m a2 c2 p0.2.2.1)(r3:RepS C2 m a3 c3 p0.2.2.2)(i:qIc N p0 p1=some r):Calls Tryz.prog 95 #[vP bp0 0,vT p1] w fun e w'=>(∃(z0:T8),∃m',r= .inl z0∧e= .panicked [{v:= .iface 89 (.agg (Ve z0)),recovered:=false}]∧m.le m'∧St m' (O) w')∨(∃(u:T1i),r= .inr u∧∃y B z D o p m',e= .returned (.tuple #[])∧m.le m'∧St m' (kB bp0 (Vd u y B z D o p) 93::kR o u.2.2.2 p 73 5::O) w'∧P7 m' y B z D o p u):=by
 unfold qIc at i;have q:=m.le_refl;refine W_cA Tryz.func95 rfl Tryz.ntmps95 ?_;refine qAs (W_sr (qAa 2 [(4,vP bp0 0),(5,vT p1)] (qAp 6 i (fun _ h=>qIq (p0:=p0) g.f1.f1 r1 r2 r3 h) ?_)));rintro F i _ w1 ⟨a4,c4,a5,c5,a6,c6,m1,rfl,e1,g,r4,r5,r6⟩;have q:=q.t e1;refine qAd 1 [(7,vB (!F.2))] ?_;have⟨Y,i,V⟩:=qBa i;refine qCg .normal (fun L' w'=>∃(a:T1i),∃d k f l b c n,(.inl a:T1l)=Y∧L'=[(0,vP bp0 0)]∧m.le n∧St n (kB bp0 (Vd a d k f l b c) 93::kR b a.2.2.2 c 73 5::O) w'∧P7 n d k f l b c a) ?_ ?_
 ·rintro _ G ⟨a,d,k,f,l,b,c,n,rfl,rfl,q,g,s,x,E⟩;have i:=V;refine qAf (qAl (qAa 3 [(11,vP bp0 0),(13,vP bp0 1)] (qAb rfl (qBx 14 3 13 1 (vI a.2.1) g.h (qAa 3 [(15,vI (wr (a.2.1+1))),(17,vP bp0 1)] (qAb rfl (qDv 3 17 15 1 (vI (wr (a.2.1+1))) #[vS d a.1 k,vI (wr (a.2.1+1)),vS f a.2.2.1 l,vS b a.2.2.2 c] g fun H g=>(qAv rfl ?_))))))));cases i;exact qOw [] [] rfl ResAll.nil (.inr ⟨_,rfl,d,k,f,l,b,c,n,rfl,q,g.f1.f1,s,x,E⟩)
 ·intro x;refine W_if i ?_ ?_
  ·intro A i;refine qAl (qAa 1 [(8,vP bp0 0)] (qAp 9 i (fun _ h=>qDa (p0:=F.1) g.f1.f1 r4 r5 r6 h) ?_));rintro y2 i _ w3 ⟨G,M,H,R,K,S,m3,rfl,U,g,Z,a0,b0⟩;refine qCp 10 i (fun _ h=>qDd (p0:=y2.2) g h) ?_;rintro y3 i _ w4 (⟨z1,m5,rfl,rfl,e4,g⟩|⟨y4,rfl,m4,rfl,s,g⟩)
   ·obtain rfl:=sI i;have i:=V;refine qAk ?_;obtain rfl:=sI i;have g:=g.t.t;exact qAx (.inl ⟨z1,m5,rfl,rfl,(q.t U).t e4,g⟩)
   refine qAv rfl ?_;have E:=jI i;exact xE (x _ _ ⟨y2.1,G,M,H,R,K,S,m4,E,rfl,(q.t U).t s,g.f1.f1,Z.mono s,a0.mono s,b0.mono s⟩)
  ·intro A i;refine qAq ?_;have E:=jI i;exact xE (x _ _ ⟨F.1,a4,c4,a5,c5,a6,c6,m1,E,rfl,q,g.f1.f1,r4,r5,r6⟩)
end
section
open Go Go.Dc
set_option maxHeartbeats 4000000
set_option maxRecDepth 100000
variable {N bp0 c1 c2 c3 c4:Nat} {m:Mem} {O:List Piece} {w:World} {a1 a2 a3 a4:Option Addr}
def qFq(N:Nat)(p0:T1i)(p1:Int):Option T1m:=
 (qCs N p0).bind fun a=>(if(a.2.1 !=p1)=true then((qCi N a.2 9).bind fun b=>(match b with| .inl b=>some (.inr (.inl b))| .inr b=>some (.inl ()))) else(some (.inl ())):Option T1n).bind fun b=>(match b with| .inl b=>(if(p1 !=5)=true then(some (IntKind.wrap .i64 (a.1.2.1+1))) else(some a.1.2.1):Td).bind fun b=>some (.inr ((a.1.1,b,a.1.2.2.1,a.1.2.2.2),a.2))| .inr z=>some z)
theorem qJc{p0:T1i}{p1:Int}{r:T1m}(g:St m (kB bp0 (Vd p0 a1 c1 a2 c2 a3 c3) 93::kR a3 p0.2.2.2 c3 73 5::O) w)(r1:RepS C5 m a1 c1 p0.1)(r2:RepS cStr m a2 c2 p0.2.2.1)(r3:RepS C2 m a3 c3 p0.2.2.2)(i:qFq N p0 p1=some r):Calls Tryz.prog 131 #[vP bp0 0,vI p1] w fun e w'=>(∃(Y:T8),∃m',r= .inl Y∧e= .panicked [{v:= .iface 89 (.agg (Ve Y)),recovered:=false}]∧m.le m'∧St m' (O) w')∨(∃(B:T1j),r= .inr B∧∃G K H M y z m',e= .returned (.agg (V8 B.2))∧m.le m'∧St m' (kB bp0 (Vd B.1 G K H M y z) 93::kR y B.1.2.2.2 z 73 5::O) w'∧P7 m' G K H M y z B.1):=by
 unfold qFq at i;have q:=m.le_refl;refine W_cA Tryz.func131 rfl Tryz.ntmps131 ?_;refine W_sr (qAb rfl (qEh 4 109 (.agg (V9 0 eB 0 0)) g fun D w1 g=>(WO_e (W_sr (qAa 1 [(6,vP bp0 0)] (qAp 7 i (fun _ h=>qDa (p0:=p0) g.f2.f2 r1 r2 r3 h) ?_))))));rintro a i _ w2 ⟨l,p,n,s,b,c,m1,rfl,Z,g,d,f,k⟩;have q:=q.t Z;refine qAb rfl (qEh 5 109 (.agg (V9 0 eB 0 0)) g fun E w3 g=>(qAb rfl (qCm 109 5 7 (.agg (V8 a.2)) g fun w4 g=>(WO_e (qAs (W_sr (qCj 1 9 3 8 0 (vI a.2.1) g.h (qAd 2 [(11,vB (a.2.1 !=p1))] ?_))))))));have⟨V,i,S⟩:=qBa i;refine qCg .normal (fun L' w'=>∃(U:Unit),∃u,(.inl U:T1n)=V∧L'=[(0,vP bp0 0),(1,vI p1),(4,vP D 0),(5,vP E 0)]∧m.le u∧St u (kB E (V8 a.2) 109::kB bp0 (Vd a.1 l p n s b c) 93::kB D (V9 0 eB 0 0) 109::kR b a.1.2.2.2 c 73 5::O) w'∧P7 u l p n s b c a.1) ?_ ?_
 ·rintro _ w5 ⟨U,u,rfl,rfl,q,g,d,f,k⟩;have i:=S;refine qAf (qAs (W_sr (qAd 2 [(15,vB (p1 !=5))] ?_)));have⟨o2,i,R⟩:=qBa i;refine qCg .normal (fun L' w'=>∃x,L'=[(4,vP D 0),(5,vP E 0)]∧m.le x∧St x (kB E (V8 a.2) 109::kB bp0 #[vS l a.1.1 p,vI o2,vS n a.1.2.2.1 s,vS b a.1.2.2.2 c] 93::kB D (V9 0 eB 0 0) 109::kR b a.1.2.2.2 c 73 5::O) w'∧P7 x l p n s b c a.1) ?_ ?_
  ·have i:=R;rintro _ w8 ⟨x,rfl,q,g,d,f,k⟩;refine qAf (W_sr (qAb rfl (qBx 23 109 5 0 (.agg (V8 a.2)) g.h (qAb rfl (qCm 109 4 23 (.agg (V8 a.2)) g.f2 fun F g=>(WO_e (qBd ?_)))))));cases i;exact qMn [.cell 4 109] [.agg (V8 a.2)] rfl (ResAll.cons (ResAt.blk (v:= .agg (V8 a.2)) (o:=0) kr g.h kr) ResAll.nil) (.inr ⟨_,rfl,l,p,n,s,b,c,x,rfl,q,g.t.t.f1.f1,d,f,k⟩)
  ·intro F;refine W_if i ?_ ?_
   ·intro A i;refine qAl (qAa 3 [(16,vP bp0 0),(18,vP bp0 1)] (qAb rfl (qBx 19 3 18 1 (vI a.1.2.1) g.t.h (qAa 3 [(20,vI (wr (a.1.2.1+1))),(22,vP bp0 1)] (qAb rfl (qDv 3 22 20 1 (vI (wr (a.1.2.1+1))) #[vS l a.1.1 p,vI (wr (a.1.2.1+1)),vS n a.1.2.2.1 s,vS b a.1.2.2.2 c] g.f1 fun w9 g=>(qAv rfl ?_)))))));cases i;exact xE (F _ _ ⟨u,rfl,q,g.f3.f3.f2.f3,d,f,k⟩)
   ·intro A i;refine qAq ?_;cases i;exact xE (F _ _ ⟨u,rfl,q,g.f3.f3.f3.f3,d,f,k⟩)
 ·intro F;refine W_if i ?_ ?_
  ·intro A i;refine qAl (qAb rfl (qBx 12 109 5 0 (.agg (V8 a.2)) g.h (qCp 13 i (fun _ h=>qDd (p0:=a.2) g h) ?_)));rintro y2 i _ w6 (⟨z1,m4,rfl,rfl,e3,g⟩|⟨y3,rfl,m3,rfl,x,g⟩)
   ·obtain rfl:=sI i;have i:=S;refine qAk ?_;obtain rfl:=sI i;have g:=g.t.t.t.t;exact qAx (.inl ⟨z1,m4,rfl,rfl,q.t e3,g⟩)
   refine qAv rfl ?_;have R:=jI i;exact xE (F _ _ ⟨(),m3,R,rfl,q.t x,g.f2.f3.f3.f3,d.mono x,f.mono x,k.mono x⟩)
  ·intro A i;refine qAq ?_;have R:=jI i;exact xE (F _ _ ⟨(),m1,R,rfl,q,g.f2.f3.f3.f3,d,f,k⟩)
def qFl(N:Nat)(p0:T1i):Option T1m:=
 (qFq N p0 1).bind fun a=>(match a with| .inl a=>some (.inl a)| .inr a=>(qKj N a.2.2.1).bind fun b=>(if b=true then((qCi N a.2 9).bind fun b=>(match b with| .inl b=>some (.inr (.inl b))| .inr b=>some (.inl ()))) else(some (.inl ())):Option T1n).bind fun b=>(match b with| .inl b=>some (.inr (a.1,a.2))| .inr z=>some z))
theorem qKy{p0:T1i}{r:T1m}(g:St m (kB bp0 (Vd p0 a1 c1 a2 c2 a3 c3) 93::kR a3 p0.2.2.2 c3 73 5::O) w)(r1:RepS C5 m a1 c1 p0.1)(r2:RepS cStr m a2 c2 p0.2.2.1)(r3:RepS C2 m a3 c3 p0.2.2.2)(i:qFl N p0=some r):Calls Tryz.prog 96 #[vP bp0 0] w fun e w'=>(∃(Z:T8),∃m',r= .inl Z∧e= .panicked [{v:= .iface 89 (.agg (Ve Z)),recovered:=false}]∧m.le m'∧St m' (O) w')∨(∃(k:T1j),r= .inr k∧∃z D B E d f m',e= .returned (.agg (V8 k.2))∧m.le m'∧St m' (kB bp0 (Vd k.1 z D B E d f) 93::kR d k.1.2.2.2 f 73 5::O) w'∧P7 m' z D B E d f k.1):=by
 unfold qFl at i;have q:=m.le_refl;refine W_cA Tryz.func96 rfl Tryz.ntmps96 ?_;refine W_sr (qAb rfl (qEh 2 109 (.agg (V9 0 eB 0 0)) g fun R w1 g=>(WO_e (W_sr (qAa 1 [(4,vP bp0 0)] (qCp 5 i (fun _ h=>qJc (p0:=p0) g.f2.f2 r1 r2 r3 h) ?_))))));rintro y1 i _ w2 (⟨z1,m2,rfl,rfl,e2,g⟩|⟨a,rfl,F,H,G,K,l,n,m1,rfl,e1,g,s,u,x⟩)
 ·refine qAk ?_;obtain rfl:=sI i;have g:=g.t;exact qAx (.inl ⟨z1,m2,rfl,rfl,q.t e2,g⟩)
 refine qAb rfl (qEh 3 109 (.agg (V9 0 eB 0 0)) g fun S w4 g=>(qAb rfl (qCm 109 3 5 (.agg (V8 a.2)) g fun w5 g=>(WO_e (qAs (W_sr (qCj 1 7 9 6 1 (vT a.2.2.1) g.h (qAp 8 i (fun _ h=>qOg g h) ?_))))))));rintro y3 i _ w6 ⟨m3,rfl,b,g⟩;have q:=(q.t e1).t b;refine WO_e ?_;have⟨Y,i,U⟩:=qBa i;refine qCg .normal (fun L' w'=>∃(V:Unit),∃c,(.inl V:T1n)=Y∧L'=[(2,vP R 0),(3,vP S 0)]∧m.le c∧St c (kB S (V8 a.2) 109::kB bp0 (Vd a.1 F H G K l n) 93::kB R (V9 0 eB 0 0) 109::kR l a.1.2.2.2 n 73 5::O) w'∧P7 c F H G K l n a.1) ?_ ?_
 ·rintro _ y ⟨V,c,rfl,rfl,q,g,s,u,x⟩;have i:=U;refine qAf (W_sr (qAb rfl (qBx 11 109 3 0 (.agg (V8 a.2)) g.h (qAb rfl (qCm 109 2 11 (.agg (V8 a.2)) g.f2 fun p g=>(WO_e (qBd ?_)))))));cases i;exact qMn [.cell 2 109] [.agg (V8 a.2)] rfl (ResAll.cons (ResAt.blk (v:= .agg (V8 a.2)) (o:=0) kr g.h kr) ResAll.nil) (.inr ⟨_,rfl,F,H,G,K,l,n,c,rfl,q,g.t.t.f1.f1,s,u,x⟩)
 ·intro y;refine W_if i ?_ ?_
  ·intro A i;refine qAl (qAb rfl (qBx 9 109 3 0 (.agg (V8 a.2)) g.h (qCp 10 i (fun _ h=>qDd (p0:=a.2) g h) ?_)));rintro y4 i _ w8 (⟨z2,m6,rfl,rfl,e5,g⟩|⟨y5,rfl,m5,rfl,p,g⟩)
   ·obtain rfl:=sI i;have i:=U;refine qAk ?_;obtain rfl:=sI i;have g:=g.t.t.t.t;exact qAx (.inl ⟨z2,m6,rfl,rfl,q.t e5,g⟩)
   refine qAv rfl ?_;have M:=jI i;exact xE (y _ _ ⟨(),m5,M,rfl,q.t p,g.f2.f3.f3.f3,(s.mono b).mono p,(u.mono b).mono p,(x.mono b).mono p⟩)
  ·intro A i;refine qAq ?_;have M:=jI i;exact xE (y _ _ ⟨(),m3,M,rfl,q,g.f2.f3.f3.f3,s.mono b,u.mono b,x.mono b⟩)
def qBz(N:Nat)(p0:T1i)(p1:ByteArray):Option T1k:=
 (qGd N p0 4 p1).bind fun a=>(if(!a.2)=true then((qCs N a.1).bind fun b=>(qCi N b.2 9).bind fun c=>(match c with| .inl c=>some (.inr (.inl c))| .inr c=>some (.inl b.1))) else(some (.inl a.1)):Option T1l).bind fun a=>(match a with| .inl a=>some (.inr (a.1,IntKind.wrap .i64 (a.2.1+1),a.2.2.1,a.2.2.2))| .inr z=>some z)
theorem qCz{p0:T1i}{p1:ByteArray}{r:T1k}(g:St m (kB bp0 (Vd p0 a1 c1 a2 c2 a3 c3) 93::kR a3 p0.2.2.2 c3 73 5::O) w)(r1:RepS C5 m a1 c1 p0.1)(r2:RepS cStr m a2 c2 p0.2.2.1)(r3:RepS C2 m a3 c3 p0.2.2.2)(i:qBz N p0 p1=some r):Calls Tryz.prog 97 #[vP bp0 0,vT p1] w fun e w'=>(∃(z0:T8),∃m',r= .inl z0∧e= .panicked [{v:= .iface 89 (.agg (Ve z0)),recovered:=false}]∧m.le m'∧St m' (O) w')∨(∃(u:T1i),r= .inr u∧∃y B z D o p m',e= .returned (.tuple #[])∧m.le m'∧St m' (kB bp0 (Vd u y B z D o p) 93::kR o u.2.2.2 p 73 5::O) w'∧P7 m' y B z D o p u):=by
 unfold qBz at i;have q:=m.le_refl;refine W_cA Tryz.func97 rfl Tryz.ntmps97 ?_;refine qAs (W_sr (qAa 2 [(4,vP bp0 0),(5,vT p1)] (qAp 6 i (fun _ h=>qIq (p0:=p0) g.f1.f1 r1 r2 r3 h) ?_)));rintro F i _ w1 ⟨a4,c4,a5,c5,a6,c6,m1,rfl,e1,g,r4,r5,r6⟩;have q:=q.t e1;refine qAd 1 [(7,vB (!F.2))] ?_;have⟨Y,i,V⟩:=qBa i;refine qCg .normal (fun L' w'=>∃(a:T1i),∃d k f l b c n,(.inl a:T1l)=Y∧L'=[(0,vP bp0 0)]∧m.le n∧St n (kB bp0 (Vd a d k f l b c) 93::kR b a.2.2.2 c 73 5::O) w'∧P7 n d k f l b c a) ?_ ?_
 ·rintro _ G ⟨a,d,k,f,l,b,c,n,rfl,rfl,q,g,s,x,E⟩;have i:=V;refine qAf (qAl (qAa 3 [(11,vP bp0 0),(13,vP bp0 1)] (qAb rfl (qBx 14 3 13 1 (vI a.2.1) g.h (qAa 3 [(15,vI (wr (a.2.1+1))),(17,vP bp0 1)] (qAb rfl (qDv 3 17 15 1 (vI (wr (a.2.1+1))) #[vS d a.1 k,vI (wr (a.2.1+1)),vS f a.2.2.1 l,vS b a.2.2.2 c] g fun H g=>(qAv rfl ?_))))))));cases i;exact qOw [] [] rfl ResAll.nil (.inr ⟨_,rfl,d,k,f,l,b,c,n,rfl,q,g.f1.f1,s,x,E⟩)
 ·intro x;refine W_if i ?_ ?_
  ·intro A i;refine qAl (qAa 1 [(8,vP bp0 0)] (qAp 9 i (fun _ h=>qDa (p0:=F.1) g.f1.f1 r4 r5 r6 h) ?_));rintro y2 i _ w3 ⟨G,M,H,R,K,S,m3,rfl,U,g,Z,a0,b0⟩;refine qCp 10 i (fun _ h=>qDd (p0:=y2.2) g h) ?_;rintro y3 i _ w4 (⟨z1,m5,rfl,rfl,e4,g⟩|⟨y4,rfl,m4,rfl,s,g⟩)
   ·obtain rfl:=sI i;have i:=V;refine qAk ?_;obtain rfl:=sI i;have g:=g.t.t;exact qAx (.inl ⟨z1,m5,rfl,rfl,(q.t U).t e4,g⟩)
   refine qAv rfl ?_;have E:=jI i;exact xE (x _ _ ⟨y2.1,G,M,H,R,K,S,m4,E,rfl,(q.t U).t s,g.f1.f1,Z.mono s,a0.mono s,b0.mono s⟩)
  ·intro A i;refine qAq ?_;have E:=jI i;exact xE (x _ _ ⟨F.1,a4,c4,a5,c5,a6,c6,m1,E,rfl,q,g.f1.f1,r4,r5,r6⟩)
def qFn(N:Nat)(p0:T1i):Option T1m:=
 (qFq N p0 3).bind fun a=>(match a with| .inl a=>some (.inl a)| .inr a=>(qMz N a.2.2.1).bind fun b=>(if(!b)=true then((qCi N a.2 9).bind fun b=>(match b with| .inl b=>some (.inr (.inl b))| .inr b=>some (.inl ()))) else(some (.inl ())):Option T1n).bind fun b=>(match b with| .inl b=>some (.inr (a.1,a.2))| .inr z=>some z))
theorem qKr{p0:T1i}{r:T1m}(g:St m (kB bp0 (Vd p0 a1 c1 a2 c2 a3 c3) 93::kR a3 p0.2.2.2 c3 73 5::O) w)(r1:RepS C5 m a1 c1 p0.1)(r2:RepS cStr m a2 c2 p0.2.2.1)(r3:RepS C2 m a3 c3 p0.2.2.2)(i:qFn N p0=some r):Calls Tryz.prog 132 #[vP bp0 0] w fun e w'=>(∃(Z:T8),∃m',r= .inl Z∧e= .panicked [{v:= .iface 89 (.agg (Ve Z)),recovered:=false}]∧m.le m'∧St m' (O) w')∨(∃(k:T1j),r= .inr k∧∃z D B E d f m',e= .returned (.agg (V8 k.2))∧m.le m'∧St m' (kB bp0 (Vd k.1 z D B E d f) 93::kR d k.1.2.2.2 f 73 5::O) w'∧P7 m' z D B E d f k.1):=by
 unfold qFn at i;have q:=m.le_refl;refine W_cA Tryz.func132 rfl Tryz.ntmps132 ?_;refine W_sr (qAb rfl (qEh 2 109 (.agg (V9 0 eB 0 0)) g fun R w1 g=>(WO_e (W_sr (qAa 1 [(4,vP bp0 0)] (qCp 5 i (fun _ h=>qJc (p0:=p0) g.f2.f2 r1 r2 r3 h) ?_))))));rintro y1 i _ w2 (⟨z1,m2,rfl,rfl,e2,g⟩|⟨a,rfl,F,H,G,K,l,n,m1,rfl,e1,g,s,u,x⟩)
 ·refine qAk ?_;obtain rfl:=sI i;have g:=g.t;exact qAx (.inl ⟨z1,m2,rfl,rfl,q.t e2,g⟩)
 refine qAb rfl (qEh 3 109 (.agg (V9 0 eB 0 0)) g fun S w4 g=>(qAb rfl (qCm 109 3 5 (.agg (V8 a.2)) g fun w5 g=>(WO_e (qAs (W_sr (qCj 1 7 9 6 1 (vT a.2.2.1) g.h (qAp 8 i (fun _ h=>qQl g h) ?_))))))));rintro y3 i _ w6 ⟨m3,rfl,b,g⟩;have q:=(q.t e1).t b;refine qAd 1 [(9,vB (!y3))] ?_;have⟨Y,i,U⟩:=qBa i;refine qCg .normal (fun L' w'=>∃(V:Unit),∃c,(.inl V:T1n)=Y∧L'=[(2,vP R 0),(3,vP S 0)]∧m.le c∧St c (kB S (V8 a.2) 109::kB bp0 (Vd a.1 F H G K l n) 93::kB R (V9 0 eB 0 0) 109::kR l a.1.2.2.2 n 73 5::O) w'∧P7 c F H G K l n a.1) ?_ ?_
 ·rintro _ y ⟨V,c,rfl,rfl,q,g,s,u,x⟩;have i:=U;refine qAf (W_sr (qAb rfl (qBx 12 109 3 0 (.agg (V8 a.2)) g.h (qAb rfl (qCm 109 2 12 (.agg (V8 a.2)) g.f2 fun p g=>(WO_e (qBd ?_)))))));cases i;exact qMn [.cell 2 109] [.agg (V8 a.2)] rfl (ResAll.cons (ResAt.blk (v:= .agg (V8 a.2)) (o:=0) kr g.h kr) ResAll.nil) (.inr ⟨_,rfl,F,H,G,K,l,n,c,rfl,q,g.t.t.f1.f1,s,u,x⟩)
 ·intro y;refine W_if i ?_ ?_
  ·intro A i;refine qAl (qAb rfl (qBx 10 109 3 0 (.agg (V8 a.2)) g.h (qCp 11 i (fun _ h=>qDd (p0:=a.2) g h) ?_)));rintro y4 i _ w8 (⟨z2,m6,rfl,rfl,e5,g⟩|⟨y5,rfl,m5,rfl,p,g⟩)
   ·obtain rfl:=sI i;have i:=U;refine qAk ?_;obtain rfl:=sI i;have g:=g.t.t.t.t;exact qAx (.inl ⟨z2,m6,rfl,rfl,q.t e5,g⟩)
   refine qAv rfl ?_;have M:=jI i;exact xE (y _ _ ⟨(),m5,M,rfl,q.t p,g.f2.f3.f3.f3,(s.mono b).mono p,(u.mono b).mono p,(x.mono b).mono p⟩)
  ·intro A i;refine qAq ?_;have M:=jI i;exact xE (y _ _ ⟨(),m3,M,rfl,q,g.f2.f3.f3.f3,s.mono b,u.mono b,x.mono b⟩)
def qDy(N:Nat)(p0:T1i)(p1:ByteArray):Option (T1i×Bool):=
 (qGd N p0 4 p1).bind fun a=>if(!a.2)=true then(some (a.1,false)) else(some ((a.1.1,IntKind.wrap .i64 (a.1.2.1+1),a.1.2.2.1,a.1.2.2.2),true))
theorem qGj{p0:T1i}{p1:ByteArray}{r:T1i×Bool}(g:St m (kB bp0 (Vd p0 a1 c1 a2 c2 a3 c3) 93::kR a3 p0.2.2.2 c3 73 5::O) w)(E:RepS C5 m a1 c1 p0.1)(F:RepS cStr m a2 c2 p0.2.2.1)(G:RepS C2 m a3 c3 p0.2.2.2)(i:qDy N p0 p1=some r):Calls Tryz.prog 155 #[vP bp0 0,vT p1] w fun e w'=>∃d k f l b c m',e= .returned (vB r.2)∧m.le m'∧St m' (kB bp0 (Vd r.1 d k f l b c) 93::kR b r.1.2.2.2 c 73 5::O) w'∧P7 m' d k f l b c r.1:=by
 unfold qDy at i;have q:=m.le_refl;refine W_cA Tryz.func155 rfl Tryz.ntmps155 ?_;refine W_sr (qAd 1 [] (qAs (W_sr (qAa 2 [(5,vP bp0 0),(6,vT p1)] (qAp 7 i (fun _ h=>qIq (p0:=p0) g.f1.f1 E F G h) ?_)))));rintro a i _ H ⟨n,s,o,u,p,v,y,rfl,x,g,z,B,D⟩;refine qAd 1 [(8,vB (!a.2))] (W_if i ?_ ?_)
 ·intro A i;refine W_sr (qAd 1 [(4,vB false)] (qBd (qAc ?_)));cases i;exact X_rt [4] [vB false] ⟨n,s,o,u,p,v,y,rfl,q.t x,g.f1.f1,z,B,D⟩
 ·intro A i;refine qAq (qAf (W_sr (qAa 3 [(9,vP bp0 0),(11,vP bp0 1)] (qAb rfl (qBx 12 3 11 1 (vI a.1.2.1) g.h (qAa 3 [(13,vI (wr (a.1.2.1+1))),(15,vP bp0 1)] (qAb rfl (qDv 3 15 13 1 (vI (wr (a.1.2.1+1))) #[vS n a.1.1 s,vI (wr (a.1.2.1+1)),vS o a.1.2.2.1 u,vS p a.1.2.2.2 v] g fun K g=>(WO_e (W_sr (qAd 1 [(4,vB true)] (qBd ?_))))))))))));cases i;exact X_rt [4] [vB true] ⟨n,s,o,u,p,v,y,rfl,q.t x,g.f1.f1,z,B,D⟩
def qFw(N:Nat)(b:T1o):Option (T1o⊕T1o⊕T1p):=
 (qFl N b.2).bind fun a=>(match a with| .inl a=>some (.inr (.inr (.inl a)))| .inr a=>(if((List.length b.1:Int)==8)=true then((qCi N a.2 2).bind fun c=>(match c with| .inl c=>some (.inr (.inr (.inr (.inl c))))| .inr c=>some (.inl ()))) else(some (.inl ())):Option T1q).bind fun c=>(match c with| .inl c=>(qCd N b.1 a.2.2.1).bind fun c=>(if c=true then((qCi N a.2 10).bind fun c=>(match c with| .inl c=>some (.inr (.inr (.inr (.inl c))))| .inr c=>some (.inl ()))) else(some (.inl ())):Option T1q).bind fun c=>(match c with| .inl c=>(qCx 16 b.1 ([a.2.2.1])).bind fun b=>(qDy N a.1 (⟨#[44]⟩:ByteArray)).bind fun a=>if(!a.2)=true then(some (.inr (.inl (b,a.1.1,a.1.2.1,a.1.2.2.1,a.1.2.2.2)))) else(some (.inl (b,a.1.1,a.1.2.1,a.1.2.2.1,a.1.2.2.2)))| .inr z=>some z)| .inr z=>some z))
def qFt(N:Nat)(p0:T1i):Option T1p:=
 (qBz N p0 (⟨#[40]⟩:ByteArray)).bind fun a=>(match a with| .inl a=>some (.inl a)| .inr a=>(qDy N a (⟨#[41]⟩:ByteArray)).bind fun a=>if a.2=true then(some (.inr (a.1,([]:Tf)))) else((qAt (qFw N) N (([]:Tf),a.1.1,a.1.2.1,a.1.2.2.1,a.1.2.2.2)).bind fun a=>(match a with| .inl a=>(qBz N a.2 (⟨#[41]⟩:ByteArray)).bind fun b=>(match b with| .inl b=>some (.inl b)| .inr b=>some (.inr (b,a.1)))| .inr (z)=>some z)))
theorem qRe{p0:T1i}{r:T1p}(g:St m (kB bp0 (Vd p0 a1 c1 a2 c2 a3 c3) 93::kR a3 p0.2.2.2 c3 73 5::O) w)(r1:RepS C5 m a1 c1 p0.1)(r2:RepS cStr m a2 c2 p0.2.2.1)(r3:RepS C2 m a3 c3 p0.2.2.2)(i:qFt N p0=some r):Calls Tryz.prog 135 #[vP bp0 0] w fun e w'=>(∃(z0:T8),∃m',r= .inl z0∧e= .panicked [{v:= .iface 89 (.agg (Ve z0)),recovered:=false}]∧m.le m'∧St m' (O) w')∨(∃(F:T1i×Tf),r= .inr F∧∃g5 g7 g6 g8 d5 d7 d6 d8 m',e= .returned (vS d6 F.2 d8)∧m.le m'∧St m' (kR d6 F.2 d8 9 1::kB bp0 (Vd F.1 g5 g7 g6 g8 d5 d7) 93::kR d5 F.1.2.2.2 d7 73 5::O) w'∧RepS C5 m' g5 g7 F.1.1∧RepS cStr m' g6 g8 F.1.2.2.1∧RepS C2 m' d5 d7 F.1.2.2.2∧RepS cStr m' d6 d8 F.2):=by
 unfold qFt at i;have q:=m.le_refl;refine W_cA Tryz.func135 rfl Tryz.ntmps135 ?_;refine W_sr (qAd 1 [] (W_sr (qAd 1 [(3,v1)] (W_sr (qAa 1 [(5,vP bp0 0)] (qCp 6 i (fun _ h=>qCz (p0:=p0) g.f1.f1 r1 r2 r3 h) ?_))))));rintro y1 i _ w1 (⟨z1,m2,rfl,rfl,e2,g⟩|⟨y2,rfl,a4,c4,a5,c5,a6,c6,m1,rfl,e1,g,r4,r5,r6⟩)
 ·refine qAk ?_;obtain rfl:=sI i;exact qAx (.inl ⟨z1,m2,rfl,rfl,q.t e2,g⟩)
 refine WO_e (qAs (W_sr (qAa 1 [(7,vP bp0 0)] (qAp 8 i (fun _ h=>qGj (p0:=y2) g.f1.f1 r4 r5 r6 h) ?_))));rintro y3 i _ w3 ⟨a7,c7,a8,c8,a9,c9,m3,rfl,e3,g,r7,r8,r9⟩;refine WO_e (W_if i ?_ ?_)
 ·intro A i;refine W_sr (qAd 1 [(2,v1)] (qBd (qAc ?_)));cases i;refine X_rt [2] [v1] ?_;have g:=(g.nilroom 9 1).front2.front2.front2;exact .inr ⟨_,rfl,a7,c7,a8,c8,a9,c9,none,0,m3,rfl,(q.t e1).t e3,g,r7,r8,r9,(RepS.nil _ _)⟩
 ·intro A i;refine qAq (qAf (qAs (qAw ?_)));have⟨d4,i,j1⟩:=qBa i;refine qCg (.exit 0) (fun L' w'=>∃(l:T1o),∃o p b4 b9 b5 d0 R Y K,(.inl l)=d4∧L'=[(0,vP bp0 0),(3,vS o l.1 p)]∧m.le K∧St K (kB bp0 (Vd l.2 b4 b9 b5 d0 R Y) 93::kR o l.1 p 9 1::kR R l.2.2.2.2 Y 73 5::O) w'∧RepS cStr K o p l.1∧RepS C5 K b4 b9 l.2.1∧RepS cStr K b5 d0 l.2.2.2.1∧RepS C2 K R Y l.2.2.2.2) ?_ ?_
  ·rintro _ w4 ⟨l,o,p,b4,b9,b5,d0,R,Y,K,rfl,rfl,q,g,z,B,D,E⟩;have i:=j1;refine qBh (qAf (W_sr (qAa 1 [(30,vP bp0 0)] (qCp 31 i (fun _ h=>qCz (p0:=l.2) g.f2.f1 B D E h) ?_))));rintro V i _ U (⟨S,y,rfl,rfl,u,g⟩|⟨Z,rfl,b,k,c,n,f,s,x,rfl,a,g,G,H,M⟩)
   ·refine qAk ?_;obtain rfl:=sI i;have g:=g.t;exact qAx (.inl ⟨S,y,rfl,rfl,q.t u,g⟩)
   refine WO_e (W_sr (qAd 2 [(2,vS o l.1 p)] (qBd ?_)));cases i;exact X_rt [2] [vS o l.1 p] (.inr ⟨_,rfl,b,k,c,n,f,s,o,p,x,rfl,q.t a,g.f1.f1.f2,G,H,M,z.mono a⟩)
  intro d9;have g:=(g.nilroom 9 1).front2.front1.front2;refine qGm _ kr (qDl (fun k1 L' w'=>∃(a:T1o),∃c f b6 d1 b7 d2 S Z M,qAt (qFw N) k1 a=some d4∧L'=[(0,vP bp0 0),(3,vS c a.1 f)]∧m.le M∧St M (kB bp0 (Vd a.2 b6 d1 b7 d2 S Z) 93::kR c a.1 f 9 1::kR S a.2.2.2.2 Z 73 5::O) w'∧RepS cStr M c f a.1∧RepS C5 M b6 d1 a.2.1∧RepS cStr M b7 d2 a.2.2.2.1∧RepS C2 M S Z a.2.2.2.2) N ⟨(([]:Tf),y3.1.1,y3.1.2.1,y3.1.2.2.1,y3.1.2.2.2),none,0,a7,c7,a8,c8,a9,c9,m3,i,rfl,(q.t e1).t e3,g,(RepS.nil _ _),r7,r8,r9⟩ ?_);rintro k1 _ w5 ⟨a,c,f,b6,d1,b7,d2,S,Z,M,hL,rfl,q,g,n,h4,h5,h6⟩;rcases k1 with _|k1
  ·exact qBj hL
  ·obtain⟨k2,i,h0,E⟩:=qBi hL;clear hL;unfold qFw at i;refine qAw (W_sr (qAa 1 [(9,vP bp0 0)] (qCp 10 i (fun _ h=>qKy (p0:=a.2) g.f2.f1 h4 h5 h6 h) ?_)));rintro y4 i _ w6 (⟨z2,m7,rfl,rfl,e5,g⟩|⟨b,rfl,U,a0,V,b0,y,z,m6,rfl,e4,g,s,u,x⟩)
   ·refine qAk ?_;refine qBs ?_;obtain rfl:=sI i;have ho:=E _ rfl;subst ho;have i:=j1;refine qAk ?_;refine qBs ?_;refine qAk ?_;obtain rfl:=sI i;have g:=g.t;exact qAx (.inl ⟨z2,m7,rfl,rfl,q.t e5,g⟩)
   have q:=q.t e4;refine qAb rfl (qEh 4 109 (.agg (V9 0 eB 0 0)) g fun b1 w8 g=>(qAb rfl (qCm 109 4 10 (.agg (V8 b.2)) g fun w9 g=>(WO_e (qAs (W_sr (qAd 3 [(13,vB ((a.1.length:Int)==8))] ?_)))))));have⟨h2,i,j2⟩:=qBa i;refine qCg .normal (fun L' w'=>∃(o2:Unit),∃m8,(.inl o2:T1q)=h2∧L'=[(0,vP bp0 0),(3,vS c a.1 f),(4,vP b1 0)]∧m.le m8∧St m8 (kB b1 (V8 b.2) 109::kB bp0 (Vd b.1 U a0 V b0 y z) 93::kR y b.1.2.2.2 z 73 5::kR c a.1 f 9 1::O) w'∧RepS cStr m8 c f a.1∧P7 m8 U a0 V b0 y z b.1) ?_ ?_
   ·rintro _ k3 ⟨o2,m8,rfl,rfl,q,g,n,s,u,x⟩;have i:=j2;refine qAf (qAs (W_sr (qAa 2 [(16,vS c a.1 f),(17,vP b1 1)] (qAb rfl (qBx 18 9 17 1 (vT b.2.2.1) g.h (qAp 19 i (fun _ h=>qFu g n h) ?_))))));rintro y8 i _ k4 ⟨h1,rfl,D,g⟩;have q:=q.t D;refine WO_e ?_;have⟨h3,i,j3⟩:=qBa i;refine qCg .normal (fun L' w'=>∃(o3:Unit),∃H,(.inl o3:T1q)=h3∧L'=[(0,vP bp0 0),(3,vS c a.1 f),(4,vP b1 0)]∧m.le H∧St H (kB b1 (V8 b.2) 109::kB bp0 (Vd b.1 U a0 V b0 y z) 93::kR y b.1.2.2.2 z 73 5::kR c a.1 f 9 1::O) w'∧RepS cStr H c f a.1∧P7 H U a0 V b0 y z b.1) ?_ ?_
    ·rintro _ k5 ⟨o3,H,rfl,rfl,q,g,n,s,u,x⟩;have i:=j3;refine qAf (W_sr (qAa 2 [(22,vS c a.1 f),(23,vP b1 1)] (qAb rfl (qBx 24 9 23 1 (vT b.2.2.1) g.h (qAb rfl (qBl (d:=25) (t:=22) (e:=9) (len:=1) (parts:= #[(0,(.tmp 24))]) cStr (xs:=[b.2.2.1]) [vT b.2.2.1] kr rfl (fun _=>qBn kr _) rfl rfl g ⟨[vT b.2.2.1],_,rfl,rfl,rfl⟩ fun b2 h8 k6 B g h7=>(qAb rfl (qGi 26 22 22 9 16 22 25 g.f4 (.inl kr) (n.mono B) h7.src i fun l1 i b8 d3 h9 k7 G g g1=>(qAa 1 [(3,vS b8 l1 d3)] (qAv rfl ?_))))))))));have g:=g.f1.t;refine qAf (W_sr (qAa 1 [(27,vP bp0 0)] (qAp 28 i (fun _ h=>qGj (p0:=b.1) g.f3.f3 ((s.mono B).mono G) ((u.mono B).mono G) ((x.mono B).mono G) h) ?_)));rintro k i _ k8 ⟨e0,f7,f5,f8,f6,f9,g0,rfl,b3,g,g2,g3,g4⟩;refine qAd 1 [(29,vB (!k.2))] (W_if i ?_ ?_)
     ·intro A i;refine qDi (qPn rfl ?_);obtain rfl:=sI i;have ho:=E _ rfl;have g:=g.f3.t.f1.f2.f2;refine qAg ?_;exact xE (d9 _ _ ⟨(l1,k.1.1,k.1.2.1,k.1.2.2.1,k.1.2.2.2),b8,d3,e0,f7,f5,f8,f6,f9,g0,ho,rfl,((q.t B).t G).t b3,g,g1.mono b3,g2,g3,g4⟩)
     ·intro A i;refine qAq (qBe ?_);obtain rfl:=sI i;have hL:=h0 _ rfl;exact xE (qCh k1 (jG _) ⟨(l1,k.1.1,k.1.2.1,k.1.2.2.1,k.1.2.2.2),b8,d3,e0,f7,f5,f8,f6,f9,g0,hL,rfl,((q.t B).t G).t b3,g.f3.t.f1.f2.f2,g1.mono b3,g2,g3,g4⟩)
    ·intro B;refine W_if i ?_ ?_
     ·intro A i;refine qAl (qAb rfl (qBx 20 109 4 0 (.agg (V8 b.2)) g.h (qCp 21 i (fun _ h=>qDd (p0:=b.2) g h) ?_)));rintro y9 i _ e0 (⟨z4,d3,rfl,rfl,b3,g⟩|⟨f5,rfl,b8,rfl,k,g⟩)
      ·obtain rfl:=sI i;have i:=j3;refine qAk ?_;refine qBs ?_;obtain rfl:=sI i;have ho:=E _ rfl;subst ho;have i:=j1;refine qAk ?_;refine qBs ?_;refine qAk ?_;obtain rfl:=sI i;have g:=g.t.t.t.t;exact qAx (.inl ⟨z4,d3,rfl,rfl,q.t b3,g⟩)
      refine qAv rfl ?_;have G:=jI i;exact xE (B _ _ ⟨(),b8,G,rfl,q.t k,g.f3.f3.f3.f3,(n.mono D).mono k,(s.mono D).mono k,(u.mono D).mono k,(x.mono D).mono k⟩)
     ·intro A i;refine qAq ?_;have G:=jI i;exact xE (B _ _ ⟨(),h1,G,rfl,q,g.f3.f3.f3.f3,n.mono D,s.mono D,u.mono D,x.mono D⟩)
   ·intro B;refine W_if i ?_ ?_
    ·intro A i;refine qAl (qAb rfl (qBx 14 109 4 0 (.agg (V8 b.2)) g.h (qCp 15 i (fun _ h=>qDd (p0:=b.2) g h) ?_)));rintro y6 i _ b3 (⟨z3,G,rfl,rfl,H,g⟩|⟨y7,rfl,m9,rfl,k,g⟩)
     ·obtain rfl:=sI i;have i:=j2;refine qAk ?_;refine qBs ?_;obtain rfl:=sI i;have ho:=E _ rfl;subst ho;have i:=j1;refine qAk ?_;refine qBs ?_;refine qAk ?_;obtain rfl:=sI i;have g:=g.t.t.t.t;exact qAx (.inl ⟨z3,G,rfl,rfl,q.t H,g⟩)
     refine qAv rfl ?_;have D:=jI i;exact xE (B _ _ ⟨(),m9,D,rfl,q.t k,g.f3.f3.f3.f3,(n.mono e4).mono k,s.mono k,u.mono k,x.mono k⟩)
    ·intro A i;refine qAq ?_;have D:=jI i;exact xE (B _ _ ⟨(),m6,D,rfl,q,g.f3.f3.f3.f3,n.mono e4,s,u,x⟩)
def qDr(N:Nat)(p0:T1i)(p1:Tw)(p2:Ti):T1t:=
 (if((List.length p0.2.2.2:Int)==256)=true then((qCi N p1 2).bind fun a=>(match a with| .inl a=>some (.inr (.inl a))| .inr a=>some (.inl ()))) else(some (.inl ())):Option T1u).bind fun a=>(match a with| .inl a=>(qCx 64 p0.2.2.2 ([p2])).bind fun a=>some (.inr ((p0.1,p0.2.1,p0.2.2.1,a),IntKind.wrap .i64 ((List.length a:Int)-1)))| .inr z=>some z)
theorem qFz{p0:T1i}{p1:Tw}{p2:Ti}{r:T1s}(g:St m (kB bp0 (Vd p0 a1 c1 a2 c2 a3 c3) 93::kR a3 p0.2.2.2 c3 73 5::O) w)(z:RepS C5 m a1 c1 p0.1)(B:RepS cStr m a2 c2 p0.2.2.1)(D:RepS C2 m a3 c3 p0.2.2.2)(E:RepS (cInt .i64) m a4 c4 p2.2.2.2.2)(i:qDr N p0 p1 p2=some r):Calls Tryz.prog 157 #[vP bp0 0,.agg (V8 p1),.agg (V1 p2 a4 c4)] w fun e w'=>(∃(Y:T8),∃m',r= .inl Y∧e= .panicked [{v:= .iface 89 (.agg (Ve Y)),recovered:=false}]∧m.le m'∧St m' (O) w')∨(∃(s:T1r),r= .inr s∧∃F H G K o p m',e= .returned (vI s.2)∧m.le m'∧St m' (kB bp0 (Vd s.1 F H G K o p) 93::kR o s.1.2.2.2 p 73 5::O) w'∧P7 m' F H G K o p s.1):=by
 unfold qDr at i;have q:=m.le_refl;refine W_cA Tryz.func157 rfl Tryz.ntmps157 ?_;refine W_sr (qAb rfl (qMl 4 109 1 (.agg (V8 p1)) g fun b1 m1 w1 f g R=>(qAb rfl (qMl 5 73 2 (.agg (V1 p2 a4 c4)) g fun M Z w2 b g k=> ?_))));have q:=(q.t f).t b;refine qAd 1 [] (qAs (W_sr (qCj 3 10 46 9 3 (vS a3 p0.2.2.2 c3) g.h (qAd 2 [(12,vB ((p0.2.2.2.length:Int)==256))] ?_))));have⟨V,i,S⟩:=qBa i;refine qCg .normal (fun L' w'=>∃(U:Unit),∃c,(.inl U:T1u)=V∧L'=[(0,vP bp0 0),(5,vP M 0)]∧m.le c∧St c (kB bp0 (Vd p0 a1 c1 a2 c2 a3 c3) 93::kR a3 p0.2.2.2 c3 73 5::O) w'∧MRow c M 0 (V2 p2 a4 c4)∧RepS (cInt .i64) c a4 c4 p2.2.2.2.2∧P7 c a1 c1 a2 c2 a3 c3 p0) ?_ ?_
 ·rintro _ w3 ⟨U,c,rfl,rfl,q,g,k,E,z,B,D⟩;have i:=S;refine qAf (qAs (qJa [(11,fun w'=>Inv c w'∧True),(10,fun w'=>Inv c w'∧Piece.holds c w' (kB bp0 (Vd p0 a1 c1 a2 c2 a3 c3) 93)∧True)] kr g fun w6 _ g=> ?_));have a:=c.le_refl;refine⟨⟨iA g a,⟨.inr ⟨Inv.anti g.inv a,Piece.holds_anti g.h a,trivial⟩,trivial⟩⟩,?_⟩;refine qBk 0 15 (vP bp0 0) (.head _) (qBk 1 16 (vP bp0 0) (.head _) (qBk 2 17 (vP bp0 0) (.head _) (qBk 3 18 (vP bp0 3) (.head _) (qJe 46 18 4 19 3 (vS a3 p0.2.2.2 c3) (.tail _ (.head _)) (fun _ h=>h.2.1) (qRw 73 5 5 20 0 (.agg (V1 p2 a4 c4)) (.head _) (fun _ h=>h.1) k (qDg 6 kr (qBl (d:=21) (t:=46) (e:=73) (len:=1) (parts:= #[(0,(.tmp 20))]) C2 (xs:=[p2]) (V2 p2 a4 c4) kr rfl (fun _=>qBn kr _) rfl rfl g ⟨(V2 p2 a4 c4),_,rfl,⟨_,_,rfl,rfl,⟨_,_,rfl,rfl,⟨_,_,rfl,rfl,⟨_,_,rfl,rfl,(zCw E)⟩⟩⟩⟩,rfl⟩ fun b3 m6 w7 l g r5=> ?_)))))));have a:=Mem.le_trans a l;refine⟨⟨iA g a,⟨.inr ⟨Inv.anti g.inv a,Piece.holds_anti g.t.h a,trivial⟩,trivial⟩⟩,?_⟩;refine qDg 7 kr (qGi 22 46 46 73 64 19 21 g.f2 (.inl kr) (D.mono l) r5.src i fun n i u x m7 w8 y g r6=> ?_);have a:=Mem.le_trans a y;refine⟨⟨iA g a,⟨.inr ⟨Inv.anti g.inv a,Piece.holds_anti g.t.t.h a,trivial⟩,trivial⟩⟩,?_⟩
  refine qBk 8 23 (vP bp0 0) (.head _) (qBk 9 24 (vP bp0 3) (.head _) (qDg 10 kr (qDv 46 24 22 3 (vS u n x) #[vS a1 p0.1 c1,vI p0.2.1,vS a2 p0.2.2.1 c2,vS u n x] g.f2 fun w9 g=>(⟨⟨iA g a,⟨.inl rfl,trivial⟩⟩,?_⟩))));refine qEc kr ?_;have g:=g.f2.t;refine qAf (W_sr (qCj 3 28 46 27 3 (vS u n x) g.h (qAd 3 [(6,vI (wr ((n.length:Int)-1)))] (qBd ?_))));obtain rfl:=sI i;exact X_rt [6] [vI (wr ((n.length:Int)-1))] (.inr ⟨_,rfl,a1,c1,a2,c2,u,x,m7,rfl,(q.t l).t y,g.f1.f1,(z.mono l).mono y,(B.mono l).mono y,r6⟩)
 ·intro l;refine W_if i ?_ ?_
  ·intro A i;refine qAl (qEg 13 109 4 0 (.agg (V8 p1)) g (R.mono b) (qCp 14 i (fun _ h=>qDd (p0:=p1) g h) ?_));rintro y1 i _ w4 (⟨z1,y,rfl,rfl,u,g⟩|⟨y2,rfl,x,rfl,a,g⟩)
   ·obtain rfl:=sI i;have i:=S;refine qAk ?_;obtain rfl:=sI i;have g:=g.t.t;exact qAx (.inl ⟨z1,y,rfl,rfl,q.t u,g⟩)
   refine qAv rfl ?_;have n:=jI i;exact xE (l _ _ ⟨(),x,n,rfl,q.t a,g.f1.f1,k.mono a,((E.mono f).mono b).mono a,((z.mono f).mono b).mono a,((B.mono f).mono b).mono a,((D.mono f).mono b).mono a⟩)
  ·intro A i;refine qAq ?_;have n:=jI i;exact xE (l _ _ ⟨(),Z,n,rfl,q,g.f1.f1,k,(E.mono f).mono b,(z.mono f).mono b,(B.mono f).mono b,(D.mono f).mono b⟩)
def qDq(N:Nat)(p1:Int)(b:T1j)(a:Option T6)(c:Unit):Option (Unit⊕Unit⊕T1r):=
 (match a with|none=>some (.inr (.inl ()))|some a=>(if(b.2.1==4)=true then(if(b.2.2.1.toList==a.2.toList)=true then((qLe N a.1).bind fun c=>some (c==p1)) else(some false)) else(some false):Tc).bind fun c=>if c=true then(some (.inr (.inr ((b.1,a.1))))) else(some (.inl ())))
instance dec_source_parser_operator_L1:DecidableEq (Unit⊕T1r):=(@instDecidableEqSum _ _ inferInstance (@instDecidableEqProd _ _ (@instDecidableEqProd _ _ (@instDecidableEqList _ (@instDecidableEqProd _ _ inferInstance (@instDecidableEqProd _ _ inferInstance (@instDecidableEqProd _ _ inferInstance inferInstance)))) (@instDecidableEqProd _ _ inferInstance (@instDecidableEqProd _ _ (@instDecidableEqList _ inferInstance) (@instDecidableEqList _ (@instDecidableEqProd _ _ inferInstance (@instDecidableEqProd _ _ inferInstance (@instDecidableEqProd _ _ inferInstance (@instDecidableEqProd _ _ inferInstance (@instDecidableEqList _ inferInstance))))))))) inferInstance))
def qIn(N:Nat)(p0:T1i)(p1:Int):Option T1r:=
 (qCs N p0).bind fun b=>(qNq N).bind fun a=>(isQ a).bind fun c=>(qXj (qDq N p1 b) (Option.getD a []) ()).bind fun a=>(match a with| .inl a=>some (b.1,0)| .inr (z)=>some z)
theorem qRu{p0:T1i}{p1:Int}{r:T1r}(g:St m (kB bp0 (Vd p0 a1 c1 a2 c2 a3 c3) 93::kR a3 p0.2.2.2 c3 73 5::O) w)(r1:RepS C5 m a1 c1 p0.1)(r2:RepS cStr m a2 c2 p0.2.2.1)(r3:RepS C2 m a3 c3 p0.2.2.2)(i:qIn N p0 p1=some r):Calls Tryz.prog 165 #[vP bp0 0,vI p1] w fun e w'=>∃b9 c8 c7 c9 a8 a9 m',e= .returned (vI r.2)∧m.le m'∧St m' (kB bp0 (Vd r.1 b9 c8 c7 c9 a8 a9) 93::kR a8 r.1.2.2.2 a9 73 5::O) w'∧P7 m' b9 c8 c7 c9 a8 a9 r.1:=by
 unfold qIn at i;have q:=m.le_refl;refine W_cA Tryz.func165 rfl Tryz.ntmps165 ?_;refine W_sr (qAd 1 [] (W_sr (qAa 1 [(8,vP bp0 0)] (qAp 9 i (fun _ h=>qDa (p0:=p0) g.f1.f1 r1 r2 r3 h) ?_))));rintro a i _ w1 ⟨F,H,G,M,o,p,m1,rfl,e1,g,u,v,y⟩;refine qAb rfl (qEh 5 109 (.agg (V9 0 eB 0 0)) g fun b1 w2 g=>(qAb rfl (qCm 109 5 9 (.agg (V8 a.2)) g fun w3 g=>(WO_e (qAs (W_sr (qAp 10 i (fun _ h=>qUy g h) ?_)))))));rintro y2 i _ w4 ⟨q1,f,b,m2,rfl,e2,g,l⟩;have⟨u1,d3,i⟩:=qBa i;obtain⟨z,rfl⟩:=MapQ.at l d3;refine qAb rfl (zGt (ek:=(fun n:Int=>Value.int .i64 n)) (c:=cStr) (agg:=false) (d:=11) (t:=146) (kt:=3) (et:=9) (x:=(.tmp 10)) kr rfl (ev (.map (some z))) kr g l fun S w5 g d1=>(WO_e (qAw ?_)));have⟨a7,i,j2⟩:=qBa i;refine qCg (.exit 0) (fun L' w'=>∃(o1:Unit) (b5:Array Nat) (b0:Ta),∃D,(.inl o1)=a7∧L'=[]∧m.le D∧St D (kB b1 (V8 a.2) 109::kB bp0 (Vd a.1 F H G M o p) 93::qEf (some z) f b::qNx S (some z) b b5::kR o a.1.2.2.2 p 73 5::O) w'∧RepS C5 D F H a.1.1∧RepS cStr D G M a.1.2.2.1∧RepS C2 D o p a.1.2.2.2∧MapQ (fun n:Int=>Value.int .i64 n) cStr false D (some z) f b y2∧ItR (fun n:Int=>Value.int .i64 n) cStr false D f b5 b0) ?_ ?_
 ·rintro _ s ⟨o1,b5,b0,D,rfl,rfl,q,g,u,v,y,l,k⟩;have i:=j2;refine qBh (qAf (W_sr (qAa 1 [(4,vI 0)] (qAv rfl ?_))));have g:=g.f3.t;refine qAf (qBd ?_);cases i;exact X_rt [4] [vI 0] ⟨F,H,G,M,o,p,D,rfl,q,g.t.f1.t.f1.f1,u,v,y⟩
 intro b7;refine qGm _ kr (qDl (fun k1 L' w'=>∃(s1:Unit) (Y:Array Nat) (E:Ta),∃s,LoopE (qDq N p1 a) E s1 a7 k1∧L'=[(1,vI p1),(5,vP b1 0),(11,vP S 0)]∧m.le s∧St s (kB b1 (V8 a.2) 109::kB bp0 (Vd a.1 F H G M o p) 93::qEf (some z) f b::qNx S (some z) b Y::kR o a.1.2.2.2 p 73 5::O) w'∧RepS C5 s F H a.1.1∧RepS cStr s G M a.1.2.2.1∧RepS C2 s o p a.1.2.2.2∧MapQ (fun n:Int=>Value.int .i64 n) cStr false s (some z) f b y2∧ItR (fun n:Int=>Value.int .i64 n) cStr false s f Y E) (List.length (Option.getD y2 [])+1) ⟨(),#[],(Option.getD y2 []),m2,LoopE.start i,rfl,(q.t e1).t e2,g.f4.f1.f2.f4.f4,u.mono e2,v.mono e2,y.mono e2,l,d1⟩ ?_);rintro k1 _ w7 ⟨s1,Y,E,s,hL,rfl,q,g,u,v,y,l,b8⟩;rcases k1 with _|k1
 ·exact LoopE.zero hL
 ·refine W_sr ?_;have g:=g.f2.f3;refine qAb rfl (zKu (ek:=(fun n:Int=>Value.int .i64 n)) (c:=cStr) (agg:=false) (d:=12) (x:=(.tmp 11)) kr rfl (ev (vP S 0)) g l b8 ?_ ?_)
  ·intro k B g;obtain⟨d2,i,a0,U⟩:=hL.nil k;clear hL;unfold qDq at i;refine qAd 1 [(13,vB false)] (qAs (qUp false kr (fun h=>Bool.noConfusion h) ?_));intro _;refine qDi (qAg ?_);cases i;have ho:=U _ rfl;have g:=g.f4.f1.f2.f4.f4;refine qAg ?_;exact xE (b7 _ _ ⟨(),Y,E,s,ho,rfl,q,g,u,v,y,l,b8⟩)
  ·rintro k b4 b6 d6 w9 d5 rfl g R d0;obtain⟨d2,i,a0,U⟩:=hL.cons d5;clear hL;unfold qDq at i;refine qAd 1 [(13,vB true)] (qAs (qUp true kr ?_ (fun h=>Bool.noConfusion h)));intro _;refine qAq (qAf (qAw (W_sr ?_)));have g:=g.f1.f1;refine qAb rfl (zFh (ek:=(fun n:Int=>Value.int .i64 n)) (c:=cStr) (agg:=false) (d:=14) (x:=(.tmp 11)) (K:=vI k.1) (V:=vT k.2) kr rfl (ev (vP S 0)) g l d0 (qAd 4 [(6,vI k.1),(7,vT k.2)] (W_sr ?_)));have⟨o2,i,J⟩:=qBa i;refine qDk (j:=15) (fun L' w'=>∃B,L'=[(1,vI p1),(5,vP b1 0),(6,vI k.1),(11,vP S 0),(31,vB o2)]∧m.le B∧St B (kB b1 (V8 a.2) 109::kB bp0 (Vd a.1 F H G M o p) 93::qEf (some z) f b::qNx S (some z) b b6::kR o a.1.2.2.2 p 73 5::O) w'∧RepS C5 B F H a.1.1∧RepS cStr B G M a.1.2.2.1∧RepS C2 B o p a.1.2.2.2∧MapQ (fun n:Int=>Value.int .i64 n) cStr false B (some z) f b y2∧ItR (fun n:Int=>Value.int .i64 n) cStr false B f b6 b4) ?_ ?_
   ·have i:=J;rintro _ Z ⟨B,rfl,q,g,u,v,y,l,R⟩;refine WO_e (W_if i ?_ ?_)
    ·intro A i;refine W_sr (qAa 2 [(4,vI k.1)] (qAv rfl ?_));have g:=g.f3.t;refine qAf (qBd (qAe ?_));cases i;have ho:=U _ rfl;subst ho;have i:=j2;refine qAc (qAe (qAc ?_));cases i;exact X_rt [4] [vI k.1] ⟨F,H,G,M,o,p,B,rfl,q,g.t.f1.t.f1.f1,u,v,y⟩
    ·intro A i;refine qAq (qBe ?_);obtain rfl:=sI i;have hL:=a0 _ rfl;exact xE (qCh k1 (jG _) ⟨(),b6,b4,B,hL,rfl,q,g.f4.f4.f4.f4.f4,u,v,y,l,R⟩)
   ·intro K;refine qCj 1 18 3 17 0 (vI a.2.1) g.t.t.h (qAa 2 [(20,vB (a.2.1==4))] (qCc 20 i ?_ ?_))
    ·intro A i;refine qCj 1 22 9 21 1 (vT a.2.2.1) g.t.t.h (qAa 4 [(26,vB (a.2.2.1.toList==k.2.toList))] (qCc 26 i ?_ ?_))
     ·intro A i;refine qAa 1 [(27,vI k.1)] (qAp 28 i (fun _ h=>qSj g h) ?_);rintro y3 i _ d7 ⟨m6,rfl,Z,g⟩;refine qAa 3 [(31,vB (y3==p1))] ?_;cases i;exact qAu _ kr (K _ _ ⟨m6,rfl,q.t Z,g.f4.f1.f2.f4.f4,u.mono Z,v.mono Z,y.mono Z,l.mono Z,R.mono Z⟩)
     ·intro A i;refine qAa 5 [(31,vB false)] ?_;cases i;exact qAu _ kr (K _ _ ⟨s,rfl,q,g.f4.f1.f2.f4.f4,u,v,y,l,R⟩)
    ·intro A i;refine qAa 11 [(31,vB false)] ?_;cases i;exact qAu _ kr (K _ _ ⟨s,rfl,q,g.f4.f1.f2.f4.f4,u,v,y,l,R⟩)
end
section
open Go Go.Dc
set_option maxHeartbeats 4000000
set_option maxRecDepth 100000
variable {N bp0 c1 c2 c3:Nat} {m:Mem} {O:List Piece} {w:World} {a1 a2 a3:Option Addr}
def qIg(N:Nat)(R9:T1i→Tw→(Int)→T1t)(Ra:T1i→(Int)→T1x)(Rb:T1i→(Int)→T1t)(Rc:T1i→(Int)→(Int)→T1t)(Rd:T1i→(Int)→T1t)(p0:T1i)(p1:Tw)(p2:Int):T1t:=
 (qBz N p0 (⟨#[40]⟩:ByteArray)).bind fun a=>(match a with| .inl a=>some (.inl a)| .inr b=>(if(p1.2.1.toList==(⟨#[114,101,97,100]⟩:ByteArray).toList)=true then((qFn N b).bind fun a=>(match a with| .inl a=>some (.inr (.inl a))| .inr c=>(qBz N c.1 (⟨#[44]⟩:ByteArray)).bind fun a=>(match a with| .inl a=>some (.inr (.inl a))| .inr a=>(Rd a (IntKind.wrap .i64 (p2+1))).bind fun a=>(match a with| .inl a=>some (.inr (.inl a))| .inr a=>some (.inl (6,0,c.2.2.1,[a.2],a.1.1,a.1.2.1,a.1.2.2.1,a.1.2.2.2)))))) else(if(p1.2.1.toList==(⟨#[115,105,122,101]⟩:ByteArray).toList)=true then((qFn N b).bind fun a=>(match a with| .inl a=>some (.inr (.inl a))| .inr a=>some (.inl (7,0,a.2.2.1,([]:Tb),a.1.1,a.1.2.1,a.1.2.2.1,a.1.2.2.2)))) else(if(p1.2.1.toList==(⟨#[104,97,115]⟩:ByteArray).toList)=true then((qFn N b).bind fun a=>(match a with| .inl a=>some (.inr (.inl a))| .inr a=>some (.inl (8,0,a.2.2.1,([]:Tb),a.1.1,a.1.2.1,a.1.2.2.1,a.1.2.2.2)))) else(if(p1.2.1.toList==(⟨#[101,110,118]⟩:ByteArray).toList)=true then((qFq N b 3).bind fun a=>(match a with| .inl a=>some (.inr (.inl a))| .inr a=>(qPm N a.2.2.1).bind fun c=>(if(!c)=true then((qCi N a.2 9).bind fun c=>(match c with| .inl c=>some (.inr (.inr (.inl c)))| .inr c=>some (.inl ()))) else(some (.inl ())):Option T20).bind fun c=>(match c with| .inl c=>some (.inl (9,0,a.2.2.1,([]:Tb),a.1.1,a.1.2.1,a.1.2.2.1,a.1.2.2.2))| .inr z=>some z))) else((qFq N b 2).bind fun a=>(match a with| .inl a=>some (.inr (.inl a))| .inr a=>(if(decide (a.2.2.2.1≥64))=true then((qCi N a.2 9).bind fun b=>(match b with| .inl b=>some (.inr (.inr (.inl b)))| .inr b=>some (.inl ()))) else(some (.inl ())):Option T20).bind fun b=>(match b with| .inl b=>some (.inl (10,a.2.2.2.1,(⟨#[]⟩:ByteArray),([]:Tb),a.1.1,a.1.2.1,a.1.2.2.1,a.1.2.2.2))| .inr z=>some z)))))):Option T1z).bind fun a=>(match a with| .inl a=>(qBz N a.2.2.2.2 (⟨#[41]⟩:ByteArray)).bind fun b=>(match b with| .inl b=>some (.inl b)| .inr b=>(qDr N b p1 (a.1,a.2.1,0,a.2.2.1,a.2.2.2.1)).bind fun a=>(match a with| .inl a=>some (.inl a)| .inr a=>some (.inr (a.1,a.2))))| .inr z=>some z))
def qGk(N:Nat)(Rd:T1i→(Int)→T1t)(p1:Int)(a:T1y):Option (T1y⊕T1y⊕T1w):=
 (Rd a.2 (IntKind.wrap .i64 (p1+1))).bind fun b=>(match b with| .inl b=>some (.inr (.inr (.inl b)))| .inr c=>(qCx 8 a.1 ([c.2])).bind fun b=>(qDy N c.1 (⟨#[44]⟩:ByteArray)).bind fun a=>if(!a.2)=true then(some (.inr (.inl (b,a.1.1,a.1.2.1,a.1.2.2.1,a.1.2.2.2)))) else(some (.inl (b,a.1.1,a.1.2.1,a.1.2.2.1,a.1.2.2.2))))
def qHi(N:Nat)(R9:T1i→Tw→(Int)→T1t)(Ra:T1i→(Int)→T1x)(Rb:T1i→(Int)→T1t)(Rc:T1i→(Int)→(Int)→T1t)(Rd:T1i→(Int)→T1t)(p0:T1i)(p1:Int):T1x:=
 (qBz N p0 (⟨#[40]⟩:ByteArray)).bind fun a=>(match a with| .inl a=>some (.inl a)| .inr a=>(qDy N a (⟨#[41]⟩:ByteArray)).bind fun a=>if a.2=true then(some (.inr (a.1,([]:Tb)))) else((qAt (qGk N Rd p1) N (([]:Tb),a.1.1,a.1.2.1,a.1.2.2.1,a.1.2.2.2)).bind fun a=>(match a with| .inl a=>(qBz N a.2 (⟨#[41]⟩:ByteArray)).bind fun b=>(match b with| .inl b=>some (.inl b)| .inr b=>some (.inr (b,a.1)))| .inr (z)=>some z)))
def qIp(N:Nat)(R9:T1i→Tw→(Int)→T1t)(Ra:T1i→(Int)→T1x)(Rb:T1i→(Int)→T1t)(Rc:T1i→(Int)→(Int)→T1t)(Rd:T1i→(Int)→T1t)(p0:T1i)(p1:Int):T1t:=
 (qCs N p0).bind fun a=>(if(a.2.1==2)=true then((qDr N (a.1.1,IntKind.wrap .i64 (a.1.2.1+1),a.1.2.2.1,a.1.2.2.2) a.2 (1,a.2.2.2.1,0,(⟨#[]⟩:ByteArray),([]:Tb))).bind fun b=>(match b with| .inl b=>some (.inr (.inl b))| .inr b=>some (.inr (.inr (b.1,b.2))))) else((qDy N a.1 (⟨#[45]⟩:ByteArray)).bind fun b=>if b.2=true then((qFq N b.1 2).bind fun c=>(match c with| .inl c=>some (.inr (.inl c))| .inr c=>(qDr N c.1 a.2 (1,IntKind.wrap .i64 (0-c.2.2.2.1),0,(⟨#[]⟩:ByteArray),([]:Tb))).bind fun c=>(match c with| .inl c=>some (.inr (.inl c))| .inr c=>some (.inr (.inr (c.1,c.2)))))) else((qDy N b.1 (⟨#[40]⟩:ByteArray)).bind fun b=>if b.2=true then((Rd b.1 (IntKind.wrap .i64 (p1+1))).bind fun c=>(match c with| .inl c=>some (.inr (.inl c))| .inr c=>(qBz N c.1 (⟨#[41]⟩:ByteArray)).bind fun d=>(match d with| .inl d=>some (.inr (.inl d))| .inr d=>some (.inr (.inr (d,c.2)))))) else(if(a.2.1 !=1)=true then((qCi N a.2 9).bind fun c=>(match c with| .inl c=>some (.inr (.inl c))| .inr c=>some (.inl b.1))) else(some (.inl b.1))))):Option (T1i⊕T1s)).bind fun b=>(match b with| .inl b=>(if(a.2.2.1.toList==(⟨#[114,101,97,100]⟩:ByteArray).toList)=true then(some (a.2.2.1.toList==(⟨#[114,101,97,100]⟩:ByteArray).toList)) else(if(a.2.2.1.toList==(⟨#[115,105,122,101]⟩:ByteArray).toList)=true then(some (a.2.2.1.toList==(⟨#[115,105,122,101]⟩:ByteArray).toList)) else(if(a.2.2.1.toList==(⟨#[104,97,115]⟩:ByteArray).toList)=true then(some (a.2.2.1.toList==(⟨#[104,97,115]⟩:ByteArray).toList)) else(if(a.2.2.1.toList==(⟨#[101,110,118]⟩:ByteArray).toList)=true then(some (a.2.2.1.toList==(⟨#[101,110,118]⟩:ByteArray).toList)) else(some (a.2.2.1.toList==(⟨#[102,108,105,112]⟩:ByteArray).toList))))):Tc).bind fun c=>if c=true then((R9 (b.1,IntKind.wrap .i64 (b.2.1+1),b.2.2.1,b.2.2.2) a.2 p1).bind fun c=>(match c with| .inl c=>some (.inl c)| .inr c=>some (.inr (c.1,c.2)))) else((qKj N a.2.2.1).bind fun c=>(if c=true then((qCi N a.2 9).bind fun c=>(match c with| .inl c=>some (.inr (.inl c))| .inr c=>some (.inl ()))) else(some (.inl ())):Option T1u).bind fun c=>(match c with| .inl c=>(qGd N (b.1,IntKind.wrap .i64 (b.2.1+1),b.2.2.1,b.2.2.2) 4 (⟨#[40]⟩:ByteArray)).bind fun b=>if b.2=true then((Ra b.1 p1).bind fun c=>(match c with| .inl c=>some (.inl c)| .inr c=>(qDr N c.1 a.2 (3,0,0,a.2.2.1,c.2)).bind fun c=>(match c with| .inl c=>some (.inl c)| .inr c=>some (.inr (c.1,c.2))))) else((qDz N b.1.2.2.1 a.2.2.1).bind fun c=>(if(decide (c<0))=true then((qCi N a.2 9).bind fun d=>(match d with| .inl d=>some (.inr (.inl d))| .inr d=>some (.inl ()))) else(some (.inl ())):Option T1u).bind fun d=>(match d with| .inl d=>(qDr N b.1 a.2 (2,c,0,(⟨#[]⟩:ByteArray),([]:Tb))).bind fun a=>(match a with| .inl a=>some (.inl a)| .inr a=>some (.inr (a.1,a.2)))| .inr z=>some z))| .inr z=>some z))| .inr z=>some z)
def qIa(N:Nat)(Rc:T1i→(Int)→(Int)→T1t)(p1:Int)(p2:Int)(c:Int×T1i):Option (Int×T1i⊕T1s):=
 (qIn N c.2 p1).bind fun b=>if(b.2==0)=true then(some (.inr (.inr (b.1,c.1)))) else((qCs N b.1).bind fun a=>(Rc (a.1.1,IntKind.wrap .i64 (a.1.2.1+1),a.1.2.2.1,a.1.2.2.2) (IntKind.wrap .i64 (p1+1)) p2).bind fun d=>(match d with| .inl d=>some (.inr (.inl d))| .inr d=>(qDr N d.1 a.2 (4,0,b.2,(⟨#[]⟩:ByteArray),[c.1,d.2])).bind fun a=>(match a with| .inl a=>some (.inr (.inl a))| .inr a=>if(p1==1)=true then(some (.inr (.inr (a.1,a.2)))) else(some (.inl (a.2,a.1.1,a.1.2.1,a.1.2.2.1,a.1.2.2.2))))))
def qFb(N:Nat)(R9:T1i→Tw→(Int)→T1t)(Ra:T1i→(Int)→T1x)(Rb:T1i→(Int)→T1t)(Rc:T1i→(Int)→(Int)→T1t)(Rd:T1i→(Int)→T1t)(p0:T1i)(p1:Int)(p2:Int):T1t:=
 if(p1==4)=true then((Rb p0 p2).bind fun a=>(match a with| .inl a=>some (.inl a)| .inr a=>some (.inr (a.1,a.2)))) else((Rc p0 (IntKind.wrap .i64 (p1+1)) p2).bind fun a=>(match a with| .inl a=>some (.inl a)| .inr a=>(qAt (qIa N Rc p1 p2) N (a.2,a.1.1,a.1.2.1,a.1.2.2.1,a.1.2.2.2)).bind fun z=>some z))
def qGn(N:Nat)(R9:T1i→Tw→(Int)→T1t)(Ra:T1i→(Int)→T1x)(Rb:T1i→(Int)→T1t)(Rc:T1i→(Int)→(Int)→T1t)(Rd:T1i→(Int)→T1t)(p0:T1i)(p1:Int):T1t:=
 (qCs N p0).bind fun c=>(if(decide (p1>32))=true then((qCi N c.2 2).bind fun a=>(match a with| .inl a=>some (.inr (.inl a))| .inr a=>some (.inl ()))) else(some (.inl ())):Option T1u).bind fun a=>(match a with| .inl a=>(qGd N c.1 1 (⟨#[105,102]⟩:ByteArray)).bind fun a=>if(!a.2)=true then((Rc a.1 1 p1).bind fun b=>(match b with| .inl b=>some (.inl b)| .inr b=>some (.inr (b.1,b.2)))) else((Rd (a.1.1,IntKind.wrap .i64 (a.1.2.1+1),a.1.2.2.1,a.1.2.2.2) (IntKind.wrap .i64 (p1+1))).bind fun a=>(match a with| .inl a=>some (.inl a)| .inr d=>(qIc N d.1 (⟨#[116,104,101,110]⟩:ByteArray)).bind fun a=>(match a with| .inl a=>some (.inl a)| .inr a=>(Rd a (IntKind.wrap .i64 (p1+1))).bind fun a=>(match a with| .inl a=>some (.inl a)| .inr a=>(qIc N a.1 (⟨#[101,108,115,101]⟩:ByteArray)).bind fun b=>(match b with| .inl b=>some (.inl b)| .inr b=>(Rd b (IntKind.wrap .i64 (p1+1))).bind fun b=>(match b with| .inl b=>some (.inl b)| .inr b=>(qDr N b.1 c.2 (5,0,0,(⟨#[]⟩:ByteArray),[d.2,a.2,b.2])).bind fun a=>(match a with| .inl a=>some (.inl a)| .inr a=>some (.inr (a.1,a.2)))))))))| .inr z=>some z)
def qAi(N:Nat):Nat→(T1i→Tw→(Int)→T1t)×(((List (Int×ByteArray×Int×Int))×Int×List ByteArray×(List (Int×Int×Int×ByteArray×List Int)))→(Int)→T1x)×(((List (Int×ByteArray×Int×Int))×Int×List ByteArray×(List (Int×Int×Int×ByteArray×List Int)))→(Int)→T1t)×(((List (Int×ByteArray×Int×Int))×Int×List ByteArray×(List (Int×Int×Int×ByteArray×List Int)))→(Int)→(Int)→T1t)×(((List (Int×ByteArray×Int×Int))×Int×List ByteArray×(List (Int×Int×Int×ByteArray×List Int)))→(Int)→T1t)
 |0=>((fun _ _ _=>none),(fun _ _=>none),(fun _ _=>none),(fun _ _ _=>none),(fun _ _=>none))
 |D+1=>(qIg N (qAi N D).1 (qAi N D).2.1 (qAi N D).2.2.1 (qAi N D).2.2.2.1 (qAi N D).2.2.2.2,qHi N (qAi N D).1 (qAi N D).2.1 (qAi N D).2.2.1 (qAi N D).2.2.2.1 (qAi N D).2.2.2.2,qIp N (qAi N D).1 (qAi N D).2.1 (qAi N D).2.2.1 (qAi N D).2.2.2.1 (qAi N D).2.2.2.2,qFb N (qAi N D).1 (qAi N D).2.1 (qAi N D).2.2.1 (qAi N D).2.2.2.1 (qAi N D).2.2.2.2,qGn N (qAi N D).1 (qAi N D).2.1 (qAi N D).2.2.1 (qAi N D).2.2.2.1 (qAi N D).2.2.2.2)
def qOn(N:Nat)(p0:T1i)(p1:Int):T1t:=(qAi N N).2.2.2.2 p0 p1
abbrev qHq(F:T1i→Tw→(Int)→T1t):Prop:=∀{m:Mem} {O:List Piece} {w:World} {p0:T1i} {p1:Tw} {p2:Int} {a:Nat} {d:Option Addr} {h:Nat} {f:Option Addr} {k:Nat} {b:Option Addr} {c:Nat} {r:T1s} (g:St m (kB a (Vd p0 d h f k b c) 93::kR b p0.2.2.2 c 73 5::O) w) (l:RepS C5 m d h p0.1) (d:RepS cStr m f k p0.2.2.1) (d:RepS C2 m b c p0.2.2.2) (i:F p0 p1 p2=some r),Calls Tryz.prog 176 #[vP a 0,.agg (V8 p1),vI p2] w fun e w'=>(∃(b:T8),∃m',r= .inl b∧e= .panicked [{v:= .iface 89 (.agg (Ve b)),recovered:=false}]∧m.le m'∧St m' (O) w')∨(∃(d:T1r),r= .inr d∧∃f k h l b c m',e= .returned (vI d.2)∧m.le m'∧St m' (kB a (Vd d.1 f k h l b c) 93::kR b d.1.2.2.2 c 73 5::O) w'∧P7 m' f k h l b c d.1)
abbrev qGl(F:T1i→(Int)→T1x):Prop:=∀{m:Mem} {O:List Piece} {w:World} {p0:T1i} {p1:Int} {b:Nat} {d:Option Addr} {h:Nat} {f:Option Addr} {k:Nat} {a:Option Addr} {c:Nat} {r:T1w} (g:St m (kB b (Vd p0 d h f k a c) 93::kR a p0.2.2.2 c 73 5::O) w) (l:RepS C5 m d h p0.1) (d:RepS cStr m f k p0.2.2.1) (d:RepS C2 m a c p0.2.2.2) (i:F p0 p1=some r),Calls Tryz.prog 177 #[vP b 0,vI p1] w fun e w'=>(∃(a:T8),∃m',r= .inl a∧e= .panicked [{v:= .iface 89 (.agg (Ve a)),recovered:=false}]∧m.le m'∧St m' (O) w')∨(∃(a:T1v),r= .inr a∧∃k n l o c f d h m',e= .returned (vS d a.2 h)∧m.le m'∧St m' (kR d a.2 h 3 1::kB b (Vd a.1 k n l o c f) 93::kR c a.1.2.2.2 f 73 5::O) w'∧P8 m' k n l o c f d h a)
abbrev qHz(F:T1i→(Int)→T1t):Prop:=∀{m:Mem} {O:List Piece} {w:World} {p0:T1i} {p1:Int} {a:Nat} {d:Option Addr} {h:Nat} {f:Option Addr} {k:Nat} {b:Option Addr} {c:Nat} {r:T1s} (g:St m (kB a (Vd p0 d h f k b c) 93::kR b p0.2.2.2 c 73 5::O) w) (l:RepS C5 m d h p0.1) (d:RepS cStr m f k p0.2.2.1) (d:RepS C2 m b c p0.2.2.2) (i:F p0 p1=some r),Calls Tryz.prog 164 #[vP a 0,vI p1] w fun e w'=>(∃(b:T8),∃m',r= .inl b∧e= .panicked [{v:= .iface 89 (.agg (Ve b)),recovered:=false}]∧m.le m'∧St m' (O) w')∨(∃(d:T1r),r= .inr d∧∃f k h l b c m',e= .returned (vI d.2)∧m.le m'∧St m' (kB a (Vd d.1 f k h l b c) 93::kR b d.1.2.2.2 c 73 5::O) w'∧P7 m' f k h l b c d.1)
abbrev qId(F:T1i→(Int)→(Int)→T1t):Prop:=∀{m:Mem} {O:List Piece} {w:World} {p0:T1i} {p1:Int} {p2:Int} {a:Nat} {d:Option Addr} {h:Nat} {f:Option Addr} {k:Nat} {b:Option Addr} {c:Nat} {r:T1s} (g:St m (kB a (Vd p0 d h f k b c) 93::kR b p0.2.2.2 c 73 5::O) w) (l:RepS C5 m d h p0.1) (d:RepS cStr m f k p0.2.2.1) (d:RepS C2 m b c p0.2.2.2) (i:F p0 p1 p2=some r),Calls Tryz.prog 156 #[vP a 0,vI p1,vI p2] w fun e w'=>(∃(b:T8),∃m',r= .inl b∧e= .panicked [{v:= .iface 89 (.agg (Ve b)),recovered:=false}]∧m.le m'∧St m' (O) w')∨(∃(d:T1r),r= .inr d∧∃f k h l b c m',e= .returned (vI d.2)∧m.le m'∧St m' (kB a (Vd d.1 f k h l b c) 93::kR b d.1.2.2.2 c 73 5::O) w'∧P7 m' f k h l b c d.1)
abbrev qIx(F:T1i→(Int)→T1t):Prop:=∀{m:Mem} {O:List Piece} {w:World} {p0:T1i} {p1:Int} {a:Nat} {d:Option Addr} {h:Nat} {f:Option Addr} {k:Nat} {b:Option Addr} {c:Nat} {r:T1s} (g:St m (kB a (Vd p0 d h f k b c) 93::kR b p0.2.2.2 c 73 5::O) w) (l:RepS C5 m d h p0.1) (d:RepS cStr m f k p0.2.2.1) (d:RepS C2 m b c p0.2.2.2) (i:F p0 p1=some r),Calls Tryz.prog 136 #[vP a 0,vI p1] w fun e w'=>(∃(b:T8),∃m',r= .inl b∧e= .panicked [{v:= .iface 89 (.agg (Ve b)),recovered:=false}]∧m.le m'∧St m' (O) w')∨(∃(d:T1r),r= .inr d∧∃f k h l b c m',e= .returned (vI d.2)∧m.le m'∧St m' (kB a (Vd d.1 f k h l b c) 93::kR b d.1.2.2.2 c 73 5::O) w'∧P7 m' f k h l b c d.1)
theorem qRg{R9:T1i→Tw→(Int)→T1t}{Ra:T1i→(Int)→T1x}{Rb:T1i→(Int)→T1t}{Rc:T1i→(Int)→(Int)→T1t}{Rd:T1i→(Int)→T1t}(n:qHq R9)(l:qGl Ra)(p:qHz Rb)(o:qId Rc)(c:qIx Rd){p0:T1i}{p1:Tw}{p2:Int}{r:T1s}(g:St m (kB bp0 (Vd p0 a1 c1 a2 c2 a3 c3) 93::kR a3 p0.2.2.2 c3 73 5::O) w)(r1:RepS C5 m a1 c1 p0.1)(r2:RepS cStr m a2 c2 p0.2.2.1)(r3:RepS C2 m a3 c3 p0.2.2.2)(i:qIg N R9 Ra Rb Rc Rd p0 p1 p2=some r):Calls Tryz.prog 176 #[vP bp0 0,.agg (V8 p1),vI p2] w fun e w'=>(∃(z0:T8),∃m',r= .inl z0∧e= .panicked [{v:= .iface 89 (.agg (Ve z0)),recovered:=false}]∧m.le m'∧St m' (O) w')∨(∃(y0:T1r),r= .inr y0∧∃b9 d1 d0 d2 b6 b7 m',e= .returned (vI y0.2)∧m.le m'∧St m' (kB bp0 (Vd y0.1 b9 d1 d0 d2 b6 b7) 93::kR b6 y0.1.2.2.2 b7 73 5::O) w'∧P7 m' b9 d1 d0 d2 b6 b7 y0.1):=by
 unfold qIg at i;have q:=m.le_refl;refine W_cA Tryz.func176 rfl Tryz.ntmps176 ?_;refine W_sr (qAb rfl (qMl 4 109 1 (.agg (V8 p1)) g fun B m1 w1 e1 g b=>(qAd 1 [] (W_sr (qAa 1 [(10,vP bp0 0)] (qCp 11 i (fun _ h=>qCz (p0:=p0) g.f1.f1 (r1.mono e1) (r2.mono e1) (r3.mono e1) h) ?_))))));rintro y1 i _ w2 (⟨z1,m3,rfl,rfl,e3,g⟩|⟨y2,rfl,a4,c4,a5,c5,a6,c6,m2,rfl,e2,g,r4,r5,r6⟩)
 ·refine qAk ?_;obtain rfl:=sI i;exact qAx (.inl ⟨z1,m3,rfl,rfl,(q.t e1).t e3,g⟩)
 have q:=(q.t e1).t e2;have b:=b.mono e2;refine WO_e (W_sr (qAb rfl (qEh 7 73 (.agg #[vI 0,vI 0,vI 0,vT eB,v6]) g fun E w4 g=>(WO_e (qAs (W_sr (qAa 1 [(12,vP B 1)] (qAb rfl (qAr (d:=13) (t:=9) (x:=(.tmp 12)) (vT p1.2.1) kr rfl (ev (vP B 1)) g (b.drop 1) kr (WO_e ?_))))))))));have⟨d9,i,s⟩:=qBa i;refine qCg .normal (fun L' w'=>∃(f:Int×Int×T5×T1y),∃Y c7 a8 c8 a9 c9 F H m4,(.inl f:T1z)=d9∧L'=[(0,vP bp0 0),(4,vP B 0),(7,vP E 0)]∧m.le m4∧St m4 (kB E #[vI f.1,vI f.2.1,vI 0,vT f.2.2.1,vS Y f.2.2.2.1 c7] 73::kB bp0 (Vd f.2.2.2.2 a8 c8 a9 c9 F H) 93::kR Y f.2.2.2.1 c7 3 1::kR F f.2.2.2.2.2.2.2 H 73 5::O) w'∧MRow m4 B 0 (Va p1)∧P9 m4 Y c7 a8 c8 a9 c9 F H f.2.2.2) ?_ ?_
 ·rintro _ w5 ⟨f,Y,c7,a8,c8,a9,c9,F,H,m4,rfl,rfl,q,g,b,r7,r8,r9,a0⟩;have i:=s;refine qAf (W_sr (qAa 1 [(63,vP bp0 0)] (qCp 64 i (fun _ h=>qCz (p0:=f.2.2.2.2) g.f3.f2 r8 r9 a0 h) ?_)));rintro g3 i _ g1 (⟨d8,U,rfl,rfl,M,g⟩|⟨d7,rfl,f4,f7,f5,f8,f6,f9,g0,rfl,a,g,b0,b8,d3⟩)
  ·refine qAk ?_;obtain rfl:=sI i;have g:=g.t.t;exact qAx (.inl ⟨d8,U,rfl,rfl,q.t M,g⟩)
  refine WO_e (W_sr (qAa 1 [(65,vP bp0 0)] (qEg 66 109 4 0 (.agg (V8 p1)) g (b.mono a) (qAb rfl (qBx 67 73 7 0 (.agg #[vI f.1,vI f.2.1,vI 0,vT f.2.2.1,vS Y f.2.2.2.1 c7]) g.t.t.h (qCp 68 i (fun _ h=>qFz (p0:=d7) (p1:=p1) (p2:=(f.1,f.2.1,0,f.2.2.1,f.2.2.2.1)) g.f1.f1 b0 b8 d3 (r7.mono a) h) ?_))))));rintro g4 i _ g2 (⟨e0,Z,rfl,rfl,S,g⟩|⟨k,rfl,u,D,y,G,z,K,V,rfl,R,g,d4,d5,d6⟩)
  ·refine qAk ?_;obtain rfl:=sI i;have g:=g.t.t;exact qAx (.inl ⟨e0,Z,rfl,rfl,(q.t a).t S,g⟩)
  refine qAd 1 [(6,vI k.2)] (qBd ?_);cases i;exact X_rt [6] [vI k.2] (.inr ⟨_,rfl,u,D,y,G,z,K,V,rfl,(q.t a).t R,g.f2.t.f2.t.f1.f1,d4,d5,d6⟩)
 ·intro z;refine qAw (W_sr (qAd 2 [(24,vB (p1.2.1.toList==bq.toList))] (W_if i ?_ ?_)))
  ·intro A i;refine W_sr (qAa 1 [(26,vP bp0 0)] (qCp 27 i (fun _ h=>qKr (p0:=y2) g.f2.f2 r4 r5 r6 h) ?_));rintro y3 i _ w6 (⟨z2,m6,rfl,rfl,e5,g⟩|⟨u,rfl,f6,g2,f7,g3,f8,g4,m5,rfl,Z,g,b8,d3,d4⟩)
   ·refine qAk ?_;refine qBs ?_;obtain rfl:=sI i;have i:=s;refine qAk ?_;obtain rfl:=sI i;have g:=g.t;exact qAx (.inl ⟨z2,m6,rfl,rfl,q.t e5,g⟩)
   have q:=q.t Z;refine qAa 2 [(29,.agg #[vI 6,vI 0,vI 0,vT u.2.2.1,v8])] (qAb rfl (qCm 73 7 29 (.agg #[vI 6,vI 0,vI 0,vT u.2.2.1,v8]) g.f2 fun w8 g=>(WO_e (W_sr (qAa 1 [(30,vP bp0 0)] (qCp 31 i (fun _ h=>qCz (p0:=u.1) g.f2.f2 b8 d3 d4 h) ?_))))));rintro y5 i _ w9 (⟨z3,m8,rfl,rfl,e7,g⟩|⟨y6,rfl,f9,g5,g0,g6,g1,g7,m7,rfl,G,g,d5,d6,d7⟩)
   ·refine qAk ?_;refine qBs ?_;obtain rfl:=sI i;have i:=s;refine qAk ?_;obtain rfl:=sI i;have g:=g.t;exact qAx (.inl ⟨z3,m8,rfl,rfl,q.t e7,g⟩)
   refine WO_e (qAl (qAa 3 [(32,vP bp0 0),(34,vI (wr (p2+1)))] (qCp 35 i (fun _ h=>c (p0:=y6) g.f1.f1 d5 d6 d7 h) ?_)));rintro y7 i _ g8 (⟨z4,a0,rfl,rfl,e9,g⟩|⟨a,rfl,K,S,M,U,R,V,m9,rfl,e8,g,d8,e0,f4⟩)
   ·refine qBs ?_;obtain rfl:=sI i;have i:=s;refine qAk ?_;obtain rfl:=sI i;have g:=g.t;exact qAx (.inl ⟨z4,a0,rfl,rfl,(q.t G).t e9,g⟩)
   refine qAb rfl (qBl (d:=36) (t:=32) (e:=3) (len:=1) (parts:= #[(0,(.tmp 35))]) (cInt .i64) (xs:=[a.2]) [vI a.2] kr rfl (fun _=>qBn kr _) rfl rfl g ⟨[vI a.2],_,rfl,rfl,rfl⟩ fun D b0 h0 k g f5=>(qAa 1 [(37,vP E 4)] (qAb rfl (qDv 32 37 36 4 (vS (aP D) ([a.2]) 1) #[vI 6,vI 0,vI 0,vT u.2.2.1,vS (aP D) ([a.2]) 1] g.f3 fun h1 g=>(qAv rfl (qBe ?_))))));have y:=jI i;exact xE (z _ _ ⟨(6,0,u.2.2.1,[a.2],a.1.1,a.1.2.1,a.1.2.2.1,a.1.2.2.2),(aP D),1,K,S,M,U,R,V,b0,y,rfl,((q.t G).t e8).t k,g.f3.f2.f3.f3,(((b.mono Z).mono G).mono e8).mono k,f5,d8.mono k,e0.mono k,f4.mono k⟩)
  ·intro A i;refine W_sr (qAd 2 [(38,vB (p1.2.1.toList==br.toList))] (W_if i ?_ ?_))
   ·intro A i;refine qAl (qAa 1 [(40,vP bp0 0)] (qCp 41 i (fun _ h=>qKr (p0:=y2) g.f2.f2 r4 r5 r6 h) ?_));rintro y9 i _ b8 (⟨z5,V,rfl,rfl,S,g⟩|⟨a,rfl,u,K,D,M,G,R,U,rfl,k,g,Z,a0,b0⟩)
    ·refine qBs ?_;obtain rfl:=sI i;have i:=s;refine qAk ?_;obtain rfl:=sI i;have g:=g.t;exact qAx (.inl ⟨z5,V,rfl,rfl,q.t S,g⟩)
    refine qAa 2 [(43,.agg #[vI 7,vI 0,vI 0,vT a.2.2.1,v8])] (qAb rfl (qCm 73 7 43 (.agg #[vI 7,vI 0,vI 0,vT a.2.2.1,v8]) g.f2 fun d3 g=>(qAv rfl (qBe ?_))));have y:=jI i;have g:=(g.nilroom 3 1).front3.front1.front3.front3;exact xE (z _ _ ⟨(7,0,a.2.2.1,([]:Tb),a.1.1,a.1.2.1,a.1.2.2.1,a.1.2.2.2),none,0,u,K,D,M,G,R,U,y,rfl,q.t k,g,b.mono k,(RepS.nil _ _),Z,a0,b0⟩)
   ·intro A i;refine W_sr (qAd 2 [(44,vB (p1.2.1.toList==bs.toList))] (W_if i ?_ ?_))
    ·intro A i;refine qAl (qAa 1 [(46,vP bp0 0)] (qCp 47 i (fun _ h=>qKr (p0:=y2) g.f2.f2 r4 r5 r6 h) ?_));rintro d4 i _ b8 (⟨z6,V,rfl,rfl,S,g⟩|⟨a,rfl,u,K,D,M,G,R,U,rfl,k,g,Z,a0,b0⟩)
     ·refine qBs ?_;obtain rfl:=sI i;have i:=s;refine qAk ?_;obtain rfl:=sI i;have g:=g.t;exact qAx (.inl ⟨z6,V,rfl,rfl,q.t S,g⟩)
     refine qAa 2 [(49,.agg #[vI 8,vI 0,vI 0,vT a.2.2.1,v8])] (qAb rfl (qCm 73 7 49 (.agg #[vI 8,vI 0,vI 0,vT a.2.2.1,v8]) g.f2 fun d3 g=>(qAv rfl (qBe ?_))));have y:=jI i;have g:=(g.nilroom 3 1).front3.front1.front3.front3;exact xE (z _ _ ⟨(8,0,a.2.2.1,([]:Tb),a.1.1,a.1.2.1,a.1.2.2.1,a.1.2.2.2),none,0,u,K,D,M,G,R,U,y,rfl,q.t k,g,b.mono k,(RepS.nil _ _),Z,a0,b0⟩)
    ·intro A i;refine W_sr (qAd 2 [(50,vB (p1.2.1.toList==bt.toList))] (W_if i ?_ ?_))
     ·intro A i;refine W_sr (qAa 1 [(52,vP bp0 0)] (qCp 53 i (fun _ h=>qJc (p0:=y2) g.f2.f2 r4 r5 r6 h) ?_));rintro g1 i _ f6 (⟨z7,d5,rfl,rfl,d3,g⟩|⟨a,rfl,U,Z,V,a0,G,K,f5,rfl,b0,g,M,R,S⟩)
      ·refine qAk ?_;refine qBs ?_;obtain rfl:=sI i;have i:=s;refine qAk ?_;obtain rfl:=sI i;have g:=g.t;exact qAx (.inl ⟨z7,d5,rfl,rfl,q.t d3,g⟩)
      refine qAb rfl (qEh 8 109 (.agg (V9 0 eB 0 0)) g fun b4 f7 g=>(qAb rfl (qCm 109 8 53 (.agg (V8 a.2)) g fun f8 g=>(WO_e (qAs (W_sr (qCj 1 55 9 54 1 (vT a.2.2.1) g.h (qAp 56 i (fun _ h=>qTb g h) ?_))))))));rintro f4 i _ f9 ⟨d6,rfl,k,g⟩;have q:=(q.t b0).t k;refine qAd 1 [(57,vB (!f4))] ?_;have⟨e0,i,j2⟩:=qBa i;refine qCg .normal (fun L' w'=>∃(o2:Unit),∃u,(.inl o2:T20)=e0∧L'=[(0,vP bp0 0),(4,vP B 0),(7,vP E 0),(8,vP b4 0)]∧m.le u∧St u (kB b4 (V8 a.2) 109::kB bp0 (Vd a.1 U Z V a0 G K) 93::kB E #[vI 0,vI 0,vI 0,vT eB,v8] 73::kR G a.1.2.2.2 K 73 5::O) w'∧MRow u B 0 (Va p1)∧P7 u U Z V a0 G K a.1) ?_ ?_
      ·rintro _ D ⟨o2,u,rfl,rfl,q,g,b,M,R,S⟩;have i:=j2;refine qAf (qAl (qCj 1 61 9 60 1 (vT a.2.2.1) g.h (qAa 1 [(62,.agg #[vI 9,vI 0,vI 0,vT a.2.2.1,v8])] (qAb rfl (qCm 73 7 62 (.agg #[vI 9,vI 0,vI 0,vT a.2.2.1,v8]) g.f2 fun b8 g=>(qAv rfl (qBe ?_)))))));have y:=jI i;have g:=(g.nilroom 3 1).front2;exact xE (z _ _ ⟨(9,0,a.2.2.1,([]:Tb),a.1.1,a.1.2.1,a.1.2.2.1,a.1.2.2.2),none,0,U,Z,V,a0,G,K,u,y,rfl,q,g.t.f3.f1.f3.f3,b,(RepS.nil _ _),M,R,S⟩)
      ·intro b8;refine W_if i ?_ ?_
       ·intro A i;refine qAl (qAb rfl (qBx 58 109 8 0 (.agg (V8 a.2)) g.h (qCp 59 i (fun _ h=>qDd (p0:=a.2) g h) ?_)));rintro g2 i _ g0 (⟨z8,d8,rfl,rfl,d4,g⟩|⟨g3,rfl,d7,rfl,D,g⟩)
        ·obtain rfl:=sI i;have i:=j2;refine qAk ?_;refine qBs ?_;obtain rfl:=sI i;have i:=s;refine qAk ?_;obtain rfl:=sI i;have g:=g.t.t.t.t;exact qAx (.inl ⟨z8,d8,rfl,rfl,q.t d4,g⟩)
        refine qAv rfl ?_;have n2:=jI i;exact xE (b8 _ _ ⟨(),d7,n2,rfl,q.t D,g.f2.f3.f3.f3,((b.mono b0).mono k).mono D,(M.mono k).mono D,(R.mono k).mono D,(S.mono k).mono D⟩)
       ·intro A i;refine qAq ?_;have n2:=jI i;exact xE (b8 _ _ ⟨(),d6,n2,rfl,q,g.f2.f3.f3.f3,(b.mono b0).mono k,M.mono k,R.mono k,S.mono k⟩)
     ·intro A i;refine W_sr (qAa 1 [(14,vP bp0 0)] (qCp 15 i (fun _ h=>qJc (p0:=y2) g.f2.f2 r4 r5 r6 h) ?_));rintro f7 i _ e0 (⟨z9,d4,rfl,rfl,b0,g⟩|⟨a,rfl,S,V,U,Z,D,G,d3,rfl,a0,g,K,M,R⟩)
      ·refine qAk ?_;refine qBs ?_;obtain rfl:=sI i;have i:=s;refine qAk ?_;obtain rfl:=sI i;have g:=g.t;exact qAx (.inl ⟨z9,d4,rfl,rfl,q.t b0,g⟩)
      have q:=q.t a0;refine qAb rfl (qEh 9 109 (.agg (V9 0 eB 0 0)) g fun b5 f4 g=>(qAb rfl (qCm 109 9 15 (.agg (V8 a.2)) g fun f5 g=>(WO_e (qAs (W_sr (qCj 1 17 3 16 2 (vI a.2.2.2.1) g.h (qAd 1 [(18,vB (decide (a.2.2.2.1≥64)))] ?_))))))));have⟨d7,i,j3⟩:=qBa i;refine qCg .normal (fun L' w'=>∃(o3:Unit),∃k,(.inl o3:T20)=d7∧L'=[(0,vP bp0 0),(4,vP B 0),(7,vP E 0),(9,vP b5 0)]∧m.le k∧St k (kB b5 (V8 a.2) 109::kB bp0 (Vd a.1 S V U Z D G) 93::kB E #[vI 0,vI 0,vI 0,vT eB,v8] 73::kR D a.1.2.2.2 G 73 5::O) w'∧MRow k B 0 (Va p1)∧P7 k S V U Z D G a.1) ?_ ?_
      ·rintro _ u ⟨o3,k,rfl,rfl,q,g,b,K,M,R⟩;have i:=j3;refine qAf (qAl (qCj 1 22 3 21 2 (vI a.2.2.2.1) g.h (qAa 1 [(23,.agg #[vI 10,vI a.2.2.2.1,vI 0,vT eB,v8])] (qAb rfl (qCm 73 7 23 (.agg #[vI 10,vI a.2.2.2.1,vI 0,vT eB,v8]) g.f2 fun b8 g=>(qAv rfl (qBe ?_)))))));have y:=jI i;have g:=(g.nilroom 3 1).front2;exact xE (z _ _ ⟨(10,a.2.2.2.1,eB,([]:Tb),a.1.1,a.1.2.1,a.1.2.2.1,a.1.2.2.2),none,0,S,V,U,Z,D,G,k,y,rfl,q,g.t.f3.f1.f3.f3,b,(RepS.nil _ _),K,M,R⟩)
      ·intro y;refine W_if i ?_ ?_
       ·intro A i;refine qAl (qAb rfl (qBx 19 109 9 0 (.agg (V8 a.2)) g.h (qCp 20 i (fun _ h=>qDd (p0:=a.2) g h) ?_)));rintro f8 i _ f6 (⟨d8,d6,rfl,rfl,b8,g⟩|⟨f9,rfl,d5,rfl,u,g⟩)
        ·obtain rfl:=sI i;have i:=j3;refine qAk ?_;refine qBs ?_;obtain rfl:=sI i;have i:=s;refine qAk ?_;obtain rfl:=sI i;have g:=g.t.t.t.t;exact qAx (.inl ⟨d8,d6,rfl,rfl,q.t b8,g⟩)
        refine qAv rfl ?_;have n3:=jI i;exact xE (y _ _ ⟨(),d5,n3,rfl,q.t u,g.f2.f3.f3.f3,(b.mono a0).mono u,K.mono u,M.mono u,R.mono u⟩)
       ·intro A i;refine qAq ?_;have n3:=jI i;exact xE (y _ _ ⟨(),d3,n3,rfl,q,g.f2.f3.f3.f3,b.mono a0,K,M,R⟩)
theorem qQo{R9:T1i→Tw→(Int)→T1t}{Ra:T1i→(Int)→T1x}{Rb:T1i→(Int)→T1t}{Rc:T1i→(Int)→(Int)→T1t}{Rd:T1i→(Int)→T1t}(k:qHq R9)(b:qGl Ra)(n:qHz Rb)(l:qId Rc)(a:qIx Rd){p0:T1i}{p1:Int}{r:T1w}(g:St m (kB bp0 (Vd p0 a1 c1 a2 c2 a3 c3) 93::kR a3 p0.2.2.2 c3 73 5::O) w)(r1:RepS C5 m a1 c1 p0.1)(r2:RepS cStr m a2 c2 p0.2.2.1)(r3:RepS C2 m a3 c3 p0.2.2.2)(i:qHi N R9 Ra Rb Rc Rd p0 p1=some r):Calls Tryz.prog 177 #[vP bp0 0,vI p1] w fun e w'=>(∃(z0:T8),∃m',r= .inl z0∧e= .panicked [{v:= .iface 89 (.agg (Ve z0)),recovered:=false}]∧m.le m'∧St m' (O) w')∨(∃(F:T1v),r= .inr F∧∃d8 e0 d9 f4 b2 b4 b3 b5 m',e= .returned (vS b3 F.2 b5)∧m.le m'∧St m' (kR b3 F.2 b5 3 1::kB bp0 (Vd F.1 d8 e0 d9 f4 b2 b4) 93::kR b2 F.1.2.2.2 b4 73 5::O) w'∧P8 m' d8 e0 d9 f4 b2 b4 b3 b5 F):=by
 unfold qHi at i;have q:=m.le_refl;refine W_cA Tryz.func177 rfl Tryz.ntmps177 ?_;refine W_sr (qAd 1 [] (W_sr (qAd 1 [(5,v8)] (W_sr (qAa 1 [(6,vP bp0 0)] (qCp 7 i (fun _ h=>qCz (p0:=p0) g.f1.f1 r1 r2 r3 h) ?_))))));rintro y1 i _ w1 (⟨z1,m2,rfl,rfl,e2,g⟩|⟨y2,rfl,a4,c4,a5,c5,a6,c6,m1,rfl,e1,g,r4,r5,r6⟩)
 ·refine qAk ?_;obtain rfl:=sI i;exact qAx (.inl ⟨z1,m2,rfl,rfl,q.t e2,g⟩)
 refine WO_e (qAs (W_sr (qAa 1 [(8,vP bp0 0)] (qAp 9 i (fun _ h=>qGj (p0:=y2) g.f1.f1 r4 r5 r6 h) ?_))));rintro y3 i _ w3 ⟨a7,c7,a8,c8,a9,c9,m3,rfl,e3,g,r7,r8,r9⟩;refine WO_e (W_if i ?_ ?_)
 ·intro A i;refine W_sr (qAd 1 [(4,v8)] (qBd (qAc ?_)));cases i;refine X_rt [4] [v8] ?_;have g:=(g.nilroom 3 1).front2.front2.front2;exact .inr ⟨_,rfl,a7,c7,a8,c8,a9,c9,none,0,m3,rfl,(q.t e1).t e3,g,r7,r8,r9,(RepS.nil _ _)⟩
 ·intro A i;refine qAq (qAf (qAs (qAw ?_)));have⟨b0,i,j1⟩:=qBa i;refine qCg (.exit 0) (fun L' w'=>∃(o:T1y),∃c f G S H U y B m4,(.inl o)=b0∧L'=[(0,vP bp0 0),(5,vS c o.1 f)]∧m.le m4∧St m4 (kB bp0 (Vd o.2 G S H U y B) 93::kR c o.1 f 3 1::kR y o.2.2.2.2 B 73 5::O) w'∧P9 m4 c f G S H U y B o) ?_ ?_
  ·rintro _ w4 ⟨o,c,f,G,S,H,U,y,B,m4,rfl,rfl,q,g,V,Y,Z,a0⟩;have i:=j1;refine qBh (qAf (W_sr (qAa 1 [(20,vP bp0 0)] (qCp 21 i (fun _ h=>qCz (p0:=o.2) g.f2.f1 Y Z a0 h) ?_))));rintro y7 i _ b9 (⟨z3,R,rfl,rfl,E,g⟩|⟨y8,rfl,p,x,s,z,u,D,M,rfl,K,g,b6,b7,b8⟩)
   ·refine qAk ?_;obtain rfl:=sI i;have g:=g.t;exact qAx (.inl ⟨z3,R,rfl,rfl,q.t E,g⟩)
   refine WO_e (W_sr (qAd 2 [(4,vS c o.1 f)] (qBd ?_)));cases i;exact X_rt [4] [vS c o.1 f] (.inr ⟨_,rfl,p,x,s,z,u,D,c,f,M,rfl,q.t K,g.f1.f1.f2,b6,b7,b8,V.mono K⟩)
  intro b6;have g:=(g.nilroom 3 1).front2.front1.front2;refine qGm _ kr (qDl (fun k1 L' w'=>∃(p:T1y),∃u x K V M Y z D m5,qAt (qGk N Rd p1) k1 p=some b0∧L'=[(0,vP bp0 0),(1,vI p1),(5,vS u p.1 x)]∧m.le m5∧St m5 (kB bp0 (Vd p.2 K V M Y z D) 93::kR u p.1 x 3 1::kR z p.2.2.2.2 D 73 5::O) w'∧P9 m5 u x K V M Y z D p) N ⟨(([]:Tb),y3.1.1,y3.1.2.1,y3.1.2.2.1,y3.1.2.2.2),none,0,a7,c7,a8,c8,a9,c9,m3,i,rfl,(q.t e1).t e3,g,(RepS.nil _ _),r7,r8,r9⟩ ?_);rintro k1 _ w5 ⟨p,u,x,K,V,M,Y,z,D,m5,hL,rfl,q,g,f6,f7,f8,f9⟩;rcases k1 with _|k1
  ·exact qBj hL
  ·obtain⟨h1,i,f5,a0⟩:=qBi hL;clear hL;unfold qGk at i;refine qAw (W_sr (qAa 4 [(10,vS u p.1 x),(11,vP bp0 0),(13,vI (wr (p1+1)))] (qCp 14 i (fun _ h=>a (p0:=p.2) g.f2.f1 f7 f8 f9 h) ?_)));rintro y4 i _ w6 (⟨z2,m7,rfl,rfl,e5,g⟩|⟨y5,rfl,g4,g7,g5,g8,g6,h0,m6,rfl,e4,g,g0,g1,g2⟩)
   ·refine qAk ?_;refine qBs ?_;obtain rfl:=sI i;have ho:=a0 _ rfl;subst ho;have i:=j1;refine qAk ?_;refine qBs ?_;refine qAk ?_;obtain rfl:=sI i;have g:=g.t;exact qAx (.inl ⟨z2,m7,rfl,rfl,q.t e5,g⟩)
   refine qAb rfl (qBl (d:=15) (t:=32) (e:=3) (len:=1) (parts:= #[(0,(.tmp 14))]) (cInt .i64) (xs:=[y5.2]) [vI y5.2] kr rfl (fun _=>qBn kr _) rfl rfl g ⟨[vI y5.2],_,rfl,rfl,rfl⟩ fun b1 m8 w8 E g g3=>(qAb rfl (qGi 16 32 32 3 8 10 15 g.f3 (.inl kr) ((f6.mono e4).mono E) g3.src i fun l1 i R Z m9 w9 e7 g d4=>(qAa 1 [(5,vS R l1 Z)] (qAv rfl ?_)))));have g:=g.f1.t;refine qAf (W_sr (qAa 1 [(17,vP bp0 0)] (qAp 18 i (fun _ h=>qGj (p0:=y5.1) g.f2.f2 ((g0.mono E).mono e7) ((g1.mono E).mono e7) ((g2.mono E).mono e7) h) ?_)));rintro s i _ h2 ⟨b7,d0,b8,d1,b9,d2,d3,rfl,e8,g,d5,d6,d7⟩;refine qAd 1 [(19,vB (!s.2))] (W_if i ?_ ?_)
   ·intro A i;refine qDi (qPn rfl ?_);obtain rfl:=sI i;have ho:=a0 _ rfl;have g:=g.f1.f2.f2;refine qAg ?_;exact xE (b6 _ _ ⟨(l1,s.1.1,s.1.2.1,s.1.2.2.1,s.1.2.2.2),R,Z,b7,d0,b8,d1,b9,d2,d3,ho,rfl,(((q.t e4).t E).t e7).t e8,g,d4.mono e8,d5,d6,d7⟩)
   ·intro A i;refine qAq (qBe ?_);obtain rfl:=sI i;have hL:=f5 _ rfl;exact xE (qCh k1 (jG _) ⟨(l1,s.1.1,s.1.2.1,s.1.2.2.1,s.1.2.2.2),R,Z,b7,d0,b8,d1,b9,d2,d3,hL,rfl,(((q.t e4).t E).t e7).t e8,g.f1.f2.f2,d4.mono e8,d5,d6,d7⟩)
theorem qRx{R9:T1i→Tw→(Int)→T1t}{Ra:T1i→(Int)→T1x}{Rb:T1i→(Int)→T1t}{Rc:T1i→(Int)→(Int)→T1t}{Rd:T1i→(Int)→T1t}(f:qHq R9)(d:qGl Ra)(D:qHz Rb)(B:qId Rc)(k:qIx Rd){p0:T1i}{p1:Int}{r:T1s}(g:St m (kB bp0 (Vd p0 a1 c1 a2 c2 a3 c3) 93::kR a3 p0.2.2.2 c3 73 5::O) w)(r1:RepS C5 m a1 c1 p0.1)(r2:RepS cStr m a2 c2 p0.2.2.1)(r3:RepS C2 m a3 c3 p0.2.2.2)(i:qIp N R9 Ra Rb Rc Rd p0 p1=some r):Calls Tryz.prog 164 #[vP bp0 0,vI p1] w fun e w'=>(∃(z0:T8),∃m',r= .inl z0∧e= .panicked [{v:= .iface 89 (.agg (Ve z0)),recovered:=false}]∧m.le m'∧St m' (O) w')∨(∃(y0:T1r),r= .inr y0∧∃d6 d8 d7 d9 b9 d0 m',e= .returned (vI y0.2)∧m.le m'∧St m' (kB bp0 (Vd y0.1 d6 d8 d7 d9 b9 d0) 93::kR b9 y0.1.2.2.2 d0 73 5::O) w'∧P7 m' d6 d8 d7 d9 b9 d0 y0.1):=by
 unfold qIp at i;have q:=m.le_refl;refine W_cA Tryz.func164 rfl Tryz.ntmps164 ?_;refine W_sr (qAd 1 [] (W_sr (qAa 1 [(8,vP bp0 0)] (qAp 9 i (fun _ h=>qDa (p0:=p0) g.f1.f1 r1 r2 r3 h) ?_))));rintro a i _ w1 ⟨a4,c4,a5,c5,a6,c6,m1,rfl,e1,g,r4,r5,r6⟩;have q:=q.t e1;refine qAb rfl (qEh 5 109 (.agg (V9 0 eB 0 0)) g fun l w2 g=>(qAb rfl (qCm 109 5 9 (.agg (V8 a.2)) g fun w3 g=>(WO_e (qAs ?_)))));have⟨g6,i,E⟩:=qBa i;refine qCg .normal (fun L' w'=>∃(b:T1i),∃H M K R u x G,(.inl b:T1i⊕T1s)=g6∧L'=[(0,vP bp0 0),(1,vI p1),(5,vP l 0)]∧m.le G∧St G (kB l (V8 a.2) 109::kB bp0 (Vd b H M K R u x) 93::kR u b.2.2.2 x 73 5::O) w'∧P7 G H M K R u x b) ?_ ?_
 ·rintro _ w4 ⟨b,H,M,K,R,u,x,G,rfl,rfl,q,g,n,o,p⟩;have i:=E;refine qAf (W_sr (qAa 3 [(54,vP bp0 0),(56,vP bp0 1)] (qAb rfl (qBx 57 3 56 1 (vI b.2.1) g.t.h (qAa 3 [(58,vI (wr (b.2.1+1))),(60,vP bp0 1)] (qAb rfl (qDv 3 60 58 1 (vI (wr (b.2.1+1))) #[vS H b.1 M,vI (wr (b.2.1+1)),vS K b.2.2.1 R,vS u b.2.2.2 x] g.f1 fun k5 g=>(WO_e (qAs (W_sr (qCj 1 62 9 61 1 (vT a.2.2.1) g.t.h (WO_e (qAw (qAs (W_sr (qAd 2 [(63,vB (a.2.2.1.toList==bq.toList))] ?_))))))))))))))));have⟨o2,i,j2⟩:=qBa i;refine qCg .normal (fun L' w'=>∃b4,L'=[(0,vP bp0 0),(1,vI p1),(5,vP l 0),(63,vB o2)]∧m.le b4∧St b4 (kB bp0 #[vS H b.1 M,vI (wr (b.2.1+1)),vS K b.2.2.1 R,vS u b.2.2.2 x] 93::kB l (V8 a.2) 109::kR u b.2.2.2 x 73 5::O) w'∧P7 b4 H M K R u x b) ?_ ?_
  ·have i:=j2;rintro _ k6 ⟨b4,rfl,q,g,n,o,p⟩;refine qAf (W_if i ?_ ?_)
   ·intro A i;refine W_sr (qAa 1 [(69,vP bp0 0)] (qAb rfl (qBx 70 109 5 0 (.agg (V8 a.2)) g.t.h (qAa 1 [(71,vI p1)] (qCp 72 i (fun _ h=>f (p0:=(b.1,wr (b.2.1+1),b.2.2.1,b.2.2.2)) (p1:=a.2) g.f2.f1 n o p h) ?_)))));rintro b6 i _ b5 (⟨z7,a0,rfl,rfl,Y,g⟩|⟨c,rfl,s,F,y,S,z,U,Z,rfl,V,g,b0,b2,b3⟩)
    ·refine qAk ?_;refine qBs ?_;refine qAk ?_;obtain rfl:=sI i;have g:=g.t;exact qAx (.inl ⟨z7,a0,rfl,rfl,q.t Y,g⟩)
    refine qAd 1 [(4,vI c.2)] (qBd (qAe (qAc ?_)));cases i;exact X_rt [4] [vI c.2] (.inr ⟨_,rfl,s,F,y,S,z,U,Z,rfl,q.t V,g.f2.t.f1.f1,b0,b2,b3⟩)
   ·intro A i;refine qAq (qBe (qAf (qAs (W_sr (qCj 1 74 9 73 1 (vT a.2.2.1) g.t.h (qAp 75 i (fun _ h=>qOg g h) ?_))))));rintro l4 i _ k7 ⟨g2,rfl,b2,g⟩;have q:=q.t b2;have n:=n.mono b2;have o:=o.mono b2;have p:=p.mono b2;refine WO_e ?_;have⟨g7,i,j3⟩:=qBa i;refine qCg .normal (fun L' w'=>∃(o3:Unit),∃b5,(.inl o3:T1u)=g7∧L'=[(0,vP bp0 0),(1,vI p1),(5,vP l 0)]∧m.le b5∧St b5 (kB bp0 #[vS H b.1 M,vI (wr (b.2.1+1)),vS K b.2.2.1 R,vS u b.2.2.2 x] 93::kB l (V8 a.2) 109::kR u b.2.2.2 x 73 5::O) w'∧P7 b5 H M K R u x b) ?_ ?_
    ·rintro _ k8 ⟨o3,b5,rfl,rfl,q,g,n,o,p⟩;have i:=j3;refine qAf (qAs (W_sr (qAa 1 [(78,vP bp0 0)] (qAp 79 i (fun _ h=>qIq (p0:=(b.1,wr (b.2.1+1),b.2.2.1,b.2.2.2)) g.f2.f1 n o p h) ?_))));rintro z i _ l0 ⟨b7,b8,Y,a0,Z,b0,y,rfl,g1,g,S,F,U⟩;have q:=q.t g1;refine WO_e (W_if i ?_ ?_)
     ·intro A i;refine qAs (qJa [(10,fun w'=>Inv y w'∧Piece.holds y w' (kB l (V8 a.2) 109)∧True)] kr g fun l1 _ g=> ?_);have c:=y.le_refl;refine⟨⟨.inr ⟨Inv.anti g.inv c,Piece.holds_anti g.t.t.h c,trivial⟩,trivial⟩,?_⟩;refine qBk 0 80 (vP bp0 0) (.head _) (qJe 109 5 1 81 0 (.agg (V8 a.2)) (.head _) (fun _ h=>h.2.1) (qBk 2 82 (vP l 1) (.head _) (qJe 9 82 3 83 1 (vT a.2.2.1) (.head _) (fun _ h=>h.2.1) (qBk 4 84 (vP bp0 0) (.head _) (qBk 5 85 (vI p1) (.head _) ?_)))));have g:=g.f1.f1;have⟨l5,f9,i⟩:=qBa i;refine qDg 6 kr (qXr 86 177 #[vP bp0 0,vI p1] kr rfl ((d (p0:=z.1) g S F U f9).mono ?_));rintro _ l2 (⟨z9,g3,rfl,rfl,d1,g⟩|⟨s,rfl,h7,k1,h8,k2,h9,k3,b3,b6,k4,rfl,V,g,g8,h0,h1,h2⟩)
      ·refine .inr ⟨_,rfl,?_⟩;have c:=Mem.le_trans c d1;refine qAk ?_;refine qAk ?_;obtain rfl:=sI i;have g:=g.t;exact qAx (.inl ⟨z9,g3,rfl,rfl,q.t d1,g⟩)
      refine .inl ⟨_,rfl,?_⟩;have c:=Mem.le_trans c V;refine⟨⟨.inr ⟨Inv.anti g.inv c,Piece.holds_anti g.t.t.t.h c,trivial⟩,trivial⟩,?_⟩;refine qBk 7 87 (.agg #[vI 3,vI 0,vI 0,vT a.2.2.1,vS b3 s.2 b6]) (.head _) ?_;have g:=g.f2.f2;have⟨l6,g0,i⟩:=qBa i;refine qDg 8 kr (qXr 88 157 #[vP bp0 0,.agg (V8 a.2),.agg #[vI 3,vI 0,vI 0,vT a.2.2.1,vS b3 s.2 b6]] kr rfl ((qFz (p0:=s.1) (p1:=a.2) (p2:=(3,0,0,a.2.2.1,s.2)) g g8 h0 h1 h2 g0).mono ?_));rintro _ l3 (⟨h6,g5,rfl,rfl,d3,g⟩|⟨e0,rfl,f3,f6,f4,f7,f5,f8,g4,rfl,d2,g,h3,h4,h5⟩)
      ·refine .inr ⟨_,rfl,?_⟩;have c:=Mem.le_trans c d3;refine qAk ?_;refine qAk ?_;obtain rfl:=sI i;have g:=g.t.t;exact qAx (.inl ⟨h6,g5,rfl,rfl,(q.t V).t d3,g⟩)
      refine .inl ⟨_,rfl,?_⟩;have c:=Mem.le_trans c d2;refine⟨⟨.inr ⟨Inv.anti g.inv c,Piece.holds_anti g.t.t.t.h c,trivial⟩,trivial⟩,?_⟩;refine qBk 9 4 (vI e0.2) (.head _) (qEc kr ?_);have g:=g.f2.t;refine qAf (qBd (qAc ?_));cases i;exact X_rt [4] [vI e0.2] (.inr ⟨_,rfl,f3,f6,f4,f7,f5,f8,g4,rfl,(q.t V).t d2,g.f2.t.f1.f1,h3,h4,h5⟩)
     ·intro A i;refine qAq (qAf (qAs (qJa [(8,fun w'=>Inv y w'∧Piece.holds y w' (kB bp0 (Vd z.1 b7 b8 Y a0 Z b0) 93)∧Piece.holds y w' (kB l (V8 a.2) 109)∧True)] kr g fun h0 _ g=> ?_)));have c:=y.le_refl;refine⟨⟨.inr ⟨Inv.anti g.inv c,Piece.holds_anti g.h c,Piece.holds_anti g.t.t.h c,trivial⟩,trivial⟩,?_⟩;refine qBk 0 89 (vP bp0 0) (.head _) (qBk 1 90 (vP bp0 0) (.head _) (qBk 2 91 (vP bp0 2) (.head _) (qJe 22 91 3 92 2 (vS Y z.1.2.2.1 a0) (.head _) (fun _ h=>h.2.1) (qBk 4 93 (vP l 1) (.head _) (qJe 9 93 5 94 1 (vT a.2.2.1) (.head _) (fun _ h=>h.2.2.1) (qDg 6 kr (qJn 95 i (fun _ h=>qMc g F h) ?_)))))));rintro V i _ h1 ⟨f7,rfl,s,g⟩;refine⟨_,rfl,?_⟩;have q:=q.t s;have c:=Mem.le_trans c s;refine⟨⟨.inr ⟨Inv.anti g.inv c,Piece.holds_anti g.h c,Piece.holds_anti g.t.t.h c,trivial⟩,trivial⟩,?_⟩;refine qBk 7 7 (vI V) (.head _) (qEc kr (qAf (qAs (W_sr (qAd 2 [(97,vB (decide (V<0)))] ?_)))));have⟨g0,i,j4⟩:=qBa i;refine qCg .normal (fun L' w'=>∃(o4:Unit),∃b6,(.inl o4:T1u)=g0∧L'=[(0,vP bp0 0),(5,vP l 0),(7,vI V)]∧m.le b6∧St b6 (kB bp0 (Vd z.1 b7 b8 Y a0 Z b0) 93::kB l (V8 a.2) 109::kR Z z.1.2.2.2 b0 73 5::O) w'∧P7 b6 b7 b8 Y a0 Z b0 z.1) ?_ ?_
      ·rintro _ h2 ⟨o4,b6,rfl,rfl,q,g,S,F,U⟩;have i:=j4;refine qAf (W_sr (qAa 1 [(100,vP bp0 0)] (qAb rfl (qBx 101 109 5 0 (.agg (V8 a.2)) g.t.h (qAa 2 [(103,.agg #[vI 2,vI V,vI 0,vT eB,v8])] (qCp 104 i (fun _ h=>qFz (p0:=z.1) (p1:=a.2) (p2:=(2,V,0,eB,([]:Tb))) g.f2.f1 S F U (RepS.nil _ _) h) ?_))))));rintro h4 i _ h3 (⟨g8,f9,rfl,rfl,f6,g⟩|⟨b3,rfl,d1,e0,d2,f3,d3,f4,f8,rfl,f5,g,g3,g4,g5⟩)
       ·refine qAk ?_;obtain rfl:=sI i;have g:=g.t;exact qAx (.inl ⟨g8,f9,rfl,rfl,q.t f6,g⟩)
       refine qAd 1 [(4,vI b3.2)] (qBd ?_);cases i;exact X_rt [4] [vI b3.2] (.inr ⟨_,rfl,d1,e0,d2,f3,d3,f4,f8,rfl,q.t f5,g.f2.t.f1.f1,g3,g4,g5⟩)
      ·intro d1;refine W_if i ?_ ?_
       ·intro A i;refine qAl (qAb rfl (qBx 98 109 5 0 (.agg (V8 a.2)) g.t.t.h (qCp 99 i (fun _ h=>qDd (p0:=a.2) g h) ?_)));rintro f5 i _ f4 (⟨f3,e0,rfl,rfl,d2,g⟩|⟨f6,rfl,d3,rfl,b3,g⟩)
        ·obtain rfl:=sI i;have i:=j4;refine qAk ?_;obtain rfl:=sI i;have g:=g.t.t.t;exact qAx (.inl ⟨f3,e0,rfl,rfl,q.t d2,g⟩)
        refine qAv rfl ?_;have n4:=jI i;exact xE (d1 _ _ ⟨(),d3,n4,rfl,q.t b3,g.f1.f2.f2,(S.mono s).mono b3,(F.mono s).mono b3,(U.mono s).mono b3⟩)
       ·intro A i;refine qAq ?_;have n4:=jI i;exact xE (d1 _ _ ⟨(),f7,n4,rfl,q,g.f1.f2.f2,S.mono s,F.mono s,U.mono s⟩)
    ·intro s;refine W_if i ?_ ?_
     ·intro A i;refine qAl (qAb rfl (qBx 76 109 5 0 (.agg (V8 a.2)) g.t.h (qCp 77 i (fun _ h=>qDd (p0:=a.2) g h) ?_)));rintro Y i _ V (⟨U,S,rfl,rfl,z,g⟩|⟨Z,rfl,F,rfl,c,g⟩)
      ·obtain rfl:=sI i;have i:=j3;refine qAk ?_;obtain rfl:=sI i;have g:=g.t.t.t;exact qAx (.inl ⟨U,S,rfl,rfl,q.t z,g⟩)
      refine qAv rfl ?_;have y:=jI i;exact xE (s _ _ ⟨(),F,y,rfl,q.t c,g.f2.f2.f2,n.mono c,o.mono c,p.mono c⟩)
     ·intro A i;refine qAq ?_;have y:=jI i;exact xE (s _ _ ⟨(),g2,y,rfl,q,g.f2.f2.f2,n,o,p⟩)
  ·intro c;refine W_if i ?_ ?_
   ·intro A i;refine qAq ?_;cases i;exact xE (c _ _ ⟨G,rfl,q,g.f2.f2.f2,n,o,p⟩)
   ·intro A i;refine W_sr (qAd 2 [(63,vB (a.2.2.1.toList==br.toList))] (W_if i ?_ ?_))
    ·intro A i;refine qAq ?_;cases i;exact xE (c _ _ ⟨G,rfl,q,g.f2.f2.f2,n,o,p⟩)
    ·intro A i;refine W_sr (qAd 2 [(63,vB (a.2.2.1.toList==bs.toList))] (W_if i ?_ ?_))
     ·intro A i;refine qAq ?_;cases i;exact xE (c _ _ ⟨G,rfl,q,g.f2.f2.f2,n,o,p⟩)
     ·intro A i;refine W_sr (qAd 2 [(63,vB (a.2.2.1.toList==bt.toList))] (W_if i ?_ ?_))
      ·intro A i;refine qAq ?_;cases i;exact xE (c _ _ ⟨G,rfl,q,g.f2.f2.f2,n,o,p⟩)
      ·intro A i;refine qAl (qAa 2 [(63,vB (a.2.2.1.toList==bu.toList))] (qAv rfl ?_));cases i;exact xE (c _ _ ⟨G,rfl,q,g.f2.f2.f2,n,o,p⟩)
 ·intro y;refine qAw (W_sr (qCj 1 12 3 11 0 (vI a.2.1) g.h (qAd 2 [(10,vB (a.2.1==2))] (W_if i ?_ ?_))))
  ·intro A i;refine W_sr (qAa 3 [(14,vP bp0 0),(16,vP bp0 1)] (qAb rfl (qBx 17 3 16 1 (vI a.1.2.1) g.t.h (qAa 3 [(18,vI (wr (a.1.2.1+1))),(20,vP bp0 1)] (qAb rfl (qDv 3 20 18 1 (vI (wr (a.1.2.1+1))) #[vS a4 a.1.1 c4,vI (wr (a.1.2.1+1)),vS a5 a.1.2.2.1 c5,vS a6 a.1.2.2.2 c6] g.f1 fun w5 g=>(WO_e (W_sr (qAa 1 [(21,vP bp0 0)] (qAb rfl (qBx 22 109 5 0 (.agg (V8 a.2)) g.t.h (qCj 1 24 3 23 2 (vI a.2.2.2.1) g.t.h (qAa 1 [(25,.agg #[vI 1,vI a.2.2.2.1,vI 0,vT eB,v8])] (qCp 26 i (fun _ h=>qFz (p0:=(a.1.1,wr (a.1.2.1+1),a.1.2.2.1,a.1.2.2.2)) (p1:=a.2) (p2:=(1,a.2.2.2.1,0,eB,([]:Tb))) g.f2.f1 r4 r5 r6 (RepS.nil _ _) h) ?_))))))))))))));rintro y2 i _ w6 (⟨z1,m4,rfl,rfl,Z,g⟩|⟨V,rfl,c,p,n,s,o,z,m3,rfl,Y,g,F,S,U⟩)
   ·refine qAk ?_;refine qBs ?_;obtain rfl:=sI i;have i:=E;refine qAk ?_;obtain rfl:=sI i;have g:=g.t;exact qAx (.inl ⟨z1,m4,rfl,rfl,q.t Z,g⟩)
   refine qAd 1 [(4,vI V.2)] (qBd (qAe ?_));cases i;have i:=E;refine qAc ?_;cases i;exact X_rt [4] [vI V.2] (.inr ⟨_,rfl,c,p,n,s,o,z,m3,rfl,q.t Y,g.f2.t.f1.f1,F,S,U⟩)
  ·intro A i;refine W_sr (qAa 1 [(28,vP bp0 0)] (qAp 29 i (fun _ h=>qGj (p0:=a.1) g.f2.f2 r4 r5 r6 h) ?_));rintro y4 i _ w8 ⟨g2,h0,g3,h1,g4,h2,m5,rfl,e4,g,a0,b0,b2⟩;have q:=q.t e4;refine qAd 1 [(27,vB y4.2)] (W_if i ?_ ?_)
   ·intro A i;refine qAs (qJa [(9,fun w'=>Inv m5 w'∧Piece.holds m5 w' (kB l (V8 a.2) 109)∧True)] kr g fun w9 _ g=> ?_);have c:=m5.le_refl;refine⟨⟨.inr ⟨Inv.anti g.inv c,Piece.holds_anti g.t.t.h c,trivial⟩,trivial⟩,?_⟩;refine qBk 0 30 (vP bp0 0) (.head _) (qJe 109 5 1 31 0 (.agg (V8 a.2)) (.head _) (fun _ h=>h.2.1) (qBk 2 32 (vP bp0 0) (.head _) ?_));have g:=g.f1.f1;have⟨y5,d4,i⟩:=qBa i;refine qDg 3 kr (qXr 33 131 #[vP bp0 0,vI 2] kr rfl ((qJc (p0:=y4.1) g a0 b0 b2 d4).mono ?_));rintro _ f5 (⟨z2,m7,rfl,rfl,V,g⟩|⟨n,rfl,d1,e0,d2,f3,d3,f4,m6,rfl,o,g,b3,b4,b5⟩)
    ·refine .inr ⟨_,rfl,?_⟩;have c:=Mem.le_trans c V;refine qAk ?_;refine qBs ?_;obtain rfl:=sI i;have i:=E;refine qAk ?_;obtain rfl:=sI i;have g:=g.t;exact qAx (.inl ⟨z2,m7,rfl,rfl,q.t V,g⟩)
    refine .inl ⟨_,rfl,?_⟩;have c:=Mem.le_trans c o;refine⟨⟨.inr ⟨Inv.anti g.inv c,Piece.holds_anti g.t.t.h c,trivial⟩,trivial⟩,?_⟩;refine qBk 4 34 (vI n.2.2.2.1) (.head _) (qBk 5 35 (vI (wr (0-n.2.2.2.1))) (.head _) (qBk 6 36 (.agg #[vI 1,vI (wr (0-n.2.2.2.1)),vI 0,vT eB,v8]) (.head _) ?_));have g:=g.f1.f1;have⟨y7,d5,i⟩:=qBa i;refine qDg 7 kr (qXr 37 157 #[vP bp0 0,.agg (V8 a.2),.agg #[vI 1,vI (wr (0-n.2.2.2.1)),vI 0,vT eB,v8]] kr rfl ((qFz (p0:=n.1) (p1:=a.2) (p2:=(1,wr (0-n.2.2.2.1),0,eB,([]:Tb))) g b3 b4 b5 (RepS.nil _ _) d5).mono ?_));rintro _ f6 (⟨z3,m9,rfl,rfl,Z,g⟩|⟨y8,rfl,p,F,s,S,z,U,m8,rfl,Y,g,b6,b7,b8⟩)
    ·refine .inr ⟨_,rfl,?_⟩;have c:=Mem.le_trans c Z;refine qAk ?_;refine qBs ?_;obtain rfl:=sI i;have i:=E;refine qAk ?_;obtain rfl:=sI i;have g:=g.t;exact qAx (.inl ⟨z3,m9,rfl,rfl,(q.t o).t Z,g⟩)
    refine .inl ⟨_,rfl,?_⟩;have c:=Mem.le_trans c Y;refine⟨⟨.inr ⟨Inv.anti g.inv c,Piece.holds_anti g.t.t.h c,trivial⟩,trivial⟩,?_⟩;refine qBk 8 4 (vI y8.2) (.head _) (qEc kr (qAf (qBd (qAe ?_))));cases i;have i:=E;refine qAc ?_;cases i;exact X_rt [4] [vI y8.2] (.inr ⟨_,rfl,p,F,s,S,z,U,m8,rfl,(q.t o).t Y,g.f2.t.f1.f1,b6,b7,b8⟩)
   ·intro A i;refine W_sr (qAa 1 [(39,vP bp0 0)] (qAp 40 i (fun _ h=>qGj (p0:=y4.1) g.f1.f1 a0 b0 b2 h) ?_));rintro s i _ h7 ⟨z,U,F,V,S,Y,e0,rfl,e9,g,n,o,p⟩;have q:=q.t e9;refine qAd 1 [(38,vB s.2)] (W_if i ?_ ?_)
    ·intro A i;refine W_sr (qAa 3 [(41,vP bp0 0),(43,vI (wr (p1+1)))] (qCp 44 i (fun _ h=>k (p0:=s.1) g.f1.f1 n o p h) ?_));rintro k1 i _ h8 (⟨z4,f3,rfl,rfl,d1,g⟩|⟨c,rfl,g5,h3,g7,h4,g8,h5,h6,rfl,Z,g,f6,f7,f8⟩)
     ·refine qAk ?_;refine qBs ?_;obtain rfl:=sI i;have i:=E;refine qAk ?_;obtain rfl:=sI i;have g:=g.t;exact qAx (.inl ⟨z4,f3,rfl,rfl,q.t d1,g⟩)
     refine qAd 1 [(6,vI c.2)] (W_sr (qAa 1 [(45,vP bp0 0)] (qCp 46 i (fun _ h=>qCz (p0:=c.1) g.f1.f1 f6 f7 f8 h) ?_)));rintro k2 i _ h9 (⟨z5,f5,rfl,rfl,d3,g⟩|⟨k3,rfl,b3,b6,b4,b7,b5,b8,f4,rfl,d2,g,f9,g0,g1⟩)
     ·refine qAk ?_;refine qBs ?_;obtain rfl:=sI i;have i:=E;refine qAk ?_;obtain rfl:=sI i;have g:=g.t;exact qAx (.inl ⟨z5,f5,rfl,rfl,(q.t Z).t d3,g⟩)
     refine WO_e (W_sr (qAd 2 [(4,vI c.2)] (qBd (qAe ?_))));cases i;have i:=E;refine qAc ?_;cases i;exact X_rt [4] [vI c.2] (.inr ⟨_,rfl,b3,b6,b4,b7,b5,b8,f4,rfl,(q.t Z).t d2,g.f2.t.f1.f1,f9,g0,g1⟩)
    ·intro A i;refine W_sr (qCj 1 50 3 49 0 (vI a.2.1) g.t.t.h (qAd 2 [(48,vB (a.2.1 !=1))] (W_if i ?_ ?_)))
     ·intro A i;refine qAl (qAb rfl (qBx 52 109 5 0 (.agg (V8 a.2)) g.t.t.h (qCp 53 i (fun _ h=>qDd (p0:=a.2) g h) ?_)));rintro b7 i _ b6 (⟨z6,b5,rfl,rfl,b3,g⟩|⟨b8,rfl,b4,rfl,c,g⟩)
      ·refine qBs ?_;obtain rfl:=sI i;have i:=E;refine qAk ?_;obtain rfl:=sI i;have g:=g.t.t.t;exact qAx (.inl ⟨z6,b5,rfl,rfl,q.t b3,g⟩)
      refine qAv rfl (qBe ?_);have Z:=jI i;exact xE (y _ _ ⟨s.1,z,U,F,V,S,Y,b4,Z,rfl,q.t c,g.f1.f1.f2,n.mono c,o.mono c,p.mono c⟩)
     ·intro A i;refine qAq (qBe ?_);have Z:=jI i;exact xE (y _ _ ⟨s.1,z,U,F,V,S,Y,e0,Z,rfl,q,g.f1.f1.f2,n,o,p⟩)
theorem qRr{R9:T1i→Tw→(Int)→T1t}{Ra:T1i→(Int)→T1x}{Rb:T1i→(Int)→T1t}{Rc:T1i→(Int)→(Int)→T1t}{Rd:T1i→(Int)→T1t}(n:qHq R9)(l:qGl Ra)(b:qHz Rb)(a:qId Rc)(o:qIx Rd){p0:T1i}{p1:Int}{p2:Int}{r:T1s}(g:St m (kB bp0 (Vd p0 a1 c1 a2 c2 a3 c3) 93::kR a3 p0.2.2.2 c3 73 5::O) w)(r1:RepS C5 m a1 c1 p0.1)(r2:RepS cStr m a2 c2 p0.2.2.1)(r3:RepS C2 m a3 c3 p0.2.2.2)(i:qFb N R9 Ra Rb Rc Rd p0 p1 p2=some r):Calls Tryz.prog 156 #[vP bp0 0,vI p1,vI p2] w fun e w'=>(∃(z0:T8),∃m',r= .inl z0∧e= .panicked [{v:= .iface 89 (.agg (Ve z0)),recovered:=false}]∧m.le m'∧St m' (O) w')∨(∃(M:T1r),r= .inr M∧∃d2 d4 d3 d5 H K m',e= .returned (vI M.2)∧m.le m'∧St m' (kB bp0 (Vd M.1 d2 d4 d3 d5 H K) 93::kR H M.1.2.2.2 K 73 5::O) w'∧P7 m' d2 d4 d3 d5 H K M.1):=by
 unfold qFb at i;have q:=m.le_refl;refine W_cA Tryz.func156 rfl Tryz.ntmps156 ?_;refine W_sr (qAd 1 [] (qAs (W_sr (qAd 2 [(12,vB (p1==4))] (W_if i ?_ ?_)))))
 ·intro A i;refine W_sr (qAa 2 [(13,vP bp0 0),(14,vI p2)] (qCp 15 i (fun _ h=>b (p0:=p0) g.f1.f1 r1 r2 r3 h) ?_));rintro U i _ S (⟨R,D,rfl,rfl,z,g⟩|⟨c,rfl,f,s,k,u,p,x,B,rfl,y,g,E,F,G⟩)
  ·refine qAk ?_;refine qAk ?_;obtain rfl:=sI i;exact qAx (.inl ⟨R,D,rfl,rfl,q.t z,g⟩)
  refine qAd 1 [(6,vI c.2)] (qBd (qAc ?_));cases i;exact X_rt [6] [vI c.2] (.inr ⟨_,rfl,f,s,k,u,p,x,B,rfl,q.t y,g.f1.f1,E,F,G⟩)
 ·intro A i;refine qAq (qAf (W_sr (qAa 4 [(16,vP bp0 0),(18,vI (wr (p1+1))),(19,vI p2)] (qCp 20 i (fun _ h=>a (p0:=p0) g.f1.f1 r1 r2 r3 h) ?_))));rintro y3 i _ w3 (⟨z2,m4,rfl,rfl,e4,g⟩|⟨y,rfl,a7,c7,a8,c8,a9,c9,m3,rfl,e3,g,r7,r8,r9⟩)
  ·refine qAk ?_;obtain rfl:=sI i;exact qAx (.inl ⟨z2,m4,rfl,rfl,q.t e4,g⟩)
  refine qAd 1 [(7,vI y.2)] (qAw ?_);have⟨d7,i,S⟩:=qBa i;refine qGm _ kr (qDl (fun G L' w'=>∃(c:Int×T1i),∃B E D F u x U,qAt (qIa N Rc p1 p2) G c=some d7∧L'=[(0,vP bp0 0),(1,vI p1),(2,vI p2),(7,vI c.1)]∧m.le U∧St U (kB bp0 (Vd c.2 B E D F u x) 93::kR u c.2.2.2.2 x 73 5::O) w'∧P7 U B E D F u x c.2) N ⟨(y.2,y.1.1,y.1.2.1,y.1.2.2.1,y.1.2.2.2),a7,c7,a8,c8,a9,c9,m3,i,rfl,q.t e3,g.f1.f1,r7,r8,r9⟩ ?_);rintro G _ w5 ⟨c,B,E,D,F,u,x,U,hL,rfl,q,g,g4,g5,g6⟩;rcases G with _|G
  ·exact qBj hL
  ·obtain⟨k4,i,d6,p⟩:=qBi hL;clear hL;unfold qIa at i;refine qAw (W_sr (qAa 2 [(21,vP bp0 0),(22,vI p1)] (qAp 23 i (fun _ h=>qRu (p0:=c.2) g.f1.f1 g4 g5 g6 h) ?_)));rintro z i _ w6 ⟨d8,f6,d9,f7,e0,f8,m6,rfl,e5,g,b6,b7,b8⟩;have q:=q.t e5;refine qAd 1 [(8,vI z.2)] (qAs (W_sr (qAd 2 [(25,vB (z.2==0))] (W_if i ?_ ?_))))
   ·intro A i;refine W_sr (qAd 2 [(6,vI c.1)] (qBd (qAc (qAe ?_))));cases i;have ho:=p _ rfl;subst ho;have i:=S;refine qAc (qAe ?_);cases i;exact X_rt [6] [vI c.1] (.inr ⟨_,rfl,d8,f6,d9,f7,e0,f8,m6,rfl,q,g.f1.f1,b6,b7,b8⟩)
   ·intro A i;refine qAq (qAf (W_sr (qAa 1 [(27,vP bp0 0)] (qAp 28 i (fun _ h=>qDa (p0:=z.1) g.f1.f1 b6 b7 b8 h) ?_))));rintro f i _ w7 ⟨f3,f9,f4,g0,f5,g1,m7,rfl,e6,g,g7,g8,h0⟩;refine qAb rfl (qEh 9 109 (.agg (V9 0 eB 0 0)) g fun b1 w8 g=>(qAb rfl (qCm 109 9 28 (.agg (V8 f.2)) g fun w9 g=>(WO_e (W_sr (qAa 3 [(29,vP bp0 0),(31,vP bp0 1)] (qAb rfl (qBx 32 3 31 1 (vI f.1.2.1) g.t.h (qAa 3 [(33,vI (wr (f.1.2.1+1))),(35,vP bp0 1)] (qAb rfl (qDv 3 35 33 1 (vI (wr (f.1.2.1+1))) #[vS f3 f.1.1 f9,vI (wr (f.1.2.1+1)),vS f4 f.1.2.2.1 g0,vS f5 f.1.2.2.2 g1] g.f1 fun k5 g=>(WO_e (W_sr (qAa 4 [(36,vP bp0 0),(38,vI (wr (p1+1))),(39,vI p2)] (qCp 40 i (fun _ h=>a (p0:=(f.1.1,wr (f.1.2.1+1),f.1.2.2.1,f.1.2.2.2)) g.f2.f1 g7 g8 h0 h) ?_)))))))))))))));rintro y7 i _ k6 (⟨z3,m9,rfl,rfl,e8,g⟩|⟨s,rfl,h5,h8,h6,h9,h7,k2,m8,rfl,e7,g,h1,h2,h3⟩)
    ·refine qAk ?_;refine qBs ?_;obtain rfl:=sI i;have ho:=p _ rfl;subst ho;have i:=S;refine qAk ?_;refine qBs ?_;obtain rfl:=sI i;have g:=g.t;exact qAx (.inl ⟨z3,m9,rfl,rfl,(q.t e6).t e8,g⟩)
    refine qAd 1 [(10,vI s.2)] (W_sr (qAa 1 [(41,vP bp0 0)] (qAb rfl (qBx 42 109 9 0 (.agg (V8 f.2)) g.t.t.h (qAa 3 [(43,vI z.2),(44,vI c.1),(45,vI s.2)] (qAb rfl (qBl (d:=46) (t:=32) (e:=3) (len:=2) (parts:= #[(0,(.tmp 44)),(1,(.tmp 45))]) (cInt .i64) (xs:=[c.1,s.2]) [vI c.1,vI s.2] kr rfl (fun _=>qBn kr _) rfl rfl g ⟨[vI c.1],_,rfl,rfl,⟨[vI s.2],_,rfl,rfl,rfl⟩⟩ fun b2 k3 k7 R g h4=> ?_)))))));have q:=((q.t e6).t e7).t R;refine qAa 1 [(47,.agg #[vI 4,vI 0,vI z.2,vT eB,vS (aP b2) ([c.1,s.2]) 2])] (qCp 48 i (fun _ h=>qFz (p0:=s.1) (p1:=f.2) (p2:=(4,0,z.2,eB,[c.1,s.2])) g.f2.f2 (h1.mono R) (h2.mono R) (h3.mono R) h4 h) ?_);rintro y9 i _ k8 (⟨z4,g3,rfl,rfl,g2,g⟩|⟨k,rfl,V,a0,Y,b0,Z,b3,b5,rfl,b4,g,b9,d0,d1⟩)
    ·refine qAk ?_;refine qBs ?_;obtain rfl:=sI i;have ho:=p _ rfl;subst ho;have i:=S;refine qAk ?_;refine qBs ?_;obtain rfl:=sI i;have g:=g.t.t;exact qAx (.inl ⟨z4,g3,rfl,rfl,q.t g2,g⟩)
    refine qAa 1 [(7,vI k.2)] (qAv rfl ?_);have g:=g.f2.t;refine qAf (W_sr (qAd 2 [(50,vB (p1==1))] (W_if i ?_ ?_)))
    ·intro A i;refine W_sr (qAd 2 [(6,vI k.2)] (qBd (qAe ?_)));cases i;have ho:=p _ rfl;subst ho;have i:=S;refine qAc (qAe ?_);cases i;exact X_rt [6] [vI k.2] (.inr ⟨_,rfl,V,a0,Y,b0,Z,b3,b5,rfl,q.t b4,g.f2.t.f1.f1,b9,d0,d1⟩)
    ·intro A i;refine qAq (qBe ?_);obtain rfl:=sI i;have hL:=d6 _ rfl;exact xE (qCh G (jG _) ⟨(k.2,k.1.1,k.1.2.1,k.1.2.2.1,k.1.2.2.2),V,a0,Y,b0,Z,b3,b5,hL,rfl,q.t b4,g.f2.t.f1.f1,b9,d0,d1⟩)
theorem qTd{R9:T1i→Tw→(Int)→T1t}{Ra:T1i→(Int)→T1x}{Rb:T1i→(Int)→T1t}{Rc:T1i→(Int)→(Int)→T1t}{Rd:T1i→(Int)→T1t}(n:qHq R9)(l:qGl Ra)(o:qHz Rb)(b:qId Rc)(a:qIx Rd){p0:T1i}{p1:Int}{r:T1s}(g:St m (kB bp0 (Vd p0 a1 c1 a2 c2 a3 c3) 93::kR a3 p0.2.2.2 c3 73 5::O) w)(r1:RepS C5 m a1 c1 p0.1)(r2:RepS cStr m a2 c2 p0.2.2.1)(r3:RepS C2 m a3 c3 p0.2.2.2)(i:qGn N R9 Ra Rb Rc Rd p0 p1=some r):Calls Tryz.prog 136 #[vP bp0 0,vI p1] w fun e w'=>(∃(z0:T8),∃m',r= .inl z0∧e= .panicked [{v:= .iface 89 (.agg (Ve z0)),recovered:=false}]∧m.le m'∧St m' (O) w')∨(∃(z:T1r),r= .inr z∧∃K R M S x y m',e= .returned (vI z.2)∧m.le m'∧St m' (kB bp0 (Vd z.1 K R M S x y) 93::kR x z.1.2.2.2 y 73 5::O) w'∧P7 m' K R M S x y z.1):=by
 unfold qGn at i;have q:=m.le_refl;refine W_cA Tryz.func136 rfl Tryz.ntmps136 ?_;refine W_sr (qAd 1 [] (W_sr (qAa 1 [(9,vP bp0 0)] (qAp 10 i (fun _ h=>qDa (p0:=p0) g.f1.f1 r1 r2 r3 h) ?_))));rintro p i _ w1 ⟨a4,c4,a5,c5,V,Y,m1,rfl,e1,g,D,E,F⟩;have q:=q.t e1;refine qAb rfl (qEh 5 109 (.agg (V9 0 eB 0 0)) g fun b1 w2 g=>(qAb rfl (qCm 109 5 10 (.agg (V8 p.2)) g fun w3 g=>(WO_e (qAs (W_sr (qAd 2 [(12,vB (decide (p1>32)))] ?_)))))));have⟨d9,i,j1⟩:=qBa i;refine qCg .normal (fun L' w'=>∃(o1:Unit),∃B,(.inl o1:T1u)=d9∧L'=[(0,vP bp0 0),(1,vI p1),(5,vP b1 0)]∧m.le B∧St B (kB b1 (V8 p.2) 109::kB bp0 (Vd p.1 a4 c4 a5 c5 V Y) 93::kR V p.1.2.2.2 Y 73 5::O) w'∧P7 B a4 c4 a5 c5 V Y p.1) ?_ ?_
 ·rintro _ w4 ⟨o1,B,rfl,rfl,q,g,D,E,F⟩;have i:=j1;refine qAf (qAs (W_sr (qAa 1 [(15,vP bp0 0)] (qAp 16 i (fun _ h=>qIq (p0:=p.1) g.f2.f2 D E F h) ?_))));rintro c i _ w7 ⟨a7,c7,a8,c8,a9,c9,m5,rfl,e4,g,r7,r8,r9⟩;have q:=q.t e4;refine qAd 1 [(17,vB (!c.2))] (W_if i ?_ ?_)
  ·intro A i;refine W_sr (qAa 2 [(18,vP bp0 0),(19,vI p1)] (qCp 20 i (fun _ h=>b (p0:=c.1) g.f1.f1 r7 r8 r9 h) ?_));rintro y5 i _ w8 (⟨z2,m7,rfl,rfl,e6,g⟩|⟨y6,rfl,f,u,k,G,s,H,m6,rfl,e5,g,U,Z,a0⟩)
   ·refine qAk ?_;refine qAk ?_;obtain rfl:=sI i;have g:=g.t;exact qAx (.inl ⟨z2,m7,rfl,rfl,q.t e6,g⟩)
   refine qAd 1 [(4,vI y6.2)] (qBd (qAc ?_));cases i;exact X_rt [4] [vI y6.2] (.inr ⟨_,rfl,f,u,k,G,s,H,m6,rfl,q.t e5,g.f2.t.f1.f1,U,Z,a0⟩)
  ·intro A i;refine qAq (qAf (W_sr (qAa 3 [(21,vP bp0 0),(23,vP bp0 1)] (qAb rfl (qBx 24 3 23 1 (vI c.1.2.1) g.h (qAa 3 [(25,vI (wr (c.1.2.1+1))),(27,vP bp0 1)] (qAb rfl (qDv 3 27 25 1 (vI (wr (c.1.2.1+1))) #[vS a7 c.1.1 c7,vI (wr (c.1.2.1+1)),vS a8 c.1.2.2.1 c8,vS a9 c.1.2.2.2 c9] g fun o3 g=>(WO_e (W_sr (qAa 3 [(28,vP bp0 0),(30,vI (wr (p1+1)))] (qCp 31 i (fun _ h=>a (p0:=(c.1.1,wr (c.1.2.1+1),c.1.2.2.1,c.1.2.2.2)) g.f1.f1 r7 r8 r9 h) ?_))))))))))));rintro y7 i _ o4 (⟨z3,m9,rfl,rfl,e8,g⟩|⟨u,rfl,h4,l1,h5,l2,h6,l3,m8,rfl,e7,g,e0,f3,f4⟩)
   ·refine qAk ?_;obtain rfl:=sI i;have g:=g.t;exact qAx (.inl ⟨z3,m9,rfl,rfl,q.t e8,g⟩)
   refine qAd 1 [(6,vI u.2)] (W_sr (qAa 1 [(32,vP bp0 0)] (qCp 33 i (fun _ h=>qMm (p0:=u.1) g.f1.f1 e0 f3 f4 h) ?_)));rintro y9 i _ o5 (⟨z4,d3,rfl,rfl,b6,g⟩|⟨h2,rfl,h7,l4,h8,l5,h9,l6,n7,rfl,e9,g,f5,f6,f7⟩)
   ·refine qAk ?_;obtain rfl:=sI i;have g:=g.t;exact qAx (.inl ⟨z4,d3,rfl,rfl,(q.t e7).t b6,g⟩)
   have q:=(q.t e7).t e9;refine WO_e (W_sr (qAa 3 [(34,vP bp0 0),(36,vI (wr (p1+1)))] (qCp 37 i (fun _ h=>a (p0:=h2) g.f1.f1 f5 f6 f7 h) ?_)));rintro q1 i _ o6 (⟨z5,d4,rfl,rfl,b7,g⟩|⟨f,rfl,k1,l7,k2,l8,k3,l9,n8,rfl,G,g,f8,f9,g0⟩)
   ·refine qAk ?_;obtain rfl:=sI i;have g:=g.t;exact qAx (.inl ⟨z5,d4,rfl,rfl,q.t b7,g⟩)
   refine qAd 1 [(7,vI f.2)] (W_sr (qAa 1 [(38,vP bp0 0)] (qCp 39 i (fun _ h=>qMm (p0:=f.1) g.f1.f1 f8 f9 g0 h) ?_)));rintro q2 i _ o7 (⟨z6,d5,rfl,rfl,b9,g⟩|⟨h3,rfl,k4,n0,k5,n2,k6,n3,n9,rfl,b8,g,g1,g2,g3⟩)
   ·refine qAk ?_;obtain rfl:=sI i;have g:=g.t;exact qAx (.inl ⟨z6,d5,rfl,rfl,(q.t G).t b9,g⟩)
   have q:=(q.t G).t b8;refine WO_e (W_sr (qAa 3 [(40,vP bp0 0),(42,vI (wr (p1+1)))] (qCp 43 i (fun _ h=>a (p0:=h3) g.f1.f1 g1 g2 g3 h) ?_)));rintro q3 i _ o8 (⟨z7,d6,rfl,rfl,d0,g⟩|⟨k,rfl,k7,n4,k8,n5,l0,n6,o0,rfl,H,g,g4,g5,g6⟩)
   ·refine qAk ?_;obtain rfl:=sI i;have g:=g.t;exact qAx (.inl ⟨z7,d6,rfl,rfl,q.t d0,g⟩)
   refine qAd 1 [(8,vI k.2)] (W_sr (qAa 1 [(44,vP bp0 0)] (qAb rfl (qBx 45 109 5 0 (.agg (V8 p.2)) g.t.t.h (qAa 3 [(46,vI u.2),(47,vI f.2),(48,vI k.2)] (qAb rfl (qBl (d:=49) (t:=32) (e:=3) (len:=3) (parts:= #[(0,(.tmp 46)),(1,(.tmp 47)),(2,(.tmp 48))]) (cInt .i64) (xs:=[u.2,f.2,k.2]) [vI u.2,vI f.2,vI k.2] kr rfl (fun _=>qBn kr _) rfl rfl g ⟨[vI u.2],_,rfl,rfl,⟨[vI f.2],_,rfl,rfl,⟨[vI k.2],_,rfl,rfl,rfl⟩⟩⟩ fun b2 o2 o9 s g g7=>(qAa 1 [(50,.agg #[vI 5,vI 0,vI 0,vT eB,vS (aP b2) ([u.2,f.2,k.2]) 3])] (qCp 51 i (fun _ h=>qFz (p0:=k.1) (p1:=p.2) (p2:=(5,0,0,eB,[u.2,f.2,k.2])) g.f2.f2 (g4.mono s) (g5.mono s) (g6.mono s) g7 h) ?_)))))))));rintro q4 i _ q0 (⟨z8,d8,rfl,rfl,d2,g⟩|⟨U,rfl,Z,b3,a0,b4,b0,b5,d7,rfl,d1,g,g8,h0,h1⟩)
   ·refine qAk ?_;obtain rfl:=sI i;have g:=g.t.t;exact qAx (.inl ⟨z8,d8,rfl,rfl,((q.t H).t s).t d2,g⟩)
   refine qAa 1 [(4,vI U.2)] (qAv rfl ?_);have g:=g.f2.t;refine qAf (qBd ?_);cases i;exact X_rt [4] [vI U.2] (.inr ⟨_,rfl,Z,b3,a0,b4,b0,b5,d7,rfl,((q.t H).t s).t d1,g.f2.t.f1.f1,g8,h0,h1⟩)
 ·intro f;refine W_if i ?_ ?_
  ·intro A i;refine qAl (qAb rfl (qBx 13 109 5 0 (.agg (V8 p.2)) g.h (qCp 14 i (fun _ h=>qDd (p0:=p.2) g h) ?_)));rintro Z i _ U (⟨H,G,rfl,rfl,s,g⟩|⟨y3,rfl,u,rfl,c,g⟩)
   ·obtain rfl:=sI i;have i:=j1;refine qAk ?_;obtain rfl:=sI i;have g:=g.t.t.t;exact qAx (.inl ⟨H,G,rfl,rfl,q.t s,g⟩)
   refine qAv rfl ?_;have k:=jI i;exact xE (f _ _ ⟨(),u,k,rfl,q.t c,g.f2.f2.f2,D.mono c,E.mono c,F.mono c⟩)
  ·intro A i;refine qAq ?_;have k:=jI i;exact xE (f _ _ ⟨(),m1,k,rfl,q,g.f2.f2.f2,D,E,F⟩)
theorem qAz(N:Nat):∀D:Nat,(∀{m:Mem} {O:List Piece} {w:World} {p0:T1i} {p1:Tw} {p2:Int} {b:Nat} {p:Option Addr} {s:Nat} {q:Option Addr} {t:Nat} {n:Option Addr} {o:Nat} {r:T1s} (g:St m (kB b (Vd p0 p s q t n o) 93::kR n p0.2.2.2 o 73 5::O) w) (u:RepS C5 m p s p0.1) (x:RepS cStr m q t p0.2.2.1) (y:RepS C2 m n o p0.2.2.2) (i:(qAi N D).1 p0 p1 p2=some r),Calls Tryz.prog 176 #[vP b 0,.agg (V8 p1),vI p2] w fun e w'=>(∃(z:T8),∃m',r= .inl z∧e= .panicked [{v:= .iface 89 (.agg (Ve z)),recovered:=false}]∧m.le m'∧St m' (O) w')∨(∃(a:T1r),r= .inr a∧∃f k h l c d m',e= .returned (vI a.2)∧m.le m'∧St m' (kB b (Vd a.1 f k h l c d) 93::kR c a.1.2.2.2 d 73 5::O) w'∧P7 m' f k h l c d a.1))∧(∀{m:Mem} {O:List Piece} {w:World} {p0:T1i} {p1:Int} {b:Nat} {p:Option Addr} {s:Nat} {q:Option Addr} {t:Nat} {n:Option Addr} {o:Nat} {r:T1w} (g:St m (kB b (Vd p0 p s q t n o) 93::kR n p0.2.2.2 o 73 5::O) w) (u:RepS C5 m p s p0.1) (x:RepS cStr m q t p0.2.2.1) (y:RepS C2 m n o p0.2.2.2) (i:(qAi N D).2.1 p0 p1=some r),Calls Tryz.prog 177 #[vP b 0,vI p1] w fun e w'=>(∃(z:T8),∃m',r= .inl z∧e= .panicked [{v:= .iface 89 (.agg (Ve z)),recovered:=false}]∧m.le m'∧St m' (O) w')∨(∃(a:T1v),r= .inr a∧∃f k h l c d A B m',e= .returned (vS A a.2 B)∧m.le m'∧St m' (kR A a.2 B 3 1::kB b (Vd a.1 f k h l c d) 93::kR c a.1.2.2.2 d 73 5::O) w'∧P8 m' f k h l c d A B a))∧(∀{m:Mem} {O:List Piece} {w:World} {p0:T1i} {p1:Int} {b:Nat} {p:Option Addr} {s:Nat} {q:Option Addr} {t:Nat} {n:Option Addr} {o:Nat} {r:T1s} (g:St m (kB b (Vd p0 p s q t n o) 93::kR n p0.2.2.2 o 73 5::O) w) (u:RepS C5 m p s p0.1) (x:RepS cStr m q t p0.2.2.1) (y:RepS C2 m n o p0.2.2.2) (i:(qAi N D).2.2.1 p0 p1=some r),Calls Tryz.prog 164 #[vP b 0,vI p1] w fun e w'=>(∃(z:T8),∃m',r= .inl z∧e= .panicked [{v:= .iface 89 (.agg (Ve z)),recovered:=false}]∧m.le m'∧St m' (O) w')∨(∃(a:T1r),r= .inr a∧∃f k h l c d m',e= .returned (vI a.2)∧m.le m'∧St m' (kB b (Vd a.1 f k h l c d) 93::kR c a.1.2.2.2 d 73 5::O) w'∧P7 m' f k h l c d a.1))∧(∀{m:Mem} {O:List Piece} {w:World} {p0:T1i} {p1:Int} {p2:Int} {b:Nat} {p:Option Addr} {s:Nat} {q:Option Addr} {t:Nat} {n:Option Addr} {o:Nat} {r:T1s} (g:St m (kB b (Vd p0 p s q t n o) 93::kR n p0.2.2.2 o 73 5::O) w) (u:RepS C5 m p s p0.1) (x:RepS cStr m q t p0.2.2.1) (y:RepS C2 m n o p0.2.2.2) (i:(qAi N D).2.2.2.1 p0 p1 p2=some r),Calls Tryz.prog 156 #[vP b 0,vI p1,vI p2] w fun e w'=>(∃(z:T8),∃m',r= .inl z∧e= .panicked [{v:= .iface 89 (.agg (Ve z)),recovered:=false}]∧m.le m'∧St m' (O) w')∨(∃(a:T1r),r= .inr a∧∃f k h l c d m',e= .returned (vI a.2)∧m.le m'∧St m' (kB b (Vd a.1 f k h l c d) 93::kR c a.1.2.2.2 d 73 5::O) w'∧P7 m' f k h l c d a.1))∧(∀{m:Mem} {O:List Piece} {w:World} {p0:T1i} {p1:Int} {b:Nat} {p:Option Addr} {s:Nat} {q:Option Addr} {t:Nat} {n:Option Addr} {o:Nat} {r:T1s} (g:St m (kB b (Vd p0 p s q t n o) 93::kR n p0.2.2.2 o 73 5::O) w) (u:RepS C5 m p s p0.1) (x:RepS cStr m q t p0.2.2.1) (y:RepS C2 m n o p0.2.2.2) (i:(qAi N D).2.2.2.2 p0 p1=some r),Calls Tryz.prog 136 #[vP b 0,vI p1] w fun e w'=>(∃(z:T8),∃m',r= .inl z∧e= .panicked [{v:= .iface 89 (.agg (Ve z)),recovered:=false}]∧m.le m'∧St m' (O) w')∨(∃(a:T1r),r= .inr a∧∃f k h l c d m',e= .returned (vI a.2)∧m.le m'∧St m' (kB b (Vd a.1 f k h l c d) 93::kR c a.1.2.2.2 d 73 5::O) w'∧P7 m' f k h l c d a.1))
 |0=>⟨fun _ _ _ _ i=>(by cases i),fun _ _ _ _ i=>(by cases i),fun _ _ _ _ i=>(by cases i),fun _ _ _ _ i=>(by cases i),fun _ _ _ _ i=>(by cases i)⟩
 |D+1=>⟨fun g u x y i=>qRg (qAz N D).1 (qAz N D).2.1 (qAz N D).2.2.1 (qAz N D).2.2.2.1 (qAz N D).2.2.2.2 g u x y i,fun g u x y i=>qQo (qAz N D).1 (qAz N D).2.1 (qAz N D).2.2.1 (qAz N D).2.2.2.1 (qAz N D).2.2.2.2 g u x y i,fun g u x y i=>qRx (qAz N D).1 (qAz N D).2.1 (qAz N D).2.2.1 (qAz N D).2.2.2.1 (qAz N D).2.2.2.2 g u x y i,fun g u x y i=>qRr (qAz N D).1 (qAz N D).2.1 (qAz N D).2.2.1 (qAz N D).2.2.2.1 (qAz N D).2.2.2.2 g u x y i,fun g u x y i=>qTd (qAz N D).1 (qAz N D).2.1 (qAz N D).2.2.1 (qAz N D).2.2.2.1 (qAz N D).2.2.2.2 g u x y i⟩
theorem qVa{p0:T1i}{p1:Int}{r:T1s}(g:St m (kB bp0 (Vd p0 a1 c1 a2 c2 a3 c3) 93::kR a3 p0.2.2.2 c3 73 5::O) w)(n:RepS C5 m a1 c1 p0.1)(o:RepS cStr m a2 c2 p0.2.2.1)(p:RepS C2 m a3 c3 p0.2.2.2)(i:qOn N p0 p1=some r):Calls Tryz.prog 136 #[vP bp0 0,vI p1] w fun e w'=>(∃(l:T8),∃m',r= .inl l∧e= .panicked [{v:= .iface 89 (.agg (Ve l)),recovered:=false}]∧m.le m'∧St m' (O) w')∨(∃(c:T1r),r= .inr c∧∃d h f k a b m',e= .returned (vI c.2)∧m.le m'∧St m' (kB bp0 (Vd c.1 d h f k a b) 93::kR a c.1.2.2.2 b 73 5::O) w'∧P7 m' d h f k a b c.1):=
 (qAz N N).2.2.2.2 g n o p i
end
section
open Go Go.Dc
set_option maxHeartbeats 4000000
set_option maxRecDepth 100000
variable {N bp0 c1 c2 c3 c4:Nat} {m:Mem} {O:List Piece} {w:World} {a1 a2 a3 a4:Option Addr}
def qHs(N:Nat)(p1:Tm)(b:Option (List Te))(e:T1j)(d:T21)(a:Int):To:=
 if(decide (a<(List.length p1:Int)))=true then((idx p1 a).bind fun c=>(if(c.1==((qGe b e.2.2.1).getD 0))=true then(some (c.2.1.toList==d.2.2.2.2.2.1.toList)) else(some false):Tc).bind fun b=>if b=true then(some (.inr (.inr (a)))) else(some (.inl (IntKind.wrap .i64 (a+1))))) else(some (.inr (.inl ())))
def qKz(N:Nat)(p0:T1i)(p1:Tm):Option T22:=
 (qMs (some []:Option (List Te)) (⟨#[102,117,110,99]⟩:ByteArray) 1).bind fun a=>(qMs a (⟨#[116,101,115,116]⟩:ByteArray) 2).bind fun a=>(qMs a (⟨#[103,101,110]⟩:ByteArray) 3).bind fun c=>(qCs N p0).bind fun a=>(if(a.2.1 !=1)=true then(some true) else(some (((qGe c a.2.2.1).getD 0)==0)):Tc).bind fun b=>(if b=true then((qCi N a.2 9).bind fun b=>(match b with| .inl b=>some (.inr (.inl b))| .inr b=>some (.inl ()))) else(some (.inl ())):Option T23).bind fun b=>(match b with| .inl b=>(if((List.length p1:Int)==64)=true then((qCi N a.2 2).bind fun b=>(match b with| .inl b=>some (.inr (.inl b))| .inr b=>some (.inl ()))) else(some (.inl ())):Option T23).bind fun b=>(match b with| .inl b=>(if(((qGe c a.2.2.1).getD 0)==3)=true then((qFn N (a.1.1,IntKind.wrap .i64 (a.1.2.1+1),a.1.2.2.1,a.1.2.2.2)).bind fun b=>(match b with| .inl b=>some (.inr (.inl b))| .inr b=>some (.inl (b.1.1,b.1.2.1,b.1.2.2.1,b.1.2.2.2,b.2.1,b.2.2.1,b.2.2.2.1,b.2.2.2.2)))) else((qFl N (a.1.1,IntKind.wrap .i64 (a.1.2.1+1),a.1.2.2.1,a.1.2.2.2)).bind fun b=>(match b with| .inl b=>some (.inr (.inl b))| .inr b=>some (.inl (b.1.1,b.1.2.1,b.1.2.2.1,b.1.2.2.2,b.2.1,b.2.2.1,b.2.2.2.1,b.2.2.2.2)))):Option (T21⊕T22)).bind fun b=>(match b with| .inl b=>((qAt (qHs N p1 c a b) N 0).bind fun d=>(match d with| .inl d=>some (-1)| .inr (z)=>some z):Td).bind fun d=>(if(decide (d≥0))=true then((qCi N b.2.2.2.2 10).bind fun d=>(match d with| .inl d=>some (.inr (.inl d))| .inr d=>some (.inl ()))) else(some (.inl ())):Option T23).bind fun d=>(match d with| .inl d=>(if(((qGe c a.2.2.1).getD 0)==1)=true then((qFt N (b.1,b.2.1,b.2.2.1,b.2.2.2.1)).bind fun d=>(match d with| .inl d=>some (.inr (.inl d))| .inr d=>some (.inl (d.2,d.1.1,d.1.2.1,d.1.2.2.1,d.1.2.2.2)))) else(some (.inl (([]:Tf),b.1,b.2.1,b.2.2.1,b.2.2.2.1))):Option (T1o⊕T22)).bind fun d=>(match d with| .inl e=>(qBz N e.2 (⟨#[61]⟩:ByteArray)).bind fun d=>(match d with| .inl d=>some (.inl d)| .inr d=>(qOn N (d.1,d.2.1,e.1,([]:Tj)) 1).bind fun d=>(match d with| .inl d=>some (.inl d)| .inr d=>(qBz N d.1 (⟨#[59]⟩:ByteArray)).bind fun f=>(match f with| .inl f=>some (.inl f)| .inr f=>some (.inr (f,(((qGe c a.2.2.1).getD 0),b.2.2.2.2.2.1,e.1,d.1.2.2.2))))))| .inr z=>some z)| .inr z=>some z)| .inr z=>some z)| .inr z=>some z)| .inr z=>some z)
theorem qUa{p0:T1i}{p1:Tm}{r:T22}(g:St m (kB bp0 (Vd p0 a1 c1 a2 c2 a3 c3) 93::kR a3 p0.2.2.2 c3 73 5::O) w)(r1:RepS C5 m a1 c1 p0.1)(r2:RepS cStr m a2 c2 p0.2.2.1)(r3:RepS C2 m a3 c3 p0.2.2.2)(F:RepS C3 m a4 c4 p1)(i:qKz N p0 p1=some r):Calls Tryz.prog 101 #[vP bp0 0,vS a4 p1 c4] w fun e w'=>(∃(z0:T8),∃m',r= .inl z0∧e= .panicked [{v:= .iface 89 (.agg (Ve z0)),recovered:=false}]∧m.le m'∧St m' (O) w')∨(∃(y0:T1i×Tk),r= .inr y0∧∃h1 h4 h2 h5 g2 g4 g3 g5 h3 h6 m',e= .returned (.agg (V3 y0.2 g3 g5 h3 h6))∧m.le m'∧St m' (kR g3 y0.2.2.2.1 g5 9 1::kB bp0 (Vd y0.1 h1 h4 h2 h5 g2 g4) 93::kR g2 y0.1.2.2.2 g4 73 5::O) w'∧RepS C5 m' h1 h4 y0.1.1∧RepS cStr m' h2 h5 y0.1.2.2.1∧RepS C2 m' g2 g4 y0.1.2.2.2∧RepS cStr m' g3 g5 y0.2.2.2.1∧RepS C2 m' h3 h6 y0.2.2.2.2):=by
 unfold qKz at i;have q:=m.le_refl;refine W_cA Tryz.func101 rfl Tryz.ntmps101 ?_;refine W_sr (qAb rfl (qEh 4 48 (.agg #[vI 0,vT eB,v6,v6]) g fun b1 w1 g=>(WO_e (W_sr (qAb rfl (qQu (d:=9) (t:=152) kr rfl g fun E w2 g=> ?_))))));have⟨s6,d1,i⟩:=qBa i;refine qAb rfl (qEz (ek:=(fun s:ByteArray=>Value.string s)) (c:=(cInt .i64)) (agg:=false) (k:=bk) (yv:=1) (cs:=[vI 1]) (z:=(vI 0)) (v:=(vI 1)) (kt:=9) (et:=3) (t:=152) (x:=(.tmp 9)) (y:=(.const (vT bk))) (u:=(.const (vI 1))) kr (ev (.map (some E))) (ev (vT bk)) (ev (vI 1)) kr (zKm kr) g (MapQ.new (fun s:ByteArray=>Value.string s) (cInt .i64) false _ _) rfl rfl d1 fun s2 q9 w3 g r5=> ?_);have⟨s7,d2,i⟩:=qBa i;refine qAb rfl (qEz (ek:=(fun s:ByteArray=>Value.string s)) (c:=(cInt .i64)) (agg:=false) (k:=bl) (yv:=2) (cs:=[vI 2]) (z:=(vI 0)) (v:=(vI 2)) (kt:=9) (et:=3) (t:=152) (x:=(.tmp 9)) (y:=(.const (vT bl))) (u:=(.const (vI 2))) kr (ev (.map (some E))) (ev (vT bl)) (ev (vI 2)) kr (zKm kr) g r5 rfl rfl d2 fun s3 r0 w4 g r6=> ?_);have⟨f,d3,i⟩:=qBa i
 refine qAb rfl (qEz (ek:=(fun s:ByteArray=>Value.string s)) (c:=(cInt .i64)) (agg:=false) (k:=bm) (yv:=3) (cs:=[vI 3]) (z:=(vI 0)) (v:=(vI 3)) (kt:=9) (et:=3) (t:=152) (x:=(.tmp 9)) (y:=(.const (vT bm))) (u:=(.const (vI 3))) kr (ev (.map (some E))) (ev (vT bm)) (ev (vI 3)) kr (zKm kr) g r6 rfl rfl d3 fun D B w5 g l=>(qAd 2 [(5,.map (some E))] (W_sr (qAa 1 [(11,vP bp0 0)] (qAp 12 i (fun _ h=>qDa (p0:=p0) g.f3.f3 r1 r2 r3 h) ?_)))));rintro b i _ w6 ⟨a5,c5,a6,c6,a7,c7,m1,rfl,e1,g,r8,r9,Z⟩;have l:=l.mono e1;refine qAb rfl (qEh 6 109 (.agg (V9 0 eB 0 0)) g fun S w7 g=>(qAb rfl (qCm 109 6 12 (.agg (V8 b.2)) g fun w8 g=>(WO_e (W_sr (qAa 2 [(13,.map (some E)),(14,vP S 1)] (qAb rfl (qBx 15 9 14 1 (vT b.2.2.1) g.h (qAb rfl (qPa (ek:=(fun s:ByteArray=>Value.string s)) (c:=(cInt .i64)) (agg:=false) (k:=b.2.2.1) (zx:=0) (zcs:=[vI 0]) (z:=(vI 0)) (kt:=9) (et:=3) (d:=16) (t:=152) (x:=(.tmp 13)) (y:=(.tmp 15)) (ok:=false) kr rfl (ev (.map (some E))) (ev (vT b.2.2.1)) kr (zKm kr) g.t.t.t.h l rfl rfl ?_))))))))));rintro s0 rfl;refine qAb rfl (qEh 7 3 (vI 0) g fun U w9 g=>(qAb rfl (qCm 3 7 16 (vI ((qGe f b.2.2.1).getD 0)) g fun t0 g=>(WO_e (qAs (W_sr ?_))))));have⟨o1,i,J⟩:=qBa i
 refine qDk (j:=7) (fun L' w'=>∃m2,L'=[(0,vP bp0 0),(1,vS a4 p1 c4),(4,vP b1 0),(6,vP S 0),(7,vP U 0),(23,vB o1)]∧m.le m2∧St m2 (kB U #[vI ((qGe f b.2.2.1).getD 0)] 3::kB S (V8 b.2) 109::kB bp0 (Vd b.1 a5 c5 a6 c6 a7 c7) 93::kB b1 #[vI 0,vT eB,v1,vb] 48::qEf (some E) D B::kR a7 b.1.2.2.2 c7 73 5::O) w'∧RepS C3 m2 a4 c4 p1∧RepS C5 m2 a5 c5 b.1.1∧RepS cStr m2 a6 c6 b.1.2.2.1∧RepS C2 m2 a7 c7 b.1.2.2.2∧MapQ (fun s:ByteArray=>Value.string s) (cInt .i64) false m2 (some E) D B f) ?_ ?_
 ·have i:=J;rintro _ t3 ⟨m2,rfl,q,g,F,r8,r9,Z,l⟩;refine WO_e ?_;have⟨l5,i,j1⟩:=qBa i;refine qCg .normal (fun L' w'=>∃(o2:Unit),∃m3,(.inl o2:T23)=l5∧L'=[(0,vP bp0 0),(1,vS a4 p1 c4),(4,vP b1 0),(6,vP S 0),(7,vP U 0)]∧m.le m3∧St m3 (kB U #[vI ((qGe f b.2.2.1).getD 0)] 3::kB S (V8 b.2) 109::kB bp0 (Vd b.1 a5 c5 a6 c6 a7 c7) 93::kB b1 #[vI 0,vT eB,v1,vb] 48::qEf (some E) D B::kR a7 b.1.2.2.2 c7 73 5::O) w'∧RepS C3 m3 a4 c4 p1∧RepS C5 m3 a5 c5 b.1.1∧RepS cStr m3 a6 c6 b.1.2.2.1∧RepS C2 m3 a7 c7 b.1.2.2.2∧MapQ (fun s:ByteArray=>Value.string s) (cInt .i64) false m3 (some E) D B f) ?_ ?_
  ·rintro _ t4 ⟨o2,m3,rfl,rfl,q,g,F,r8,r9,Z,l⟩;have i:=j1;refine qAf (qAs (W_sr (qAd 3 [(28,vB ((p1.length:Int)==64))] ?_)));have⟨l6,i,j2⟩:=qBa i;refine qCg .normal (fun L' w'=>∃(o3:Unit),∃m6,(.inl o3:T23)=l6∧L'=[(0,vP bp0 0),(1,vS a4 p1 c4),(4,vP b1 0),(6,vP S 0),(7,vP U 0)]∧m.le m6∧St m6 (kB U #[vI ((qGe f b.2.2.1).getD 0)] 3::kB S (V8 b.2) 109::kB bp0 (Vd b.1 a5 c5 a6 c6 a7 c7) 93::kB b1 #[vI 0,vT eB,v1,vb] 48::qEf (some E) D B::kR a7 b.1.2.2.2 c7 73 5::O) w'∧RepS C3 m6 a4 c4 p1∧RepS C5 m6 a5 c5 b.1.1∧RepS cStr m6 a6 c6 b.1.2.2.1∧RepS C2 m6 a7 c7 b.1.2.2.2∧MapQ (fun s:ByteArray=>Value.string s) (cInt .i64) false m6 (some E) D B f) ?_ ?_
   ·rintro _ t5 ⟨o3,m6,rfl,rfl,q,g,F,r8,r9,Z,l⟩;have i:=j2;refine qAf (W_sr (qAa 3 [(31,vP bp0 0),(33,vP bp0 1)] (qAb rfl (qBx 34 3 33 1 (vI b.1.2.1) g.t.t.h (qAa 3 [(35,vI (wr (b.1.2.1+1))),(37,vP bp0 1)] (qAb rfl (qDv 3 37 35 1 (vI (wr (b.1.2.1+1))) #[vS a5 b.1.1 c5,vI (wr (b.1.2.1+1)),vS a6 b.1.2.2.1 c6,vS a7 b.1.2.2.2 c7] g.f2 fun t6 g=>(WO_e (qAs (W_sr (qAb rfl (qBx 38 3 7 0 (vI ((qGe f b.2.2.1).getD 0)) g.t.h (qAd 1 [(39,vB (((qGe f b.2.2.1).getD 0)==3))] ?_)))))))))))));have⟨l7,i,j3⟩:=qBa i;refine qCg .normal (fun L' w'=>∃(a:T21),∃a8 c8 a9 c9 n p m9,(.inl a:T21⊕T22)=l7∧L'=[(0,vP bp0 0),(1,vS a4 p1 c4),(4,vP b1 0),(6,vP S 0),(7,vP U 0)]∧m.le m9∧St m9 (kB bp0 #[vS a8 a.1 c8,vI a.2.1,vS a9 a.2.2.1 c9,vS n a.2.2.2.1 p] 93::kB U #[vI ((qGe f b.2.2.1).getD 0)] 3::kB S (V8 a.2.2.2.2) 109::kB b1 #[vI 0,vT eB,v1,vb] 48::qEf (some E) D B::kR n a.2.2.2.1 p 73 5::O) w'∧RepS C3 m9 a4 c4 p1∧RepS C5 m9 a8 c8 a.1∧RepS cStr m9 a9 c9 a.2.2.1∧RepS C2 m9 n p a.2.2.2.1∧MapQ (fun s:ByteArray=>Value.string s) (cInt .i64) false m9 (some E) D B f) ?_ ?_
    ·rintro _ t7 ⟨a,a8,c8,a9,c9,n,p,m9,rfl,rfl,q,g,F,H,M,R,l⟩;have i:=j3;refine qAf (qAs (W_sr (qAa 2 [(44,vS a4 p1 c4),(45,.func (.func 134) #[] #[vP U 0,vP S 0])] (qAb rfl (qGf 46 133 #[vS a4 p1 c4,.func (.func 134) #[] #[vP U 0,vP S 0]] kr rfl (W_cA Tryz.func133 rfl Tryz.ntmps133 (W_sr (qAd 1 [] (W_sr (qAa 2 [(5,vS a4 p1 c4),(6,.func (.func 134) #[] #[vP U 0,vP S 0])] ?_))))))))));have⟨o5,i,j4⟩:=qBa i;refine qAb rfl (qGf 7 154 #[vS a4 p1 c4,.func (.func 134) #[] #[vP U 0,vP S 0]] kr rfl (zPg (fun v' w'=>∃a0,v'=(vI o5)∧m.le a0∧St a0 (kB bp0 #[vS a8 a.1 c8,vI a.2.1,vS a9 a.2.2.1 c9,vS n a.2.2.2.1 p] 93::kB U #[vI ((qGe f b.2.2.1).getD 0)] 3::kB S (V8 a.2.2.2.2) 109::kB b1 #[vI 0,vT eB,v1,vb] 48::qEf (some E) D B::kR n a.2.2.2.1 p 73 5::O) w'∧RepS C3 a0 a4 c4 p1∧RepS C5 a0 a8 c8 a.1∧RepS cStr a0 a9 c9 a.2.2.1∧RepS C2 a0 n p a.2.2.2.1∧MapQ (fun s:ByteArray=>Value.string s) (cInt .i64) false a0 (some E) D B f) ?_ ?_))
     ·have i:=j4;rintro _ t8 ⟨a0,rfl,q,g,F,H,M,R,l⟩;refine⟨_,rfl,?_⟩;refine qAd 2 [(4,vB (decide (o5≥0)))] (qBd (X_rt [4] [vB (decide (o5≥0))] (⟨_,rfl,?_⟩)));refine WO_e ?_;have⟨l8,i,j7⟩:=qBa i;refine qCg .normal (fun L' w'=>∃(o8:Unit),∃b9,(.inl o8:T23)=l8∧L'=[(0,vP bp0 0),(4,vP b1 0),(6,vP S 0),(7,vP U 0)]∧m.le b9∧St b9 (kB bp0 #[vS a8 a.1 c8,vI a.2.1,vS a9 a.2.2.1 c9,vS n a.2.2.2.1 p] 93::kB U #[vI ((qGe f b.2.2.1).getD 0)] 3::kB S (V8 a.2.2.2.2) 109::kB b1 #[vI 0,vT eB,v1,vb] 48::qEf (some E) D B::kR n a.2.2.2.1 p 73 5::O) w'∧RepS C5 b9 a8 c8 a.1∧RepS cStr b9 a9 c9 a.2.2.1∧RepS C2 b9 n p a.2.2.2.1∧MapQ (fun s:ByteArray=>Value.string s) (cInt .i64) false b9 (some E) D B f) ?_ ?_
      ·rintro _ t9 ⟨o8,b9,rfl,rfl,q,g,H,M,R,l⟩;have i:=j7;refine qAf (W_sr (qAb rfl (qBx 49 3 7 0 (vI ((qGe f b.2.2.1).getD 0)) g.t.h (qCj 1 51 9 50 1 (vT a.2.2.2.2.2.1) g.t.t.h (qAa 1 [(52,.agg #[vI ((qGe f b.2.2.1).getD 0),vT a.2.2.2.2.2.1,v1,vb])] (qAb rfl (qEh 8 48 (.agg #[vI 0,vT eB,v6,v6]) g fun b7 u0 g=>(qAb rfl (qCm 48 8 52 (.agg #[vI ((qGe f b.2.2.1).getD 0),vT a.2.2.2.2.2.1,v1,vb]) g fun u1 g=>(WO_e (qAs (W_sr (qAb rfl (qBx 53 3 7 0 (vI ((qGe f b.2.2.1).getD 0)) g.t.t.h (qAd 1 [(54,vB (((qGe f b.2.2.1).getD 0)==1))] ?_)))))))))))))));have⟨l9,i,j8⟩:=qBa i;refine qCg .normal (fun L' w'=>∃(Y:T1o),∃G V d8 e0 d9 f8 d6 d7 d0,(.inl Y:T1o⊕T22)=l9∧L'=[(0,vP bp0 0),(4,vP b1 0),(8,vP b7 0)]∧m.le d0∧St d0 (kB b7 #[vI ((qGe f b.2.2.1).getD 0),vT a.2.2.2.2.2.1,vS G Y.1 V,vb] 48::kB bp0 (Vd Y.2 d8 e0 d9 f8 d6 d7) 93::kB U #[vI ((qGe f b.2.2.1).getD 0)] 3::kB S (V8 a.2.2.2.2) 109::kB b1 #[vI 0,vT eB,v1,vb] 48::qEf (some E) D B::kR G Y.1 V 9 1::kR d6 Y.2.2.2.2 d7 73 5::O) w'∧RepS cStr d0 G V Y.1∧RepS C5 d0 d8 e0 Y.2.1∧RepS cStr d0 d9 f8 Y.2.2.2.1∧RepS C2 d0 d6 d7 Y.2.2.2.2∧MapQ (fun s:ByteArray=>Value.string s) (cInt .i64) false d0 (some E) D B f) ?_ ?_
       ·rintro _ u2 ⟨Y,G,V,d8,e0,d9,f8,d6,d7,d0,rfl,rfl,q,g,g8,n0,n4,n5,l⟩;have i:=j8;refine qAf (W_sr (qAa 1 [(58,vP bp0 0)] (qCp 59 i (fun _ h=>qCz (p0:=Y.2) g.f7.f2 n0 n4 n5 h) ?_)));rintro v2 i _ u3 (⟨z7,l1,rfl,rfl,k7,g⟩|⟨d5,rfl,g6,g7,q3,q6,h7,k3,s4,rfl,f9,g,n6,s8,s9⟩)
        ·refine qAk ?_;obtain rfl:=sI i;have g:=g.t.t.t.t.t.t;exact qAx (.inl ⟨z7,l1,rfl,rfl,q.t k7,g⟩)
        have q:=q.t f9;refine WO_e (W_sr (qAa 3 [(60,vP bp0 0),(61,vP bp0 0),(62,vP b7 2)] (qAb rfl (qBx 63 22 62 2 (vS G Y.1 V) g.t.t.h (qAa 2 [(65,vP bp0 2)] (qAb rfl (qDv 22 65 63 2 (vS G Y.1 V) #[vS g6 d5.1 g7,vI d5.2.1,vS G Y.1 V,vS h7 d5.2.2.2 k3] g fun u4 g=>(qAa 2 [(67,vP bp0 3)] (qAb rfl (qDv 46 67 ((.const (v6))) 3 (vb) #[vS g6 d5.1 g7,vI d5.2.1,vS G Y.1 V,vb] g fun u5 g=>(qAv rfl ?_)))))))))));have g:=g.f1.t;refine qAf (W_sr (qAa 1 [(68,vP bp0 0)] ?_));have g:=(g.nilroom 73 5).front1;refine qCp 69 i (fun _ h=>qVa (p0:=(d5.1,d5.2.1,Y.1,([]:Tj))) g n6 (g8.mono f9) (RepS.nil _ _) h) ?_;rintro v3 i _ u6 (⟨z8,l2,rfl,rfl,k8,g⟩|⟨d4,rfl,q4,q7,q5,q8,b0,b8,s5,rfl,g0,g,n9,o0,h0⟩)
        ·refine qAk ?_;obtain rfl:=sI i;have g:=g.t.t.t.t.t.t;exact qAx (.inl ⟨z8,l2,rfl,rfl,q.t k8,g⟩)
        refine WO_e (W_sr (qCj 3 73 46 72 3 (vS b0 d4.1.2.2.2 b8) g.h (qAa 1 [(74,vP b7 3)] (qAb rfl (qDv 46 74 73 3 (vS b0 d4.1.2.2.2 b8) #[vI ((qGe f b.2.2.1).getD 0),vT a.2.2.2.2.2.1,vS G Y.1 V,vS b0 d4.1.2.2.2 b8] g.f2 fun u7 g=>(WO_e (W_sr (qAa 1 [(75,vP bp0 0)] (qCp 76 i (fun _ h=>qCz (p0:=d4.1) g.f2.f2 n9 o0 h0 h) ?_)))))))));rintro v4 i _ u9 (⟨z9,l4,rfl,rfl,l0,g⟩|⟨v5,rfl,h8,k4,h9,k5,k2,k6,l3,rfl,g1,g,q0,q1,q2⟩)
        ·refine qAk ?_;obtain rfl:=sI i;have g:=g.t.t.t.t.t.t;exact qAx (.inl ⟨z9,l4,rfl,rfl,(q.t g0).t l0,g⟩)
        refine WO_e (W_sr (qAb rfl (qBx 77 48 8 0 (.agg #[vI ((qGe f b.2.2.1).getD 0),vT a.2.2.2.2.2.1,vS G Y.1 V,vS b0 d4.1.2.2.2 b8]) g.t.t.h (qAb rfl (qCm 48 4 77 (.agg #[vI ((qGe f b.2.2.1).getD 0),vT a.2.2.2.2.2.1,vS G Y.1 V,vS b0 d4.1.2.2.2 b8]) g.f5 fun v0 g=>(WO_e (qBd ?_)))))));obtain rfl:=sI i;exact qMn [.cell 4 48] [.agg #[vI ((qGe f b.2.2.1).getD 0),vT a.2.2.2.2.2.1,vS G Y.1 V,vS b0 d4.1.2.2.2 b8]] rfl (ResAll.cons (ResAt.blk (v:= .agg #[vI ((qGe f b.2.2.1).getD 0),vT a.2.2.2.2.2.1,vS G Y.1 V,vS b0 d4.1.2.2.2 b8]) (o:=0) kr g.h kr) ResAll.nil) (.inr ⟨_,rfl,h8,k4,h9,k5,k2,k6,G,V,b0,b8,l3,rfl,(q.t g0).t g1,g.t.f2.t.f2.t.f2.t.f2.t.f1.f1.f2,q0,q1,q2,((g8.mono f9).mono g0).mono g1,h0.mono g1⟩)
       ·intro d5;refine W_if i ?_ ?_
        ·intro A i;refine qAl (qAa 1 [(55,vP bp0 0)] (qCp 56 i (fun _ h=>qRe (p0:=(a.1,a.2.1,a.2.2.1,a.2.2.2.1)) g.f6.f2 H M R h) ?_));rintro k8 i _ k6 (⟨z6,h9,rfl,rfl,h7,g⟩|⟨b0,rfl,g0,g7,g1,g8,g6,h0,b8,d4,h8,rfl,f9,g,k2,k3,k4,k5⟩)
         ·obtain rfl:=sI i;have i:=j8;refine qAk ?_;obtain rfl:=sI i;have g:=g.t.t.t.t.t;exact qAx (.inl ⟨z6,h9,rfl,rfl,q.t h7,g⟩)
         refine qAa 1 [(57,vP b7 2)] (qAb rfl (qDv 22 57 56 2 (vS b8 b0.2 d4) #[vI ((qGe f b.2.2.1).getD 0),vT a.2.2.2.2.2.1,vS b8 b0.2 d4,vb] g.f3 fun k7 g=>(qAv rfl ?_)));have n8:=jI i;exact xE (d5 _ _ ⟨(b0.2,b0.1.1,b0.1.2.1,b0.1.2.2.1,b0.1.2.2.2),b8,d4,g0,g7,g1,g8,g6,h0,h8,n8,rfl,q.t f9,g.f3.f2.f7.f7.f7.f7.f7.f7,k5,k2,k3,k4,l.mono f9⟩)
        ·intro A i;refine qAq ?_;have n8:=jI i;have g:=(g.nilroom 9 1).front7.front1.front7.front7.front7.front7.front7.front7;exact xE (d5 _ _ ⟨(([]:Tf),a.1,a.2.1,a.2.2.1,a.2.2.2.1),none,0,a8,c8,a9,c9,n,p,b9,n8,rfl,q,g,(RepS.nil _ _),H,M,R,l⟩)
      ·intro V;refine W_if i ?_ ?_
       ·intro A i;refine qAl (qAb rfl (qBx 47 109 6 0 (.agg (V8 a.2.2.2.2)) g.t.t.h (qCp 48 i (fun _ h=>qDd (p0:=a.2.2.2.2) g h) ?_)));rintro d5 i _ d4 (⟨z5,d0,rfl,rfl,b0,g⟩|⟨d6,rfl,b8,rfl,G,g⟩)
        ·obtain rfl:=sI i;have i:=j7;refine qAk ?_;obtain rfl:=sI i;have g:=g.t.t.t.t.t.t;exact qAx (.inl ⟨z5,d0,rfl,rfl,q.t b0,g⟩)
        refine qAv rfl ?_;have Y:=jI i;exact xE (V _ _ ⟨(),b8,Y,rfl,q.t G,g.f5.f5.f5.f5.f5.f5,H.mono G,M.mono G,R.mono G,l.mono G⟩)
       ·intro A i;refine qAq ?_;have Y:=jI i;exact xE (V _ _ ⟨(),a0,Y,rfl,q,g.f5.f5.f5.f5.f5.f5,H,M,R,l⟩)
     ·refine W_cA Tryz.func154 rfl Tryz.ntmps154 ?_;refine W_sr (qAd 1 [] (qAs (W_sr (qAd 3 [(7,vI (p1.length:Int)),(8,vI 0)] (qAw ?_)))));have⟨d7,i,j5⟩:=qBa i;refine qCg (.exit 0) (fun L' w'=>∃(o6:Unit),∃Y,(.inl o6)=d7∧L'=[]∧m.le Y∧St Y (kB bp0 #[vS a8 a.1 c8,vI a.2.1,vS a9 a.2.2.1 c9,vS n a.2.2.2.1 p] 93::kB U #[vI ((qGe f b.2.2.1).getD 0)] 3::kB S (V8 a.2.2.2.2) 109::kB b1 #[vI 0,vT eB,v1,vb] 48::qEf (some E) D B::kR n a.2.2.2.1 p 73 5::O) w'∧RepS C3 Y a4 c4 p1∧RepS C5 Y a8 c8 a.1∧RepS cStr Y a9 c9 a.2.2.1∧RepS C2 Y n p a.2.2.2.1∧MapQ (fun s:ByteArray=>Value.string s) (cInt .i64) false Y (some E) D B f) ?_ ?_
      ·rintro _ G ⟨o6,Y,rfl,rfl,q,g,F,H,M,R,l⟩;have i:=j5;refine qBh (qAf (W_sr (qAd 1 [(4,vI (-1))] (qBd ?_))));cases i;exact X_rt [4] [vI (-1)] ⟨_,rfl,⟨Y,rfl,q,g.f5.f5.f5.f5.f5.f5,F,H,M,R,l⟩⟩
      intro e0;refine qGm _ kr (qDl (fun k1 L' w'=>∃(s1:Int),∃b0,qAt (qHs N p1 f b a) k1 s1=some d7∧L'=[(0,vS a4 p1 c4),(1,.func (.func 134) #[] #[vP U 0,vP S 0]),(7,vI (p1.length:Int)),(8,vI s1)]∧m.le b0∧St b0 (kB bp0 #[vS a8 a.1 c8,vI a.2.1,vS a9 a.2.2.1 c9,vS n a.2.2.2.1 p] 93::kB U #[vI ((qGe f b.2.2.1).getD 0)] 3::kB S (V8 a.2.2.2.2) 109::kB b1 #[vI 0,vT eB,v1,vb] 48::qEf (some E) D B::kR n a.2.2.2.1 p 73 5::O) w'∧RepS C3 b0 a4 c4 p1∧RepS C5 b0 a8 c8 a.1∧RepS cStr b0 a9 c9 a.2.2.1∧RepS C2 b0 n p a.2.2.2.1∧MapQ (fun s:ByteArray=>Value.string s) (cInt .i64) false b0 (some E) D B f) N ⟨0,m9,i,rfl,q,g.f5.f5.f5.f5.f5.f5,F,H,M,R,l⟩ ?_);rintro k1 _ g7 ⟨s1,b0,hL,rfl,q,g,F,H,M,R,l⟩;rcases k1 with _|k1
      ·exact qBj hL
      ·obtain⟨g6,i,g0,d6⟩:=qBi hL;clear hL;unfold qHs at i;refine W_sr (qAd 1 [(9,vB (decide (s1<(p1.length:Int))))] (qAs (W_if i ?_ ?_)))
       ·intro A i;refine qAq (qAf (qAs (qAw (W_sr (qAd 2 [(5,vI s1)] (W_sr (qAa 3 [(11,.func (.func 134) #[] #[vP U 0,vP S 0]),(12,vS a4 p1 c4),(13,vI s1)] (qAb rfl (qDc 14 23 48 12 13 F i ?_)))))))));rintro x1 i b5 f1 g1 ⟨_,_,rfl,rfl,⟨_,_,rfl,rfl,⟨_,_,rfl,⟨b8,d0,rfl,d8⟩,⟨b9,d4,rfl,d9⟩⟩⟩⟩ d5;refine qEg 15 48 14 f1 (.agg (V3 x1 b8 d0 b9 d4)) g d5 (qAb rfl (qGf 16 134 #[.agg (V3 x1 b8 d0 b9 d4),vP U 0,vP S 0] kr rfl (W_cA Tryz.func134 rfl Tryz.ntmps134 (W_sr (qAb rfl (qMl 3 48 0 (.agg (V3 x1 b8 d0 b9 d4)) g fun b6 f9 g8 G g f8=> ?_))))));have F:=F.mono G;have l:=l.mono G;refine qAd 1 [] (W_sr ?_);have⟨o7,i,J⟩:=qBa i;refine qDk (j:=12) (fun L' w'=>∃V,L'=[(4,vB o7)]∧m.le V∧St V (kB bp0 #[vS a8 a.1 c8,vI a.2.1,vS a9 a.2.2.1 c9,vS n a.2.2.2.1 p] 93::kB U #[vI ((qGe f b.2.2.1).getD 0)] 3::kB S (V8 a.2.2.2.2) 109::kB b1 #[vI 0,vT eB,v1,vb] 48::qEf (some E) D B::kR n a.2.2.2.1 p 73 5::O) w'∧RepS C3 V a4 c4 p1∧MRow V b5 f1 (V4 x1 b8 d0 b9 d4)∧RepS cStr V b8 d0 x1.2.2.1∧RepS C2 V b9 d4 x1.2.2.2∧RepS C5 V a8 c8 a.1∧RepS cStr V a9 c9 a.2.2.1∧RepS C2 V n p a.2.2.2.1∧MapQ (fun s:ByteArray=>Value.string s) (cInt .i64) false V (some E) D B f) ?_ ?_
        ·have i:=J;rintro _ h0 ⟨V,rfl,q,g,F,d5,d8,d9,H,M,R,l⟩;refine WO_e (qBd (X_rt [4] [vB o7] (⟨_,rfl,?_⟩)));refine WO_e (W_if i ?_ ?_)
         ·intro A i;refine W_sr (qAd 2 [(4,vI s1)] (qBd (qAe (qAc ?_))));obtain rfl:=sI i;have ho:=d6 _ rfl;subst ho;have i:=j5;refine qAc (qAe (qAc ?_));obtain rfl:=sI i;exact X_rt [4] [vI s1] ⟨_,rfl,⟨V,rfl,q,g.f5.f5.f5.f5.f5.f5,F,H,M,R,l⟩⟩
         ·intro A i;refine qAq (qBe (qAf (qAl (qAa 2 [(8,vI (wr (s1+1)))] (qAv rfl ?_)))));obtain rfl:=sI i;have hL:=g0 _ rfl;exact xE (qCh k1 (jG _) ⟨wr (s1+1),V,hL,rfl,q,g.f5.f5.f5.f5.f5.f5,F,H,M,R,l⟩)
        ·intro K;refine qAa 1 [(5,vP b6 0)] (qEg 6 3 5 0 (vI x1.1) g f8 (qAb rfl (qBx 7 3 1 0 (vI ((qGe f b.2.2.1).getD 0)) g.t.h (qAa 2 [(9,vB (x1.1==((qGe f b.2.2.1).getD 0)))] (qCc 9 i ?_ ?_)))))
         ·intro A i;refine qAa 1 [(10,vP b6 1)] (qAb rfl (qAr (d:=11) (t:=9) (x:=(.tmp 10)) (vT x1.2.1) kr rfl (ev (vP b6 1)) g (f8.drop 1) kr (qCj 1 13 9 12 1 (vT a.2.2.2.2.2.1) g.t.t.h (qAa 3 [(4,vB (x1.2.1.toList==a.2.2.2.2.2.1.toList))] ?_))));cases i;exact qAu _ kr (K _ _ ⟨f9,rfl,q.t G,g.f5.f5.f5.f5.f5.f5,F,d5.mono G,d8.mono G,d9.mono G,H.mono G,M.mono G,R.mono G,l⟩)
         ·intro A i;refine qAa 7 [(4,vB false)] ?_;cases i;exact qAu _ kr (K _ _ ⟨f9,rfl,q.t G,g.f5.f5.f5.f5.f5.f5,F,d5.mono G,d8.mono G,d9.mono G,H.mono G,M.mono G,R.mono G,l⟩)
       ·intro A i;refine qDi (qAg ?_);cases i;have ho:=d6 _ rfl;have g:=g.f5.f5.f5.f5.f5.f5;refine qAg ?_;exact xE (e0 _ _ ⟨(),b0,ho,rfl,q,g,F,H,M,R,l⟩)
    ·intro H;refine W_if i ?_ ?_
     ·intro A i;refine qAl (qAa 1 [(40,vP bp0 0)] (qCp 41 i (fun _ h=>qKr (p0:=(b.1.1,wr (b.1.2.1+1),b.1.2.2.1,b.1.2.2.2)) g.f5.f1 r8 r9 Z h) ?_));rintro y6 i _ d8 (⟨z3,d4,rfl,rfl,e7,g⟩|⟨G,rfl,V,b0,Y,b8,a0,b9,d0,rfl,M,g,d5,d6,d7⟩)
      ·obtain rfl:=sI i;have i:=j3;refine qAk ?_;obtain rfl:=sI i;have g:=g.t.t.t.t;exact qAx (.inl ⟨z3,d4,rfl,rfl,q.t e7,g⟩)
      refine qAb rfl (qCm 109 6 41 (.agg (V8 G.2)) g.f3 fun d9 g=>(qAv rfl ?_));have R:=jI i;exact xE (H _ _ ⟨(G.1.1,G.1.2.1,G.1.2.2.1,G.1.2.2.2,G.2.1,G.2.2.1,G.2.2.2.1,G.2.2.2.2),V,b0,Y,b8,a0,b9,d0,R,rfl,q.t M,g.f2.f5.f5.f3.f5.f5,F.mono M,d5,d6,d7,l.mono M⟩)
     ·intro A i;refine qAl (qAa 1 [(42,vP bp0 0)] (qCp 43 i (fun _ h=>qKy (p0:=(b.1.1,wr (b.1.2.1+1),b.1.2.2.1,b.1.2.2.2)) g.f5.f1 r8 r9 Z h) ?_));rintro y8 i _ d8 (⟨z4,d4,rfl,rfl,e9,g⟩|⟨G,rfl,V,b0,Y,b8,a0,b9,d0,rfl,M,g,d5,d6,d7⟩)
      ·obtain rfl:=sI i;have i:=j3;refine qAk ?_;obtain rfl:=sI i;have g:=g.t.t.t.t;exact qAx (.inl ⟨z4,d4,rfl,rfl,q.t e9,g⟩)
      refine qAb rfl (qCm 109 6 43 (.agg (V8 G.2)) g.f3 fun d9 g=>(qAv rfl ?_));have R:=jI i;exact xE (H _ _ ⟨(G.1.1,G.1.2.1,G.1.2.2.1,G.1.2.2.2,G.2.1,G.2.2.1,G.2.2.2.1,G.2.2.2.2),V,b0,Y,b8,a0,b9,d0,R,rfl,q.t M,g.f2.f5.f5.f3.f5.f5,F.mono M,d5,d6,d7,l.mono M⟩)
   ·intro n;refine W_if i ?_ ?_
    ·intro A i;refine qAl (qAb rfl (qBx 29 109 6 0 (.agg (V8 b.2)) g.t.h (qCp 30 i (fun _ h=>qDd (p0:=b.2) g h) ?_)));rintro Y i _ V (⟨R,M,rfl,rfl,G,g⟩|⟨y5,rfl,H,rfl,a,g⟩)
     ·obtain rfl:=sI i;have i:=j2;refine qAk ?_;obtain rfl:=sI i;have g:=g.t.t.t.t.t.t;exact qAx (.inl ⟨R,M,rfl,rfl,q.t G,g⟩)
     refine qAv rfl ?_;have p:=jI i;exact xE (n _ _ ⟨(),H,p,rfl,q.t a,g.f5.f5.f5.f5.f5.f5,F.mono a,r8.mono a,r9.mono a,Z.mono a,l.mono a⟩)
    ·intro A i;refine qAq ?_;have p:=jI i;exact xE (n _ _ ⟨(),m3,p,rfl,q,g.f5.f5.f5.f5.f5.f5,F,r8,r9,Z,l⟩)
  ·intro n;refine W_if i ?_ ?_
   ·intro A i;refine qAl (qAb rfl (qBx 24 109 6 0 (.agg (V8 b.2)) g.t.h (qCp 25 i (fun _ h=>qDd (p0:=b.2) g h) ?_)));rintro Y i _ V (⟨R,M,rfl,rfl,G,g⟩|⟨y3,rfl,H,rfl,a,g⟩)
    ·obtain rfl:=sI i;have i:=j1;refine qAk ?_;obtain rfl:=sI i;have g:=g.t.t.t.t.t.t;exact qAx (.inl ⟨R,M,rfl,rfl,q.t G,g⟩)
    refine qAv rfl ?_;have p:=jI i;exact xE (n _ _ ⟨(),H,p,rfl,q.t a,g.f5.f5.f5.f5.f5.f5,F.mono a,r8.mono a,r9.mono a,Z.mono a,l.mono a⟩)
   ·intro A i;refine qAq ?_;have p:=jI i;exact xE (n _ _ ⟨(),m2,p,rfl,q,g.f5.f5.f5.f5.f5.f5,F,r8,r9,Z,l⟩)
 ·intro K;refine qCj 1 18 3 17 0 (vI b.2.1) g.t.h (qAa 2 [(20,vB (b.2.1 !=1))] (qCc 20 i ?_ ?_))
  ·intro A i;refine qAa 3 [(23,vB true)] ?_;cases i;exact qAu _ kr (K _ _ ⟨m1,rfl,q.t e1,g.f3.f4.f5.f5.f5.f5,F.mono e1,r8,r9,Z,l⟩)
  ·intro A i;refine qAb rfl (qBx 21 3 7 0 (vI ((qGe f b.2.2.1).getD 0)) g.h (qAa 2 [(23,vB (((qGe f b.2.2.1).getD 0)==0))] ?_));cases i;exact qAu _ kr (K _ _ ⟨m1,rfl,q.t e1,g.f3.f4.f5.f5.f5.f5,F.mono e1,r8,r9,Z,l⟩)
def qJd(N:Nat)(d:T1j)(a:T24):Option T26:=
 (qGd N (a.1,a.2.1,a.2.2.1,a.2.2.2.1) 1 (⟨#[105,109,112,111,114,116]⟩:ByteArray)).bind fun c=>if c.2=true then((if((List.length a.2.2.2.2:Int)==8)=true then((qCs N c.1).bind fun b=>(qCi N b.2 2).bind fun e=>(match e with| .inl e=>some (.inr (.inr (.inr (.inl e))))| .inr e=>some (.inl b.1))) else(some (.inl c.1)):Option (T1i⊕T26)).bind fun b=>(match b with| .inl b=>(qFl N (b.1,IntKind.wrap .i64 (b.2.1+1),b.2.2.1,b.2.2.2)).bind fun b=>(match b with| .inl b=>some (.inr (.inr (.inl b)))| .inr b=>(if(b.2.2.1.toList==d.2.2.1.toList)=true then(some true) else((qCd N a.2.2.2.2 b.2.2.1).bind fun d=>some d):Tc).bind fun d=>(if d=true then((qCi N b.2 10).bind fun d=>(match d with| .inl d=>some (.inr (.inr (.inr (.inl d))))| .inr d=>some (.inl ()))) else(some (.inl ())):Option (Unit⊕T26)).bind fun d=>(match d with| .inl d=>(qCx 16 a.2.2.2.2 ([b.2.2.1])).bind fun d=>(qBz N b.1 (⟨#[59]⟩:ByteArray)).bind fun b=>(match b with| .inl b=>some (.inr (.inr (.inl b)))| .inr b=>some (.inl (b.1,b.2.1,b.2.2.1,b.2.2.2,d)))| .inr z=>some z))| .inr z=>some z)) else(some (.inr (.inl (c.1.1,c.1.2.1,c.1.2.2.1,c.1.2.2.2,a.2.2.2.2))))
def qEr(N:Nat)(c:T27):Option (T27⊕T27⊕T25):=
 (qCs N (c.1,c.2.1,c.2.2.1,c.2.2.2.1)).bind fun a=>if(a.2.1 !=5)=true then((qKz N a.1 c.2.2.2.2).bind fun b=>(match b with| .inl b=>some (.inr (.inr (.inl b)))| .inr b=>(qCx 72 c.2.2.2.2 ([b.2])).bind fun d=>some (.inl (b.1.1,b.1.2.1,b.1.2.2.1,b.1.2.2.2,d)))) else(some (.inr (.inl (a.1.1,a.1.2.1,a.1.2.2.1,a.1.2.2.2,c.2.2.2.2))))
def qJg(N:Nat)(p0:T1i):Option T25:=
 (qIc N p0 (⟨#[112,97,99,107,97,103,101]⟩:ByteArray)).bind fun a=>(match a with| .inl a=>some (.inl a)| .inr a=>(qFl N a).bind fun a=>(match a with| .inl a=>some (.inl a)| .inr c=>(qBz N c.1 (⟨#[59]⟩:ByteArray)).bind fun a=>(match a with| .inl a=>some (.inl a)| .inr a=>(qAt (qJd N c) N (a.1,a.2.1,a.2.2.1,a.2.2.2,([]:Tf))).bind fun a=>(match a with| .inl a=>(qAt (qEr N) N (a.1,a.2.1,a.2.2.1,a.2.2.2.1,([]:Tm))).bind fun b=>(match b with| .inl b=>some (.inr ((b.1,b.2.1,b.2.2.1,b.2.2.2.1),(c.2.2.1,a.2.2.2.2,b.2.2.2.2)))| .inr (z)=>some z)| .inr (z)=>some z))))
theorem qVc{p0:T1i}{r:T25}(g:St m (kB bp0 (Vd p0 a1 c1 a2 c2 a3 c3) 93::kR a3 p0.2.2.2 c3 73 5::O) w)(r1:RepS C5 m a1 c1 p0.1)(r2:RepS cStr m a2 c2 p0.2.2.1)(r3:RepS C2 m a3 c3 p0.2.2.2)(i:qJg N p0=some r):Calls Tryz.prog 55 #[vP bp0 0] w fun e w'=>(∃(z0:T8),∃m',r= .inl z0∧e= .panicked [{v:= .iface 89 (.agg (Ve z0)),recovered:=false}]∧m.le m'∧St m' (O) w')∨(∃(M:T1i×Tn),r= .inr M∧∃k7 l0 k8 l3 h0 h3 h1 h4 h2 h5 m',e= .returned (.agg (V5 M.2 h1 h4 h2 h5))∧m.le m'∧St m' (kR h1 M.2.2.1 h4 9 1::kR h2 M.2.2.2 h5 48 4::kB bp0 (Vd M.1 k7 l0 k8 l3 h0 h3) 93::kR h0 M.1.2.2.2 h3 73 5::O) w'∧RepS C5 m' k7 l0 M.1.1∧RepS cStr m' k8 l3 M.1.2.2.1∧RepS C2 m' h0 h3 M.1.2.2.2∧RepS cStr m' h1 h4 M.2.2.1∧RepS C3 m' h2 h5 M.2.2.2):=by
 unfold qJg at i;have q:=m.le_refl;refine W_cA Tryz.func55 rfl Tryz.ntmps55 ?_;refine W_sr (qAb rfl (qEh 2 25 (.agg #[vT eB,v6,v6]) g fun y w1 g=>(WO_e (W_sr (qAa 1 [(5,vP bp0 0)] (qCp 6 i (fun _ h=>qMm (p0:=p0) g.f2.f2 r1 r2 r3 h) ?_))))));rintro y1 i _ w2 (⟨z1,m2,rfl,rfl,e2,g⟩|⟨y2,rfl,a4,c4,a5,c5,a6,c6,m1,rfl,e1,g,r4,r5,r6⟩)
 ·refine qAk ?_;obtain rfl:=sI i;have g:=g.t;exact qAx (.inl ⟨z1,m2,rfl,rfl,q.t e2,g⟩)
 have q:=q.t e1;refine WO_e (W_sr (qAa 1 [(7,vP bp0 0)] (qCp 8 i (fun _ h=>qKy (p0:=y2) g.f1.f1 r4 r5 r6 h) ?_)));rintro y3 i _ w4 (⟨z2,m4,rfl,rfl,e4,g⟩|⟨s,rfl,a7,c7,a8,c8,a9,c9,m3,rfl,e3,g,r7,r8,r9⟩)
 ·refine qAk ?_;obtain rfl:=sI i;have g:=g.t;exact qAx (.inl ⟨z2,m4,rfl,rfl,q.t e4,g⟩)
 refine qAa 2 [(10,.agg #[vT s.2.2.1,v1,vc])] (qAb rfl (qEh 3 25 (.agg #[vT eB,v6,v6]) g fun u w6 g=>(qAb rfl (qCm 25 3 10 (.agg #[vT s.2.2.1,v1,vc]) g fun w7 g=>(WO_e (W_sr (qAa 1 [(11,vP bp0 0)] (qCp 12 i (fun _ h=>qCz (p0:=s.1) g.f2.f2 r7 r8 r9 h) ?_))))))));rintro y5 i _ w8 (⟨z3,m6,rfl,rfl,e6,g⟩|⟨y6,rfl,l5,n1,l6,n4,l7,n5,m5,rfl,e5,g,q2,q3,q4⟩)
 ·refine qAk ?_;obtain rfl:=sI i;have g:=g.t.t;exact qAx (.inl ⟨z3,m6,rfl,rfl,(q.t e3).t e6,g⟩)
 refine WO_e (qAs (qAw ?_));have⟨g5,i,j1⟩:=qBa i;refine qCg (.exit 0) (fun L' w'=>∃(c:T24),∃b6 d3 b7 d4 V Z f l m7,(.inl c)=g5∧L'=[(0,vP bp0 0),(2,vP y 0),(3,vP u 0)]∧m.le m7∧St m7 (kB bp0 #[vS b6 c.1 d3,vI c.2.1,vS b7 c.2.2.1 d4,vS V c.2.2.2.1 Z] 93::kB u #[vT s.2.2.1,vS f c.2.2.2.2 l,vc] 25::kB y #[vT eB,v1,vc] 25::kR V c.2.2.2.1 Z 73 5::kR f c.2.2.2.2 l 9 1::O) w'∧RepS C5 m7 b6 d3 c.1∧RepS cStr m7 b7 d4 c.2.2.1∧RepS C2 m7 V Z c.2.2.2.1∧RepS cStr m7 f l c.2.2.2.2) ?_ ?_
 ·rintro _ s8 ⟨c,b6,d3,b7,d4,V,Z,f,l,m7,rfl,rfl,q,g,o8,o9,q0,H⟩;have i:=j1;refine qBh (qAf (qAs (qAw ?_)));have⟨g1,i,j5⟩:=qBa i;refine qCg (.exit 2) (fun L' w'=>∃(k:T27),∃b0 d0 b8 d1 S U n x B,(.inl k)=g1∧L'=[(2,vP y 0),(3,vP u 0)]∧m.le B∧St B (kB bp0 #[vS b0 k.1 d0,vI k.2.1,vS b8 k.2.2.1 d1,vS S k.2.2.2.1 U] 93::kB u #[vT s.2.2.1,vS f c.2.2.2.2 l,vS n k.2.2.2.2 x] 25::kB y #[vT eB,v1,vc] 25::kR f c.2.2.2.2 l 9 1::kR S k.2.2.2.1 U 73 5::kR n k.2.2.2.2 x 48 4::O) w'∧RepS C5 B b0 d0 k.1∧RepS cStr B b8 d1 k.2.2.1∧RepS C2 B S U k.2.2.2.1∧RepS cStr B f l c.2.2.2.2∧RepS C3 B n x k.2.2.2.2) ?_ ?_
  ·rintro _ D ⟨k,b0,d0,b8,d1,S,U,n,x,B,rfl,rfl,q,g,a,b,p,H,z⟩;have i:=j5;refine qBh (qAf (W_sr (qAb rfl (qBx 67 25 3 0 (.agg #[vT s.2.2.1,vS f c.2.2.2.2 l,vS n k.2.2.2.2 x]) g.t.h (qAb rfl (qCm 25 2 67 (.agg #[vT s.2.2.1,vS f c.2.2.2.2 l,vS n k.2.2.2.2 x]) g.f2 fun E g=>(WO_e (qBd ?_))))))));cases i;exact qMn [.cell 2 25] [.agg #[vT s.2.2.1,vS f c.2.2.2.2 l,vS n k.2.2.2.2 x]] rfl (ResAll.cons (ResAt.blk (v:= .agg #[vT s.2.2.1,vS f c.2.2.2.2 l,vS n k.2.2.2.2 x]) (o:=0) kr g.h kr) ResAll.nil) (.inr ⟨_,rfl,b0,d0,b8,d1,S,U,f,l,n,x,B,rfl,q,g.t.f1.t.f2.f1.f3.f3,a,b,p,H,z⟩)
  intro g2;have g:=(g.nilroom 48 4).front4.front5.front5.front5.front5;refine qGm _ kr (qDl (fun k2 L' w'=>∃(b:T27),∃d7 e0 d8 f8 b9 d2 p z D,qAt (qEr N) k2 b=some g1∧L'=[(0,vP bp0 0),(2,vP y 0),(3,vP u 0)]∧m.le D∧St D (kB bp0 #[vS d7 b.1 e0,vI b.2.1,vS d8 b.2.2.1 f8,vS b9 b.2.2.2.1 d2] 93::kB u #[vT s.2.2.1,vS f c.2.2.2.2 l,vS p b.2.2.2.2 z] 25::kB y #[vT eB,v1,vc] 25::kR f c.2.2.2.2 l 9 1::kR b9 b.2.2.2.1 d2 73 5::kR p b.2.2.2.2 z 48 4::O) w'∧RepS C5 D d7 e0 b.1∧RepS cStr D d8 f8 b.2.2.1∧RepS C2 D b9 d2 b.2.2.2.1∧RepS cStr D f l c.2.2.2.2∧RepS C3 D p z b.2.2.2.2) N ⟨(c.1,c.2.1,c.2.2.1,c.2.2.2.1,([]:Tm)),b6,d3,b7,d4,V,Z,none,0,m7,i,rfl,q,g,o8,o9,q0,H,(RepS.nil _ _)⟩ ?_);rintro k2 _ s9 ⟨b,d7,e0,d8,f8,b9,d2,p,z,D,hL,rfl,q,g,q1,q5,q6,H,a0⟩;rcases k2 with _|k2
  ·exact qBj hL
  ·obtain⟨s7,i,h9,g0⟩:=qBi hL;clear hL;unfold qEr at i;refine qAs (W_sr (qAa 1 [(54,vP bp0 0)] (qAp 55 i (fun _ h=>qDa (p0:=(b.1,b.2.1,b.2.2.1,b.2.2.2.1)) g.f4.f1 q1 q5 q6 h) ?_)));rintro R i _ t0 ⟨k3,l9,k4,n0,k5,n6,Y,rfl,d5,g,h6,h7,h8⟩;have q:=q.t d5;have a0:=a0.mono d5;refine qAd 2 [(57,vB (R.2.1 !=5))] (W_if i ?_ ?_)
   ·intro A i;refine qAq (qAf (qAw (qJa [(10,fun w'=>Inv Y w'∧True),(9,fun w'=>Inv Y w'∧Piece.holds Y w' (kB u #[vT s.2.2.1,vS f c.2.2.2.2 l,vS p b.2.2.2.2 z] 25)∧True)] kr g fun t3 _ g=> ?_)));have a:=Y.le_refl;refine⟨⟨iA g a,⟨.inr ⟨Inv.anti g.inv a,Piece.holds_anti g.t.t.h a,trivial⟩,trivial⟩⟩,?_⟩;refine qBk 0 58 (vP u 2) (.head _) (qJe 23 58 1 59 2 (vS p b.2.2.2.2 z) (.tail _ (.head _)) (fun _ h=>h.2.1) (qBk 2 60 (vP bp0 0) (.head _) (qBk 3 61 (vP u 2) (.head _) (qJe 23 61 4 62 2 (vS p b.2.2.2.2 z) (.tail _ (.head _)) (fun _ h=>h.2.1) ?_))));have g:=g.f1.f1;have⟨t8,o0,i⟩:=qBa i;refine qDg 5 kr (qXr 63 101 #[vP bp0 0,vS p b.2.2.2.2 z] kr rfl ((qUa (p0:=R.1) g h6 h7 h8 a0 o0).mono ?_));rintro _ t4 (⟨z8,o6,rfl,rfl,g8,g⟩|⟨F,rfl,k6,n7,l4,n8,l8,n9,g3,g6,g4,g7,s5,rfl,d6,g,q7,q8,q9,r0,s0⟩)
    ·refine .inr ⟨_,rfl,?_⟩;have a:=Mem.le_trans a g8;refine qBs ?_;obtain rfl:=sI i;have ho:=g0 _ rfl;subst ho;have i:=j5;refine qAk ?_;refine qBs ?_;refine qAk ?_;obtain rfl:=sI i;have g:=g.t.t.t.t;exact qAx (.inl ⟨z8,o6,rfl,rfl,q.t g8,g⟩)
    refine .inl ⟨_,rfl,?_⟩;have a:=Mem.le_trans a d6;refine⟨⟨iA g a,⟨.inr ⟨Inv.anti g.inv a,Piece.holds_anti g.t.t.t.h a,trivial⟩,trivial⟩⟩,?_⟩;refine qDg 6 kr (qBl (d:=64) (t:=23) (e:=48) (len:=1) (parts:= #[(0,(.tmp 63))]) C3 (xs:=[F.2]) (V4 F.2 g3 g6 g4 g7) kr rfl (fun _=>qBn kr _) rfl rfl g ⟨(V4 F.2 g3 g6 g4 g7),_,rfl,⟨_,_,rfl,rfl,⟨_,_,rfl,rfl,⟨_,_,rfl,(zCw r0),(zCw s0)⟩⟩⟩,rfl⟩ fun b5 s6 t5 E g s3=> ?_);have a:=Mem.le_trans a E;refine⟨⟨iA g a,⟨.inr ⟨Inv.anti g.inv a,Piece.holds_anti g.t.t.t.t.h a,trivial⟩,trivial⟩⟩,?_⟩;refine qDg 7 kr (qGi 65 23 23 48 72 59 64 g.f7 (.inl kr) ((a0.mono d6).mono E) s3.src i fun l2 i d9 f9 o7 t6 G g s4=> ?_);have a:=Mem.le_trans a G;refine⟨⟨iA g a,⟨.inr ⟨Inv.anti g.inv a,Piece.holds_anti g.t.t.t.t.t.h a,trivial⟩,trivial⟩⟩,?_⟩;refine qBk 8 66 (vP u 2) (.head _) (qDg 9 kr (qDv 23 66 65 2 (vS d9 l2 f9) #[vT s.2.2.1,vS f c.2.2.2.2 l,vS d9 l2 f9] g.f5 fun t7 g=>(⟨⟨iA g a,⟨.inl rfl,trivial⟩⟩,?_⟩)));refine qEc kr ?_;have g:=g.f2.t.f2.t;refine qBe ?_;obtain rfl:=sI i;have hL:=h9 _ rfl
    exact xE (qCh k2 (jG _) ⟨(F.1.1,F.1.2.1,F.1.2.2.1,F.1.2.2.2,l2),k6,n7,l4,n8,l8,n9,d9,f9,o7,hL,rfl,((q.t d6).t E).t G,g.f1.f3.f5.f5.f4.f5,(q7.mono E).mono G,(q8.mono E).mono G,(q9.mono E).mono G,(((H.mono d5).mono d6).mono E).mono G,s4⟩)
   ·intro A i;refine qDi (qAg ?_);cases i;have ho:=g0 _ rfl;have g:=g.f5.f2.f5.f5.f5.f5;refine qAg ?_;exact xE (g2 _ _ ⟨(R.1.1,R.1.2.1,R.1.2.2.1,R.1.2.2.2,b.2.2.2.2),k3,l9,k4,n0,k5,n6,p,z,Y,ho,rfl,q,g,h6,h7,h8,H.mono d5,a0⟩)
 intro h6;have g:=(g.nilroom 9 1).front2.front4.front4.front4;refine qGm _ kr (qDl (fun k1 L' w'=>∃(b:T24),∃f8 g1 f9 g2 b8 d5 k n m8,qAt (qJd N s) k1 b=some g5∧L'=[(0,vP bp0 0),(2,vP y 0),(3,vP u 0)]∧m.le m8∧St m8 (kB bp0 #[vS f8 b.1 g1,vI b.2.1,vS f9 b.2.2.1 g2,vS b8 b.2.2.2.1 d5] 93::kB u #[vT s.2.2.1,vS k b.2.2.2.2 n,vc] 25::kB y #[vT eB,v1,vc] 25::kR b8 b.2.2.2.1 d5 73 5::kR k b.2.2.2.2 n 9 1::O) w'∧RepS C5 m8 f8 g1 b.1∧RepS cStr m8 f9 g2 b.2.2.1∧RepS C2 m8 b8 d5 b.2.2.2.1∧RepS cStr m8 k n b.2.2.2.2) N ⟨(y6.1,y6.2.1,y6.2.2.1,y6.2.2.2,([]:Tf)),l5,n1,l6,n4,l7,n5,none,0,m5,i,rfl,(q.t e3).t e5,g,q2,q3,q4,(RepS.nil _ _)⟩ ?_);rintro k1 _ t0 ⟨b,f8,g1,f9,g2,b8,d5,k,n,m8,hL,rfl,q,g,q5,q6,q7,p⟩;rcases k1 with _|k1
 ·exact qBj hL
 ·obtain⟨s9,i,l4,B⟩:=qBi hL;clear hL;unfold qJd at i;refine qAs (W_sr (qAa 1 [(13,vP bp0 0)] (qAp 14 i (fun _ h=>qIq (p0:=(b.1,b.2.1,b.2.2.1,b.2.2.2.1)) g.f3.f1 q5 q6 q7 h) ?_)));rintro y7 i _ t3 ⟨h7,k3,h8,k4,h9,k5,m9,rfl,e7,g,g6,g7,g8⟩;have q:=q.t e7;have p:=p.mono e7;refine WO_e (W_if i ?_ ?_)
  ·intro A i;refine qAq (qAf (qAw (qAs (W_sr (qCj 1 16 22 15 1 (vS k b.2.2.2.2 n) g.t.t.h (qAd 2 [(18,vB ((b.2.2.2.2.length:Int)==8))] ?_))))));have⟨q0,i,j2⟩:=qBa i;refine qCg .normal (fun L' w'=>∃(x:T1i),∃b9 d6 d0 d7 Y a0 D,(.inl x:T1i⊕T26)=q0∧L'=[(0,vP bp0 0),(2,vP y 0),(3,vP u 0)]∧m.le D∧St D (kB bp0 (Vd x b9 d6 d0 d7 Y a0) 93::kB u #[vT s.2.2.1,vS k b.2.2.2.2 n,vc] 25::kB y #[vT eB,v1,vc] 25::kR k b.2.2.2.2 n 9 1::kR Y x.2.2.2 a0 73 5::O) w'∧RepS C5 D b9 d6 x.1∧RepS cStr D d0 d7 x.2.2.1∧RepS C2 D Y a0 x.2.2.2∧RepS cStr D k n b.2.2.2.2) ?_ ?_
   ·rintro _ t4 ⟨x,b9,d6,d0,d7,Y,a0,D,rfl,rfl,q,g,q8,q9,r0,p⟩;have i:=j2;refine qAf (W_sr (qAa 3 [(22,vP bp0 0),(24,vP bp0 1)] (qAb rfl (qBx 25 3 24 1 (vI x.2.1) g.h (qAa 3 [(26,vI (wr (x.2.1+1))),(28,vP bp0 1)] (qAb rfl (qDv 3 28 26 1 (vI (wr (x.2.1+1))) #[vS b9 x.1 d6,vI (wr (x.2.1+1)),vS d0 x.2.2.1 d7,vS Y x.2.2.2 a0] g fun t5 g=>(WO_e (W_sr (qAa 1 [(29,vP bp0 0)] (qCp 30 i (fun _ h=>qKy (p0:=(x.1,wr (x.2.1+1),x.2.2.1,x.2.2.2)) g.f4.f1 q8 q9 r0 h) ?_)))))))))));rintro u5 i _ t6 (⟨z5,o7,rfl,rfl,n9,g⟩|⟨a,rfl,d1,d8,d2,d9,R,S,o6,rfl,g4,g,F,G,H⟩)
    ·refine qAk ?_;refine qBs ?_;obtain rfl:=sI i;have ho:=B _ rfl;subst ho;have i:=j1;refine qAk ?_;refine qBs ?_;refine qAk ?_;obtain rfl:=sI i;have g:=g.t.t.t;exact qAx (.inl ⟨z5,o7,rfl,rfl,q.t n9,g⟩)
    have p:=p.mono g4;refine qAb rfl (qEh 4 109 (.agg (V9 0 eB 0 0)) g fun b3 t7 g=>(qAb rfl (qCm 109 4 30 (.agg (V8 a.2)) g fun t8 g=>(WO_e (qAs (W_sr ?_))))));have⟨o3,i,J⟩:=qBa i;refine qDk (j:=12) (fun L' w'=>∃z,L'=[(0,vP bp0 0),(2,vP y 0),(3,vP u 0),(4,vP b3 0),(42,vB o3)]∧m.le z∧St z (kB b3 (V8 a.2) 109::kB bp0 (Vd a.1 d1 d8 d2 d9 R S) 93::kB u #[vT s.2.2.1,vS k b.2.2.2.2 n,vc] 25::kB y #[vT eB,v1,vc] 25::kR R a.1.2.2.2 S 73 5::kR k b.2.2.2.2 n 9 1::O) w'∧RepS C5 z d1 d8 a.1.1∧RepS cStr z d2 d9 a.1.2.2.1∧RepS C2 z R S a.1.2.2.2∧RepS cStr z k n b.2.2.2.2) ?_ ?_
    ·have i:=J;rintro _ t9 ⟨z,rfl,q,g,F,G,H,p⟩;refine WO_e ?_;have⟨q1,i,j3⟩:=qBa i;refine qCg .normal (fun L' w'=>∃(o4:Unit),∃E,(.inl o4:Unit⊕T26)=q1∧L'=[(0,vP bp0 0),(2,vP y 0),(3,vP u 0),(4,vP b3 0)]∧m.le E∧St E (kB b3 (V8 a.2) 109::kB bp0 (Vd a.1 d1 d8 d2 d9 R S) 93::kB u #[vT s.2.2.1,vS k b.2.2.2.2 n,vc] 25::kB y #[vT eB,v1,vc] 25::kR R a.1.2.2.2 S 73 5::kR k b.2.2.2.2 n 9 1::O) w'∧RepS C5 E d1 d8 a.1.1∧RepS cStr E d2 d9 a.1.2.2.1∧RepS C2 E R S a.1.2.2.2∧RepS cStr E k n b.2.2.2.2) ?_ ?_
     ·rintro _ u0 ⟨o4,E,rfl,rfl,q,g,F,G,H,p⟩;have i:=j3;refine qAf (W_sr (qCj 1 46 22 45 1 (vS k b.2.2.2.2 n) g.t.t.h (qCj 1 48 9 47 1 (vT a.2.2.1) g.h (qAb rfl (qBl (d:=49) (t:=22) (e:=9) (len:=1) (parts:= #[(0,(.tmp 48))]) cStr (xs:=[a.2.2.1]) [vT a.2.2.1] kr rfl (fun _=>qBn kr _) rfl rfl g ⟨[vT a.2.2.1],_,rfl,rfl,rfl⟩ fun b4 s7 u1 U g s0=>(qAb rfl (qGi 50 22 22 9 16 46 49 g.f6 (.inl kr) (p.mono U) s0.src i fun l1 i g0 g3 s8 u2 b0 g s3=>(qAa 1 [(51,vP u 1)] (qAb rfl (qDv 22 51 50 1 (vS g0 l1 g3) #[vT s.2.2.1,vS g0 l1 g3,vc] g.f4 fun u3 g=>(qAv rfl ?_)))))))))));have g:=g.f2.t;refine qAf (qAl (qAa 1 [(52,vP bp0 0)] (qCp 53 i (fun _ h=>qCz (p0:=a.1) g.f5.f4 ((F.mono U).mono b0) ((G.mono U).mono b0) ((H.mono U).mono b0) h) ?_)));rintro u6 i _ u4 (⟨z7,o9,rfl,rfl,o0,g⟩|⟨e0,rfl,l8,n6,l9,n7,n0,n8,o8,rfl,k6,g,s4,s5,s6⟩)
      ·refine qBs ?_;obtain rfl:=sI i;have ho:=B _ rfl;subst ho;have i:=j1;refine qAk ?_;refine qBs ?_;refine qAk ?_;obtain rfl:=sI i;have g:=g.t.t.t.t;exact qAx (.inl ⟨z7,o9,rfl,rfl,((q.t U).t b0).t o0,g⟩)
      refine qAv rfl (qBe ?_);obtain rfl:=sI i;have hL:=l4 _ rfl;exact xE (qCh k1 (jG _) ⟨(e0.1,e0.2.1,e0.2.2.1,e0.2.2.2,l1),l8,n6,l9,n7,n0,n8,g0,g3,o8,hL,rfl,((q.t U).t b0).t k6,g.f4.t.f3.f2.f4.f4.f4,s4,s5,s6,s3.mono k6⟩)
     ·intro b0;refine W_if i ?_ ?_
      ·intro A i;refine qAl (qAb rfl (qBx 43 109 4 0 (.agg (V8 a.2)) g.h (qCp 44 i (fun _ h=>qDd (p0:=a.2) g h) ?_)));rintro l8 i _ k6 (⟨z6,g3,rfl,rfl,e0,g⟩|⟨l9,rfl,g0,rfl,U,g⟩)
       ·obtain rfl:=sI i;have i:=j3;refine qAk ?_;refine qBs ?_;obtain rfl:=sI i;have ho:=B _ rfl;subst ho;have i:=j1;refine qAk ?_;refine qBs ?_;refine qAk ?_;obtain rfl:=sI i;have g:=g.t.t.t.t.t.t;exact qAx (.inl ⟨z6,g3,rfl,rfl,q.t e0,g⟩)
       refine qAv rfl ?_;have n3:=jI i;exact xE (b0 _ _ ⟨(),g0,n3,rfl,q.t U,g.f5.f5.f5.f5.f5.f5,F.mono U,G.mono U,H.mono U,p.mono U⟩)
      ·intro A i;refine qAq ?_;have n3:=jI i;exact xE (b0 _ _ ⟨(),z,n3,rfl,q,g.f5.f5.f5.f5.f5.f5,F,G,H,p⟩)
    ·intro K;refine qCj 1 32 9 31 1 (vT a.2.2.1) g.h (qCj 1 34 9 33 0 (vT s.2.2.1) g.t.t.t.h (qAa 2 [(36,vB (a.2.2.1.toList==s.2.2.1.toList))] (qCc 36 i ?_ ?_)))
     ·intro A i;refine qAa 6 [(42,vB true)] ?_;cases i;exact qAu _ kr (K _ _ ⟨o6,rfl,q.t g4,g.f5.f3.f5.f5.f5.f5,F,G,H,p⟩)
     ·intro A i;refine qCj 1 38 22 37 1 (vS k b.2.2.2.2 n) g.t.t.t.h (qCj 1 40 9 39 1 (vT a.2.2.1) g.h (qAp 41 i (fun _ h=>qFu g p h) ?_));rintro b0 i _ e0 ⟨U,rfl,E,g⟩;refine qAa 1 [(42,vB b0)] ?_;cases i;exact qAu _ kr (K _ _ ⟨U,rfl,(q.t g4).t E,g.f5.f3.f5.f5.f5.f5,F.mono E,G.mono E,H.mono E,p.mono E⟩)
   ·intro z;refine W_if i ?_ ?_
    ·intro A i;refine qAl (qAa 1 [(19,vP bp0 0)] (qAp 20 i (fun _ h=>qDa (p0:=y7.1) g.f1.f1 g6 g7 g8 h) ?_));rintro y8 i _ g4 ⟨G,S,H,U,R,b0,g3,rfl,E,g,d9,e0,g0⟩;refine qCp 21 i (fun _ h=>qDd (p0:=y8.2) g h) ?_;rintro y9 i _ k6 (⟨z4,d8,rfl,rfl,d1,g⟩|⟨l8,rfl,d2,rfl,a,g⟩)
     ·obtain rfl:=sI i;have i:=j2;refine qAk ?_;refine qBs ?_;obtain rfl:=sI i;have ho:=B _ rfl;subst ho;have i:=j1;refine qAk ?_;refine qBs ?_;refine qAk ?_;obtain rfl:=sI i;have g:=g.t.t.t.t.t;exact qAx (.inl ⟨z4,d8,rfl,rfl,(q.t E).t d1,g⟩)
     refine qAv rfl ?_;have F:=jI i;exact xE (z _ _ ⟨y8.1,G,S,H,U,R,b0,d2,F,rfl,(q.t E).t a,g.f1.f4.f4.f4.f4,d9.mono a,e0.mono a,g0.mono a,(p.mono E).mono a⟩)
    ·intro A i;refine qAq ?_;have F:=jI i;exact xE (z _ _ ⟨y7.1,h7,k3,h8,k4,h9,k5,m9,F,rfl,q,g.f1.f4.f4.f4.f4,g6,g7,g8,p⟩)
  ·intro A i;refine qDi (qAg ?_);cases i;have ho:=B _ rfl;have g:=g.f4.f2.f4.f4.f4;refine qAg ?_;exact xE (h6 _ _ ⟨(y7.1.1,y7.1.2.1,y7.1.2.2.1,y7.1.2.2.2,b.2.2.2.2),h7,k3,h8,k4,h9,k5,k,n,m9,ho,rfl,q,g,g6,g7,g8,p⟩)
def qNr(N:Nat)(p0:ByteArray):Option T1h:=
 (qPq N p0).bind fun a=>if(a.2.2 !=0)=true then(some (((⟨#[]⟩:ByteArray),([]:Tf),([]:Tm)),a.2.1,a.2.2)) else((qJg N (a.1,0,([]:Tf),([]:Tj))).bind fun a=>(match a with| .inl a=>some (((⟨#[]⟩:ByteArray),([]:Tf),([]:Tm)),a.1,a.2)| .inr a=>some (a.2,0,0)))
theorem zAr{p0:ByteArray}{r:T1h}(g:St m (O) w)(i:qNr N p0=some r):Calls Tryz.prog 15 #[vT p0] w fun e w'=>∃p u s x m',e= .returned (.tuple #[.agg (V5 r.1 p u s x),vI r.2.1,vI r.2.2])∧m.le m'∧St m' (kR p r.1.2.1 u 9 1::kR s r.1.2.2 x 48 4::O) w'∧P2 m' p u s x r.1.2:=by
 unfold qNr at i;have q:=m.le_refl;refine zQx Tryz.func15 rfl Tryz.ntmps15 [(0,vT p0)] kr rfl ?_;refine zJy ?_;refine qAl (qAb rfl (qEh 2 25 (.agg #[vT eB,v6,v6]) g fun n w1 g=>(qAb rfl (qEh 3 3 (vI 0) g fun f w2 g=>(qAb rfl (qEh 4 26 (vI 0) g fun k w3 g=>(qAv rfl (zEh (zJy (qAl (qAa 1 [(8,vT p0)] (qAp 9 i (fun _ h=>zBi g h) ?_))))))))))));rintro b i _ w4 ⟨F,H,l,rfl,R,g,Y⟩;have q:=q.t R;refine qAa 5 [(11,vI b.2.1),(12,vI b.2.2),(5,vS F b.1 H)] (qAb rfl (qCm 3 3 11 (vI b.2.1) g.f2 fun w5 g=>(qAb rfl (qCm 26 4 12 (vI b.2.2) g.f2 fun w6 g=>(qAv rfl (zEh (zJy (W_sr (qAb rfl (qBx 13 26 4 0 (vI b.2.2) g.h (qAd 1 [(14,vB (b.2.2 !=0))] (W_if i ?_ ?_))))))))))))
 ·intro A i;refine qAs (qJa [(6,fun w'=>Inv l w'∧True),(5,fun w'=>Inv l w'∧Piece.holds l w' (kB k #[vI b.2.2] 26)∧True),(4,fun w'=>Inv l w'∧Piece.holds l w' (kB f #[vI b.2.1] 3)∧True)] kr g fun y _ g=> ?_);have a:=l.le_refl;refine⟨⟨iA g a,⟨.inr ⟨Inv.anti g.inv a,Piece.holds_anti g.h a,trivial⟩,⟨.inr ⟨Inv.anti g.inv a,Piece.holds_anti g.t.h a,trivial⟩,trivial⟩⟩⟩,?_⟩;refine qBk 0 15 (.agg #[vT eB,v1,vc]) (.head _) (qJe 3 3 1 16 0 (vI b.2.1) (.tail _ (.tail _ (.head _))) (fun _ h=>h.2.1) (qJe 26 4 2 17 0 (vI b.2.2) (.tail _ (.head _)) (fun _ h=>h.2.1) (qDg 3 kr (qCm 25 2 15 (.agg #[vT eB,v1,vc]) g.f3 fun z g=>(⟨⟨iA g a,⟨.inr ⟨Inv.anti g.inv a,Piece.holds_anti g.t.h a,trivial⟩,⟨.inr ⟨Inv.anti g.inv a,Piece.holds_anti g.t.t.h a,trivial⟩,trivial⟩⟩⟩,?_⟩)))));refine qDg 4 kr (qCm 3 3 16 (vI b.2.1) g.f2 fun B g=>(⟨⟨iA g a,⟨.inr ⟨Inv.anti g.inv a,Piece.holds_anti g.t.t.h a,trivial⟩,⟨.inl rfl,trivial⟩⟩⟩,?_⟩));refine qDg 5 kr (qCm 26 4 17 (vI b.2.2) g.f2 fun c g=>(⟨⟨iA g a,⟨.inl rfl,⟨.inl rfl,trivial⟩⟩⟩,?_⟩));refine qEc kr ?_;have g:=g.f3.t;refine qAf (qBd (qAc (zQf ?_)));cases i
  refine X_retE [.cell 2 25,.cell 3 3,.cell 4 26] [.agg #[vT eB,v1,vc],vI b.2.1,vI b.2.2] rfl (ResAll.cons (ResAt.blk (v:= .agg #[vT eB,v1,vc]) (o:=0) kr g.t.t.h kr) (ResAll.cons (ResAt.blk (v:=vI b.2.1) (o:=0) kr g.t.h kr) (ResAll.cons (ResAt.blk (v:=vI b.2.2) (o:=0) kr g.h kr) ResAll.nil))) ?_;have g:=(g.nilroom 9 1).nilroom 48 4;exact⟨none,0,none,0,l,rfl,q,g.f2.t.f2.t.f2.t.f1,(RepS.nil _ _),(RepS.nil _ _)⟩
 ·intro A i;refine qAq (zEh (zJy (qAl (qAa 1 [(18,.func (.func 54) #[] #[vP n 0,vP f 0,vP k 0])] (zRa ({target:= .fn (.func 54) #[vP n 0,vP f 0,vP k 0],args:= #[]}) kr kr (qAv rfl (zEh (W_sr (qAa 2 [(20,.agg #[vS F b.1 H,vI 0,v1,vb])] (qAb rfl (zJz 21 93 20 (.agg #[vS F b.1 H,vI 0,v1,vb]) g fun M a0 g=>(qAd 1 [(6,vP M 0)] (W_sr (qAa 1 [(22,vP M 0)] ?_))))))))))))));have g:=(g.nilroom 73 5).front1;refine qCp 23 i (fun _ h=>qVc (p0:=(b.1,0,([]:Tf),([]:Tj))) g Y (RepS.nil _ _) (RepS.nil _ _) h) ?_;rintro y2 i _ a7 (⟨c,E,rfl,rfl,U,g⟩|⟨K,rfl,a2,c2,a3,c3,a4,c4,y,B,z,D,V,rfl,S,g,r2,r3,r4,Z,r6⟩)
  ·refine qAk ?_;refine X_panD [.cell 2 25,.cell 3 3,.cell 4 26] rfl (zEz Tryz.func54 kr) ?_;refine zCl (.panicking [{v:= .iface 89 (.agg (Ve c)),recovered:=false}]) Tryz.func54 rfl Tryz.ntmps54 [(0,vP n 0),(1,vP f 0),(2,vP k 0)] kr rfl (d:=6) kr kr [(3,.iface 89 (.agg (Ve c))),(6,.iface 89 (.agg (Ve c))),(0,vP n 0),(1,vP f 0),(2,vP k 0)] (.iface 89 (.agg (Ve c))) (.panicking [{v:= .iface 89 (.agg (Ve c)),recovered:=true}]) rfl kr ?_;refine W_sr (qAa 2 [(8,vB true)] (qAv rfl ?_));have g:=g.f2.t;refine qAf (qUp true kr ?_ (fun h=>Bool.noConfusion h));intro _;refine W_sr (qAa 5 [(12,.agg (Ve c)),(13,vB true)] (qAb rfl (qEh 4 89 (.agg #[vI 0,vI 0]) g fun G a8 g=>(qAb rfl (qCm 89 4 12 (.agg (Ve c)) g fun a9 g=>(qAd 1 [(5,vB true)] (qAs (W_sr (qAd 2 [(15,vB false)] (qUp false kr (fun h=>Bool.noConfusion h) ?_))))))))));intro _;refine qAq (qAf (qJa [(8,fun w'=>Inv E w'∧Piece.holds E w' (kB G (Ve c) 89)∧True)] kr g fun b0 _ g=> ?_));have a:=E.le_refl;refine⟨⟨.inr ⟨Inv.anti g.inv a,Piece.holds_anti g.h a,trivial⟩,trivial⟩,?_⟩
   refine qBk 0 17 (.agg #[vT eB,v1,vc]) (.head _) (qBk 1 18 (vP G 0) (.head _) (qJe 3 18 2 19 0 (vI c.1) (.head _) (fun _ h=>h.2.1) (qBk 3 20 (vP G 1) (.head _) (qJe 26 20 4 21 1 (vI c.2) (.head _) (fun _ h=>h.2.1) (qDg 5 kr (qCm 25 0 17 (.agg #[vT eB,v1,vc]) g.f3 fun b6 g=>(⟨⟨.inr ⟨Inv.anti g.inv a,Piece.holds_anti g.t.h a,trivial⟩,trivial⟩,?_⟩)))))));refine qDg 6 kr (qCm 3 1 19 (vI c.1) g.f3 fun b7 g=>(⟨⟨.inr ⟨Inv.anti g.inv a,Piece.holds_anti g.t.t.h a,trivial⟩,trivial⟩,?_⟩));refine qDg 7 kr (qCm 26 2 21 (vI c.2) g.f3 fun b8 g=>(⟨⟨.inr ⟨Inv.anti g.inv a,Piece.holds_anti g.t.t.t.h a,trivial⟩,trivial⟩,?_⟩));refine qEc kr ?_;obtain rfl:=sI i;refine qOw [] [] rfl ResAll.nil (⟨_,rfl,?_⟩);refine⟨[.agg #[vT eB,v1,vc],vI c.1,vI c.2],(ResAll.cons (ResAt.blk (v:= .agg #[vT eB,v1,vc]) (o:=0) kr g.t.t.h kr) (ResAll.cons (ResAt.blk (v:=vI c.1) (o:=0) kr g.t.h kr) (ResAll.cons (ResAt.blk (v:=vI c.2) (o:=0) kr g.h kr) ResAll.nil))),?_⟩;have g:=(g.nilroom 9 1).nilroom 48 4;exact⟨none,0,none,0,E,rfl,q.t U,g.f2.t.f2.t.f2.t.f2.t.f1,(RepS.nil _ _),(RepS.nil _ _)⟩
  refine qAb rfl (qCm 25 2 23 (.agg (V5 K.2 y B z D)) g.f7 fun a g=>(qAb rfl (qCm 3 3 ((.const (vI 0))) (vI 0) g.f6 fun G g=>(qAb rfl (qCm 26 4 ((.const (vI 0))) (vI 0) g.f6 fun a8 g=>(qAv rfl ?_))))));have g:=g.f7.t;refine qAf (qBd (X_retD [.cell 2 25,.cell 3 3,.cell 4 26] rfl (zEz Tryz.func54 kr) (zCl .returning Tryz.func54 rfl Tryz.ntmps54 [(0,vP n 0),(1,vP f 0),(2,vP k 0)] kr rfl (d:=6) kr kr [(3,.nilIface),(6,.nilIface),(0,vP n 0),(1,vP f 0),(2,vP k 0)] (.nilIface) .returning rfl kr (W_sr (qAd 2 [(8,vB false)] (qUp false kr (fun h=>Bool.noConfusion h) ?_))))));intro _;refine qAq ?_;cases i;refine qOw [] [] rfl ResAll.nil (⟨_,rfl,?_⟩);refine⟨[.agg (V5 K.2 y B z D),vI 0,vI 0],(ResAll.cons (ResAt.blk (v:= .agg (V5 K.2 y B z D)) (o:=0) kr g.t.t.h kr) (ResAll.cons (ResAt.blk (v:=vI 0) (o:=0) kr g.t.h kr) (ResAll.cons (ResAt.blk (v:=vI 0) (o:=0) kr g.h kr) ResAll.nil))),?_⟩;exact⟨y,B,z,D,V,rfl,q.t S,g.t.t.t.f2.t.f2.t.f1.f1,Z,r6⟩
def qKe(N:Nat):Tc:=
 (qNr N (⟨#[112,97,99,107,97,103,101,32,112,59,32,102,117,110,99,32,102,40,120,41,32,61,32,120,32,43,32,50,32,42,32,51,59]⟩:ByteArray)).bind fun a=>(qJv N a.1).bind fun b=>(if(a.2.2==0)=true then(if(b.2==0)=true then(if(a.2.1==0)=true then(if((List.length a.1.2.2:Int)==1)=true then((idx a.1.2.2 0).bind fun c=>if((List.length c.2.2.2:Int)==5)=true then((idx a.1.2.2 0).bind fun c=>(idx c.2.2.2 4).bind fun c=>if(c.2.2.1==1)=true then(if(b.1.toList==(⟨#[112,97,99,107,97,103,101,32,112,59,10,102,117,110,99,32,102,40,120,41,32,61,32,120,32,43,32,50,32,42,32,51,59,10]⟩:ByteArray).toList)=true then((qJz N a.1).bind fun a=>some (a==0)) else(some false)) else(some false)) else(some false)) else(some false)) else(some false)) else(some false)) else(some false):Tc).bind fun a=>some a
theorem qTy{r:Bool}(g:St m (O) w)(i:qKe N=some r):Calls Tryz.prog 13 #[] w fun e w'=>∃m',e= .returned (vB r)∧m.le m'∧St m' (O) w':=by
 unfold qKe at i;have q:=m.le_refl;refine W_cA Tryz.func13 rfl Tryz.ntmps13 ?_;refine W_sr (qAd 1 [] (W_sr (qAp 7 i (fun _ h=>zAr g h) ?_)));rintro a i _ w1 ⟨l,n,f,k,m1,rfl,e1,g,c,b⟩;refine qAa 4 [(8,.agg (V5 a.1 l n f k)),(9,vI a.2.1),(10,vI a.2.2)] (qAb rfl (qEh 1 25 (.agg #[vT eB,v6,v6]) g fun Z w2 g=>(qAb rfl (qCm 25 1 8 (.agg (V5 a.1 l n f k)) g fun w3 g=>(qAd 2 [(2,vI a.2.1),(3,vI a.2.2)] (W_sr (qAb rfl (qBx 12 25 1 0 (.agg (V5 a.1 l n f k)) g.h (qAp 13 i (fun _ h=>qTn (p0:=a.1) g c b h) ?_)))))))));rintro s i _ w4 ⟨o,rfl,u,g⟩;have q:=(q.t e1).t u;have c:=c.mono u;have b:=b.mono u;refine qAd 5 [(4,vT s.1),(5,vI s.2)] (W_sr ?_);have⟨R,i,J⟩:=qBa i;refine qDk (j:=46) (fun L' w'=>∃p,L'=[(0,vB R)]∧m.le p∧St p (kB Z (V5 a.1 l n f k) 25::kR l a.1.2.1 n 9 1::kR f a.1.2.2 k 48 4::O) w'∧P2 p l n f k a.1.2) ?_ ?_
 ·have i:=J;rintro _ v ⟨p,rfl,q,g,c,b⟩;refine WO_e (qBd ?_);obtain rfl:=sI i;exact X_rt [0] [vB R] ⟨p,rfl,q,g.t.t.t⟩
 ·intro K;refine qAa 3 [(18,vB (a.2.2==0))] (qCc 18 i ?_ ?_)
  ·intro A i;refine qAa 4 [(22,vB (s.2==0))] (qCc 22 i ?_ ?_)
   ·intro A i;refine qAa 4 [(26,vB (a.2.1==0))] (qCc 26 i ?_ ?_)
    ·intro A i;refine qCj 1 28 23 27 2 (vS f a.1.2.2 k) g.h (qAa 4 [(32,vB ((a.1.2.2.length:Int)==1))] (qCc 32 i ?_ ?_))
     ·intro A i;refine qCj 1 34 23 33 2 (vS f a.1.2.2 k) g.h (qAb rfl (qDc 35 23 48 34 ((.const (vI 0))) b i ?_));rintro S i y D a0 ⟨_,_,rfl,rfl,⟨_,_,rfl,rfl,⟨_,_,rfl,⟨a3,c3,rfl,r3⟩,⟨V,c4,rfl,r4⟩⟩⟩⟩ G;refine qAa 1 [(36,.pointer (some ⟨y,D+3,none⟩))] (qAb rfl (qAr (d:=37) (t:=46) (x:=(.tmp 36)) (vS V S.2.2.2 c4) kr rfl (ev (.pointer (some ⟨y,D+3,none⟩))) g (G.drop 3) kr (qAa 4 [(41,vB ((S.2.2.2.length:Int)==5))] (qCc 41 i ?_ ?_))))
      ·intro A i;refine qCj 1 43 23 42 2 (vS f a.1.2.2 k) g.h (qAb rfl (qDc 44 23 48 43 ((.const (vI 0))) b i ?_));rintro x2 i z E a8 ⟨_,_,rfl,rfl,⟨_,_,rfl,rfl,⟨_,_,rfl,⟨a5,c5,rfl,r5⟩,⟨Y,c6,rfl,r6⟩⟩⟩⟩ H;refine qAa 1 [(45,.pointer (some ⟨z,E+3,none⟩))] (qAb rfl (qAr (d:=46) (t:=46) (x:=(.tmp 45)) (vS Y x2.2.2.2 c6) kr rfl (ev (.pointer (some ⟨z,E+3,none⟩))) g (H.drop 3) kr (qAb rfl (qDc 47 46 73 46 ((.const (vI 4))) r6 i ?_))));rintro U i B F a9 ⟨_,_,rfl,rfl,⟨_,_,rfl,rfl,⟨_,_,rfl,rfl,⟨_,_,rfl,rfl,⟨a7,c7,rfl,r7⟩⟩⟩⟩⟩ M;refine qAa 1 [(48,.pointer (some ⟨B,F+2,none⟩))] (qAb rfl (qAr (d:=49) (t:=3) (x:=(.tmp 48)) (vI U.2.2.1) kr rfl (ev (.pointer (some ⟨B,F+2,none⟩))) g (M.drop 2) kr (qAa 3 [(52,vB (U.2.2.1==1))] (qCc 52 i ?_ ?_))))
       ·intro A i;refine qAa 4 [(56,vB (s.1.toList==(⟨#[112,97,99,107,97,103,101,32,112,59,10,102,117,110,99,32,102,40,120,41,32,61,32,120,32,43,32,50,32,42,32,51,59,10]⟩:ByteArray).toList))] (qCc 56 i ?_ ?_)
        ·intro A i;refine qAb rfl (qBx 57 25 1 0 (.agg (V5 a.1 l n f k)) g.h (qAp 58 i (fun _ h=>qQx (p0:=a.1) g c b h) ?_));rintro y3 i _ w6 ⟨m4,rfl,v,g⟩;refine qAa 3 [(0,vB (y3==0))] ?_;cases i;exact qAu _ kr (K _ _ ⟨m4,rfl,q.t v,g.f2.f2.f2,c.mono v,b.mono v⟩)
        ·intro A i;refine qAa 5 [(0,vB false)] ?_;cases i;exact qAu _ kr (K _ _ ⟨o,rfl,q,g.f2.f2.f2,c,b⟩)
       ·intro A i;refine qAa 9 [(0,vB false)] ?_;cases i;exact qAu _ kr (K _ _ ⟨o,rfl,q,g.f2.f2.f2,c,b⟩)
      ·intro A i;refine qAa 20 [(0,vB false)] ?_;cases i;exact qAu _ kr (K _ _ ⟨o,rfl,q,g.f2.f2.f2,c,b⟩)
     ·intro A i;refine qAa 29 [(0,vB false)] ?_;cases i;exact qAu _ kr (K _ _ ⟨o,rfl,q,g.f2.f2.f2,c,b⟩)
    ·intro A i;refine qAa 35 [(0,vB false)] ?_;cases i;exact qAu _ kr (K _ _ ⟨o,rfl,q,g.f2.f2.f2,c,b⟩)
   ·intro A i;refine qAa 39 [(0,vB false)] ?_;cases i;exact qAu _ kr (K _ _ ⟨o,rfl,q,g.f2.f2.f2,c,b⟩)
  ·intro A i;refine qAa 43 [(0,vB false)] ?_;cases i;exact qAu _ kr (K _ _ ⟨o,rfl,q,g.f2.f2.f2,c,b⟩)
def qHx(N:Nat)(p0:Tn):Tc:=
 (if(decide ((List.length p0.2.2:Int)>20))=true then((subS p0.2.2 0 20).bind fun a=>some a) else(some p0.2.2):Option Tm).bind fun a=>(qJv N (p0.1,p0.2.1,a)).bind fun b=>(qJt N (p0.1,p0.2.1,a)).bind fun c=>((qJz N (p0.1,p0.2.1,a)).bind fun d=>(qIt N (p0.1,p0.2.1,a)).bind fun a=>if(d==a)=true then(if(b.1.toList==c.1.toList)=true then(if(b.2==c.2)=true then((qKe N).bind fun a=>some a) else(some false)) else(some false)) else(some false):Tc).bind fun a=>some a
theorem qRi{p0:Tn}{r:Bool}(g:St m (O) w)(c:RepS cStr m a1 c1 p0.2.1)(S:RepS C3 m a2 c2 p0.2.2)(i:qHx N p0=some r):Calls Tryz.prog 3 #[.agg (V5 p0 a1 c1 a2 c2)] w fun e w'=>∃m',e= .returned (vB r)∧m.le m'∧St m' (O) w':=by
 unfold qHx at i;have q:=m.le_refl;refine W_cA Tryz.func3 rfl Tryz.ntmps3 ?_;refine W_sr (qAb rfl (zJz 1 25 0 (.agg (V5 p0 a1 c1 a2 c2)) g fun v w1 g=>(qAd 1 [] (qAs (W_sr (qCj 1 8 23 7 2 (vS a2 p0.2.2 c2) g.h (qAd 2 [(10,vB (decide ((p0.2.2.length:Int)>20)))] ?_)))))));have⟨l,i,V⟩:=qBa i;refine qCg .normal (fun L' w'=>∃o p z,L'=[(1,vP v 0)]∧m.le z∧St z (kB v #[vT p0.1,vS a1 p0.2.1 c1,vS o l p] 25::O) w'∧RepS cStr z a1 c1 p0.2.1∧RepS C3 z o p l) ?_ ?_
 ·have i:=V;rintro _ w2 ⟨o,p,z,rfl,q,g,c,n⟩;refine qAf (W_sr (qAb rfl (qBx 16 25 1 0 (.agg #[vT p0.1,vS a1 p0.2.1 c1,vS o l p]) g.h (qAp 17 i (fun _ h=>qTn (p0:=(p0.1,p0.2.1,l)) g c n h) ?_))));rintro f i _ w4 ⟨m3,rfl,y,g⟩;refine qAd 5 [(3,vT f.1),(4,vI f.2)] (W_sr (qAb rfl (qBx 21 25 1 0 (.agg #[vT p0.1,vS a1 p0.2.1 c1,vS o l p]) g.h (qAp 22 i (fun _ h=>qSr (p0:=(p0.1,p0.2.1,l)) g (c.mono y) (n.mono y) h) ?_))));rintro k i _ w5 ⟨H,rfl,G,g⟩;have c:=(c.mono y).mono G;have n:=(n.mono y).mono G;refine qAd 5 [(5,vT k.1),(6,vI k.2)] (qAs ?_);have⟨R,i,J⟩:=qBa i;refine qCg .normal (fun L' w'=>∃u,L'=[(2,vB R)]∧m.le u∧St u (kB v #[vT p0.1,vS a1 p0.2.1 c1,vS o l p] 25::O) w'∧RepS cStr u a1 c1 p0.2.1∧RepS C3 u o p l) ?_ ?_
  ·have i:=J;rintro _ a ⟨u,rfl,q,g,c,n⟩;refine qAf (qBd ?_);obtain rfl:=sI i;exact X_rt [2] [vB R] ⟨u,rfl,q,g.t⟩
  ·intro K;refine qJa [(19,fun w'=>Inv H w'∧Piece.holds H w' (kB v #[vT p0.1,vS a1 p0.2.1 c1,vS o l p] 25)∧True)] kr g fun w7 _ g=> ?_;have a:=H.le_refl;refine⟨⟨.inr ⟨Inv.anti g.inv a,Piece.holds_anti g.h a,trivial⟩,trivial⟩,?_⟩;refine qJe 25 1 0 25 0 (.agg #[vT p0.1,vS a1 p0.2.1 c1,vS o l p]) (.head _) (fun _ h=>h.2.1) (qJe 25 1 2 27 0 (.agg #[vT p0.1,vS a1 p0.2.1 c1,vS o l p]) (.head _) (fun _ h=>h.2.1) (qDg 1 kr (qJn 26 i (fun _ h=>qQx (p0:=(p0.1,p0.2.1,l)) g c n h) ?_)));rintro B i _ w8 ⟨m6,rfl,s,g⟩;refine⟨_,rfl,?_⟩;have a:=Mem.le_trans a s;refine⟨⟨.inr ⟨Inv.anti g.inv a,Piece.holds_anti g.h a,trivial⟩,trivial⟩,?_⟩;refine qDg 3 kr (qJn 28 i (fun _ h=>qOy (p0:=(p0.1,p0.2.1,l)) g (c.mono s) (n.mono s) h) ?_);rintro D i _ w9 ⟨M,rfl,E,g⟩;refine⟨_,rfl,?_⟩;have q:=(((q.t y).t G).t s).t E;have c:=(c.mono s).mono E;have n:=(n.mono s).mono E;have a:=Mem.le_trans a E;refine⟨⟨.inr ⟨Inv.anti g.inv a,Piece.holds_anti g.h a,trivial⟩,trivial⟩,?_⟩;refine qBk 4 29 (vB (B==D)) (.head _) (qBk 5 30 (vB (B==D)) (.head _) ?_);rcases qEl (B==D) with A|A
   ·rw[if_pos A] at i;refine qUz (t:=30) (b:=true) (B==D) kr A ?_;refine qBk 6 31 (vT f.1) (.head _) (qBk 7 32 (vT k.1) (.head _) (qBk 8 33 (vB (f.1.toList==k.1.toList)) (.head _) (qBk 9 34 (vB (f.1.toList==k.1.toList)) (.head _) (qBk 10 35 (vB (f.1.toList==k.1.toList)) (.head _) ?_))));rcases qEl (f.1.toList==k.1.toList) with A|A
    ·rw[if_pos A] at i;refine qUz (t:=35) (b:=true) (f.1.toList==k.1.toList) kr A ?_;refine qBk 11 36 (vI f.2) (.head _) (qBk 12 37 (vI k.2) (.head _) (qBk 13 38 (vB (f.2==k.2)) (.head _) (qBk 14 39 (vB (f.2==k.2)) (.head _) (qBk 15 40 (vB (f.2==k.2)) (.head _) ?_))));rcases qEl (f.2==k.2) with A|A
     ·rw[if_pos A] at i;refine qUz (t:=40) (b:=true) (f.2==k.2) kr A ?_;refine qDg 16 kr (qJn 41 i (fun _ h=>qTy g h) ?_);rintro U i _ Z ⟨Y,rfl,F,g⟩;refine⟨_,rfl,?_⟩;have a:=Mem.le_trans a F;refine⟨⟨.inr ⟨Inv.anti g.inv a,Piece.holds_anti g.h a,trivial⟩,trivial⟩,?_⟩;refine qBk 17 42 (vB U) (.head _) (qBk 18 2 (vB U) (.head _) ?_);cases i;exact qEc kr (zIh _ kr (K _ _ ⟨Y,rfl,q.t F,g,c.mono F,n.mono F⟩))
     ·rw[if_neg (not_true A)] at i;refine qUz (t:=40) (b:=false) (f.2==k.2) kr A ?_;refine qTp 16 41 (.head _) (qBk 17 42 (vB false) (.head _) (qBk 18 2 (vB false) (.head _) ?_));cases i;exact qEc kr (zIh _ kr (K _ _ ⟨M,rfl,q,g,c,n⟩))
    ·rw[if_neg (not_true A)] at i;refine qUz (t:=35) (b:=false) (f.1.toList==k.1.toList) kr A ?_;refine qTp 11 36 (.head _) (qTp 12 37 (.head _) (qTp 13 38 (.head _) (qBk 14 39 (vB false) (.head _) (qBk 15 40 (vB false) (.head _) (qTp 16 41 (.head _) (qBk 17 42 (vB false) (.head _) (qBk 18 2 (vB false) (.head _) ?_)))))));cases i;exact qEc kr (zIh _ kr (K _ _ ⟨M,rfl,q,g,c,n⟩))
   ·rw[if_neg (not_true A)] at i;refine qUz (t:=30) (b:=false) (B==D) kr A ?_;refine qTp 6 31 (.head _) (qTp 7 32 (.head _) (qTp 8 33 (.head _) (qBk 9 34 (vB false) (.head _) (qBk 10 35 (vB false) (.head _) (qTp 11 36 (.head _) (qTp 12 37 (.head _) (qTp 13 38 (.head _) (qBk 14 39 (vB false) (.head _) (qBk 15 40 (vB false) (.head _) (qTp 16 41 (.head _) (qBk 17 42 (vB false) (.head _) (qBk 18 2 (vB false) (.head _) ?_))))))))))));cases i;exact qEc kr (zIh _ kr (K _ _ ⟨M,rfl,q,g,c,n⟩))
 ·intro a;refine W_if i ?_ ?_
  ·intro A i;refine qAl (qCj 1 12 23 11 2 (vS a2 p0.2.2 c2) g.h ?_);have⟨n,s,i⟩:=qBa i;refine qAb rfl (qVd (d:=13) (t:=23) (e:=48) (x:=(.tmp 12)) (lo:=none) (hi:=(some (.const (vI 20)))) C3 kr rfl (ev (vS a2 p0.2.2 c2)) kr S (.inl ⟨rfl,rfl⟩) (.inr ⟨_,_,rfl,(ev (vI 20))⟩) s ?_);intro f k u;refine qAa 1 [(14,vP v 2)] (qAb rfl (qDv 23 14 13 2 (vS f n k) #[vT p0.1,vS a1 p0.2.1 c1,vS f n k] g fun y g=>(qAv rfl ?_)));cases i;exact xE (a _ _ ⟨f,k,m,rfl,q,g,c,u⟩)
  ·intro A i;refine qAq ?_;cases i;exact xE (a _ _ ⟨a2,c2,m,rfl,q,g,c,S⟩)
end
end Go.Proofs.YteajdekbpcmdaaaGreatDoor
section
namespace Go.Dc
theorem zDz{σ β:Type}{f:σ→Option (σ⊕β)}(st:Nat→σ)(k:Nat)(res:β)(step:∀i,i<k→f (st i)=some (.inl (st (i+1))))(stop:f (st k)=some (.inr res)){N:Nat}(hN:k<N):qAt f N (st 0)=some res:=by
 have key:∀d i M,i+d=k→d<M→qAt f M (st i)=some res:=by
  intro d
  induction d with
  |zero=>intro i M h hM;obtain⟨M',rfl⟩:∃M',M=M'+1:=⟨M-1,by omega⟩;simp only[f0] at h;subst h;simp[qAt,stop]
  |succ d ih=>
   intro i M h hM
   obtain⟨M',rfl⟩:∃M',M=M'+1:=⟨M-1,by omega⟩
   have:=ih (i+1) M' (by omega) (by omega)
   simp[qAt,step i (by omega),this]
 exact key k 0 N (by omega) hN
section
variable {ν:Type}
theorem zJg{l:List (Int×ν)}{k c:Int}{v:ν}(h:c≠k):mget (l.map fun p=>if k=p.1 then(k,v) else p) c=mget l c:=by
 induction l with
 |nil=>rfl
 |cons p l ih=>
  simp only[kC,mget]
  by_cases hk:k=p.1
  ·subst hk;rw[if_pos rfl,if_neg h,if_neg h,ih]
  ·rw[if_neg hk,ih]
theorem zIf{l:List (Int×ν)}{k:Int}{v:ν}(h:(mget l k).isSome=true):mget (l.map fun p=>if k=p.1 then(k,v) else p) k=some v:=by
 induction l with
 |nil=>cases h
 |cons p l ih=>
  simp only[kC,mget] at h ⊢
  by_cases hk:k=p.1
  ·subst hk;simp
  ·rw[if_neg hk] at h ⊢
   rw[if_neg hk]
   exact ih h
theorem zPp{l:List (Int×ν)}{k:Int}{v:ν}(h:mget l k=none)(c:Int):mget (mins l k v) c=if c=k then some v else mget l c:=by
 induction l with
 |nil=>rfl
 |cons p l ih=>
  simp only[mget] at h
  split at h
  ·cases h
  ·rename_i hk
   simp only[mins]
   split
   ·simp only[mget]
   ·simp only[mget,ih h]
    by_cases hc:c=k
    ·subst hc;simp[hk]
    ·simp[hc]
theorem zOb(l:List (Int×ν))(k:Int)(v:ν)(c:Int):mget (mset l k v) c=if c=k then some v else mget l c:=by
 unfold mset
 split
 ·rename_i h
  split
  ·rename_i hc;subst hc;exact zIf h
  ·rename_i hc;exact zJg hc
 ·rename_i h
  exact zPp (by simpa using h) c
def Srt(l:List (Int×ν)):Prop:=(l.map (·.1)).Pairwise (· < ·)
theorem Srt.nil:Srt ([]:List (Int×ν)):=List.Pairwise.nil
theorem Srt.mins{l:List (Int×ν)}{k:Int}{v:ν}(hs:Srt l)(h:mget l k=none):Srt (mins l k v):=by
 induction l with
 |nil=>simp[Srt,Go.Dc.mins]
 |cons p l ih=>
  have hs':=hs
  simp only[Srt,kC,fT] at hs
  simp only[mget] at h
  split at h
  ·cases h
  ·rename_i hk
   simp only[Go.Dc.mins]
   split
   ·rename_i hlt
    have hlt:k<p.1:=by simpa[KOrd.lt] using hlt
    refine fT.2 ⟨fun a ha=> ?_,hs'⟩
    simp only[kC,jR] at ha
    rcases ha with rfl|ha
    ·exact hlt
    ·exact Int.lt_trans hlt (hs.1 a ha)
   ·rename_i hlt
    have hlt:¬k<p.1:=by simpa[KOrd.lt] using hlt
    refine fT.2 ⟨fun a ha=> ?_,ih hs.2 h⟩
    obtain⟨q,hq,rfl⟩:=fQ.1 ha
    rcases jR.1 ((zHc l k v).mem_iff.1 hq) with rfl|hq
    ·show p.1<k;omega
    ·exact hs.1 _ (gV hq)
theorem Srt.mset{l:List (Int×ν)}(hs:Srt l)(k:Int)(v:ν):Srt (mset l k v):=by
 unfold Go.Dc.mset
 split
 ·unfold Srt
  have:(l.map fun p=>if k=p.1 then(k,v) else p).map (·.1)=l.map (·.1):=by
   rw[List.map_map]
   refine List.map_congr_left fun p _=> ?_
   simp only[Function.comp_apply]
   split
   ·rename_i h;exact h
   ·rfl
  rw[this];exact hs
 ·rename_i h
  exact hs.mins (by simpa using h)
theorem Srt.out{l:List (Int×ν)}{c:Int}(h:∀a∈l.map (·.1),c<a):mget l c=none:=by
 rw[zBd];intro hm;exact Int.lt_irrefl _ (h c hm)
theorem Srt.ext:∀{l k:List (Int×ν)},Srt l→Srt k→(∀c,mget l c=mget k c)→l=k
 |[],[],_,_,_=>rfl
 |[],q::k,_,_,h=>by have:=h q.1;simp[mget] at this
 |p::l,[],_,_,h=>by have:=h p.1;simp[mget] at this
 |p::l,q::k,hl,hk,h=>by
  have hl':(∀a∈l.map (·.1),p.1<a)∧Srt l:=fT.1 hl
  have hk':(∀a∈k.map (·.1),q.1<a)∧Srt k:=fT.1 hk
  have h1:p.1=q.1:=by
   rcases Int.lt_trichotomy p.1 q.1 with hlt|he|hlt
   ·have:=h p.1
    rw[Srt.out (l:=q::k) (c:=p.1)] at this
    ·simp[mget] at this
    ·intro a ha
     rcases jR.1 ha with rfl|ha
     ·exact hlt
     ·exact Int.lt_trans hlt (hk'.1 a ha)
   ·exact he
   ·have:=h q.1
    rw[Srt.out (l:=p::l) (c:=q.1)] at this
    ·simp[mget] at this
    ·intro a ha
     rcases jR.1 ha with rfl|ha
     ·exact hlt
     ·exact Int.lt_trans hlt (hl'.1 a ha)
  have h2:p.2=q.2:=by have:=h p.1;simpa[mget,h1] using this
  have h3:l=k:=by
   refine Srt.ext hl'.2 hk'.2 fun c=> ?_
   by_cases hc:c=p.1
   ·rw[Srt.out (l:=l) (fun a ha=>hc▸hl'.1 a ha),Srt.out (l:=k) (fun a ha=>by rw[hc,h1];exact hk'.1 a ha)]
   ·have:=h c
    simpa[mget,hc,h1▸hc] using this
  rw[h3,Prod.ext h1 h2]
def qRn(v:ν)(m:List (Int×ν))(xs:List UInt8):List (Int×ν):=xs.foldl (fun m x=>mset m (x.toNat:Int) v) m
theorem zCq{v:ν}:∀{xs:List UInt8} {m:List (Int×ν)},Srt m→Srt (qRn v m xs)
 |[],_,h=>h
 |_::xs,_,h=>zCq (xs:=xs) (h.mset _ _)
theorem zCv{v:ν}(c:Int):∀(xs:List UInt8) (m:List (Int×ν)),mget (qRn v m xs) c=if xs.any (fun x=>decide ((x.toNat:Int)=c))=true then some v else mget m c
 |[],m=>by simp[qRn]
 |x::xs,m=>by
  have:=zCv (v:=v) c xs (mset m (x.toNat:Int) v)
  rw[show qRn v m (x::xs)=qRn v (mset m (x.toNat:Int) v) xs from rfl,this,zOb]
  by_cases h1:xs.any (fun x=>decide ((x.toNat:Int)=c))=true
  ·simp[h1]
  ·by_cases h2:(x.toNat:Int)=c
   ·subst h2;simp[h1]
   ·have h3:¬c=(x.toNat:Int):=fun e=>h2 e.symm
    simp[h1,h2,h3]
end
end Go.Dc
namespace Go.Proofs.YteajdekbpcmdaaaGreatDoor
open Go Go.Dc
def allK:List (Int×ByteArray):=[(1,⟨#[97,98,99,100,101,102,103,104,105,106,107,108,109,110,111,112,113,114,115,116,117,118,119,120,121,122]⟩),(2,⟨#[48,49,50,51,52,53,54,55,56,57]⟩),(3,⟨#[95]⟩),(4,⟨#[46]⟩),(5,⟨#[9,10,13,32]⟩),(6,⟨#[35]⟩),(7,⟨#[34]⟩),(8,⟨#[59,44,40,41,43,45,42,47,37,60,61]⟩)]
def kdL:List (Int×Int):=[(9,5),(10,5),(13,5),(32,5),(34,7),(35,6),(37,8),(40,8),(41,8),(42,8),(43,8),(44,8),(45,8),(46,4),(47,8),(48,2),(49,2),(50,2),(51,2),(52,2),(53,2),(54,2),(55,2),(56,2),(57,2),(59,8),(60,8),(61,8),(95,3),(97,1),(98,1),(99,1),(100,1),(101,1),(102,1),(103,1),(104,1),(105,1),(106,1),(107,1),(108,1),(109,1),(110,1),(111,1),(112,1),(113,1),(114,1),(115,1),(116,1),(117,1),(118,1),(119,1),(120,1),(121,1),(122,1)]
def kdI(c:Int):Int:=(mget kdL c).getD 0
def inE(e:Int×ByteArray)(c:Int):Bool:=e.2.data.toList.any fun x=>decide ((x.toNat:Int)=c)
def layK(m:List (Int×Int))(k:List (Int×ByteArray)):List (Int×Int):=k.foldl (fun m e=>qRn e.1 m e.2.data.toList) m
theorem zKp:∀{k:List (Int×ByteArray)} {m:List (Int×Int)},Srt m→Srt (layK m k)
 |[],_,h=>h
 |_::k,_,h=>zKp (k:=k) (zCq h)
theorem zJx(c:Int):∀(k:List (Int×ByteArray)) (m:List (Int×Int)),(∀e∈k,inE e c=true→e.1=kdI c)→(∀v,mget m c=some v→v=kdI c)→
  mget (layK m k) c=if(k.any fun e=>inE e c)=true then some (kdI c) else mget m c
 |[],m,_,_=>by simp[layK]
 |e::k,m,h,hm=>by
  have hg:=zCv (v:=e.1) c e.2.data.toList m
  have:=zJx c k (qRn e.1 m e.2.data.toList) (fun e' he=>h e' (jL _ he)) (fun v hv=>by
   rw[hg] at hv
   split at hv
   ·rename_i hi
    rw[←jI hv]
    exact h e (jJ ..) hi
   ·exact hm v hv)
  rw[show layK m (e::k)=layK (qRn e.1 m e.2.data.toList) k from rfl,this,hg]
  by_cases h1:(k.any fun e=>inE e c)=true
  ·simp[h1]
  ·by_cases h2:inE e c=true
   ·have:=h e (jJ ..) h2
    have h2':(e.2.data.toList.any fun x=>decide ((x.toNat:Int)=c))=true:=h2
    simp only[fH,h2,Bool.true_or,jK,h1,h2',this]
    simp
   ·have h2':(e.2.data.toList.any fun x=>decide ((x.toNat:Int)=c))=false:=by simpa[inE] using h2
    simp only[fH,h1,h2',Bool.or_false,jB,jH]
    simp[h2]
theorem zKd:(allK.all fun e=>e.2.data.toList.all fun x=>decide (e.1=kdI (x.toNat:Int)))=true∧(kdL.all fun p=>allK.any fun e=>inE e p.1)=true:=⟨by kernel_rfl,by kernel_rfl⟩
theorem kd_in{e:Int×ByteArray}{c:Int}(he:e∈allK)(h:inE e c=true):e.1=kdI c:=by
 have:=kD.1 zKd.1 e he
 obtain⟨x,hx,hc⟩:=gQ.1 h
 have h2:=kD.1 this x hx
 have hc:(x.toNat:Int)=c:=by simpa using hc
 subst hc
 simpa using h2
theorem zUb(c:Int):mget kdL c=if(allK.any fun e=>inE e c)=true then some (kdI c) else none:=by
 cases h:mget kdL c with
 |none=>
  rw[if_neg]
  intro ha
  obtain⟨e,he,hi⟩:=gQ.1 ha
  have h1:=kd_in he hi
  have h0:kdI c=0:=by simp[kdI,h]
  have:(allK.all fun e=>decide (e.1≠0))=true:=by kernel_rfl
  have:=kD.1 this e he
  simp[h1,h0] at this
 |some v=>
  have hm:(c,v)∈kdL:=(zEl (l:=kdL) (by
   have:decide ((kdL.map (·.1)).Nodup)=true:=by kernel_rfl
   simpa using this)).1 h
  have:=kD.1 zKd.2 _ hm
  rw[if_pos this]
  simp[kdI,h]
theorem zTt:Srt kdL:=by
 have:decide ((kdL.map (·.1)).Pairwise (· < ·))=true:=by kernel_rfl
 simpa[Srt] using this
theorem zOd{k:List (Int×ByteArray)}(h:k.Perm allK):layK [] k=kdL:=by
 refine Srt.ext (zKp Srt.nil) zTt fun c=> ?_
 rw[zJx c k [] (fun e he hi=>kd_in (h.mem_iff.1 he) hi) (fun v hv=>by cases hv),zUb]
 have:(k.any fun e=>inE e c)=(allK.any fun e=>inE e c):=by
  rw[kE,gQ,gQ]
  exact⟨fun⟨e,he,hi⟩=>⟨e,h.mem_iff.1 he,hi⟩,fun⟨e,he,hi⟩=>⟨e,h.mem_iff.2 he,hi⟩⟩
 rw[this]
 rfl
theorem zRc{N:Nat}{e:Int×ByteArray}(m:List (Int×Int))(he:e.2.size≤26)(hN:30<N):qHw N (some e) (some m)=some (.inl (some (qRn e.1 m e.2.data.toList))):=by
 have hsz:e.2.data.toList.length=e.2.size:=by simp
 have hb:qUo e.2=some e.2.data.toList:=by unfold qUo;rw[if_pos (by simp only[maxLen];omega)]
 simp only[qHw,hb,j0]
 have key:=zDz (f:=qMd N e e.2.data.toList) (fun i=>((i:Int),some (qRn e.1 m (e.2.data.toList.take i)))) e.2.data.toList.length (some (qRn e.1 m e.2.data.toList)) (fun i hi=> ?_) ?_ (N:=N) (by omega)
 ·simp only[Int.natCast_zero,List.take_zero] at key
  rw[show qRn e.1 m []=m from rfl] at key
  rw[key];rfl
 ·simp only[qMd]
  rw[if_pos (by simpa using hi),qDn hi]
  simp only[j0,qMs,kV]
  rw[wi64 (by omega) (by omega),gB hi]
  simp[qRn]
 ·simp only[qMd]
  rw[if_neg (by simp),gP]
theorem zCi{N:Nat}(hN:30<N):∀(k:List (Int×ByteArray)) (m:List (Int×Int)),(∀e∈k,e.2.size≤26)→qQv (qHw N) k (some m)=some (some (layK m k))
 |[],m,_=>by simp[qQv,qHw,layK]
 |e::k,m,h=>by
  have:=zCi hN k (qRn e.1 m e.2.data.toList) (fun e' he=>h e' (jL _ he))
  simp only[qQv,zRc m (h e (jJ ..)) hN,j0,this]
  rfl
theorem zEu{N:Nat}(hN:30<N):qNm N=some (some kdL):=by
 have h8:∀e∈allK,e.2.size≤26:=by
  have:(allK.all fun e=>decide (e.2.size≤26))=true:=by kernel_rfl
  intro e he
  simpa using kD.1 this e he
 have key:qXj (qHw N) allK (some [])=some (some kdL):=zGy fun k hk=>by
  rw[zCi hN k [] (fun e he=>h8 e (hk.mem_iff.1 he)),zOd hk]
 have h1:qNm N=(qXj (qHw N) allK (some [])).bind fun o1=>some o1:=by kernel_rfl
 rw[h1,key];rfl
end Go.Proofs.YteajdekbpcmdaaaGreatDoor
end
namespace Go.Proofs.YteajdekbpcmdaaaGreatDoor
section
open Go Go.Dc
theorem qCn(s:ByteArray):s.data.toList.length=s.size:=by simp
theorem qGa{s:ByteArray}{i:Nat}(h:i<s.data.toList.length):idxB s (i:Int)=some (s.data.toList[i]):=by
 have h':i<s.size:=by simpa using h
 rw[zSp h']
 simp[ByteArray.getElem_eq_getElem_data]
def tw(p:UInt8→Bool)(l:List UInt8)(a:Nat):Nat:=a+((l.drop a).takeWhile p).length
section
variable {p:UInt8→Bool} {l:List UInt8} {a:Nat}
theorem qSz(h:a≤l.length):a≤tw p l a∧tw p l a≤l.length:=by
 have:=(hZ p (l:=l.drop a)).length_le
 simp only[gF] at this
 unfold tw;omega
theorem qUl(h:a<l.length)(hb:p l[a]=true):tw p l (a+1)=tw p l a:=by
 unfold tw
 rw[jU h,gH hb]
 simp only[jD];omega
theorem qVi(h:a<l.length)(hb:p l[a]=false):tw p l a=a:=by
 unfold tw
 rw[jU h,gS (by simp[hb])]
 simp
theorem zBy(h:l.length≤a):tw p l a=a:=by
 unfold tw
 rw[jT h];rfl
theorem zQj:∀(d a:Nat),a+d=l.length→∀h:tw p l a<l.length,p (l[tw p l a]'h)=false
 |0,a,hd,h=>by rw[zBy (by omega)] at h;omega
 |d+1,a,hd,h=>by
  have ha:a<l.length:=by omega
  cases hb:p l[a] with
  |true=>
   have e:=qUl ha hb
   have:=zQj d (a+1) (by omega) (by rw[e];exact h)
   simpa only[e] using this
  |false=>
   have e:=qVi ha hb
   simpa only[e] using hb
theorem qXx{β:Type}{f:Int→Option (Int⊕β)}(out:Nat→β)(go:∀i:Nat,∀h:i<l.length,p l[i]=true→f (i:Int)=some (.inl ((i:Int)+1)))
  (no:∀i:Nat,∀h:i<l.length,p l[i]=false→f (i:Int)=some (.inr (out i))) (en:f (l.length:Int)=some (.inr (out l.length))):
  ∀(d a N:Nat),a+d=l.length→d<N→qAt f N (a:Int)=some (out (tw p l a))
 |d,a,0,_,h=>by omega
 |0,a,N+1,hd,h=>by
  have:a=l.length:=by omega
  subst this
  rw[zBy (jV _)];simp[qAt,en]
 |d+1,a,N+1,hd,h=>by
  have ha:a<l.length:=by omega
  cases hb:p l[a] with
  |true=>
   have:=qXx out go no en d (a+1) N (by omega) (by omega)
   rw[qUl ha hb] at this
   simpa[qAt,go a ha hb] using this
  |false=>
   rw[qVi ha hb];simp[qAt,no a ha hb]
end
def kd(c:UInt8):Int:=kdI (c.toNat:Int)
def inK(ks:List Int)(c:UInt8):Bool:=ks.any fun k=>kd c==k
theorem zCt{N:Nat}{s:ByteArray}{ks:List Int}{i:Nat}(h:i<s.data.toList.length)(hk:ks.length≤10)(hN:10<N):qAt (qLy N s (some kdL) ks (i:Int)) N (false,0)=some (inK ks (s.data.toList[i])):=by
 have key:=zDz (f:=qLy N s (some kdL) ks (i:Int)) (fun j=>((ks.take j).any (fun k=>kd (s.data.toList[i])==k),(j:Int))) ks.length (inK ks (s.data.toList[i])) (fun j hj=> ?_) ?_ (N:=N) (by omega)
 ·simpa using key
 ·simp only[qLy]
  rw[if_pos (by simpa using hj),qDn hj,qGa h]
  simp only[j0]
  rw[wi64 (by omega) (by omega),gB hj,List.any_append]
  cases(ks.take j).any (fun k=>kd (s.data.toList[i])==k)
  ·simp[kd,kdI,qGe]
  ·simp
 ·simp only[qLy]
  rw[if_neg (by simp),gP]
  rfl
theorem zAa{N:Nat}{s:ByteArray}{ks:List Int}{i:Nat}(hi:i≤s.data.toList.length)(hl:s.data.toList.length<1000000)(hk:ks.length≤10)(hN:s.data.toList.length+10<N):
  qMg N s (i:Int) (some kdL) ks=some ((tw (inK ks) s.data.toList i:Nat):Int):=by
 have hs:=qCn s
 have key:=qXx (f:=qLu N s (some kdL) ks) (l:=s.data.toList) (p:=inK ks) (fun n=>(n:Int)) (fun j hj hb=>by
   simp only[qLu]
   rw[if_pos (by simp only[jA];omega),zCt hj hk (by omega),hb]
   simp only[j0]
   rw[wi64 (by omega) (by omega)]
   rfl) (fun j hj hb=>by
   simp only[qLu]
   rw[if_pos (by simp only[jA];omega),zCt hj hk (by omega),hb]
   rfl) (by
   simp only[qLu]
   rw[if_neg (by simp only[jA];omega)]) (s.data.toList.length-i) i N (by omega) (by omega)
 unfold qMg
 rw[key]
 rfl
end
section
open Go Go.Dc
theorem zPs(c:UInt8):(qGe (some kdL) (c.toNat:Int)).getD 0=kd c:=rfl
theorem qIr{l:List UInt8}{i:Nat}(h:i<l.length):l.getD i 0=l[i]:=by simp[k9,h]
theorem zLi{β:Type}{p:UInt8→Bool}{l:List UInt8}{a0:Nat}{f:Int→Option (Int⊕β)}(out:Nat→β)(go:∀i:Nat,∀h:i<l.length,p l[i]=true→f (i:Int)=some (.inl ((i:Int)+1)))
  (no:∀i:Nat,∀h:i<l.length,a0≤i→p l[i]=false→f (i:Int)=some (.inr (out i))) (en:f (l.length:Int)=some (.inr (out l.length))):
  ∀(d a N:Nat),a0≤a→a+d=l.length→d<N→qAt f N (a:Int)=some (out (tw p l a))
 |d,a,0,_,_,h=>by omega
 |0,a,N+1,_,hd,h=>by
  have:a=l.length:=by omega
  subst this
  rw[zBy (jV _)];simp[qAt,en]
 |d+1,a,N+1,h0,hd,h=>by
  have ha:a<l.length:=by omega
  cases hb:p l[a] with
  |true=>
   have:=zLi out go no en d (a+1) N (by omega) (by omega) (by omega)
   rw[qUl ha hb] at this
   simpa[qAt,go a ha hb] using this
  |false=>
   rw[qVi ha hb];simp[qAt,no a ha h0 hb]
def numS(n:Int)(c:UInt8):Int:=if 9007199254740993<10*n+((c.toNat:Int)-48) then 9007199254740993 else 10*n+((c.toNat:Int)-48)
def numL(ds:List UInt8):Int:=ds.foldl numS 0
def qPs(c:UInt8):Bool:=decide (32≤c.toNat)&&decide (c.toNat≤126)&&c !=34
def zGg:Int×ByteArray×Int×Int:=(0,⟨#[]⟩,0,0)
def qWo(l:List UInt8)(i:Nat):Nat:=if l.getD i 0=61∧l.getD (i+1) 0=61 then i+2 else i+1
def tokP(s:ByteArray)(i:Nat):(Int×ByteArray×Int×Int)×Int×Int:=
 if kd (s.data.toList.getD i 0)=1 then
  if tw (inK [1,2,3]) s.data.toList i-i>24 then(zGg,0,2) else((1,s.extract i (tw (inK [1,2,3]) s.data.toList i),0,0),((tw (inK [1,2,3]) s.data.toList i:Nat):Int),0)
 else if kd (s.data.toList.getD i 0)=2 then
  if numL ((s.data.toList.drop i).takeWhile (inK [2]))>9007199254740992 then(zGg,0,3) else((2,⟨#[]⟩,numL ((s.data.toList.drop i).takeWhile (inK [2])),0),((tw (inK [2]) s.data.toList i:Nat):Int),0)
 else if kd (s.data.toList.getD i 0)=7 then
  if s.data.toList.getD (tw qPs s.data.toList (i+1)) 0=34 then((3,s.extract (i+1) (tw qPs s.data.toList (i+1)),0,0),((tw qPs s.data.toList (i+1)+1:Nat):Int),0) else(zGg,0,9)
 else if kd (s.data.toList.getD i 0)=8 then
  ((4,s.extract i (qWo s.data.toList i),0,0),((qWo s.data.toList i:Nat):Int),0)
 else(zGg,0,9)
theorem zDw:∀c:UInt8,kd c=2→48≤c.toNat∧c.toNat≤57:=by
 have h:((List.range 256).all fun n=> !(decide (kd (UInt8.ofNat n)=2))||(decide (48≤n)&&decide (n≤57)))=true:=by kernel_rfl
 intro c hc
 have:=kD.1 h c.toNat (fI.2 c.toNat_lt)
 simpa[hc] using this
theorem zDx{s:ByteArray}{p:UInt8→Bool}{i:Nat}:(s.extract i (tw p s.data.toList i)).data.toList=(s.data.toList.drop i).takeWhile p:=by
 simp only[ByteArray.data_extract,gZ]
 have h:=List.prefix_iff_eq_take.1 (fW p (l:=s.data.toList.drop i))
 rw[gJ,show tw p s.data.toList i-i=((s.data.toList.drop i).takeWhile p).length by unfold tw;omega]
 exact h.symm
theorem qWz(l:List UInt8)(c:UInt8):numL (l++[c])=numS (numL l) c:=by simp[numL]
theorem zKv{p:UInt8→Bool}:∀{l:List UInt8} {c:UInt8},c∈l.takeWhile p→p c=true
 |[],_,h=>by simp at h
 |x::l,c,h=>by
  cases hx:p x with
  |true=>
   rw[gH hx] at h
   rcases jR.1 h with rfl|h
   ·exact hx
   ·exact zKv h
  |false=>rw[gS (by simp[hx])] at h;cases h
theorem zQv{N:Nat}{ds:List UInt8}(hd:∀c∈ds,kd c=2)(hl:ds.length<1000000)(hN:ds.length<N):qAt (qLd N ds) N (0,0)=some (numL ds):=by
 have hb:∀j,j≤ds.length→0≤numL (ds.take j)∧numL (ds.take j)≤9007199254740993:=by
  intro j
  induction j with
  |zero=>intro _;simp[numL]
  |succ j ih=>
   intro hj
   have:=ih (by omega)
   rw[gB (by omega)]
   have hc:=zDw _ (hd _ (jW (show j<ds.length by omega)))
   rw[qWz]
   unfold numS
   split<;>omega
 have key:=zDz (f:=qLd N ds) (fun j=>(numL (ds.take j),(j:Int))) ds.length (numL ds) (fun j hj=> ?_) ?_ (N:=N) (by omega)
 ·exact key
 ·have hc:=zDw _ (hd _ (jW hj))
  have h0:=hb j (by omega)
  simp only[qLd]
  rw[if_pos (by simpa using hj),qDn hj]
  simp only[j0]
  rw[wu8 (by omega) (by omega),wi64 (x:=10*numL (ds.take j)) (by omega) (by omega),wi64 (x:=((ds[j]).toNat:Int)-48) (by omega) (by omega),wi64 (x:=(j:Int)+1) (by omega) (by omega),wi64 (by omega) (by omega),gB hj,qWz]
  rfl
 ·simp only[qLd]
  rw[if_neg (by simp),gP]
theorem qNy{s:ByteArray}{i e:Nat}(h1:i≤e)(h2:e≤s.data.toList.length):subB s (i:Int) (e:Int)=some (s.extract i e):=by
 have:=qCn s
 rw[zGe (by omega) (by omega) (by omega)]
 simp
theorem zVa{N:Nat}{s:ByteArray}{i j:Nat}(hj:j<s.data.toList.length)(hl:s.data.toList.length<1000000)(hb:qPs (s.data.toList[j])=true):qIw N s (i:Int) (j:Int)=some (.inl ((j:Int)+1)):=by
 have hs:=qCn s
 simp only[qPs,jO,jA,fL,ne_eq] at hb
 obtain⟨⟨h1,h2⟩,h3⟩:=hb
 have h3':¬((s.data.toList[j]).toNat:Int)=34:=fun e=>h3 (UInt8.toNat_inj.1 (by show _=34;omega))
 simp only[qIw,qGa hj,j0]
 rw[if_pos (by simp only[jA];omega),if_pos (by simp only[jA];omega)]
 simp only[j0]
 rw[if_pos (by simp only[jA];omega),if_neg (by simpa using h3'),wi64 (by omega) (by omega)]
theorem zUn{N:Nat}{s:ByteArray}{i j:Nat}(hi:i<s.data.toList.length)(hj:j<s.data.toList.length)(hl:s.data.toList.length<1000000)(hij:i+1≤j)(hb:qPs (s.data.toList[j])=false):
  qIw N s (i:Int) (j:Int)=some (.inr (if s.data.toList.getD j 0=34 then(.inr ((3,s.extract (i+1) j,0,0),((j+1:Nat):Int),0)) else(.inl ()))):=by
 have hs:=qCn s
 simp only[qIw,qGa hj,j0,qIr hj]
 rw[if_pos (by simp only[jA];omega)]
 by_cases h34:s.data.toList[j]=34
 ·rw[h34]
  simp only[show((34:UInt8).toNat:Int)=34 from rfl]
  rw[wi64 (x:=(i:Int)+1) (by omega) (by omega),wi64 (by omega) (by omega),←gM,qNy hij (by omega)]
  rfl
 ·have h3':¬((s.data.toList[j]).toNat:Int)=34:=fun e=>h34 (UInt8.toNat_inj.1 (by show _=34;omega))
  rw[if_neg h34]
  simp only[qPs,Bool.and_eq_false_iff,decide_eq_false_iff_not,bne_eq_false_iff_eq,h34,dH] at hb
  by_cases h1:32≤(s.data.toList[j]).toNat
  ·rw[if_pos (by simp only[jA];omega)]
   simp only[j0]
   rw[if_neg (by simp only[jA];omega)]
  ·rw[if_neg (by simp only[jA];omega)]
   simp
theorem zAz{s:ByteArray}{i:Nat}(h1:i≤s.data.toList.length):subB s (i:Int) (s.size:Int)=some (s.extract i s.data.toList.length):=by
 have hs:=qCn s
 rw[←qNy h1 (jV _),hs]
theorem qEd(x y:ByteArray):(x.toList==y.toList)=decide (x=y):=by
 rw[kE]
 simp only[kG,jA]
 constructor
 ·intro h
  rw[ByteArray.toList_eq,ByteArray.toList_eq] at h
  exact Go.WideShapes.bytes_inj h
 ·rintro rfl;rfl
theorem zOq{N:Nat}{s:ByteArray}{i:Nat}(hi:i<s.data.toList.length):qLo N (s.extract i s.data.toList.length) (⟨#[61,61]⟩:ByteArray)=some (decide (s.data.toList.getD i 0=61∧s.data.toList.getD (i+1) 0=61)):=by
 have hs:=qCn s
 have hsz:(s.extract i s.data.toList.length).size=s.data.toList.length-i:=by rw[ByteArray.size_extract];omega
 simp only[qLo,qGs,hsz,show(⟨#[61,61]⟩:ByteArray).size=2 from rfl]
 by_cases h:i+1<s.data.toList.length
 ·have hd:((s.extract i s.data.toList.length).extract 0 2).data.toList=[s.data.toList[i],s.data.toList[i+1]]:=by
   simp only[ByteArray.data_extract,gZ,gJ,k0]
   rw[List.take_take,jU hi,jU h]
   have:min (2-0) (s.data.toList.length-i)=2:=by omega
   rw[this];rfl
  have hsub:subB (s.extract i s.data.toList.length) 0 ((2:Nat):Int)=some ((s.extract i s.data.toList.length).extract 0 2):=by
   have:=qNy (s:=s.extract i s.data.toList.length) (i:=0) (e:=2) (by omega) (by rw[qCn,hsz];omega)
   simpa only[Int.natCast_zero] using this
  rw[if_pos (by simp only[jA];omega),hsub]
  simp only[j0,qEd]
  rw[qIr hi,qIr h]
  generalize (s.extract i s.data.toList.length).extract 0 2=X at hd
  refine congrArg some (decide_eq_decide.2 ?_)
  constructor
  ·intro e
   rw[e] at hd
   have hd':[(61:UInt8),61]=[s.data.toList[i],s.data.toList[i+1]]:=hd
   simp only[kY,and_true] at hd'
   exact⟨hd'.1.symm,hd'.2.symm⟩
  ·rintro⟨e1,e2⟩
   apply Go.WideShapes.bytes_inj
   rw[hd,e1,e2]
 ·rw[if_neg (by simp only[jA];omega)]
  have h0:s.data.toList.getD (i+1) 0=0:=by rw[k9,List.getElem?_eq_none (by omega)];rfl
  rw[h0]
  simp
theorem zRm{N:Nat}{s:ByteArray}{i:Nat}(hi:i<s.data.toList.length)(hl:s.data.toList.length<1000000)(hN:s.data.toList.length+20<N):qRc N s (i:Int) (some kdL)=some (tokP s i):=by
 have hs:=qCn s
 simp only[qRc,qGa hi,j0,zPs,tokP,qIr hi,kG]
 by_cases h1:kd (s.data.toList[i])=1
 ·simp only[h1,jK]
  have hb:=qSz (p:=inK [1,2,3]) (l:=s.data.toList) (a:=i) (by omega)
  rw[zAa (by omega) hl (by simp) (by omega)]
  simp only[j0]
  rw[wi64 (by omega) (by omega),qNy hb.1 hb.2]
  by_cases h:tw (inK [1,2,3]) s.data.toList i-i>24
  ·rw[if_pos (by simp only[jA];omega),if_pos h];rfl
  ·rw[if_neg (by simp only[jA];omega),if_neg h];rfl
 simp only[h1,jH]
 by_cases h2:kd (s.data.toList[i])=2
 ·simp only[h2,jK]
  have hb:=qSz (p:=inK [2]) (l:=s.data.toList) (a:=i) (by omega)
  have hx:=qCn (s.extract i (tw (inK [2]) s.data.toList i))
  have he:=zDx (s:=s) (p:=inK [2]) (i:=i)
  have hlen:((s.data.toList.drop i).takeWhile (inK [2])).length≤s.data.toList.length:=by
   have:=(hZ (inK [2]) (l:=s.data.toList.drop i)).length_le
   simp only[gF] at this;omega
  rw[zAa (by omega) hl (by simp) (by omega)]
  simp only[j0]
  rw[qNy hb.1 hb.2]
  simp only[j0]
  have hbo:qUo (s.extract i (tw (inK [2]) s.data.toList i))=some ((s.data.toList.drop i).takeWhile (inK [2])):=by
   unfold qUo;rw[←he,if_pos];rw[←hx,he];simp only[maxLen];omega
  rw[hbo]
  simp only[j0]
  rw[zQv (fun c hc=> ?_) (by omega) (by omega)]
  ·simp only[j0,jA]
   split<;>rfl
  ·have:=zKv hc
   simpa[inK] using this
 simp only[h2,jH]
 by_cases h7:kd (s.data.toList[i])=7
 ·simp only[h7,jK]
  have key:=zLi (a0:=i+1) (f:=qIw N s (i:Int)) (l:=s.data.toList) (p:=qPs) (fun e=>if s.data.toList.getD e 0=34 then(.inr ((3,s.extract (i+1) e,0,0),((e+1:Nat):Int),0)) else(.inl ()))
   (fun j hj hb=>zVa hj hl hb) (fun j hj h0 hb=>zUn hi hj hl h0 hb) (by
    simp only[qIw]
    rw[if_neg (by simp only[jA];omega),if_neg (by simp)]
    rfl) (s.data.toList.length-(i+1)) (i+1) N (jV _) (by omega) (by omega)
  rw[wi64 (x:=(i:Int)+1) (by omega) (by omega),←gM,key]
  simp only[j0]
  split
  ·rename_i h;split at h<;>simp_all [zGg]
  ·rename_i h;split at h<;>simp_all
 simp only[h7,jH]
 by_cases h8:kd (s.data.toList[i])=8
 ·simp only[h8,jK]
  rw[zAz (by omega),wi64 (x:=(i:Int)+1) (by omega) (by omega)]
  simp only[j0]
  rw[zOq hi]
  simp only[j0,jA]
  by_cases h:s.data.toList.getD i 0=61∧s.data.toList.getD (i+1) 0=61
  ·have hlt:i+1<s.data.toList.length:=by
    rcases hH (i+1) s.data.toList.length with h'|h'
    ·exact h'
    ·have h0:s.data.toList.getD (i+1) 0=0:=by rw[k9,List.getElem?_eq_none h'];rfl
     rw[h0] at h;exact absurd h.2 (by decide)
   have hE:qWo s.data.toList i=i+2:=by rw[qWo,if_pos h]
   rw[if_pos h,wi64 (by omega) (by omega),hE]
   simp only[j0]
   rw[show((i:Int)+1+1)=((i+2:Nat):Int) by omega,qNy (by omega) (by omega)]
   rfl
  ·have hE:qWo s.data.toList i=i+1:=by rw[qWo,if_neg h]
   rw[if_neg h,hE]
   simp only[j0]
   rw[←gM,qNy (by omega) (by omega)]
   rfl
 simp only[h8,jH]
 rfl
end
section
open Go Go.Dc
theorem zSv{p:UInt8→Bool}{l:List UInt8}(h:∀c∈l,p c=true):tw p l 0=l.length:=by
 unfold tw
 have:l.takeWhile p=l:=by
  induction l with
  |nil=>rfl
  |cons c l ih=>rw[gH (h c (jJ ..)),ih fun d hd=>h d (jL _ hd)]
 simp[this]
end
section
open Go Go.Dc
abbrev Tok:=Int×ByteArray×Int×Int
theorem zLd{ks:List Int}{k:Int}{c:UInt8}(hk:k∈ks)(h:kd c=k):inK ks c=true:=by
 unfold inK;exact gQ.2 ⟨k,hk,by simp[h]⟩
theorem zAg{p:UInt8→Bool}{l:List UInt8}{a:Nat}(h:a<l.length)(hp:p l[a]=true):a<tw p l a:=by
 rw[←qUl h hp];have:=(qSz (p:=p) (l:=l) (a:=a+1) (by omega)).1;omega
theorem qXl{l:List UInt8}{i:Nat}(h:l.getD i 0≠0):i<l.length:=by
 rcases hH i l.length with h'|h'
 ·exact h'
 ·exfalso;apply h;rw[k9,List.getElem?_eq_none h'];rfl
theorem zEw{s:ByteArray}{i:Nat}(hi:i<s.data.toList.length)(h:(tokP s i).2.2=0):∃e:Nat,(tokP s i).2.1=(e:Int)∧i<e∧e≤s.data.toList.length∧
  (((tokP s i).1.1=1∨(tokP s i).1.1=4)∧(tokP s i).1.2.1=s.extract i e∨(tokP s i).1.1=2∧(tokP s i).1.2.1=⟨#[]⟩∨(tokP s i).1.1=3∧(tokP s i).1.2.1.size+i<e):=by
 have hs:=qCn s
 unfold tokP at h ⊢
 rw[qIr hi] at h ⊢
 by_cases h1:kd (s.data.toList[i])=1
 ·rw[if_pos h1] at h ⊢
  split at h
  ·cases h
  ·rename_i h24
   rw[if_neg h24]
   have hb:=qSz (p:=inK [1,2,3]) (l:=s.data.toList) (a:=i) (by omega)
   exact⟨_,rfl,zAg hi (zLd (by simp) h1),hb.2,.inl ⟨.inl rfl,rfl⟩⟩
 rw[if_neg h1] at h ⊢
 by_cases h2:kd (s.data.toList[i])=2
 ·rw[if_pos h2] at h ⊢
  split at h
  ·cases h
  ·rename_i h24
   rw[if_neg h24]
   have hb:=qSz (p:=inK [2]) (l:=s.data.toList) (a:=i) (by omega)
   exact⟨_,rfl,zAg hi (zLd (by simp) h2),hb.2,.inr (.inl ⟨rfl,rfl⟩)⟩
 rw[if_neg h2] at h ⊢
 by_cases h7:kd (s.data.toList[i])=7
 ·rw[if_pos h7] at h ⊢
  split at h
  ·rename_i h24
   rw[if_pos h24]
   have hb:=qSz (p:=qPs) (l:=s.data.toList) (a:=i+1) (by omega)
   have hlt:tw qPs s.data.toList (i+1)<s.data.toList.length:=qXl (by rw[h24];decide)
   refine⟨_,rfl,by omega,by omega,.inr (.inr ⟨rfl,?_⟩)⟩
   simp only[ByteArray.size_extract]
   omega
  ·cases h
 rw[if_neg h7] at h ⊢
 by_cases h8:kd (s.data.toList[i])=8
 ·rw[if_pos h8] at h ⊢
  refine⟨_,rfl,?_,?_,.inl ⟨.inr rfl,rfl⟩⟩
  ·unfold qWo;split<;>omega
  ·unfold qWo
   split
   ·rename_i hh
    have:i+1<s.data.toList.length:=qXl (by rw[hh.2];decide)
    omega
   ·omega
 rw[if_neg h8] at h
 cases h
def qKc(c:UInt8):Bool:=c !=10
def tokG:Nat→ByteArray→Nat→(Int×Int)⊕List Tok
 |0,_,_=> .inr []
 |k+1,s,i=>
  if tw (inK [5]) s.data.toList i=s.data.toList.length then .inr [(5,⟨#[]⟩,0,(s.data.toList.length:Int))]
  else if kd (s.data.toList.getD (tw (inK [5]) s.data.toList i) 0)=6 then tokG k s (tw qKc s.data.toList (tw (inK [5]) s.data.toList i))
  else if(tokP s (tw (inK [5]) s.data.toList i)).2.2≠0 then .inl ((tw (inK [5]) s.data.toList i:Nat),(tokP s (tw (inK [5]) s.data.toList i)).2.2)
  else match tokG k s (tokP s (tw (inK [5]) s.data.toList i)).2.1.toNat with
   | .inl x=> .inl x
   | .inr r=> .inr (((tokP s (tw (inK [5]) s.data.toList i)).1.1,(tokP s (tw (inK [5]) s.data.toList i)).1.2.1,(tokP s (tw (inK [5]) s.data.toList i)).1.2.2.1,((tw (inK [5]) s.data.toList i:Nat):Int))::r)
def zBw(acc:List Tok):(Int×Int)⊕List Tok→List Tok×Int×Int
 | .inl x=>([],x.1,x.2)
 | .inr r=>(acc++r,0,0)
def qJo(s:ByteArray):List Tok×Int×Int:=if s.data.toList.length>16384 then([],0,2) else zBw [] (tokG (s.data.toList.length+1) s 0)
theorem zVo{s:ByteArray}{i:Nat}(hi:i≤s.data.toList.length):
  (if ixB (s.extract i s.data.toList.length) 10<0 then((s.data.toList.length-i:Nat):Int) else ixB (s.extract i s.data.toList.length) 10)=((tw qKc s.data.toList i-i:Nat):Int):=by
 have hs:=qCn s
 have hsz:(s.extract i s.data.toList.length).size=s.data.toList.length-i:=by rw[ByteArray.size_extract];omega
 have hb:=qSz (p:=qKc) (l:=s.data.toList) (a:=i) hi
 have hget:∀j,j<s.data.toList.length-i→(s.extract i s.data.toList.length)[j]! =s.data.toList.getD (i+j) 0:=by
  intro j hj
  have hj':i+j<s.data.toList.length:=by omega
  rw[qIr hj',getElem!_pos _ _ (by rw[hsz];exact hj),ByteArray.getElem_extract]
  simp[ByteArray.getElem_eq_getElem_data]
 have hin:∀d a,a+d=s.data.toList.length→∀j,a≤j→j<tw qKc s.data.toList a→s.data.toList.getD j 0≠10:=by
  intro d
  induction d with
  |zero=>intro a ha j h1 h2;rw[zBy (by omega)] at h2;omega
  |succ d ih=>
   intro a ha j h1 h2
   have hlt:a<s.data.toList.length:=by omega
   cases hc:qKc (s.data.toList[a]) with
   |true=>
    rw[←qUl hlt hc] at h2
    rcases Nat.eq_or_lt_of_le h1 with rfl|h1
    ·rw[qIr hlt];simpa[qKc] using hc
    ·exact ih (a+1) (by omega) j h1 h2
   |false=>rw[qVi hlt hc] at h2;omega
 have hin:=hin (s.data.toList.length-i) i (by omega)
 unfold ixB
 rw[hsz]
 cases hf:(List.range (s.data.toList.length-i)).find? (fun j=>(s.extract i s.data.toList.length)[j]! ==(10:Int).toNat.toUInt8) with
 |none=>
  rw[List.find?_eq_none] at hf
  simp only
  rw[if_pos (by omega)]
  have:¬tw qKc s.data.toList i<s.data.toList.length:=by
   intro hlt
   have h1:=zQj (p:=qKc) (l:=s.data.toList) (s.data.toList.length-i) i (by omega) hlt
   have h2:=hf (tw qKc s.data.toList i-i) (fI.2 (by omega))
   rw[hget _ (by omega),show i+(tw qKc s.data.toList i-i)=tw qKc s.data.toList i by omega,qIr hlt] at h2
   simp only[qKc,bne_eq_false_iff_eq] at h1
   rw[h1] at h2
   exact h2 (by decide)
  omega
 |some k=>
  have h1:=List.find?_some hf
  have hk:k<s.data.toList.length-i:=fI.1 (fJ hf)
  simp only
  rw[if_neg (by omega)]
  rw[hget k hk] at h1
  have h1:s.data.toList.getD (i+k) 0=10:=by simpa using h1
  have h2:¬i+k<tw qKc s.data.toList i:=fun h=>hin (i+k) (by omega) h h1
  have h3:¬tw qKc s.data.toList i<i+k:=by
   intro hlt
   have hlt':tw qKc s.data.toList i<s.data.toList.length:=by omega
   have h4:=zQj (p:=qKc) (l:=s.data.toList) (s.data.toList.length-i) i (by omega) hlt'
   have h5:=List.not_of_lt_findIdx (xs:=List.range (s.data.toList.length-i)) (p:=fun j=>(s.extract i s.data.toList.length)[j]! ==(10:Int).toNat.toUInt8) (i:=tw qKc s.data.toList i-i)
   have h6:=(List.find?_range_eq_some.1 hf).2.2 (tw qKc s.data.toList i-i) (by omega)
   rw[hget _ (by omega),show i+(tw qKc s.data.toList i-i)=tw qKc s.data.toList i by omega,qIr hlt'] at h6
   simp only[qKc,bne_eq_false_iff_eq] at h4
   rw[h4] at h6
   simp at h6
  omega
end
section
open Go Go.Dc
theorem qWg{N:Nat}{s:ByteArray}(hl:s.data.toList.length≤16384)(hN:s.data.toList.length+40<N):∀(k M i:Nat) (acc:List Tok),i≤s.data.toList.length→s.data.toList.length<i+k→k≤M→acc.length≤i→
  qAt (qLm N s (some kdL)) M (acc,(i:Int))=some (zBw acc (tokG k s i))
 |0,_,i,_,h1,h2,_,_=>by omega
 |k+1,0,_,_,_,_,h3,_=>by omega
 |k+1,M+1,i,acc,h1,h2,h3,h4=>by
  have hs:=qCn s
  have hb:=qSz (p:=inK [5]) (l:=s.data.toList) (a:=i) h1
  simp only[qAt,tokG]
  have hstep:qLm N s (some kdL) (acc,(i:Int))=if tw (inK [5]) s.data.toList i=s.data.toList.length then some (.inr (acc++[(5,⟨#[]⟩,0,(s.data.toList.length:Int))],0,0))
    else if kd (s.data.toList.getD (tw (inK [5]) s.data.toList i) 0)=6 then some (.inl (acc,((tw qKc s.data.toList (tw (inK [5]) s.data.toList i):Nat):Int)))
    else if(tokP s (tw (inK [5]) s.data.toList i)).2.2≠0 then some (.inr ([],(tw (inK [5]) s.data.toList i:Nat),(tokP s (tw (inK [5]) s.data.toList i)).2.2))
    else some (.inl (acc++[((tokP s (tw (inK [5]) s.data.toList i)).1.1,(tokP s (tw (inK [5]) s.data.toList i)).1.2.1,(tokP s (tw (inK [5]) s.data.toList i)).1.2.2.1,((tw (inK [5]) s.data.toList i:Nat):Int))],(tokP s (tw (inK [5]) s.data.toList i)).2.1)):=by
   simp only[qLm]
   rw[zAa h1 (by omega) (by simp) (by omega)]
   simp only[j0]
   generalize hE:tw (inK [5]) s.data.toList i=e at hb ⊢
   by_cases he:e=s.data.toList.length
   ·rw[if_pos he,if_pos (by rw[kG];omega),qDm (by simp only[jD,jF];omega) (by omega),he]
    rfl
   ·have hlt:e<s.data.toList.length:=by omega
    rw[if_neg he,if_neg (by rw[kG];omega),qGa hlt]
    simp only[j0,zPs,kG,qIr hlt]
    by_cases h6:kd (s.data.toList[e])=6
    ·rw[if_pos h6,if_pos h6,zAz (by omega)]
     have hle:=zVo (s:=s) (i:=e) (by omega)
     have hb2:=qSz (p:=qKc) (l:=s.data.toList) (a:=e) (by omega)
     have hx:(if(decide (ixB (s.extract e s.data.toList.length) 10<0))=true then(some (IntKind.wrap .i64 ((ByteArray.size s:Int)-(e:Int)))) else(some (ixB (s.extract e s.data.toList.length) 10)):Option Int)=some ((tw qKc s.data.toList e-e:Nat):Int):=by
      rw[←hle,wi64 (by omega) (by omega)]
      by_cases hi:ixB (s.extract e s.data.toList.length) 10<0
      ·rw[if_pos (by simpa using hi),if_pos hi];congr 1;omega
      ·rw[if_neg (by simpa using hi),if_neg hi]
     simp only[j0,qNc,qDx]
     rw[hx]
     simp only[j0]
     rw[wi64 (by omega) (by omega)]
     congr 3;omega
    ·rw[if_neg h6,if_neg h6,zRm hlt (by omega) (by omega)]
     simp only[j0,fL]
     by_cases h0:(tokP s e).2.2≠0
     ·rw[if_pos h0,if_pos h0]
     ·rw[if_neg h0,if_neg h0,qDm (by simp only[jD,jF];omega) (by omega)]
      rfl
  rw[hstep]
  by_cases he:tw (inK [5]) s.data.toList i=s.data.toList.length
  ·rw[if_pos he,if_pos he];rfl
  rw[if_neg he,if_neg he]
  have hlt:tw (inK [5]) s.data.toList i<s.data.toList.length:=by omega
  by_cases h6:kd (s.data.toList.getD (tw (inK [5]) s.data.toList i) 0)=6
  ·rw[if_pos h6,if_pos h6]
   have hb2:=qSz (p:=qKc) (l:=s.data.toList) (a:=tw (inK [5]) s.data.toList i) (by omega)
   have hpos:=zAg (p:=qKc) hlt (by
    rw[qIr hlt] at h6
    simp only[qKc,fL,ne_eq]
    intro e;rw[e] at h6;exact absurd h6 (by decide))
   exact qWg hl hN k M _ acc hb2.2 (by omega) (by omega) (by omega)
  rw[if_neg h6,if_neg h6]
  by_cases h0:(tokP s (tw (inK [5]) s.data.toList i)).2.2≠0
  ·rw[if_pos h0,if_pos h0];rfl
  rw[if_neg h0,if_neg h0]
  obtain⟨e,he1,he2,he3,_⟩:=zEw hlt (by simpa using h0)
  rw[he1]
  simp only[j0,jS]
  rw[qWg hl hN k M e _ he3 (by omega) (by omega) (by simp;omega)]
  cases tokG k s e with
  |inl x=>rfl
  |inr r=>simp[zBw]
theorem zNn{N:Nat}{s:ByteArray}(hN:20000<N):qPq N s=some (qJo s):=by
 have hs:=qCn s
 unfold qPq qJo
 by_cases h:s.data.toList.length>16384
 ·rw[if_pos (by simp only[jA];omega),if_pos h]
 ·rw[if_neg (by simp only[jA];omega),if_neg h,zEu (by omega)]
  have:=qWg (N:=N) (s:=s) (by omega) (by omega) (s.data.toList.length+1) N 0 [] (by omega) (by omega) (by omega) (by simp)
  simp only[j0]
  rw[show((0:Nat):Int)=0 from rfl] at this
  rw[this]
  rfl
def endT(t:Tok):Int:=t.2.2.2+(t.2.1.size:Int)+(if t.1=2 then 1 else 0)
def zTy(s:ByteArray):Int→List Tok→Prop
 |_,[]=>True
 |e,t::r=>e≤t.2.2.2∧t.2.2.2+(t.2.1.size:Int)≤s.size∧(t.1=5↔r=[])∧(t.1=1∨t.1=4→s.extract t.2.2.2.toNat (t.2.2.2+(t.2.1.size:Int)).toNat=t.2.1∧0<t.2.1.size)∧zTy s (endT t) r
theorem qXt{s:ByteArray}:∀(k i:Nat) (e:Int) (r:List Tok),i≤s.data.toList.length→s.data.toList.length<i+k→e≤i→tokG k s i= .inr r→zTy s e r∧r≠[]∧r.length≤s.data.toList.length+1-i
 |0,i,e,r,h1,h2,h3,h4=>by omega
 |k+1,i,e,r,h1,h2,h3,h4=>by
  have hs:=qCn s
  have hb:=qSz (p:=inK [5]) (l:=s.data.toList) (a:=i) h1
  simp only[tokG] at h4
  generalize hE:tw (inK [5]) s.data.toList i=a at hb h4
  split at h4
  ·obtain rfl:=(Sum.inr.inj h4).symm
   refine⟨⟨by show e≤(s.data.toList.length:Int);omega,by show(s.data.toList.length:Int)+((0:Nat):Int)≤_;omega,by simp,fun h=>by simp at h,trivial⟩,by simp,by simp;omega⟩
  ·rename_i he
   have hlt:a<s.data.toList.length:=by omega
   split at h4
   ·rename_i h6
    have hb2:=qSz (p:=qKc) (l:=s.data.toList) (a:=a) (by omega)
    have hpos:=zAg (p:=qKc) hlt (by
     rw[qIr hlt] at h6
     simp only[qKc,fL,ne_eq]
     intro e;rw[e] at h6;exact absurd h6 (by decide))
    obtain⟨g1,g2,g3⟩:=qXt k _ e r hb2.2 (by omega) (by omega) h4
    exact⟨g1,g2,by omega⟩
   ·split at h4
    ·cases h4
    ·rename_i h0
     obtain⟨b,hb1,hb2,hb3,hk⟩:=zEw hlt (by simpa using h0)
     rw[hb1,jS] at h4
     generalize (tokP s a).1=t at h4 hk
     cases hG:tokG k s b with
     |inl x=>rw[hG] at h4;cases h4
     |inr q=>
      rw[hG] at h4
      obtain rfl:=(Sum.inr.inj h4).symm
      have hext:(s.extract a b).size=b-a:=by rw[ByteArray.size_extract];omega
      have hend:endT (t.1,t.2.1,t.2.2.1,(a:Int))≤b∧(a:Int)+(t.2.1.size:Int)≤b∧t.1≠5∧(t.1=1∨t.1=4→t.2.1=s.extract a b):=by
       rcases hk with ⟨hk1,hk2⟩|⟨hk1,hk2⟩|⟨hk1,hk2⟩
       ·refine⟨?_,?_,by omega,fun _=>hk2⟩
        ·simp only[endT,hk2,hext];rw[if_neg (by omega)];omega
        ·rw[hk2,hext];omega
       ·have:(⟨#[]⟩:ByteArray).size=0:=rfl
        refine⟨?_,?_,by omega,fun h=>by omega⟩
        ·simp only[endT,hk2,this];rw[if_pos hk1];omega
        ·rw[hk2,this];omega
       ·refine⟨?_,by omega,by omega,fun h=>by omega⟩
        simp only[endT];rw[if_neg (by omega)];omega
      obtain⟨g1,g2,g3⟩:=qXt k b (endT (t.1,t.2.1,t.2.2.1,(a:Int))) q hb3 (by omega) hend.1 hG
      refine⟨⟨by show e≤(a:Int);omega,?_,?_,?_,g1⟩,by simp,by simp only[jD];omega⟩
      ·show(a:Int)+(t.2.1.size:Int)≤_;omega
      ·exact⟨fun h=>absurd h hend.2.2.1,fun h=>absurd h g2⟩
      ·intro h
       have:=hend.2.2.2 h
       show s.extract (Int.toNat (a:Int)) ((a:Int)+(t.2.1.size:Int)).toNat=t.2.1∧0<t.2.1.size
       rw[this,hext,jS,show((a:Int)+((b-a:Nat):Int)).toNat=b by omega]
       exact⟨rfl,by omega⟩
theorem zEn{s:ByteArray}:∀(k i:Nat) (x:Int×Int),i≤s.data.toList.length→s.data.toList.length<i+k→tokG k s i= .inl x→0≤x.1∧x.1≤s.size∧x.2≠0
 |0,i,x,h1,h2,h4=>by omega
 |k+1,i,x,h1,h2,h4=>by
  have hs:=qCn s
  have hb:=qSz (p:=inK [5]) (l:=s.data.toList) (a:=i) h1
  simp only[tokG] at h4
  generalize hE:tw (inK [5]) s.data.toList i=a at hb h4
  split at h4
  ·cases h4
  ·rename_i he
   have hlt:a<s.data.toList.length:=by omega
   split at h4
   ·rename_i h6
    have hb2:=qSz (p:=qKc) (l:=s.data.toList) (a:=a) (by omega)
    have hpos:=zAg (p:=qKc) hlt (by
     rw[qIr hlt] at h6
     simp only[qKc,fL,ne_eq]
     intro e;rw[e] at h6;exact absurd h6 (by decide))
    exact zEn k _ x hb2.2 (by omega) h4
   ·split at h4
    ·rename_i h0
     obtain rfl:=Sum.inl.inj h4
     exact⟨by simp only;omega,by simp only;omega,h0⟩
    ·rename_i h0
     obtain⟨b,hb1,hb2,hb3,hk⟩:=zEw hlt (by simpa using h0)
     rw[hb1,jS] at h4
     cases hG:tokG k s b with
     |inl y=>rw[hG] at h4;obtain rfl:=Sum.inl.inj h4;exact zEn k b y hb3 (by omega) hG
     |inr q=>rw[hG] at h4;cases h4
end
end Go.Proofs.YteajdekbpcmdaaaGreatDoor
