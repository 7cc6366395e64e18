/- No condition but those of each theorem. -/
import Derived.Test.YthbfjomffkpjdaaGreatDoorProg
import Derived.WalkKit
import Derived.Deep.LoopGhost
import Derived.KernelRfl
import Derived.OrdersHeld
import Derived.OrdersIn
import Derived.LoopNIn
import Derived.Sort.LoopGhostIn
import Derived.Laws.AppendOwn
import Derived.RangeFuncLeaves
import Derived.RangeFuncRecord
import Derived.MapKept
import Derived.Maps.RangeRun
import Derived.ChangeKeysEq
import Derived.HandedShaped
import Derived.ChangeStays
import Derived.ChangeSame
import Derived.OpenShut
import Derived.WideShapes
import Derived.JoinedOf
import Derived.ReadAgain
import Derived.ChangeAt
import Derived.RowKit
import Derived.Lib.Overlaps
import Derived.Shelf.Sort.Plain
import Derived.Shelf.Slices.In.SortNone
import Derived.WalkSmall
import Derived.Recover
import Derived.Lib.Builder
import Derived.Lib.UnsafeStr
import Derived.Shelf.Strconv.Itoa3
import Derived.Room.Shelf.Join48
import Derived.Lib.Bytealg
import Derived.Test.YthbfjomffkpjdaaGreatDoorK3f1
namespace Go.Proofs.YthbfjomffkpjdaaGreatDoor
section
open Go Go.Dc Go.Proofs.Tryz
set_option maxHeartbeats 4000000
set_option maxRecDepth 100000
variable {N bp0 c1 c2 c3 c4 c5 c6:Nat} {m:Mem} {O:List Piece} {w:World} {a1 a2 a3 a4 a5 a6:Option Addr}
def mZ(N:Nat)(a:sN):Option (sN⊕sN):=
 (if(a.2.2.2.1==0)=true then((nY N (a.1,a.2.1,a.2.2.1,a.2.2.2.1,a.2.2.2.2.1,a.2.2.2.2.2.1,a.2.2.2.2.2.2.1) (⟨#[41]⟩:BA)).bind fun b=>some (!b.2,b.1.1,b.1.2.1,b.1.2.2.1,b.1.2.2.2.1,b.1.2.2.2.2.1,b.1.2.2.2.2.2.1,b.1.2.2.2.2.2.2)) else(some (false,a.1,a.2.1,a.2.2.1,a.2.2.2.1,a.2.2.2.2.1,a.2.2.2.2.2.1,a.2.2.2.2.2.2.1)):AO).bind fun c=>if c.1=true then((if(decide ((List.length a.2.2.2.2.2.2.2:Int)>0))=true then((eM N c.2 (⟨#[44]⟩:BA)).bind fun b=>some b) else(some c.2):pX).bind fun b=>(eR N b).bind fun b=>(mL N b.1).bind fun d=>(if((List.length a.2.2.2.2.2.2.2:Int)==8)=true then((eW N d.1 b.2.2.2.2 2).bind fun e=>some e) else(some d.1):pX).bind fun e=>(pO N a.2.2.2.2.2.2.2 d.2).bind fun f=>(if f=true then((eW N e b.2.2.2.2 10).bind fun b=>some b) else(some e):pX).bind fun b=>(cP 16 a.2.2.2.2.2.2.2 ([d.2])).bind fun d=>some (.inl (b.1,b.2.1,b.2.2.1,b.2.2.2.1,b.2.2.2.2.1,b.2.2.2.2.2.1,b.2.2.2.2.2.2,d))) else(some (.inr (c.2.1,c.2.2.1,c.2.2.2.1,c.2.2.2.2.1,c.2.2.2.2.2.1,c.2.2.2.2.2.2.1,c.2.2.2.2.2.2.2,a.2.2.2.2.2.2.2)))
def EV(N:Nat)(p0:cE)(p1:Tp):Option T1u:=
 (eR N (p0.1,p0.2.1,p0.2.2.1,p0.2.2.2.1,([]:Te),([]:Tg),p0.2.2.2.2.2.2)).bind fun y1=>(nX N y1.1 (⟨#[102,117,110,99]⟩:BA)).bind fun a=>(if a.2=true then(some (.inl (a.1.1,a.1.2.1,a.1.2.2.1,a.1.2.2.2.1,a.1.2.2.2.2.1,a.1.2.2.2.2.2.1,a.1.2.2.2.2.2.2,1))) else((nX N a.1 (⟨#[116,101,115,116]⟩:BA)).bind fun a=>if a.2=true then(some (.inl (a.1.1,a.1.2.1,a.1.2.2.1,a.1.2.2.2.1,a.1.2.2.2.2.1,a.1.2.2.2.2.2.1,a.1.2.2.2.2.2.2,2))) else((nX N a.1 (⟨#[103,101,110]⟩:BA)).bind fun a=>if a.2=true then(some (.inl (a.1.1,a.1.2.1,a.1.2.2.1,a.1.2.2.2.1,a.1.2.2.2.2.1,a.1.2.2.2.2.2.1,a.1.2.2.2.2.2.2,3))) else((eW N a.1 y1.2.2.2.2 9).bind fun y5=>some (.inr (y5,(0,(⟨#[]⟩:BA),([]:Te),([]:Tg))))))):Option (T1v⊕T1u)).bind fun a=>(match a with| .inl a=>(if((List.length p1.2.2:Int)==64)=true then((eW N (a.1,a.2.1,a.2.2.1,a.2.2.2.1,a.2.2.2.2.1,a.2.2.2.2.2.1,a.2.2.2.2.2.2.1) y1.2.2.2.2 2).bind fun b=>some b) else(some (a.1,a.2.1,a.2.2.1,a.2.2.2.1,a.2.2.2.2.1,a.2.2.2.2.2.1,a.2.2.2.2.2.2.1)):pX).bind fun o2=>(eR N o2).bind fun c=>(if(a.2.2.2.2.2.2.2==3)=true then((pN N c.1 true).bind fun b=>some (b.1.1,b.1.2.1,b.1.2.2.1,b.1.2.2.2.1,b.1.2.2.2.2.1,b.1.2.2.2.2.2.1,b.1.2.2.2.2.2.2,b.2)) else((mL N c.1).bind fun b=>some (b.1.1,b.1.2.1,b.1.2.2.1,b.1.2.2.2.1,b.1.2.2.2.2.1,b.1.2.2.2.2.2.1,b.1.2.2.2.2.2.2,b.2)):Option (mV×Int×Int×Int×Te×Tg×Tb×Td)).bind fun b=>(if(b.2.2.2.1==0)=true then((uP N p1 a.2.2.2.2.2.2.2 b.2.2.2.2.2.2.2).bind fun d=>some d) else(some false):Tj).bind fun d=>(if d=true then((eW N (b.1,b.2.1,b.2.2.1,b.2.2.2.1,b.2.2.2.2.1,b.2.2.2.2.2.1,b.2.2.2.2.2.2.1) c.2.2.2.2 10).bind fun c=>some c) else(some (b.1,b.2.1,b.2.2.1,b.2.2.2.1,b.2.2.2.2.1,b.2.2.2.2.2.1,b.2.2.2.2.2.2.1)):pX).bind fun d=>(if(a.2.2.2.2.2.2.2==1)=true then((eM N d (⟨#[40]⟩:BA)).bind fun c=>(aI (mZ N) N (c.1,c.2.1,c.2.2.1,c.2.2.2.1,c.2.2.2.2.1,c.2.2.2.2.2.1,c.2.2.2.2.2.2,([]:Te))).bind fun c=>some c) else(some (d.1,d.2.1,d.2.2.1,d.2.2.2.1,d.2.2.2.2.1,d.2.2.2.2.2.1,d.2.2.2.2.2.2,([]:Te))):Option sN).bind fun c=>(eM N (c.1,c.2.1,c.2.2.1,c.2.2.2.1,c.2.2.2.2.2.2.2,c.2.2.2.2.2.1,c.2.2.2.2.2.2.1) (⟨#[61]⟩:BA)).bind fun d=>(vZ N d 1).bind fun d=>(eM N d.1 (⟨#[59]⟩:BA)).bind fun d=>some (d,(a.2.2.2.2.2.2.2,b.2.2.2.2.2.2.2,c.2.2.2.2.2.2.2,d.2.2.2.2.2.1))| .inr z=>some z)
theorem qBw{p0:cE}{p1:Tp}{r:T1u}(g:St m (kB bp0 (Vc p0 a1 c1 a2 c2 a3 c3 a4 c4) 101::kR a3 p0.2.2.2.2.2.1 c3 49 5::O) w)(r1:RepS C5 m a1 c1 p0.1)(r2:RepS aH m a2 c2 p0.2.2.2.2.1)(r3:RepS C2 m a3 c3 p0.2.2.2.2.2.1)(r4:RepS (aV .i64) m a4 c4 p0.2.2.2.2.2.2)(M:RepS aH m a5 c5 p1.2.1)(R:RepS C3 m a6 c6 p1.2.2)(i:EV N p0 p1=some r):Calls prog 67 #[vP bp0 0,.agg (V2 p1 a5 c5 a6 c6)] w fun e w'=>∃A6 B0 A7 B1 v4 v9 A8 B2 v5 x2 A9 B3 m',e= .returned (.agg (V6 r.2 v5 x2 A9 B3))/\m.le m'/\St m' (kR v5 r.2.2.2.1 x2 9 1::kB bp0 (Vc r.1 A6 B0 A7 B1 v4 v9 A8 B2) 101::kR v4 r.1.2.2.2.2.2.1 v9 49 5::O) w'/\RepS C5 m' A6 B0 r.1.1/\RepS aH m' A7 B1 r.1.2.2.2.2.1/\RepS C2 m' v4 v9 r.1.2.2.2.2.2.1/\RepS (aV .i64) m' A8 B2 r.1.2.2.2.2.2.2/\RepS aH m' v5 x2 r.2.2.2.1/\RepS C2 m' A9 B3 r.2.2.2.2:=by
 unfold EV at i;have q:=m.le_refl;refine bI func67 rfl ntmps67 ?_;refine aC (iF 3 29 (.agg (V2 p1 a5 c5 a6 c6)) g fun b1 m1 w1 G g u=>(cY 4 38 (.agg #[vI 0,vT eB,v8,v8]) g fun o w2 g=>(aQ (aC (cY 5 38 (.agg #[vI 0,vT eB,v8,v8]) g fun f w3 g=>(aQ (aC (aA 4 [(9,vP bp0 0),(11,vP bp0 4)] (cU #[vS a1 p0.1 c1,vI p0.2.1,vI p0.2.2.1,vI p0.2.2.2.1,va,vS a3 p0.2.2.2.2.2.1 c3,vS a4 p0.2.2.2.2.2.2 c4] g.f2 fun w4 g=>(aA 2 [(13,vP bp0 5)] (cU #[vS a1 p0.1 c1,vI p0.2.1,vI p0.2.2.1,vI p0.2.2.2.1,va,v6,vS a4 p0.2.2.2.2.2.2 c4] g fun w5 g=>(aS rfl ?_))))))))))));have g:=g.f3.t;refine aD (aU 1 [(14,vP bp0 0)] ?_);have g:=(g.nilroom 49 5).front1;refine aL 15 i (lV (p0:=(p0.1,p0.2.1,p0.2.2.1,p0.2.2.2.1,([]:Te),([]:Tg),p0.2.2.2.2.2.2)) g (r1.mono G) (RepS.nil _ _) (RepS.nil _ _) (r4.mono G)) ?_;rintro y1 i _ w6 ⟨a7,c7,a8,c8,a9,c9,K6,M3,m2,rfl,d0,g,r7,r8,r9,G7⟩;refine aG 2 [(6,vI y1.2.2.2.2)] (aE (aU 1 [(17,vP bp0 0)] (aL 18 i (rZ (p0:=y1.1) g.f1.f1 r7 r8 r9 G7) ?_)));rintro y2 i _ w7 ⟨E6,F4,E7,F5,E8,F6,E9,F7,m3,rfl,d1,g,x7,x8,x9,y0⟩;have u:=(u.mono d0).mono d1;have M:=((M.mono G).mono d0).mono d1;have R:=((R.mono G).mono d0).mono d1;refine aQ ?_;have⟨G6,i,j1⟩:=aW i
 refine cR .normal (fun L' w'=>∃(b:T1v),∃k9 n7 l0 n8 g0 g9 l2 n9 m4,(.inl b:T1v⊕T1u)=G6/\L'=[(0,vP bp0 0),(3,vP b1 0),(4,vP o 0),(5,vP f 0),(6,vI y1.2.2.2.2)]/\m.le m4/\St m4 (kB bp0 (Vd k9 b.1 n7 b.2.1 b.2.2.1 b.2.2.2.1 l0 b.2.2.2.2.1 n8 g0 b.2.2.2.2.2.1 g9 l2 b.2.2.2.2.2.2.1 n9) 101::kB f #[vI b.2.2.2.2.2.2.2,vT eB,va,v6] 38::kB o #[vI 0,vT eB,va,v6] 38::kR g0 b.2.2.2.2.2.1 g9 49 5::O) w'/\MRow m4 b1 0 (V8 p1 a5 c5 a6 c6)/\RepS aH m4 a5 c5 p1.2.1/\RepS C3 m4 a6 c6 p1.2.2/\P5 m4 k9 n7 l0 n8 g0 g9 l2 n9 b) ?_ ?_
 .rintro _ w8 ⟨b,k9,n7,l0,n8,g0,g9,l2,n9,m4,rfl,rfl,q,g,u,M,R,z0,z1,z2,z3⟩;have i:=j1;refine aD (aE (aU 1 [(30,vP b1 2)] (bE 31 (vS a6 p1.2.2 c6) g (u.drop 2) (aG 2 [(33,vB ((p1.2.2.length:Int)==64))] (cI .normal i (fun o2 L' w'=>∃s4 t4 s5 t5 l3 o0 s6 t6 m8,L'=[(0,vP bp0 0),(3,vP b1 0),(4,vP o 0),(5,vP f 0)]/\m.le m8/\St m8 (kB bp0 (Vc o2 s4 t4 s5 t5 l3 o0 s6 t6) 101::kB f #[vI b.2.2.2.2.2.2.2,vT eB,va,v6] 38::kB o #[vI 0,vT eB,va,v6] 38::kR l3 o2.2.2.2.2.2.1 o0 49 5::O) w'/\MRow m8 b1 0 (V8 p1 a5 c5 a6 c6)/\RepS aH m8 a5 c5 p1.2.1/\RepS C3 m8 a6 c6 p1.2.2/\P4 m8 s4 t4 s5 t5 l3 o0 s6 t6 o2) ?_ ?_)))))
  .rintro o2 i _ R3 ⟨s4,t4,s5,t5,l3,o0,s6,t6,m8,rfl,q,g,u,M,R,G8,G9,H0,H1⟩;refine aD (aU 1 [(37,vP bp0 0)] (aL 38 i (lV (p0:=o2) g.f3.f1 G8 G9 H0 H1) ?_));rintro y7 i _ R4 ⟨K7,M4,K8,M5,K9,M6,M0,M7,R0,rfl,v,g,z4,z5,z6,z7⟩;refine aG 2 [(6,vI y7.2.2.2.2)] (aE (aC (bH 1 41 3 40 0 (vI b.2.2.2.2.2.2.2) g.t.t.h (aG 1 [(42,vB (b.2.2.2.2.2.2.2==3))] (cI .normal i (fun a L' w'=>∃d4 d8 d5 d9 S U d6 e0 V,L'=[(0,vP bp0 0),(3,vP b1 0),(4,vP o 0),(5,vP f 0),(6,vI y7.2.2.2.2)]/\m.le V/\St V (kB bp0 (Vd d4 a.1 d8 a.2.1 a.2.2.1 a.2.2.2.1 d5 a.2.2.2.2.1 d9 S a.2.2.2.2.2.1 U d6 a.2.2.2.2.2.2.1 e0) 101::kB f #[vI b.2.2.2.2.2.2.2,vT a.2.2.2.2.2.2.2,va,v6] 38::kB o #[vI 0,vT eB,va,v6] 38::kR S a.2.2.2.2.2.1 U 49 5::O) w'/\MRow V b1 0 (V8 p1 a5 c5 a6 c6)/\RepS aH V a5 c5 p1.2.1/\RepS C3 V a6 c6 p1.2.2/\P5 V d4 d8 d5 d9 S U d6 e0 a) ?_ ?_)))))
   .rintro a i _ R5 ⟨d4,d8,d5,d9,S,U,d6,e0,V,rfl,q,g,u,M,R,k4,k5,k6,k7⟩;refine aD (aE (aC ?_));have⟨o4,i,J⟩:=aW i;refine sH (j:=13) (fun L' w'=>∃h8,L'=[(0,vP bp0 0),(4,vP o 0),(5,vP f 0),(6,vI y7.2.2.2.2),(61,vB o4)]/\m.le h8/\St h8 (kB bp0 (Vd d4 a.1 d8 a.2.1 a.2.2.1 a.2.2.2.1 d5 a.2.2.2.2.1 d9 S a.2.2.2.2.2.1 U d6 a.2.2.2.2.2.2.1 e0) 101::kB f #[vI b.2.2.2.2.2.2.2,vT a.2.2.2.2.2.2.2,va,v6] 38::kB o #[vI 0,vT eB,va,v6] 38::kR S a.2.2.2.2.2.1 U 49 5::O) w'/\P5 h8 d4 d8 d5 d9 S U d6 e0 a) ?_ ?_
    .have i:=J;rintro _ R6 ⟨h8,rfl,q,g,k4,k5,k6,k7⟩;refine aQ (cI .normal i (fun o5 L' w'=>∃l4 q0 l5 q1 g1 h0 l6 q2 h9,L'=[(0,vP bp0 0),(4,vP o 0),(5,vP f 0)]/\m.le h9/\St h9 (kB bp0 (Vc o5 l4 q0 l5 q1 g1 h0 l6 q2) 101::kB f #[vI b.2.2.2.2.2.2.2,vT a.2.2.2.2.2.2.2,va,v6] 38::kB o #[vI 0,vT eB,va,v6] 38::kR g1 o5.2.2.2.2.2.1 h0 49 5::O) w'/\P4 h9 l4 q0 l5 q1 g1 h0 l6 q2 o5) ?_ ?_)
     .rintro o5 i _ R7 ⟨l4,q0,l5,q1,g1,h0,l6,q2,h9,rfl,q,g,z8,z9,A0,A1⟩;refine aD (aE (aC (bH 1 66 3 65 0 (vI b.2.2.2.2.2.2.2) g.t.h (aG 1 [(67,vB (b.2.2.2.2.2.2.2==1))] (cI .normal i (fun n L' w'=>∃l7 q3 s7 t7 g2 h1 l8 q4 z B s2,L'=[(0,vP bp0 0),(4,vP o 0),(5,vP f 0)]/\m.le s2/\St s2 (kB bp0 (Vd l7 n.1 q3 n.2.1 n.2.2.1 n.2.2.2.1 s7 n.2.2.2.2.1 t7 g2 n.2.2.2.2.2.1 h1 l8 n.2.2.2.2.2.2.1 q4) 101::kB f #[vI b.2.2.2.2.2.2.2,vT a.2.2.2.2.2.2.2,vS z n.2.2.2.2.2.2.2 B,v6] 38::kB o #[vI 0,vT eB,va,v6] 38::kR g2 n.2.2.2.2.2.1 h1 49 5::kR z n.2.2.2.2.2.2.2 B 9 1::O) w'/\P6 s2 l7 q3 s7 t7 g2 h1 l8 q4 z B n) ?_ ?_)))))
      .rintro n i _ k0 ⟨l7,q3,s7,t7,g2,h1,l8,q4,z,B,s2,rfl,q,g,e4,h7,e5,e6,y⟩;refine aD (aU 2 [(111,vP bp0 0),(112,vP f 2)] (bO 113 (vS z n.2.2.2.2.2.2.2 B) g.t.h (aA 2 [(115,vP bp0 4)] (cU (Vd l7 n.1 q3 n.2.1 n.2.2.1 n.2.2.2.1 z n.2.2.2.2.2.2.2 B g2 n.2.2.2.2.2.1 h1 l8 n.2.2.2.2.2.2.1 q4) g fun k2 g=>(aQ (aC (aA 1 [(116,vP bp0 0)] (aL 117 i (pY (p0:=(n.1,n.2.1,n.2.2.1,n.2.2.2.1,n.2.2.2.2.2.2.2,n.2.2.2.2.2.1,n.2.2.2.2.2.2.1)) g.f3.f1 e4 y e5 e6) ?_))))))));rintro e7 i _ k8 ⟨e9,g4,f0,g5,f5,g6,f6,g7,h5,rfl,k,g,a0,b0,b5,b6⟩;refine aQ (aC (aA 1 [(118,vP bp0 0)] (aL 119 i (qBy (p0:=e7) g.f1.f1 a0 b0 b5 b6) ?_)));rintro e8 i _ l9 ⟨f7,g8,f8,h2,f9,h3,g3,h4,h6,rfl,l,g,b7,b8,b9,d2⟩;refine aQ (aC (aA 1 [(120,vP bp0 0)] (aL 121 i (pY (p0:=e8.1) g.f1.f1 b7 b8 b9 d2) ?_)));rintro s i _ n0 ⟨D,H,E,Y,c,d,F,Z,e2,rfl,p,g,d3,d7,x,e1⟩
       refine aQ (aC (bH 3 125 36 124 5 (vS c s.2.2.2.2.2.1 d) g.h (aA 1 [(126,vP f 3)] (cU #[vI b.2.2.2.2.2.2.2,vT a.2.2.2.2.2.2.2,vS z n.2.2.2.2.2.2.2 B,vS c s.2.2.2.2.2.1 d] g.f2 fun n2 g=>(aQ (aC (bO 127 (.agg #[vI b.2.2.2.2.2.2.2,vT a.2.2.2.2.2.2.2,vS z n.2.2.2.2.2.2.2 B,vS c s.2.2.2.2.2.1 d]) g.h (cD (.agg #[vI b.2.2.2.2.2.2.2,vT a.2.2.2.2.2.2.2,vS z n.2.2.2.2.2.2.2 B,vS c s.2.2.2.2.2.1 d]) g.f3 fun n3 g=>(aQ (aM ?_))))))))));cases i;refine iW 4 38 [] [] g.h ?_;exact⟨D,H,E,Y,c,d,F,Z,z,B,c,d,e2,rfl,((q.t k).t l).t p,g.t.t.f1.f1.f2,d3,d7,x,e1,((y.mono k).mono l).mono p,x⟩
      intro n i x6;refine aF i ?_ ?_
      .intro A i;refine aU 1 [(68,vP bp0 0)] ?_;refine aL 69 i (pY (p0:=o5) g.f3.f1 z8 z9 A0 A1) ?_;rintro d2 i _ R8 ⟨F0,F8,F1,F9,F2,G0,F3,G1,G2,rfl,x4,g,H2,H3,H4,H5⟩;refine aQ (aZ (cI (.exit 0) i (fun f9 L' w'=>∃(H:sN),∃l9 q5 n0 q6 g3 h2 n2 q7 g4 h3 k0,H=f9/\L'=[(0,vP bp0 0),(4,vP o 0),(5,vP f 0)]/\m.le k0/\St k0 (kB bp0 (Vd l9 H.1 q5 H.2.1 H.2.2.1 H.2.2.2.1 n0 H.2.2.2.2.1 q6 g3 H.2.2.2.2.2.1 h2 n2 H.2.2.2.2.2.2.1 q7) 101::kB f #[vI b.2.2.2.2.2.2.2,vT a.2.2.2.2.2.2.2,vS g4 H.2.2.2.2.2.2.2 h3,v6] 38::kB o #[vI 0,vT eB,va,v6] 38::kR g3 H.2.2.2.2.2.1 h2 49 5::kR g4 H.2.2.2.2.2.2.2 h3 9 1::O) w'/\P6 k0 l9 q5 n0 q6 g3 h2 n2 q7 g4 h3 H) ?_ ?_))
       .rintro f9 i _ s ⟨H,l9,q5,n0,q6,g3,h2,n2,q7,g4,h3,k0,rfl,rfl,q,g,c,d,k,l,p⟩;refine cM ?_;cases i;exact xE (x6 _ _ ⟨l9,q5,n0,q6,g3,h2,n2,q7,g4,h3,k0,rfl,q,g.f4.f4.f4.f4.f4,c,d,k,l,p⟩)
       intro f9 i x3;have g:=(g.nilroom 9 1).front2.front4.front4.front4;refine cK _ kr (cJ (fun k1 L' w'=>∃(c:sN),∃n3 q8 n4 q9 g5 h4 n5 r0 d k k2,aI (mZ N) k1 c=some f9/\L'=[(0,vP bp0 0),(4,vP o 0),(5,vP f 0)]/\m.le k2/\St k2 (kB bp0 (Vd n3 c.1 q8 c.2.1 c.2.2.1 c.2.2.2.1 n4 c.2.2.2.2.1 q9 g5 c.2.2.2.2.2.1 h4 n5 c.2.2.2.2.2.2.1 r0) 101::kB f #[vI b.2.2.2.2.2.2.2,vT a.2.2.2.2.2.2.2,vS d c.2.2.2.2.2.2.2 k,v6] 38::kB o #[vI 0,vT eB,va,v6] 38::kR g5 c.2.2.2.2.2.1 h4 49 5::kR d c.2.2.2.2.2.2.2 k 9 1::O) w'/\P6 k2 n3 q8 n4 q9 g5 h4 n5 r0 d k c) N ⟨(d2.1,d2.2.1,d2.2.2.1,d2.2.2.2.1,d2.2.2.2.2.1,d2.2.2.2.2.2.1,d2.2.2.2.2.2.2,([]:Te)),F0,F8,F1,F9,F2,G0,F3,G1,none,0,G2,i,rfl,q.t x4,g,H2,H3,H4,H5,(RepS.nil _ _)⟩ ?_);rintro k1 _ R9 ⟨c,n3,q8,n4,q9,g5,h4,n5,r0,d,k,k2,hL,rfl,q,g,A2,A3,A4,A5,s⟩;rcases k1 with _|k1
       .exact cN hL
       obtain⟨R2,i,D9,D8⟩:=cO hL;clear hL;unfold mZ at i;refine aE (aC (dK 10 i (fun x L' w'=>∃g6 h5 g7 h6 d7 e1 g8 h7 D,L'=[(0,vP bp0 0),(4,vP o 0),(5,vP f 0),(79,vB x.1)]/\m.le D/\St D (kB bp0 (Vc x.2 g6 h5 g7 h6 d7 e1 g8 h7) 101::kB f #[vI b.2.2.2.2.2.2.2,vT a.2.2.2.2.2.2.2,vS d c.2.2.2.2.2.2.2 k,v6] 38::kB o #[vI 0,vT eB,va,v6] 38::kR d c.2.2.2.2.2.2.2 k 9 1::kR d7 x.2.2.2.2.2.2.1 e1 49 5::O) w'/\RepS C5 D g6 h5 x.2.1/\RepS aH D g7 h6 x.2.2.2.2.2.1/\RepS C2 D d7 e1 x.2.2.2.2.2.2.1/\RepS (aV .i64) D g8 h7 x.2.2.2.2.2.2.2/\RepS aH D d k c.2.2.2.2.2.2.2) ?_ ?_))
       .rintro x i _ S0 ⟨g6,h5,g7,h6,d7,e1,g8,h7,D,rfl,q,g,v0,v1,v2,v3,s⟩;refine aQ (aF i ?_ ?_)
        .intro A i;refine aN (aD (aZ (aE (aC (bH 1 81 26 80 2 (vS d c.2.2.2.2.2.2.2 k) g.t.h (aG 2 [(83,vB (decide ((c.2.2.2.2.2.2.2.length:Int)>0)))] (cI .normal i (fun o9 L' w'=>∃s8 t8 s9 t9 n6 s0 t0 u0 Y,L'=[(0,vP bp0 0),(4,vP o 0),(5,vP f 0)]/\m.le Y/\St Y (kB bp0 (Vc o9 s8 t8 s9 t9 n6 s0 t0 u0) 101::kB f #[vI b.2.2.2.2.2.2.2,vT a.2.2.2.2.2.2.2,vS d c.2.2.2.2.2.2.2 k,v6] 38::kB o #[vI 0,vT eB,va,v6] 38::kR d c.2.2.2.2.2.2.2 k 9 1::kR n6 o9.2.2.2.2.2.1 s0 49 5::O) w'/\RepS C5 Y s8 t8 o9.1/\RepS aH Y s9 t9 o9.2.2.2.2.1/\RepS C2 Y n6 s0 o9.2.2.2.2.2.1/\RepS (aV .i64) Y t0 u0 o9.2.2.2.2.2.2/\RepS aH Y d k c.2.2.2.2.2.2.2) ?_ ?_)))))))
         .rintro o9 i _ S1 ⟨s8,t8,s9,t9,n6,s0,t0,u0,Y,rfl,q,g,H6,H7,H8,H9,s⟩;refine aD (aU 1 [(86,vP bp0 0)] (aL 87 i (lV (p0:=o9) g.f4.f1 H6 H7 H8 H9) ?_));rintro k8 i _ S2 ⟨M1,M8,M2,M9,K2,K4,K3,K5,R1,rfl,b0,g,K0,K1,E0,E1⟩;refine aG 2 [(6,vI k8.2.2.2.2)] (aC (aA 1 [(89,vP bp0 0)] (aL 90 i (EO (p0:=k8.1) g.f1.f1 K0 K1 E0 E1) ?_)));rintro d3 i _ S3 ⟨B4,D0,B5,D1,B6,D2,B7,D3,G3,rfl,b5,g,u1,u2,u3,u4⟩;refine aG 1 [(7,vT d3.2)] (aE (aC (bH 1 92 26 91 2 (vS d c.2.2.2.2.2.2.2 k) g.t.t.h (aG 2 [(94,vB ((c.2.2.2.2.2.2.2.length:Int)==8))] (cI .normal i (fun F L' w'=>∃e2 e9 e4 f0 b6 b8 e5 f5 Z,L'=[(0,vP bp0 0),(4,vP o 0),(5,vP f 0),(6,vI k8.2.2.2.2),(7,vT d3.2)]/\m.le Z/\St Z (kB bp0 (Vc F e2 e9 e4 f0 b6 b8 e5 f5) 101::kB f #[vI b.2.2.2.2.2.2.2,vT a.2.2.2.2.2.2.2,vS d c.2.2.2.2.2.2.2 k,v6] 38::kB o #[vI 0,vT eB,va,v6] 38::kR d c.2.2.2.2.2.2.2 k 9 1::kR b6 F.2.2.2.2.2.1 b8 49 5::O) w'/\RepS C5 Z e2 e9 F.1/\RepS aH Z e4 f0 F.2.2.2.2.1/\RepS C2 Z b6 b8 F.2.2.2.2.2.1/\RepS (aV .i64) Z e5 f5 F.2.2.2.2.2.2/\RepS aH Z d k c.2.2.2.2.2.2.2) ?_ ?_)))))
          .rintro F i _ S4 ⟨e2,e9,e4,f0,b6,b8,e5,f5,Z,rfl,q,g,u5,u6,u7,u9,s⟩;refine aD (aE (aC (bH 1 99 26 98 2 (vS d c.2.2.2.2.2.2.2 k) g.t.h (aA 1 [(100,vT d3.2)] (aL 101 i (JT g s) ?_)))));rintro S7 i _ S5 ⟨G4,rfl,l,g⟩;refine aQ (cI .normal i (fun p L' w'=>∃e6 f6 e7 f7 b7 b9 e8 f8 a0,L'=[(0,vP bp0 0),(4,vP o 0),(5,vP f 0),(7,vT d3.2)]/\m.le a0/\St a0 (kB bp0 (Vc p e6 f6 e7 f7 b7 b9 e8 f8) 101::kB f #[vI b.2.2.2.2.2.2.2,vT a.2.2.2.2.2.2.2,vS d c.2.2.2.2.2.2.2 k,v6] 38::kB o #[vI 0,vT eB,va,v6] 38::kR d c.2.2.2.2.2.2.2 k 9 1::kR b7 p.2.2.2.2.2.1 b9 49 5::O) w'/\RepS C5 a0 e6 f6 p.1/\RepS aH a0 e7 f7 p.2.2.2.2.1/\RepS C2 a0 b7 b9 p.2.2.2.2.2.1/\RepS (aV .i64) a0 e8 f8 p.2.2.2.2.2.2/\RepS aH a0 d k c.2.2.2.2.2.2.2) ?_ ?_)
           .rintro p i _ E4 ⟨e6,f6,e7,f7,b7,b9,e8,f8,a0,rfl,q,g,B8,B9,D4,D5,s⟩;refine aD (aX (bH 1 106 26 105 2 (vS d c.2.2.2.2.2.2.2 k) g.t.h (aA 1 [(107,vT d3.2)] (eX 108 9 1 aH [d3.2] g fun b4 E3 E5 y g D6=>(iT 109 26 26 9 16 106 108 g.f4 (.inl kr) (s.mono y) D6.src i fun l1 i s3 t3 E2 G5 E g D7=>(aA 1 [(110,vP f 2)] (cU #[vI b.2.2.2.2.2.2.2,vT a.2.2.2.2.2.2.2,vS s3 l1 t3,v6] g.f3 fun S6 g=>(aS rfl ?_))))))));have g:=g.f2.t;refine bG ?_;have hL:=D9 _ (sI i);exact xE (cF ⟨(p.1,p.2.1,p.2.2.1,p.2.2.2.1,p.2.2.2.2.1,p.2.2.2.2.2.1,p.2.2.2.2.2.2,l1),e6,f6,e7,f7,b7,b9,e8,f8,s3,t3,E2,hL,rfl,(q.t y).t E,g.f1.f4.f4.f3.f4,(B8.mono y).mono E,(B9.mono y).mono E,(D4.mono y).mono E,(D5.mono y).mono E,D7⟩)
           intro p i E;refine aF i ?_ ?_
           .intro A i;refine aX (aA 2 [(102,vP bp0 0),(103,vI k8.2.2.2.2)] (aL 104 i (oO (p0:=F) g.f4.f1 (u5.mono l) (u6.mono l) (u7.mono l) (u9.mono l)) ?_));rintro S8 i _ S6 ⟨s3,D4,t3,D5,B8,D6,B9,D7,G5,rfl,y,g,E2,E3,E4,E5⟩;refine aS rfl ?_;cases i;exact xE (E _ _ ⟨s3,D4,t3,D5,B8,D6,B9,D7,G5,rfl,(q.t l).t y,g.f1.f4.f4.f4.f4,E2,E3,E4,E5,(s.mono l).mono y⟩)
           intro A i;refine aN ?_;cases i;exact xE (E _ _ ⟨e2,e9,e4,f0,b6,b8,e5,f5,G4,rfl,q.t l,g.f4.f4.f4.f4.f4,u5.mono l,u6.mono l,u7.mono l,u9.mono l,s.mono l⟩)
          intro F i p;refine aF i ?_ ?_
          .intro A i;refine aX (aA 2 [(95,vP bp0 0),(96,vI k8.2.2.2.2)] (aL 97 i (oO (p0:=d3.1) g.f1.f1 u1 u2 u3 u4) ?_));rintro u6 i _ u5 ⟨y,b9,E,e6,a0,e7,b7,e8,t3,rfl,l,g,f6,f7,f8,s3⟩;refine aS rfl ?_;cases i;exact xE (p _ _ ⟨y,b9,E,e6,a0,e7,b7,e8,t3,rfl,((q.t b0).t b5).t l,g.f1.f4.f4.f4.f4,f6,f7,f8,s3,((s.mono b0).mono b5).mono l⟩)
          intro A i;refine aN ?_;cases i;exact xE (p _ _ ⟨B4,D0,B5,D1,B6,D2,B7,D3,G3,rfl,(q.t b0).t b5,g.f1.f4.f4.f4.f4,u1,u2,u3,u4,(s.mono b0).mono b5⟩)
         intro o9 i p;refine aF i ?_ ?_
         .intro A i;refine aX (aA 1 [(84,vP bp0 0)] (aL 85 i (pY (p0:=x.2) g.f4.f1 v0 v1 v2 v3) ?_));rintro e5 i _ e4 ⟨y,a0,E,b0,F,b5,Z,b6,b7,rfl,l,g,b8,b9,d3,e2⟩;refine aS rfl ?_;cases i;exact xE (p _ _ ⟨y,a0,E,b0,F,b5,Z,b6,b7,rfl,q.t l,g.f1.f4.f4.f4.f4,b8,b9,d3,e2,s.mono l⟩)
         intro A i;refine aN ?_;cases i;exact xE (p _ _ ⟨g6,h5,g7,h6,d7,e1,g8,h7,D,rfl,q,g.f4.f4.f4.f4.f4,v0,v1,v2,v3,s⟩)
        intro A i;refine cG (bF ?_);have ho:=D8 _ (sI i);have g:=g.f3.f4.f4.f4.f4;refine bF ?_;exact xE (x3 _ _ ⟨(x.2.1,x.2.2.1,x.2.2.2.1,x.2.2.2.2.1,x.2.2.2.2.2.1,x.2.2.2.2.2.2.1,x.2.2.2.2.2.2.2,c.2.2.2.2.2.2.2),g6,h5,g7,h6,d7,e1,g8,h7,d,k,D,ho,rfl,q,g,v0,v1,v2,v3,s⟩)
       intro x i K;refine bH 3 73 31 72 3 (vI c.2.2.2.1) g.h (aA 2 [(75,vB (c.2.2.2.1==0))] (bD 75 i ?_ ?_))
       .intro A i;refine aA 1 [(76,vP bp0 0)] (aL 77 i (rG (p0:=(c.1,c.2.1,c.2.2.1,c.2.2.2.1,c.2.2.2.2.1,c.2.2.2.2.2.1,c.2.2.2.2.2.2.1)) g.f3.f1 A2 A3 A4 A5) ?_);rintro d3 i _ e2 ⟨p,Y,y,Z,E,a0,F,b0,b5,rfl,l,g,b6,b7,b8,b9⟩;refine aA 2 [(79,vB (!d3.2))] ?_;cases i;exact aT _ kr (K _ _ ⟨p,Y,y,Z,E,a0,F,b0,b5,rfl,q.t l,g.f1.f4.f4.f4.f4,b6,b7,b8,b9,s.mono l⟩)
       intro A i;refine aA 4 [(79,vB false)] ?_;cases i;exact aT _ kr (K _ _ ⟨n3,q8,n4,q9,g5,h4,n5,r0,k2,rfl,q,g.f3.f4.f4.f4.f4,A2,A3,A4,A5,s⟩)
      intro A i;refine aN ?_;cases i;have g:=(g.nilroom 9 1).front4.front4.front4.front4;exact xE (x6 _ _ ⟨l4,q0,l5,q1,g1,h0,l6,q2,none,0,h9,rfl,q,g,z8,z9,A0,A1,(RepS.nil _ _)⟩)
     intro o5 i d;refine aF i ?_ ?_
     .intro A i;refine aX (aA 2 [(62,vP bp0 0),(63,vI y7.2.2.2.2)] (aL 64 i (oO (p0:=(a.1,a.2.1,a.2.2.1,a.2.2.2.1,a.2.2.2.2.1,a.2.2.2.2.2.1,a.2.2.2.2.2.2.1)) g.f3.f1 k4 k5 k6 k7) ?_));rintro Z i _ Y ⟨k,s,l,x,n,y,p,z,B,rfl,c,g,D,E,F,H⟩;refine aS rfl ?_;cases i;exact xE (d _ _ ⟨k,s,l,x,n,y,p,z,B,rfl,q.t c,g.f1.f3.f3.f3,D,E,F,H⟩)
     intro A i;refine aN ?_;cases i;exact xE (d _ _ ⟨d4,d8,d5,d9,S,U,d6,e0,h8,rfl,q,g.f3.f3.f3.f3,k4,k5,k6,k7⟩)
    intro K;refine bH 3 52 31 51 3 (vI a.2.2.2.1) g.h (aA 2 [(54,vB (a.2.2.2.1==0))] (bD 54 i ?_ ?_))
    .intro A i;refine bE 55 (.agg (V2 p1 a5 c5 a6 c6)) g u ?_;refine bH 1 57 3 56 0 (vI b.2.2.2.2.2.2.2) g.t.h (bH 1 59 9 58 1 (vT a.2.2.2.2.2.2.2) g.t.h (aL 60 i (SQ (p0:=p1) g M R) ?_));rintro k i _ l ⟨d,rfl,c,g⟩;refine aA 1 [(61,vB k)] ?_;cases i;exact aT _ kr (K _ _ ⟨d,rfl,q.t c,g.f3.f3.f3.f3,k4.mono c,k5.mono c,k6.mono c,k7.mono c⟩)
    intro A i;refine aA 7 [(61,vB false)] ?_;cases i;exact aT _ kr (K _ _ ⟨V,rfl,q,g.f3.f3.f3.f3,k4,k5,k6,k7⟩)
   intro a i d;refine aF i ?_ ?_
   .intro A i;refine aX (aA 1 [(43,vP bp0 0)] (aL 44 i (MG (p0:=y7.1) g.f1.f1 z4 z5 z6 z7) ?_));rintro Y i _ Z ⟨k,s,l,x,n,y,p,z,B,rfl,c,g,D,E,F,H⟩;refine aA 1 [(45,vP f 1)] (cU #[vI b.2.2.2.2.2.2.2,vT Y.2,va,v6] g.f2 fun a0 g=>(aS rfl ?_));cases i;exact xE (d _ _ ⟨k,s,l,x,n,y,p,z,B,rfl,(q.t v).t c,g.f2.f3.f2.f3,(u.mono v).mono c,(M.mono v).mono c,(R.mono v).mono c,D,E,F,H⟩)
   intro A i;refine aX (aA 1 [(46,vP bp0 0)] (aL 47 i (EO (p0:=y7.1) g.f1.f1 z4 z5 z6 z7) ?_));rintro Y i _ Z ⟨k,s,l,x,n,y,p,z,B,rfl,c,g,D,E,F,H⟩;refine aA 1 [(48,vP f 1)] (cU #[vI b.2.2.2.2.2.2.2,vT Y.2,va,v6] g.f2 fun a0 g=>(aS rfl ?_));cases i;exact xE (d _ _ ⟨k,s,l,x,n,y,p,z,B,rfl,(q.t v).t c,g.f2.f3.f2.f3,(u.mono v).mono c,(M.mono v).mono c,(R.mono v).mono c,D,E,F,H⟩)
  intro o2 i c;refine aF i ?_ ?_
  .intro A i;refine aX (aA 2 [(34,vP bp0 0),(35,vI y1.2.2.2.2)] (aL 36 i (oO (p0:=(b.1,b.2.1,b.2.2.1,b.2.2.2.1,b.2.2.2.2.1,b.2.2.2.2.2.1,b.2.2.2.2.2.2.1)) g.f3.f1 z0 z1 z2 z3) ?_));rintro H i _ F ⟨d,p,k,s,l,v,n,x,E,rfl,a,g,y,z,B,D⟩;refine aS rfl ?_;cases i;exact xE (c _ _ ⟨d,p,k,s,l,v,n,x,E,rfl,q.t a,g.f1.f3.f3.f3,u.mono a,M.mono a,R.mono a,y,z,B,D⟩)
  intro A i;refine aN ?_;cases i;exact xE (c _ _ ⟨k9,n7,l0,n8,g0,g9,l2,n9,m4,rfl,q,g.f3.f3.f3.f3,u,M,R,z0,z1,z2,z3⟩)
 intro l;refine aF i ?_ ?_
 .intro A i;refine aX (aA 1 [(19,vP f 0)] (cU #[vI 1,vT eB,va,v6] g.f2 fun a g=>(aS rfl ?_)));have n:=jG i;exact xE (l _ _ ⟨(y2.1.1,y2.1.2.1,y2.1.2.2.1,y2.1.2.2.2.1,y2.1.2.2.2.2.1,y2.1.2.2.2.2.2.1,y2.1.2.2.2.2.2.2,1),E6,F4,E7,F5,E8,F6,E9,F7,m3,n,rfl,((q.t G).t d0).t d1,g.f2.f3.f2.f3,u,M,R,x7,x8,x9,y0⟩)
 intro A i;refine aU 1 [(20,vP bp0 0)] ?_;refine aL 21 i (rZ (p0:=y2.1) g.f1.f1 x7 x8 x9 y0) ?_;rintro d i _ e6 ⟨E,b7,F,b8,H,b9,S,d2,m5,rfl,a,g,p,s,v,x⟩;have q:=(((q.t G).t d0).t d1).t a;refine aQ (aF i ?_ ?_)
 .intro A i;refine aX (aA 1 [(22,vP f 0)] (cU #[vI 2,vT eB,va,v6] g.f2 fun c g=>(aS rfl ?_)));have n:=jG i;exact xE (l _ _ ⟨(d.1.1,d.1.2.1,d.1.2.2.1,d.1.2.2.2.1,d.1.2.2.2.2.1,d.1.2.2.2.2.2.1,d.1.2.2.2.2.2.2,2),E,b7,F,b8,H,b9,S,d2,m5,n,rfl,q,g.f2.f3.f2.f3,u.mono a,M.mono a,R.mono a,p,s,v,x⟩)
 intro A i;refine aU 1 [(23,vP bp0 0)] ?_;refine aL 24 i (rZ (p0:=d.1) g.f1.f1 p s v x) ?_;rintro k i _ e7 ⟨U,d3,V,d4,Y,d5,Z,d6,m6,rfl,c,g,y,z,B,D⟩;refine aQ (aF i ?_ ?_)
 .intro A i;refine aX (aA 1 [(25,vP f 0)] (cU #[vI 3,vT eB,va,v6] g.f2 fun a0 g=>(aS rfl ?_)));have n:=jG i;exact xE (l _ _ ⟨(k.1.1,k.1.2.1,k.1.2.2.1,k.1.2.2.2.1,k.1.2.2.2.2.1,k.1.2.2.2.2.2.1,k.1.2.2.2.2.2.2,3),U,d3,V,d4,Y,d5,Z,d6,m6,n,rfl,q.t c,g.f2.f3.f2.f3,(u.mono a).mono c,(M.mono a).mono c,(R.mono a).mono c,y,z,B,D⟩)
 intro A i;refine aU 2 [(26,vP bp0 0),(27,vI y1.2.2.2.2)] ?_;refine aL 28 i (oO (p0:=k.1) g.f1.f1 y z B D) ?_;rintro y5 i _ e8 ⟨a0,d7,b0,d8,b5,d9,b6,e0,m7,rfl,n,g,e1,e2,e4,e5⟩;refine aQ (aC (bO 29 (.agg #[vI 0,vT eB,va,v6]) g.t.t.h (cD (.agg #[vI 0,vT eB,va,v6]) g.f3 fun e9 g=>(aQ (aM ?_)))));cases i;have i:=j1;refine aK ?_;cases i;refine iW 4 38 [] [] g.h ?_;have g:=(g.nilroom 9 1).front1;exact⟨a0,d7,b0,d8,b5,d9,b6,e0,none,0,none,0,m7,rfl,(q.t c).t n,g.t.f3.t.f2.f2.f2,e1,e2,e4,e5,(RepS.nil _ _),(RepS.nil _ _)⟩
def pC(N:Nat)(y5:AN)(a:sN):Option (sN⊕sN):=
 (if(a.2.2.2.1==0)=true then((eR N (a.1,a.2.1,a.2.2.1,a.2.2.2.1,a.2.2.2.2.1,a.2.2.2.2.2.1,a.2.2.2.2.2.2.1)).bind fun b=>if(b.2.1==1)=true then((eR N b.1).bind fun c=>some ((c.2.2.1.toList==(⟨#[105,109,112,111,114,116]⟩:BA).toList),c.1.1,c.1.2.1,c.1.2.2.1,c.1.2.2.2.1,c.1.2.2.2.2.1,c.1.2.2.2.2.2.1,c.1.2.2.2.2.2.2)) else(some (false,b.1.1,b.1.2.1,b.1.2.2.1,b.1.2.2.2.1,b.1.2.2.2.2.1,b.1.2.2.2.2.2.1,b.1.2.2.2.2.2.2))) else(some (false,a.1,a.2.1,a.2.2.1,a.2.2.2.1,a.2.2.2.2.1,a.2.2.2.2.2.1,a.2.2.2.2.2.2.1)):AO).bind fun c=>if c.1=true then((if((List.length a.2.2.2.2.2.2.2:Int)==8)=true then((eR N c.2).bind fun b=>(eW N b.1 b.2.2.2.2 2).bind fun b=>some b) else(some c.2):pX).bind fun b=>(eR N (b.1,IntKind.wrap .i64 (b.2.1+1),b.2.2.1,b.2.2.2.1,b.2.2.2.2.1,b.2.2.2.2.2.1,b.2.2.2.2.2.2)).bind fun b=>(mL N b.1).bind fun d=>(if(d.1.2.2.2.1==0)=true then(if(d.2.toList==y5.2.toList)=true then(some true) else((pO N a.2.2.2.2.2.2.2 d.2).bind fun e=>some e)) else(some false):Tj).bind fun e=>(if e=true then((eW N d.1 b.2.2.2.2 10).bind fun b=>some b) else(some d.1):pX).bind fun b=>(eM N b (⟨#[59]⟩:BA)).bind fun b=>(cP 16 a.2.2.2.2.2.2.2 ([d.2])).bind fun d=>some (.inl (b.1,b.2.1,b.2.2.1,b.2.2.2.1,b.2.2.2.2.1,b.2.2.2.2.2.1,b.2.2.2.2.2.2,d))) else(some (.inr (c.2.1,c.2.2.1,c.2.2.2.1,c.2.2.2.2.1,c.2.2.2.2.2.1,c.2.2.2.2.2.2.1,c.2.2.2.2.2.2.2,a.2.2.2.2.2.2.2)))
def qJ(N:Nat)(y5:AN)(o2:sN)(a:IZ):Option (IZ⊕IZ):=
 (if(a.2.2.2.1==0)=true then((eR N (a.1,a.2.1,a.2.2.1,a.2.2.2.1,a.2.2.2.2.1,a.2.2.2.2.2.1,a.2.2.2.2.2.2.1)).bind fun b=>some (b.2.1 !=5,b.1.1,b.1.2.1,b.1.2.2.1,b.1.2.2.2.1,b.1.2.2.2.2.1,b.1.2.2.2.2.2.1,b.1.2.2.2.2.2.2)) else(some (false,a.1,a.2.1,a.2.2.1,a.2.2.2.1,a.2.2.2.2.1,a.2.2.2.2.2.1,a.2.2.2.2.2.2.1)):AO).bind fun c=>if c.1=true then((EV N c.2 (y5.2,o2.2.2.2.2.2.2.2,a.2.2.2.2.2.2.2)).bind fun b=>(cP 72 a.2.2.2.2.2.2.2 ([b.2])).bind fun d=>some (.inl (b.1.1,b.1.2.1,b.1.2.2.1,b.1.2.2.2.1,b.1.2.2.2.2.1,b.1.2.2.2.2.2.1,b.1.2.2.2.2.2.2,d))) else(some (.inr (c.2.1,c.2.2.1,c.2.2.2.1,c.2.2.2.2.1,c.2.2.2.2.2.1,c.2.2.2.2.2.2.1,c.2.2.2.2.2.2.2,a.2.2.2.2.2.2.2)))
def FU(N:Nat)(p0:BA):Option T1x:=
 (FR N p0).bind fun y1=>if(y1.2.2 !=0)=true then(some (((⟨#[]⟩:BA),([]:Te),([]:Tn)),y1.2.1,y1.2.2)) else((nX N (y1.1,0,0,0,([]:Te),([]:Tg),([]:Tb)) (⟨#[112,97,99,107,97,103,101]⟩:BA)).bind fun a=>(if(!a.2)=true then((eR N a.1).bind fun b=>(eW N b.1 b.2.2.2.2 9).bind fun b=>some b) else(some a.1):pX).bind fun a=>(mL N a).bind fun y5=>(eM N y5.1 (⟨#[59]⟩:BA)).bind fun a=>(aI (pC N y5) N (a.1,a.2.1,a.2.2.1,a.2.2.2.1,a.2.2.2.2.1,a.2.2.2.2.2.1,a.2.2.2.2.2.2,([]:Te))).bind fun o2=>(aI (qJ N y5 o2) N (o2.1,o2.2.1,o2.2.2.1,o2.2.2.2.1,o2.2.2.2.2.1,o2.2.2.2.2.2.1,o2.2.2.2.2.2.2.1,([]:Tn))).bind fun a=>if(a.2.2.2.1 !=0)=true then(some (((⟨#[]⟩:BA),([]:Te),([]:Tn)),a.2.2.1,a.2.2.2.1)) else(some ((y5.2,o2.2.2.2.2.2.2.2,a.2.2.2.2.2.2.2),0,0)))
theorem qCr{p0:BA}{r:T1x}(g:St m (O) w)(i:FU N p0=some r):Calls prog 44 #[vT p0] w fun e w'=>∃k7 k9 k8 l0 m',e= .returned (.tuple #[.agg (V2 r.1 k7 k9 k8 l0),vI r.2.1,vI r.2.2])/\m.le m'/\St m' (kR k7 r.1.2.1 k9 9 1::kR k8 r.1.2.2 l0 38 4::O) w'/\P2 m' k7 k9 k8 l0 r.1.2:=by
 unfold FU at i;have q:=m.le_refl;refine bI func44 rfl ntmps44 ?_;refine aC (cY 2 29 (.agg #[vT eB,v8,v8]) g fun o w1 g=>(aG 2 [] (aC (aA 1 [(10,vT p0)] (aL 11 i (qCk g) ?_)))));rintro y1 i _ w2 ⟨a1,c1,m1,rfl,n3,g,r1⟩;have q:=q.t n3;refine aG 7 [(5,vS a1 y1.1 c1),(3,vI y1.2.1),(4,vI y1.2.2)] (aE (aB 2 [(16,vB (y1.2.2 !=0))] (aF i ?_ ?_)))
 .intro A i;refine aC (bO 17 (.agg #[vT eB,va,vb]) g.t.h (aA 2 [(18,vI y1.2.1),(19,vI y1.2.2)] (cD (.agg #[vT eB,va,vb]) g.f1 fun a g=>(aA 2 [(3,vI y1.2.1),(4,vI y1.2.2)] (aS rfl ?_)))));have g:=g.f1.t;refine aD (aM (aK ?_));cases i;refine iW 2 29 [3,4] [vI y1.2.1,vI y1.2.2] g.h ?_;have g:=(g.nilroom 9 1).nilroom 38 4;exact⟨none,0,none,0,m1,rfl,q,g.f2.t.f1,(RepS.nil _ _),(RepS.nil _ _)⟩
 intro A i;refine aN (aD (aU 2 [(21,.agg #[vS a1 y1.1 c1,vI 0,vI 0,vI 0,va,v6,v7])] (bB rfl (LR 22 101 21 (.agg #[vS a1 y1.1 c1,vI 0,vI 0,vI 0,va,v6,v7]) g fun a w4 g=>(aG 1 [(6,vP a 0)] (aE (aU 1 [(23,vP a 0)] ?_)))))));have g:=(g.nilroom 49 5).front1;refine aL 24 i (rZ (p0:=(y1.1,0,0,0,([]:Te),([]:Tg),([]:Tb))) g r1 (RepS.nil _ _) (RepS.nil _ _) (RepS.nil _ _)) ?_;rintro y2 i _ w5 ⟨a2,c2,a3,c3,a4,c4,a5,c5,m3,rfl,h9,g,r2,r3,r4,r5⟩;refine aA 1 [(25,vB (!y2.2))] (aS rfl ?_);have g:=g.f2.t;refine aD (cI .normal i (fun o1 L' w'=>∃a6 c6 a7 c7 a8 c8 a9 c9 m4,L'=[(2,vP o 0),(6,vP a 0)]/\m.le m4/\St m4 (kB a (Vc o1 a6 c6 a7 c7 a8 c8 a9 c9) 101::kB o #[vT eB,va,vb] 29::kR a8 o1.2.2.2.2.2.1 c8 49 5::O) w'/\P4 m4 a6 c6 a7 c7 a8 c8 a9 c9 o1) ?_ ?_)
 .rintro o1 i _ w6 ⟨a6,c6,a7,c7,a8,c8,a9,c9,m4,rfl,q,g,r6,r7,r8,r9⟩;refine aD (aU 1 [(31,vP a 0)] (aL 32 i (EO (p0:=o1) g.f2.f1 r6 r7 r8 r9) ?_));rintro y5 i _ w9 ⟨v1,x4,v2,x6,v3,x7,v4,x8,m7,rfl,n4,g,s0,s3,s4,s5⟩;refine aA 1 [(33,vP o 0)] (cU #[vT y5.2,va,vb] g.f2 fun z6 g=>(aQ (aC (aA 1 [(34,vP a 0)] (aL 35 i (pY (p0:=y5.1) g.f2.f2 s0 s3 s4 s5) ?_)))));rintro y6 i _ z7 ⟨n6,q2,n7,q3,n8,q4,n9,q5,m8,rfl,n5,g,s6,s7,s8,s9⟩;refine aQ (aE (aZ (cI (.exit 0) i (fun V L' w'=>∃(o2:sN),∃d4 e6 d5 e7 Y b7 d6 e8 k l m9,o2=V/\L'=[(2,vP o 0),(6,vP a 0)]/\m.le m9/\St m9 (kB a (Vd d4 o2.1 e6 o2.2.1 o2.2.2.1 o2.2.2.2.1 d5 o2.2.2.2.2.1 e7 Y o2.2.2.2.2.2.1 b7 d6 o2.2.2.2.2.2.2.1 e8) 101::kB o #[vT y5.2,vS k o2.2.2.2.2.2.2.2 l,vb] 29::kR Y o2.2.2.2.2.2.1 b7 49 5::kR k o2.2.2.2.2.2.2.2 l 9 1::O) w'/\P6 m9 d4 e6 d5 e7 Y b7 d6 e8 k l o2) ?_ ?_)))
  .rintro V i _ q7 ⟨o2,d4,e6,d5,e7,Y,b7,d6,e8,k,l,m9,rfl,rfl,q,g,n1,n2,o0,o9,B⟩;refine cM (aD (aE (aZ (cI (.exit 2) i (fun M L' w'=>∃(c:IZ),∃b8 e0 b9 e1 R Z d0 e2 F G p,c=M/\L'=[(2,vP o 0),(6,vP a 0)]/\m.le p/\St p (kB a (Vd b8 c.1 e0 c.2.1 c.2.2.1 c.2.2.2.1 b9 c.2.2.2.2.1 e1 R c.2.2.2.2.2.1 Z d0 c.2.2.2.2.2.2.1 e2) 101::kB o #[vT y5.2,vS k o2.2.2.2.2.2.2.2 l,vS F c.2.2.2.2.2.2.2 G] 29::kR k o2.2.2.2.2.2.2.2 l 9 1::kR R c.2.2.2.2.2.1 Z 49 5::kR F c.2.2.2.2.2.2.2 G 38 4::O) w'/\RepS C5 p b8 e0 c.1/\RepS aH p b9 e1 c.2.2.2.2.1/\RepS C2 p R Z c.2.2.2.2.2.1/\RepS (aV .i64) p d0 e2 c.2.2.2.2.2.2.1/\RepS aH p k l o2.2.2.2.2.2.2.2/\RepS C3 p F G c.2.2.2.2.2.2.2) ?_ ?_))))
   .rintro M i _ x ⟨c,b8,e0,b9,e1,R,Z,d0,e2,F,G,p,rfl,rfl,q,g,n,s,u,v,B,f⟩;refine cM (aD (aE (aC (bH 3 124 31 123 3 (vI c.2.2.2.1) g.h (aG 1 [(125,vB (c.2.2.2.1 !=0))] (aF i ?_ ?_))))))
    .intro A i;refine aE (eI [(12,fun w'=>Inv p w'/\Piece.holds p w' (kB a (Vd b8 c.1 e0 c.2.1 c.2.2.1 c.2.2.2.1 b9 c.2.2.2.2.1 e1 R c.2.2.2.2.2.1 Z d0 c.2.2.2.2.2.2.1 e2) 101)/\True)] kr g fun y _ g=> ?_);have b:=p.le_refl;refine⟨⟨.inr ⟨Inv.anti g.inv b,Piece.holds_anti g.h b,trivial⟩,trivial⟩,?_⟩;refine aO 0 126 (.agg #[vT eB,va,vb]) (.head _) (aO 1 127 (vP a 0) (.head _) (aO 2 128 (vP a 0) (.head _) (aO 3 129 (vP a 2) (.head _) (dI 3 129 4 130 2 (vI c.2.2.1) (.head _) (fun _ h=>h.2.1) (aO 5 131 (vP a 0) (.head _) (aO 6 132 (vP a 0) (.head _) (aO 7 133 (vP a 3) (.head _) (dI 31 133 8 134 3 (vI c.2.2.2.1) (.head _) (fun _ h=>h.2.1) (cA 9 kr (vG 29 2 126 (.agg #[vT eB,va,vb]) g.f1 fun z g=>(⟨⟨.inr ⟨Inv.anti g.inv b,Piece.holds_anti g.t.h b,trivial⟩,trivial⟩,?_⟩)))))))))));refine aO 10 3 (vI c.2.2.1) (.head _) (aO 11 4 (vI c.2.2.2.1) (.head _) (dU kr ?_));have g:=g.f2.t.f3.t;refine aD (aM (aK ?_));cases i;refine iW 2 29 [3,4] [vI c.2.2.1,vI c.2.2.2.1] g.h ?_;have g:=(g.nilroom 9 1).nilroom 38 4;exact⟨none,0,none,0,p,rfl,q,g.f2.t.f2.t.f2.t.f1,(RepS.nil _ _),(RepS.nil _ _)⟩
    intro A i;refine aN (aD (aC (bO 135 (.agg #[vT y5.2,vS k o2.2.2.2.2.2.2.2 l,vS F c.2.2.2.2.2.2.2 G]) g.t.h (cD (.agg #[vT y5.2,vS k o2.2.2.2.2.2.2.2 l,vS F c.2.2.2.2.2.2.2 G]) g.f1 fun b g=>(aG 2 [(3,vI 0),(4,vI 0)] (aM ?_))))));cases i;refine iW 2 29 [3,4] [vI 0,vI 0] g.h ?_;exact⟨k,l,F,G,p,rfl,q,g.t.t.f1.t.f1.f1,B,f⟩
   intro M i g3;have g:=(g.nilroom 38 4).front3.front4.front4.front4;refine cK _ kr (cJ (fun k2 L' w'=>∃(f:IZ),∃d1 e4 d2 e5 S a0 d3 e9 v x z,aI (qJ N y5 o2) k2 f=some M/\L'=[(2,vP o 0),(6,vP a 0)]/\m.le z/\St z (kB a (Vd d1 f.1 e4 f.2.1 f.2.2.1 f.2.2.2.1 d2 f.2.2.2.2.1 e5 S f.2.2.2.2.2.1 a0 d3 f.2.2.2.2.2.2.1 e9) 101::kB o #[vT y5.2,vS k o2.2.2.2.2.2.2.2 l,vS v f.2.2.2.2.2.2.2 x] 29::kR k o2.2.2.2.2.2.2.2 l 9 1::kR S f.2.2.2.2.2.1 a0 49 5::kR v f.2.2.2.2.2.2.2 x 38 4::O) w'/\RepS C5 z d1 e4 f.1/\RepS aH z d2 e5 f.2.2.2.2.1/\RepS C2 z S a0 f.2.2.2.2.2.1/\RepS (aV .i64) z d3 e9 f.2.2.2.2.2.2.1/\RepS aH z k l o2.2.2.2.2.2.2.2/\RepS C3 z v x f.2.2.2.2.2.2.2) N ⟨(o2.1,o2.2.1,o2.2.2.1,o2.2.2.2.1,o2.2.2.2.2.1,o2.2.2.2.2.2.1,o2.2.2.2.2.2.2.1,([]:Tn)),d4,e6,d5,e7,Y,b7,d6,e8,none,0,m9,i,rfl,q,g,n1,n2,o0,o9,B,(RepS.nil _ _)⟩ ?_);rintro k2 _ q8 ⟨f,d1,e4,d2,e5,S,a0,d3,e9,v,x,z,hL,rfl,q,g,g4,g5,g6,g7,B,H⟩;rcases k2 with _|k2
   .exact cN hL
   obtain⟨q6,i,k0,h8⟩:=cO hL;clear hL;unfold qJ at i;refine aE (aC (dK 11 i (fun y L' w'=>∃d7 f0 d8 f7 U b0 d9 f8 s,L'=[(2,vP o 0),(6,vP a 0),(112,vB y.1)]/\m.le s/\St s (kB a (Vc y.2 d7 f0 d8 f7 U b0 d9 f8) 101::kB o #[vT y5.2,vS k o2.2.2.2.2.2.2.2 l,vS v f.2.2.2.2.2.2.2 x] 29::kR k o2.2.2.2.2.2.2.2 l 9 1::kR v f.2.2.2.2.2.2.2 x 38 4::kR U y.2.2.2.2.2.2.1 b0 49 5::O) w'/\RepS C5 s d7 f0 y.2.1/\RepS aH s d8 f7 y.2.2.2.2.2.1/\RepS C2 s U b0 y.2.2.2.2.2.2.1/\RepS (aV .i64) s d9 f8 y.2.2.2.2.2.2.2/\RepS aH s k l o2.2.2.2.2.2.2.2/\RepS C3 s v x f.2.2.2.2.2.2.2) ?_ ?_))
   .rintro y i _ q9 ⟨d7,f0,d8,f7,U,b0,d9,f8,s,rfl,q,g,g8,g9,h0,h1,B,H⟩;refine aQ (aF i ?_ ?_)
    .intro A i;refine aN (aD (aZ (eI [(9,fun w'=>Inv s w'/\True),(8,fun w'=>Inv s w'/\Piece.holds s w' (kB o #[vT y5.2,vS k o2.2.2.2.2.2.2.2 l,vS v f.2.2.2.2.2.2.2 x] 29)/\True)] kr g fun r0 _ g=> ?_)));have b:=s.le_refl;refine⟨⟨iA g b,⟨.inr ⟨Inv.anti g.inv b,Piece.holds_anti g.t.h b,trivial⟩,trivial⟩⟩,?_⟩;refine aO 0 113 (vP o 2) (.head _) (dI 27 113 1 114 2 (vS v f.2.2.2.2.2.2.2 x) (.tail _ (.head _)) (fun _ h=>h.2.1) (aO 2 115 (vP a 0) (.head _) (dI 29 2 3 116 0 (.agg #[vT y5.2,vS k o2.2.2.2.2.2.2.2 l,vS v f.2.2.2.2.2.2.2 x]) (.tail _ (.head _)) (fun _ h=>h.2.1) (cA 4 kr (iC 117 i (fun _ h=>qBw (p0:=y.2) (p1:=(y5.2,o2.2.2.2.2.2.2.2,f.2.2.2.2.2.2.2)) g.f4.f1 g8 g9 h0 h1 B H h) ?_)))));rintro D i _ t0 ⟨l8,l9,h2,h5,h3,h6,h4,h7,f9,g1,g0,g2,q0,rfl,E,g,k4,k5,k6,l3,l4,l5⟩;refine⟨_,rfl,?_⟩;have b:=Mem.le_trans b E;refine⟨⟨iA g b,⟨.inr ⟨Inv.anti g.inv b,Piece.holds_anti g.t.t.t.h b,trivial⟩,trivial⟩⟩,?_⟩;refine cA 5 kr (lK (d:=118) (t:=27) (e:=38) (len:=1) (parts:= #[(0,(.tmp 117))]) C3 (xs:=[D.2]) (V7 D.2 f9 g1 g0 g2) kr rfl (fun _=>lD kr _) rfl rfl g ⟨(V7 D.2 f9 g1 g0 g2),_,rfl,⟨_,_,rfl,rfl,⟨_,_,rfl,rfl,⟨_,_,rfl,(iD l4),(iD l5)⟩⟩⟩,rfl⟩ fun b4 q1 t3 n g l6=> ?_);have b:=Mem.le_trans b n
     refine⟨⟨iA g b,⟨.inr ⟨Inv.anti g.inv b,Piece.holds_anti g.t.t.t.t.h b,trivial⟩,trivial⟩⟩,?_⟩;refine cA 6 kr (uY 119 27 27 38 72 114 118 g.f6 (.inl kr) ((H.mono E).mono n) l6.src i fun l2 i b5 b6 n0 t4 u g l7=> ?_);have b:=Mem.le_trans b u;refine⟨⟨iA g b,⟨.inr ⟨Inv.anti g.inv b,Piece.holds_anti g.t.t.t.t.t.h b,trivial⟩,trivial⟩⟩,?_⟩;refine aO 7 120 (vP o 2) (.head _) (cA 8 kr (zW 27 120 119 2 (vS b5 l2 b6) #[vT y5.2,vS k o2.2.2.2.2.2.2.2 l,vS b5 l2 b6] g.f5 fun t5 g=>(⟨⟨iA g b,⟨.inl rfl,trivial⟩⟩,?_⟩)));refine dU kr ?_;have g:=g.f2.t.f2.t;refine bG ?_;have hL:=k0 _ (sI i);exact xE (cF ⟨(D.1.1,D.1.2.1,D.1.2.2.1,D.1.2.2.2.1,D.1.2.2.2.2.1,D.1.2.2.2.2.2.1,D.1.2.2.2.2.2.2,l2),l8,l9,h2,h5,h3,h6,h4,h7,b5,b6,n0,hL,rfl,((q.t E).t n).t u,g.f1.f3.f4.f3.f4,(k4.mono n).mono u,(k5.mono n).mono u,(k6.mono n).mono u,(l3.mono n).mono u,((B.mono E).mono n).mono u,l7⟩)
    intro A i;refine cG (bF ?_);have ho:=h8 _ (sI i);have g:=g.f3.f4.f4.f4.f4;refine bF ?_;exact xE (g3 _ _ ⟨(y.2.1,y.2.2.1,y.2.2.2.1,y.2.2.2.2.1,y.2.2.2.2.2.1,y.2.2.2.2.2.2.1,y.2.2.2.2.2.2.2,f.2.2.2.2.2.2.2),d7,f0,d8,f7,U,b0,d9,f8,v,x,s,ho,rfl,q,g,g8,g9,h0,h1,B,H⟩)
   intro y i K;refine bH 3 105 31 104 3 (vI f.2.2.2.1) g.h (aA 2 [(107,vB (f.2.2.2.1==0))] (bD 107 i ?_ ?_))
   .intro A i;refine aA 1 [(108,vP a 0)] (aL 109 i (lV (p0:=(f.1,f.2.1,f.2.2.1,f.2.2.2.1,f.2.2.2.2.1,f.2.2.2.2.2.1,f.2.2.2.2.2.2.1)) g.f3.f1 g4 g5 g6 g7) ?_);rintro h1 i _ h2 ⟨n,b5,u,b6,D,f9,E,g0,g1,rfl,b,g,g2,g8,g9,h0⟩;refine aA 3 [(112,vB (h1.2.1 !=5))] ?_;cases i;exact aT _ kr (K _ _ ⟨n,b5,u,b6,D,f9,E,g0,g1,rfl,q.t b,g.f1.f4.f4.f4.f4,g2,g8,g9,h0,B.mono b,H.mono b⟩)
   intro A i;refine aA 5 [(112,vB false)] ?_;cases i;exact aT _ kr (K _ _ ⟨d1,e4,d2,e5,S,a0,d3,e9,z,rfl,q,g.f3.f4.f4.f4.f4,g4,g5,g6,g7,B,H⟩)
  intro V i l3;have g:=(g.nilroom 9 1).front2.front3.front3;refine cK _ kr (cJ (fun k1 L' w'=>∃(b:sN),∃d7 e9 d8 f0 Z b8 d9 f7 c f d3,aI (pC N y5) k1 b=some V/\L'=[(2,vP o 0),(6,vP a 0)]/\m.le d3/\St d3 (kB a (Vd d7 b.1 e9 b.2.1 b.2.2.1 b.2.2.2.1 d8 b.2.2.2.2.1 f0 Z b.2.2.2.2.2.1 b8 d9 b.2.2.2.2.2.2.1 f7) 101::kB o #[vT y5.2,vS c b.2.2.2.2.2.2.2 f,vb] 29::kR Z b.2.2.2.2.2.1 b8 49 5::kR c b.2.2.2.2.2.2.2 f 9 1::O) w'/\P6 d3 d7 e9 d8 f0 Z b8 d9 f7 c f b) N ⟨(y6.1,y6.2.1,y6.2.2.1,y6.2.2.2.1,y6.2.2.2.2.1,y6.2.2.2.2.2.1,y6.2.2.2.2.2.2,([]:Te)),n6,q2,n7,q3,n8,q4,n9,q5,none,0,m8,i,rfl,(q.t n4).t n5,g,s6,s7,s8,s9,(RepS.nil _ _)⟩ ?_);rintro k1 _ z8 ⟨b,d7,e9,d8,f0,Z,b8,d9,f7,c,f,d3,hL,rfl,q,g,l7,l8,l9,n0,n⟩;rcases k1 with _|k1
  .exact cN hL
  obtain⟨z5,i,n2,n1⟩:=cO hL;clear hL;unfold pC at i;refine aE (aC ?_);have⟨x,i,J⟩:=aW i;refine sH (j:=17) (fun L' w'=>∃a0 b9 b0 d0 F G b5 d1 v,L'=[(2,vP o 0),(6,vP a 0),(52,vB x.1)]/\m.le v/\St v (kB a (Vc x.2 a0 b9 b0 d0 F G b5 d1) 101::kB o #[vT y5.2,vS c b.2.2.2.2.2.2.2 f,vb] 29::kR c b.2.2.2.2.2.2.2 f 9 1::kR F x.2.2.2.2.2.2.1 G 49 5::O) w'/\RepS C5 v a0 b9 x.2.1/\RepS aH v b0 d0 x.2.2.2.2.2.1/\RepS C2 v F G x.2.2.2.2.2.2.1/\RepS (aV .i64) v b5 d1 x.2.2.2.2.2.2.2/\RepS aH v c f b.2.2.2.2.2.2.2) ?_ ?_
  .have i:=J;rintro _ z9 ⟨a0,b9,b0,d0,F,G,b5,d1,v,rfl,q,g,k0,k4,k5,k6,n⟩;refine aQ (aF i ?_ ?_)
   .intro A i;refine aN (aD (aZ (aE (aC (bH 1 54 26 53 1 (vS c b.2.2.2.2.2.2.2 f) g.t.h (aG 2 [(56,vB ((b.2.2.2.2.2.2.2.length:Int)==8))] (cI .normal i (fun s L' w'=>∃e0 f8 e1 f9 b6 d2 e2 g0 B,L'=[(2,vP o 0),(6,vP a 0)]/\m.le B/\St B (kB a (Vc s e0 f8 e1 f9 b6 d2 e2 g0) 101::kB o #[vT y5.2,vS c b.2.2.2.2.2.2.2 f,vb] 29::kR c b.2.2.2.2.2.2.2 f 9 1::kR b6 s.2.2.2.2.2.1 d2 49 5::O) w'/\RepS C5 B e0 f8 s.1/\RepS aH B e1 f9 s.2.2.2.2.1/\RepS C2 B b6 d2 s.2.2.2.2.2.1/\RepS (aV .i64) B e2 g0 s.2.2.2.2.2.2/\RepS aH B c f b.2.2.2.2.2.2.2) ?_ ?_)))))))
    .rintro s i _ A0 ⟨e0,f8,e1,f9,b6,d2,e2,g0,B,rfl,q,g,t0,t3,t4,t5,n⟩;refine aD (aU 3 [(62,vP a 0),(64,vP a 1)] (bO 65 (vI s.2.1) g.h (aA 3 [(66,vI (wr (s.2.1+1))),(68,vP a 1)] (cU (Vd e0 s.1 f8 (wr (s.2.1+1)) s.2.2.1 s.2.2.2.1 e1 s.2.2.2.2.1 f9 b6 s.2.2.2.2.2.1 d2 e2 s.2.2.2.2.2.2 g0) g fun A1 g=>(aQ (aC (aA 1 [(69,vP a 0)] (aL 70 i (lV (p0:=(s.1,wr (s.2.1+1),s.2.2.1,s.2.2.2.1,s.2.2.2.2.1,s.2.2.2.2.2.1,s.2.2.2.2.2.2)) g.f3.f1 t0 t3 t4 t5) ?_))))))));rintro g6 i _ A2 ⟨v5,x9,v9,y0,x2,z0,x3,z1,z2,rfl,g3,g,t6,t7,t8,t9⟩;refine aG 2 [(7,vI g6.2.2.2.2)] (aC (aA 1 [(72,vP a 0)] (aL 73 i (EO (p0:=g6.1) g.f1.f1 t6 t7 t8 t9) ?_)));rintro p i _ A3 ⟨g7,h3,g8,h4,e4,g1,g9,h5,l6,rfl,g4,g,H,M,R,S⟩;have q:=(q.t g3).t g4;have n:=(n.mono g3).mono g4;refine aG 1 [(8,vT p.2)] (aE (aC (dK 17 i (fun o5 L' w'=>∃z,L'=[(2,vP o 0),(6,vP a 0),(7,vI g6.2.2.2.2),(8,vT p.2),(90,vB o5)]/\m.le z/\St z (kB a (Vc p.1 g7 h3 g8 h4 e4 g1 g9 h5) 101::kB o #[vT y5.2,vS c b.2.2.2.2.2.2.2 f,vb] 29::kR e4 p.1.2.2.2.2.2.1 g1 49 5::kR c b.2.2.2.2.2.2.2 f 9 1::O) w'/\RepS C5 z g7 h3 p.1.1/\RepS aH z g8 h4 p.1.2.2.2.2.1/\RepS C2 z e4 g1 p.1.2.2.2.2.2.1/\RepS (aV .i64) z g9 h5 p.1.2.2.2.2.2.2/\RepS aH z c f b.2.2.2.2.2.2.2) ?_ ?_)))
     .rintro o5 i _ A4 ⟨z,rfl,q,g,H,M,R,S,n⟩;refine aQ (cI .normal i (fun U L' w'=>∃h0 h6 h1 h7 e5 g2 h2 h8 D,L'=[(2,vP o 0),(6,vP a 0),(8,vT p.2)]/\m.le D/\St D (kB a (Vc U h0 h6 h1 h7 e5 g2 h2 h8) 101::kB o #[vT y5.2,vS c b.2.2.2.2.2.2.2 f,vb] 29::kR c b.2.2.2.2.2.2.2 f 9 1::kR e5 U.2.2.2.2.2.1 g2 49 5::O) w'/\RepS C5 D h0 h6 U.1/\RepS aH D h1 h7 U.2.2.2.2.1/\RepS C2 D e5 g2 U.2.2.2.2.2.1/\RepS (aV .i64) D h2 h8 U.2.2.2.2.2.2/\RepS aH D c f b.2.2.2.2.2.2.2) ?_ ?_)
      .rintro U i _ A5 ⟨h0,h6,h1,h7,e5,g2,h2,h8,D,rfl,q,g,u0,u1,u2,u3,n⟩;refine aD (aU 1 [(94,vP a 0)] (aL 95 i (pY (p0:=U) g.f3.f1 u0 u1 u2 u3) ?_));rintro E i _ A6 ⟨o0,q6,o9,q7,q0,q8,q1,q9,z3,rfl,g5,g,u4,u5,u6,u7⟩;refine aQ (aX (bH 1 97 26 96 1 (vS c b.2.2.2.2.2.2.2 f) g.t.t.h (aA 1 [(98,vT p.2)] (eX 99 9 1 aH [p.2] g fun b3 z4 A7 u g u9=>(iT 100 26 26 9 16 97 99 g.f4 (.inl kr) ((n.mono g5).mono u) u9.src i fun l1 i l4 l5 r0 A8 y g v0=>(aA 1 [(101,vP o 1)] (cU #[vT y5.2,vS l4 l1 l5,vb] g.f4 fun A9 g=>(aS rfl ?_))))))));have g:=g.f2.t;refine bG ?_;have hL:=n2 _ (sI i);exact xE (cF ⟨(E.1,E.2.1,E.2.2.1,E.2.2.2.1,E.2.2.2.2.1,E.2.2.2.2.2.1,E.2.2.2.2.2.2,l1),o0,q6,o9,q7,q0,q8,q1,q9,l4,l5,r0,hL,rfl,((q.t g5).t u).t y,g.f1.f3.f2.f3,(u4.mono u).mono y,(u5.mono u).mono y,(u6.mono u).mono y,(u7.mono u).mono y,v0⟩)
      intro U i y;refine aF i ?_ ?_
      .intro A i;refine aX (aA 2 [(91,vP a 0),(92,vI g6.2.2.2.2)] (aL 93 i (oO (p0:=p.1) g.f2.f1 H M R S) ?_));rintro u1 i _ u0 ⟨E,o0,g5,o9,l4,q0,l5,q1,q6,rfl,u,g,q7,q8,q9,r0⟩;refine aS rfl ?_;cases i;exact xE (y _ _ ⟨E,o0,g5,o9,l4,q0,l5,q1,q6,rfl,q.t u,g.f1.f3.f3.f3,q7,q8,q9,r0,n.mono u⟩)
      intro A i;refine aN ?_;cases i;exact xE (y _ _ ⟨g7,h3,g8,h4,e4,g1,g9,h5,z,rfl,q,g.f2.f3.f3.f3,H,M,R,S,n⟩)
     intro o5 i K;refine bH 3 77 31 76 3 (vI p.1.2.2.2.1) g.h (aA 2 [(79,vB (p.1.2.2.2.1==0))] (bD 79 i ?_ ?_))
     .intro A i;refine aA 2 [(80,vT p.2),(81,vP o 0)] (bO 82 (vT y5.2) g.t.t.h (aA 2 [(84,vB (p.2.toList==y5.2.toList))] (bD 84 i ?_ ?_)))
      .intro A i;refine aA 6 [(90,vB true)] ?_;cases i;exact aT _ kr (K _ _ ⟨l6,rfl,q,g.f3.f2.f3.f3,H,M,R,S,n⟩)
      intro A i;refine bH 1 86 26 85 1 (vS c b.2.2.2.2.2.2.2 f) g.t.t.h (aA 1 [(87,vT p.2)] (aL 88 i (JT g n) ?_));rintro D i _ E ⟨y,rfl,u,g⟩;refine aA 2 [(90,vB D)] ?_;cases i;exact aT _ kr (K _ _ ⟨y,rfl,q.t u,g.f3.f2.f3.f3,H.mono u,M.mono u,R.mono u,S.mono u,n.mono u⟩)
     intro A i;refine aA 11 [(90,vB false)] ?_;cases i;exact aT _ kr (K _ _ ⟨l6,rfl,q,g.f3.f2.f3.f3,H,M,R,S,n⟩)
    intro s i y;refine aF i ?_ ?_
    .intro A i;refine aX (aA 2 [(57,vP a 0),(58,vP a 0)] (aL 59 i (lV (p0:=x.2) g.f3.f1 k0 k4 k5 k6) ?_));rintro y9 i _ h7 ⟨g8,h2,g9,h3,h0,h4,h1,h5,h6,rfl,p,g,e5,g1,g2,g3⟩;refine aA 1 [(60,vI y9.2.2.2.2)] (aL 61 i (oO (p0:=y9.1) g.f1.f1 e5 g1 g2 g3) ?_);rintro l4 i _ h8 ⟨z,M,D,R,E,S,H,U,e4,rfl,u,g,g4,g5,g6,g7⟩;refine aS rfl ?_;cases i;exact xE (y _ _ ⟨z,M,D,R,E,S,H,U,e4,rfl,(q.t p).t u,g.f1.f3.f3.f3,g4,g5,g6,g7,(n.mono p).mono u⟩)
    intro A i;refine aN ?_;cases i;exact xE (y _ _ ⟨a0,b9,b0,d0,F,G,b5,d1,v,rfl,q,g.f3.f3.f3.f3,k0,k4,k5,k6,n⟩)
   intro A i;refine cG (bF ?_);have ho:=n1 _ (sI i);have g:=g.f2.f3.f3.f3;refine bF ?_;exact xE (l3 _ _ ⟨(x.2.1,x.2.2.1,x.2.2.2.1,x.2.2.2.2.1,x.2.2.2.2.2.1,x.2.2.2.2.2.2.1,x.2.2.2.2.2.2.2,b.2.2.2.2.2.2.2),a0,b9,b0,d0,F,G,b5,d1,c,f,v,ho,rfl,q,g,k0,k4,k5,k6,n⟩)
  intro K;refine bH 3 39 31 38 3 (vI b.2.2.2.1) g.h (aA 2 [(41,vB (b.2.2.2.1==0))] (bD 41 i ?_ ?_))
  .intro A i;refine aA 1 [(42,vP a 0)] (aL 43 i (lV (p0:=(b.1,b.2.1,b.2.2.1,b.2.2.2.1,b.2.2.2.2.1,b.2.2.2.2.2.1,b.2.2.2.2.2.2.1)) g.f2.f1 l7 l8 l9 n0) ?_);rintro y7 i _ g6 ⟨D,d2,E,e0,H,e1,M,e2,g0,rfl,p,g,u,y,z,B⟩;refine aA 4 [(47,vB (y7.2.1==1))] (bD 47 i ?_ ?_)
   .intro A i;refine aA 1 [(48,vP a 0)] (aL 49 i (lV (p0:=y7.1) g.f1.f1 u y z B) ?_);rintro y8 i _ g7 ⟨R,e4,S,e5,U,f8,b6,f9,g1,rfl,s,g,g2,g3,g4,g5⟩;refine aA 3 [(52,vB (y8.2.2.1.toList==bt.toList))] ?_;cases i;exact aT _ kr (K _ _ ⟨R,e4,S,e5,U,f8,b6,f9,g1,rfl,(q.t p).t s,g.f1.f3.f3.f3,g2,g3,g4,g5,(n.mono p).mono s⟩)
   intro A i;refine aA 5 [(52,vB false)] ?_;cases i;exact aT _ kr (K _ _ ⟨D,d2,E,e0,H,e1,M,e2,g0,rfl,q.t p,g.f1.f3.f3.f3,u,y,z,B,n.mono p⟩)
  intro A i;refine aA 11 [(52,vB false)] ?_;cases i;exact aT _ kr (K _ _ ⟨d7,e9,d8,f0,Z,b8,d9,f7,d3,rfl,q,g.f2.f3.f3.f3,l7,l8,l9,n0,n⟩)
 intro o1 i b;refine aF i ?_ ?_
 .intro A i;refine aX (aA 2 [(26,vP a 0),(27,vP a 0)] (aL 28 i (lV (p0:=y2.1) g.f1.f1 r2 r3 r4 r5) ?_));rintro M i _ w7 ⟨S,Z,U,a0,V,b0,Y,b5,m5,rfl,c,g,y,z,B,D⟩;refine aA 1 [(29,vI M.2.2.2.2)] (aL 30 i (oO (p0:=M.1) g.f1.f1 y z B D) ?_);rintro y4 i _ w8 ⟨k,s,l,u,n,v,p,x,R,rfl,f,g,E,F,G,H⟩;refine aS rfl ?_;cases i;exact xE (b _ _ ⟨k,s,l,u,n,v,p,x,R,rfl,((q.t h9).t c).t f,g.f1.f2.f2,E,F,G,H⟩)
 intro A i;refine aN ?_;cases i;exact xE (b _ _ ⟨a2,c2,a3,c3,a4,c4,a5,c5,m3,rfl,q.t h9,g.f1.f2.f2,r2,r3,r4,r5⟩)
def BC(N:Nat)(p0:Tp)(a:Tv):Option T1b:=
 if(decide (a.2<(List.length p0.2.2:Int)))=true then((idx p0.2.2 a.2).bind fun x1=>(GC N x1).bind fun b=>(cC a.1 b).bind fun b=>some (.inl (b,IntKind.wrap .i64 (a.2+1)))) else(some (.inr a.1))
def BN(N:Nat)(p0:Tp):Option Tv:=
 (tK N p0).bind fun y1=>if(y1 !=0)=true then(some ((⟨#[]⟩:BA),y1)) else((GA N p0).bind fun a=>(aI (BC N p0) N (a,0)).bind fun a=>if(decide ((ByteArray.size a:Int)>16384))=true then(some ((⟨#[]⟩:BA),2)) else((FU N a).bind fun b=>if(b.2.2==2)=true then(some ((⟨#[]⟩:BA),2)) else(some (a,0))))
theorem qCn{p0:Tp}{r:Tv}(g:St m (O) w)(G:RepS aH m a1 c1 p0.2.1)(f:RepS C3 m a2 c2 p0.2.2)(i:BN N p0=some r):Calls prog 10 #[.agg (V2 p0 a1 c1 a2 c2)] w fun e w'=>∃m',e= .returned (.tuple #[vT r.1,vI r.2])/\m.le m'/\St m' (O) w':=by
 unfold BN at i;have q:=m.le_refl;refine bI func10 rfl ntmps10 ?_;refine aC (iF 1 29 (.agg (V2 p0 a1 c1 a2 c2)) g fun M m1 w1 b g n=> ?_);have f:=f.mono b;refine aG 2 [] (aE (aC (bE 11 (.agg (V2 p0 a1 c1 a2 c2)) g n (aL 12 i (MS (p0:=p0) g (G.mono b) f) ?_))));rintro y1 i _ w2 ⟨S,rfl,a,g⟩;refine aG 1 [(4,vI y1)] (aC (aG 2 [(14,vB (y1 !=0))] (aF i ?_ ?_)))
 .intro A i;refine aB 3 [(2,vT eB),(3,vI y1)] (aM ?_);refine aK ?_;obtain rfl:=sI i;exact aR [2,3] [vT eB,vI y1] ⟨S,rfl,(q.t b).t a,g⟩
 intro A i;refine aN (aD (aC (bE 16 (.agg (V2 p0 a1 c1 a2 c2)) g (n.mono a) (aL 17 i (qCx (p0:=p0) g ((G.mono b).mono a) (f.mono a)) ?_))));rintro K i _ w3 ⟨U,rfl,k,g⟩;refine aG 1 [(5,vT K)] (aE (aU 1 [(18,vP M 2)] (bE 19 (vS a2 p0.2.2 c2) g (((n.mono a).mono k).drop 2) (aG 2 [(20,vI (p0.2.2.length:Int)),(21,vI 0)] (aZ (cI (.exit 0) i (fun c L' w'=>∃(l:BA),∃v,l=c/\L'=[(5,vT l)]/\m.le v/\St v (O) w') ?_ ?_))))))
 .rintro c i _ H ⟨l,v,rfl,rfl,q,g⟩;refine cM (aD (aE (aB 3 [(32,vB (decide ((l.size:Int)>16384)))] (aF i ?_ ?_))))
  .intro A i;refine aB 2 [(2,vT eB),(3,vI 2)] (aM ?_);refine aK ?_;cases i;exact aR [2,3] [vT eB,vI 2] ⟨v,rfl,q,g⟩
  intro A i;refine aN (aD (aE (aU 1 [(34,vT l)] (aL 35 i (qCr g) ?_))));rintro d i _ R ⟨p,u,s,x,y,rfl,o,g,E,F⟩;refine aA 4 [(36,.agg (V2 d.1 p u s x)),(37,vI d.2.1),(38,vI d.2.2)] (cY 8 29 (.agg #[vT eB,v8,v8]) g fun D z g=>(cD (.agg (V2 d.1 p u s x)) g fun B g=>(aG 2 [(10,vI d.2.2)] (aC (aG 2 [(40,vB (d.2.2==2))] (aF i ?_ ?_))))))
  .intro A i;refine aB 2 [(2,vT eB),(3,vI 2)] (aM ?_);refine aK ?_;cases i;exact aR [2,3] [vT eB,vI 2] ⟨y,rfl,q.t o,g.t.t.t⟩
  intro A i;refine aN (aD (aB 3 [(2,vT l),(3,vI 0)] (aM ?_)));obtain rfl:=sI i;exact aR [2,3] [vT l,vI 0] ⟨y,rfl,q.t o,g.t.t.t⟩
 intro c i s;refine cK _ kr (cJ (fun u L' w'=>∃(d:Tv),∃p,aI (BC N p0) u d=some c/\L'=[(5,vT d.1),(19,vS a2 p0.2.2 c2),(20,vI (p0.2.2.length:Int)),(21,vI d.2)]/\m.le p/\St p (O) w'/\RepS C3 p a2 c2 p0.2.2) N ⟨(K,0),U,i,rfl,((q.t b).t a).t k,g,(f.mono a).mono k⟩ ?_);rintro u _ w5 ⟨d,p,hL,rfl,q,g,f⟩;rcases u with _|u
 .exact cN hL
 obtain⟨a7,i,E,D⟩:=cO hL;clear hL;unfold BC at i;refine aB 1 [(22,vB (decide (d.2<(p0.2.2.length:Int))))] (aE ?_);refine aF i ?_ ?_
 .intro A i;refine aN (aD (aE (aZ (aC (dQ 23 f i ?_)))));rintro x1 i b2 R a0 ⟨_,_,rfl,rfl,⟨_,_,rfl,rfl,⟨_,_,rfl,⟨x,z,rfl,Y⟩,⟨y,B,rfl,Z⟩⟩⟩⟩ F;refine dY 24 38 23 R (.agg (V6 x1 x z y B)) g F (cY 7 38 (.agg #[vI 0,vT eB,v8,v8]) g fun b3 w6 g=>(cD (.agg (V6 x1 x z y B)) g fun w7 g=>(aQ (aX (aA 1 [(25,vT d.1)] (bO 26 (.agg (V6 x1 x z y B)) g.h (aL 27 i (qDf (p0:=x1) g Y Z) ?_)))))));rintro y3 i _ w8 ⟨V,rfl,o,g⟩;refine eS 28 i fun H i=> ?_;refine aA 1 [(5,vT H)] (aS rfl (bG (aD (aX (aA 2 [(21,vI (wr (d.2+1)))] (aS rfl ?_))))));have hL:=E _ (sI i);exact xE (cF ⟨(H,wr (d.2+1)),V,hL,rfl,q.t o,g.t,f.mono o⟩)
 intro A i;refine cG (bF ?_);have ho:=D _ (sI i);refine bF ?_;exact xE (s _ _ ⟨d.1,p,ho,rfl,q,g⟩)
def GO(N:Nat)(p0:Tg)(p1:Te):Option Tv:=
 (qM N ((⟨#[112]⟩:BA),([]:Te),[(1,(⟨#[102]⟩:BA),p1,p0)])).bind fun y1=>if(y1 !=0)=true then(some ((⟨#[]⟩:BA),y1)) else((yR N p0 p1).bind fun a=>some (a.1,0))
theorem qEf{p0:Tg}{p1:Te}{r:Tv}(g:St m (O) w)(h:RepS C2 m a1 c1 p0)(k:RepS aH m a2 c2 p1)(i:GO N p0 p1=some r):Calls prog 11 #[vS a1 p0 c1,vS a2 p1 c2] w fun e w'=>∃m',e= .returned (.tuple #[vT r.1,vI r.2])/\m.le m'/\St m' (O) w':=by
 unfold GO at i;have q:=m.le_refl;refine bI func11 rfl ntmps11 ?_;refine aB 2 [] (aE ?_);refine aU 3 [(11,.agg #[vI 1,vT ba,vS a2 p1 c2,vS a1 p0 c1])] ?_;refine bB rfl (lK (d:=12) (t:=27) (e:=38) (len:=1) (parts:= #[(0,(.tmp 11))]) C3 (xs:=[(1,ba,p1,p0)]) [vI 1,vT ba,vS a2 p1 c2,vS a1 p0 c1] kr rfl (fun _=>lD kr _) rfl rfl g ⟨[vI 1,vT ba,vS a2 p1 c2,vS a1 p0 c1],_,rfl,⟨_,_,rfl,rfl,⟨_,_,rfl,rfl,⟨_,_,rfl,(iD k),(iD h)⟩⟩⟩,rfl⟩ fun l s u a g p=>(aA 1 [(13,.agg #[vT bb,va,.slice (aP l) (List.length ([(1,ba,p1,p0)])) 1])] (aL 14 i (JW (p0:=(bb,([]:Te),[(1,ba,p1,p0)])) g (RepS.nil _ _) p) ?_)));rintro y1 i _ v ⟨n,rfl,b,g⟩;refine aA 1 [(6,vI y1)] (aS rfl ?_);have g:=g.t;refine aD (aB 2 [(16,vB (y1 !=0))] (aF i ?_ ?_))
 .intro A i;refine aB 3 [(4,vT eB),(5,vI y1)] (aM ?_);refine aK ?_;obtain rfl:=sI i;exact aR [4,5] [vT eB,vI y1] ⟨n,rfl,(q.t a).t b,g⟩
 intro A i;refine aN (aD (aU 2 [(19,vS a1 p0 c1),(20,vS a2 p1 c2)] (aL 21 i (TF g ((h.mono a).mono b) ((k.mono a).mono b)) ?_)));rintro f i _ x ⟨o,rfl,c,g⟩;refine aG 5 [(7,vT f.1)] (aC (aG 3 [(4,vT f.1),(5,vI 0)] (aM ?_)));cases i;exact aR [4,5] [vT f.1,vI 0] ⟨o,rfl,((q.t a).t b).t c,g⟩
def FZ(N:Nat)(p0:Tg)(p1:Te):Option Tv:=
 (tK N ((⟨#[112]⟩:BA),([]:Te),[(1,(⟨#[102]⟩:BA),p1,p0)])).bind fun y1=>if(y1 !=0)=true then(some ((⟨#[]⟩:BA),y1)) else((BO N p0 (IntKind.wrap .i64 ((List.length p0:Int)-1)) p1 0).bind fun a=>some (a,0))
theorem qDh{p0:Tg}{p1:Te}{r:Tv}(g:St m (O) w)(f:RepS C2 m a1 c1 p0)(h:RepS aH m a2 c2 p1)(i:FZ N p0 p1=some r):Calls prog 12 #[vS a1 p0 c1,vS a2 p1 c2] w fun e w'=>∃m',e= .returned (.tuple #[vT r.1,vI r.2])/\m.le m'/\St m' (O) w':=by
 unfold FZ at i;have q:=m.le_refl;refine bI func12 rfl ntmps12 ?_;refine aB 2 [] (aC ?_);refine aA 3 [(9,.agg #[vI 1,vT ba,vS a2 p1 c2,vS a1 p0 c1])] (bB rfl (lK (d:=10) (t:=27) (e:=38) (len:=1) (parts:= #[(0,(.tmp 9))]) C3 (xs:=[(1,ba,p1,p0)]) [vI 1,vT ba,vS a2 p1 c2,vS a1 p0 c1] kr rfl (fun _=>lD kr _) rfl rfl g ⟨[vI 1,vT ba,vS a2 p1 c2,vS a1 p0 c1],_,rfl,⟨_,_,rfl,rfl,⟨_,_,rfl,rfl,⟨_,_,rfl,(iD h),(iD f)⟩⟩⟩,rfl⟩ fun l s u a g p=>(aA 1 [(11,.agg #[vT bb,va,.slice (aP l) (List.length ([(1,ba,p1,p0)])) 1])] (aL 12 i (MS (p0:=(bb,([]:Te),[(1,ba,p1,p0)])) g (RepS.nil _ _) p) ?_))));rintro y1 i _ v ⟨n,rfl,b,g⟩;refine aA 1 [(6,vI y1)] (aS rfl ?_);have g:=g.t;refine aD (aE (aB 2 [(14,vB (y1 !=0))] (aF i ?_ ?_)))
 .intro A i;refine aB 3 [(4,vT eB),(5,vI y1)] (aM ?_);refine aK ?_;obtain rfl:=sI i;exact aR [4,5] [vT eB,vI y1] ⟨n,rfl,(q.t a).t b,g⟩
 intro A i;refine aN (aD (aU 5 [(16,vS a1 p0 c1),(19,vI (wr ((p0.length:Int)-1))),(20,vS a2 p1 c2)] (aL 21 i (SS g ((f.mono a).mono b) ((h.mono a).mono b)) ?_)));rintro k i _ x ⟨o,rfl,c,g⟩;refine aG 2 [(4,vT k),(5,vI 0)] (aM ?_);obtain rfl:=sI i;exact aR [4,5] [vT k,vI 0] ⟨o,rfl,((q.t a).t b).t c,g⟩
def ND(N:Nat)(p0:BA)(p1:Int):Ta:=
 (EM N p0 p1).bind fun y1=>some y1
theorem qDj{p0:BA}{p1:Int}{r:Int}(g:St m (O) w)(i:ND N p0 p1=some r):Calls prog 94 #[vT p0,.int .u8 p1] w fun e w'=>∃m',e= .returned (vI r)/\m.le m'/\St m' (O) w':=by
 unfold ND at i;have q:=m.le_refl;refine bI func94 rfl ntmps94 ?_;refine aB 1 [] (aC ?_);refine aA 2 [(5,vT p0),(6,.int .u8 p1)] (aL 7 i (SD g) ?_);rintro y1 i _ c ⟨b,rfl,a,g⟩;refine aG 1 [(4,vI y1)] (aM ?_);obtain rfl:=sI i;exact aR [4] [vI y1] ⟨b,rfl,q.t a,g⟩
def ME(N:Nat)(p0:BA)(p1:BA):Tj:=
 (if(decide ((ByteArray.size p0:Int)>=(ByteArray.size p1:Int)))=true then((mT p0 0 (ByteArray.size p1:Int)).bind fun a=>some (a.toList==p1.toList)) else(some false):Tj).bind fun a=>some a
theorem qBp{p0:BA}{p1:BA}{r:Bool}(g:St m (O) w)(i:ME N p0 p1=some r):Calls prog 122 #[vT p0,vT p1] w fun e w'=>∃m',e= .returned (vB r)/\m.le m'/\St m' (O) w':=by
 unfold ME at i;have q:=m.le_refl;refine bI func122 rfl ntmps122 ?_;refine aB 1 [] (aC ?_);refine dK 14 i (fun b L' w'=>∃a,L'=[(4,vB b)]/\m.le a/\St a (O) w') ?_ ?_
 .rintro b i _ c ⟨a,rfl,q,g⟩;refine aQ (aM ?_);obtain rfl:=sI i;exact aR [4] [vB b] ⟨a,rfl,q,g⟩
 intro b i K;refine aA 6 [(10,vB (decide ((p0.size:Int)>=(p1.size:Int))))] (bD 10 i ?_ ?_)
 .intro A i;refine aA 3 [(11,vT p0),(13,vI (p1.size:Int))] ?_;have⟨f,c,i⟩:=aW i;refine bB rfl (qL (d:=14) (t:=9) (x:=(.tmp 11)) (lo:=none) (hi:=(some (.tmp 13))) kr rfl (ev (vT p0)) kr (.inl ⟨rfl,rfl⟩) (.inr ⟨_,_,rfl,(ev (vI (p1.size:Int)))⟩) c (aA 4 [(4,vB (f.toList==p1.toList))] ?_));cases i;exact aT _ kr (K _ _ ⟨m,rfl,q,g⟩)
 intro A i;refine aA 8 [(4,vB false)] ?_;cases i;exact aT _ kr (K _ _ ⟨m,rfl,q,g⟩)
def NC(N:Nat)(p0:BA)(p1:BA):Tj:=
 (ME N p0 p1).bind fun y1=>some y1
theorem qDl{p0:BA}{p1:BA}{r:Bool}(g:St m (O) w)(i:NC N p0 p1=some r):Calls prog 111 #[vT p0,vT p1] w fun e w'=>∃m',e= .returned (vB r)/\m.le m'/\St m' (O) w':=by
 unfold NC at i;have q:=m.le_refl;refine bI func111 rfl ntmps111 ?_;refine aB 1 [] (aC ?_);refine aA 2 [(5,vT p0),(6,vT p1)] (aL 7 i (qBp g) ?_);rintro y1 i _ c ⟨b,rfl,a,g⟩;refine aG 1 [(4,vB y1)] (aM ?_);obtain rfl:=sI i;exact aR [4] [vB y1] ⟨b,rfl,q.t a,g⟩
def NG(N:Nat)(b:Tr)(a:Ts):Option (Ts⊕Int):=
 if(decide (a.2<(List.length b:Int)))=true then((idx b a.2).bind fun b=>some (.inl (if 9007199254740993<(IntKind.wrap .i64 ((IntKind.wrap .i64 (10*a.1))+(IntKind.wrap .i64 (IntKind.wrap .u8 ((b.toNat:Int)-48))))) then 9007199254740993 else(IntKind.wrap .i64 ((IntKind.wrap .i64 (10*a.1))+(IntKind.wrap .i64 (IntKind.wrap .u8 ((b.toNat:Int)-48))))),IntKind.wrap .i64 (a.2+1)))) else(some (.inr a.1))
def NH(N:Nat)(p0:BA)(p1:Int)(a:Int):Option (Int⊕Unit⊕EG):=
 (if(decide (a<(ByteArray.size p0:Int)))=true then((eK p0 a).bind fun b=>if(decide ((b.toNat:Int)>=32))=true then((eK p0 a).bind fun b=>some (decide ((b.toNat:Int)<=126))) else(some false)) else(some false):Tj).bind fun b=>if b=true then((eK p0 a).bind fun x5=>if((x5.toNat:Int)==34)=true then((mT p0 (IntKind.wrap .i64 (p1+1)) a).bind fun b=>some (.inr (.inr (((3,b,0,0),IntKind.wrap .i64 (a+1),0))))) else(some (.inl (IntKind.wrap .i64 (a+1))))) else(some (.inr (.inl ())))
def NR(N:Nat)(p0:BA)(p1:Int)(p2:Tt):Option EG:=
 (eK p0 p1).bind fun x1=>if(((dJ p2 (x1.toNat:Int)).getD 0)==1)=true then((tP N p0 p1 p2 ([(1:Int),2,3])).bind fun y1=>if(decide ((IntKind.wrap .i64 (y1-p1))>24))=true then(some ((0,(⟨#[]⟩:BA),0,0),0,2)) else((mT p0 p1 y1).bind fun a=>some ((1,a,0,0),y1,0))) else(if(((dJ p2 (x1.toNat:Int)).getD 0)==2)=true then((tP N p0 p1 p2 ([(2:Int)])).bind fun b=>(mT p0 p1 b).bind fun a=>(bytesOf a).bind fun a=>(aI (NG N a) N (0,0)).bind fun a=>if(decide (a>9007199254740992))=true then(some ((0,(⟨#[]⟩:BA),0,0),0,3)) else(some ((2,(⟨#[]⟩:BA),a,0),b,0))) else(if(((dJ p2 (x1.toNat:Int)).getD 0)==7)=true then((aI (NH N p0 p1) N (IntKind.wrap .i64 (p1+1))).bind fun a=>(match a with| .inl o2=>some ((0,(⟨#[]⟩:BA),0,0),0,9)| .inr (z)=>some z)) else(if(((dJ p2 (x1.toNat:Int)).getD 0)==8)=true then((mT p0 p1 (ByteArray.size p0:Int)).bind fun a=>(NC N a (⟨#[61,61]⟩:BA)).bind fun a=>(if a=true then(some (IntKind.wrap .i64 ((IntKind.wrap .i64 (p1+1))+1))) else(some (IntKind.wrap .i64 (p1+1))):Ta).bind fun a=>(mT p0 p1 a).bind fun b=>some ((4,b,0,0),a,0)) else(some ((0,(⟨#[]⟩:BA),0,0),0,9)))))
theorem qEd{p0:BA}{p1:Int}{p2:Tt}{f:Option Nat}{b:Array MapEntry}{a:Nat}{r:EG}(g:St m (dT f b a::O) w)(l:MapQ (fun n:Int=>Value.int .u8 n) (aV .i64) false m f b a p2)(i:NR N p0 p1 p2=some r):Calls prog 95 #[vT p0,vI p1,.map f] w fun e w'=>∃m',e= .returned (.tuple #[.agg (Va r.1),vI r.2.1,vI r.2.2])/\m.le m'/\St m' (dT f b a::O) w':=by
 unfold NR at i;have q:=m.le_refl;refine bI func95 rfl ntmps95 ?_;refine aC (cY 6 104 (.agg (Vb 0 eB 0 0)) g fun p w1 g=>(aG 2 [] (aE (aU 3 [(16,.map f),(17,vT p0),(18,vI p1)] (iL 19 i fun x1 i=>(bB rfl (yU (ek:=(fun n:Int=>Value.int .u8 n)) (c:=(aV .i64)) (agg:=false) (k:=(x1.toNat:Int)) (zx:=0) (zcs:=[vI 0]) (z:=(vI 0)) (kt:=5) (et:=3) (d:=20) (t:=130) (x:=(.tmp 16)) (y:=(.tmp 19)) (ok:=false) kr rfl (ev (.map f)) (ev (.int .u8 (x1.toNat:Int))) kr (lW kr) g.t.h l rfl rfl ?_)))))));rintro a7 rfl;refine aQ (aZ (aB 2 [(21,vB (((dJ p2 (x1.toNat:Int)).getD 0)==1))] (aF i ?_ ?_)))
 .intro A i;refine aU 3 [(23,vT p0),(24,vI p1),(25,.map f)] ?_;refine eX 26 3 3 (aV .i64) [(1:Int),2,3] g fun E F G o g D=> ?_;refine aL 27 i (GI g.f2 (l.mono o) D) ?_;rintro y1 i _ H ⟨u,rfl,s,g⟩;refine aA 1 [(9,vI y1)] (aS rfl ?_);have g:=g.f1.t;refine aD (aE (aB 4 [(31,vB (decide ((wr (y1-p1))>24)))] (aF i ?_ ?_)))
  .intro A i;refine aU 1 [(32,.agg (Vb 0 eB 0 0))] ?_;refine cD (.agg (Vb 0 eB 0 0)) g.f1 fun v g=> ?_;refine aG 2 [(7,vI 0),(8,vI 2)] (aM (aK (bA (aK ?_))));cases i;refine iW 6 104 [7,8] [vI 0,vI 2] g.h ?_;exact⟨u,rfl,(q.t o).t s,g.t⟩
  intro A i;refine aN (aD (aU 3 [(33,vT p0),(34,vI p1),(35,vI y1)] ?_));have⟨v,B,i⟩:=aW i;refine bB rfl (qL (d:=36) (t:=9) (x:=(.tmp 33)) (lo:=(some (.tmp 34))) (hi:=(some (.tmp 35))) kr rfl (ev (vT p0)) kr (.inr ⟨_,_,rfl,(ev (vI p1))⟩) (.inr ⟨_,_,rfl,(ev (vI y1))⟩) B (aA 2 [(37,.agg (Vb 1 v 0 0)),(38,vI y1)] (cD (.agg (Vb 1 v 0 0)) g.f1 fun M g=>(aG 2 [(7,vI y1),(8,vI 0)] (aM (bA (aK ?_)))))));obtain rfl:=sI i;refine iW 6 104 [7,8] [vI y1,vI 0] g.h ?_;exact⟨u,rfl,(q.t o).t s,g.t⟩
 intro A i;refine aB 2 [(39,vB (((dJ p2 (x1.toNat:Int)).getD 0)==2))] (aF i ?_ ?_)
 .intro A i;refine aU 3 [(41,vT p0),(42,vI p1),(43,.map f)] ?_;refine eX 44 3 1 (aV .i64) [(2:Int)] g fun b3 m3 w6 v g r3=> ?_;refine aL 45 i (GI g.f2 (l.mono v) r3) ?_;rintro u i _ w7 ⟨m4,rfl,H,g⟩;refine aA 1 [(10,vI u)] (aS rfl ?_);have g:=g.f1.t;refine aD (aB 1 [(11,vI 0)] (aE (aU 3 [(46,vT p0),(47,vI p1),(48,vI u)] ?_)));have⟨s2,d5,i⟩:=aW i;refine bB rfl (qL (d:=49) (t:=9) (x:=(.tmp 46)) (lo:=(some (.tmp 47))) (hi:=(some (.tmp 48))) kr rfl (ev (vT p0)) kr (.inr ⟨_,_,rfl,(ev (vI p1))⟩) (.inr ⟨_,_,rfl,(ev (vI u))⟩) d5 ?_);have⟨D,d6,i⟩:=aW i;refine bB rfl (TN (d:=50) (t1:=9) (t2:=65) (e:=5) (x:=(.tmp 49)) kr rfl (ev (vT s2)) kr kr g d6 fun Z c1 m5 w8 M g U=>(aG 2 [(51,vI (D.length:Int)),(52,vI 0)] (aZ (cI (.exit 1) i (fun s L' w'=>∃(F:Int),∃E,F=s/\L'=[(6,vP p 0),(10,vI u),(11,vI F)]/\m.le E/\St E (kB p (Vb 0 eB 0 0) 104::dT f b a::O) w'/\MapQ (fun n:Int=>Value.int .u8 n) (aV .i64) false E f b a p2) ?_ ?_))))
  .rintro s i _ B ⟨F,E,rfl,rfl,q,g,l⟩;refine cM (aD (aE (aB 2 [(65,vB (decide (F>9007199254740992)))] (aF i ?_ ?_))))
   .intro A i;refine aU 1 [(66,.agg (Vb 0 eB 0 0))] ?_;refine cD (.agg (Vb 0 eB 0 0)) g fun o g=> ?_;refine aG 2 [(7,vI 0),(8,vI 3)] (aM (aK (bA (aK ?_))));cases i;refine iW 6 104 [7,8] [vI 0,vI 3] g.h ?_;exact⟨E,rfl,q,g.t⟩
   intro A i;refine aN (aD (aU 3 [(68,.agg (Vb 2 eB F 0)),(69,vI u)] (cD (.agg (Vb 2 eB F 0)) g fun o g=>(aG 2 [(7,vI u),(8,vI 0)] (aM (bA (aK ?_)))))));obtain rfl:=sI i;refine iW 6 104 [7,8] [vI u,vI 0] g.h ?_;exact⟨E,rfl,q,g.t⟩
  intro s i R;refine cK _ kr (cJ (fun S L' w'=>∃(o:Ts),∃B,aI (NG N D) S o=some s/\L'=[(6,vP p 0),(10,vI u),(11,vI o.1),(50,vS (aP Z) D c1),(51,vI (D.length:Int)),(52,vI o.2)]/\m.le B/\St B (kB p (Vb 0 eB 0 0) 104::dT f b a::O) w'/\RepS iX B (aP Z) c1 D/\MapQ (fun n:Int=>Value.int .u8 n) (aV .i64) false B f b a p2) N ⟨(0,0),m5,i,rfl,((q.t v).t H).t M,g.f1,U,((l.mono v).mono H).mono M⟩ ?_);rintro S _ b0 ⟨o,B,hL,rfl,q,g,U,l⟩;rcases S with _|S
  .exact cN hL
  obtain⟨a9,i,Y,V⟩:=cO hL;clear hL;unfold NG at i;refine aB 1 [(53,vB (decide (o.2<(D.length:Int))))] (aE ?_);refine aF i ?_ ?_
  .intro A i;refine aN (aD (aE (aZ (aC (dQ 54 U i ?_)))));rintro G i b5 f1 a8 rfl a0;refine dY 55 5 54 f1 (.int .u8 (G.toNat:Int)) g a0 (aG 1 [(13,.int .u8 (G.toNat:Int))] (aX (aA 8 [(11,vI (if 9007199254740993<(wr ((wr (10*o.1))+(wr (IntKind.wrap .u8 ((G.toNat:Int)-48))))) then 9007199254740993 else(wr ((wr (10*o.1))+(wr (IntKind.wrap .u8 ((G.toNat:Int)-48)))))))] (aS rfl (bG (aD (aX (aA 2 [(52,vI (wr (o.2+1)))] (aS rfl ?_)))))))));have hL:=Y _ (sI i);exact xE (cF ⟨(if 9007199254740993<(wr ((wr (10*o.1))+(wr (IntKind.wrap .u8 ((G.toNat:Int)-48))))) then 9007199254740993 else(wr ((wr (10*o.1))+(wr (IntKind.wrap .u8 ((G.toNat:Int)-48))))),wr (o.2+1)),B,hL,rfl,q,g.f1.f1,U,l⟩)
  intro A i;refine cG (bF ?_);have ho:=V _ (sI i);have g:=g.f1.f1;refine bF ?_;exact xE (R _ _ ⟨o.1,B,ho,rfl,q,g,l⟩)
 intro A i;refine aB 2 [(70,vB (((dJ p2 (x1.toNat:Int)).getD 0)==7))] (aF i ?_ ?_)
 .intro A i;refine aE (aB 3 [(14,vI (wr (p1+1)))] (aZ ?_));have⟨D,i,R⟩:=aW i;refine cR (.exit 3) (fun L' w'=>∃(o2:Unit),∃B,(.inl o2)=D/\L'=[(6,vP p 0)]/\m.le B/\St B (kB p (Vb 0 eB 0 0) 104::dT f b a::O) w'/\MapQ (fun n:Int=>Value.int .u8 n) (aV .i64) false B f b a p2) ?_ ?_
  .rintro _ o ⟨o2,B,rfl,rfl,q,g,l⟩;have i:=R;refine cM (aD (aU 1 [(104,.agg (Vb 0 eB 0 0))] (cD (.agg (Vb 0 eB 0 0)) g fun s g=>(aG 2 [(7,vI 0),(8,vI 9)] (aM (bA (aK ?_)))))));cases i;refine iW 6 104 [7,8] [vI 0,vI 9] g.h ?_;exact⟨B,rfl,q,g.t⟩
  intro E;refine cK _ kr (cJ (fun F L' w'=>∃(o:Int),∃u,aI (NH N p0 p1) F o=some D/\L'=[(0,vT p0),(1,vI p1),(6,vP p 0),(14,vI o)]/\m.le u/\St u (kB p (Vb 0 eB 0 0) 104::dT f b a::O) w'/\MapQ (fun n:Int=>Value.int .u8 n) (aV .i64) false u f b a p2) N ⟨wr (p1+1),m,i,rfl,q,g.f1.f1,l⟩ ?_);rintro F _ V ⟨o,u,hL,rfl,q,g,l⟩;rcases F with _|F
  .exact cN hL
  obtain⟨U,i,G,v⟩:=cO hL;clear hL;unfold NH at i;refine aE (aC (dK 16 i (fun H L' w'=>∃s,L'=[(0,vT p0),(1,vI p1),(6,vP p 0),(14,vI o),(89,vB H)]/\m.le s/\St s (kB p (Vb 0 eB 0 0) 104::dT f b a::O) w'/\MapQ (fun n:Int=>Value.int .u8 n) (aV .i64) false s f b a p2) ?_ ?_))
  .rintro H i _ Y ⟨s,rfl,q,g,l⟩;refine aQ (aF i ?_ ?_)
   .intro A i;refine aN (aD (aE (aZ (aU 2 [(92,vT p0),(93,vI o)] (iL 94 i fun x5 i=>(aG 1 [(95,vB ((x5.toNat:Int)==34))] (aF i ?_ ?_)))))))
    .intro A i;refine aU 4 [(96,vT p0),(98,vI (wr (p1+1))),(99,vI o)] ?_;have⟨S,M,i⟩:=aW i;refine bB rfl (qL (d:=100) (t:=9) (x:=(.tmp 96)) (lo:=(some (.tmp 98))) (hi:=(some (.tmp 99))) kr rfl (ev (vT p0)) kr (.inr ⟨_,_,rfl,(ev (vI (wr (p1+1))))⟩) (.inr ⟨_,_,rfl,(ev (vI o))⟩) M (aA 3 [(101,.agg (Vb 3 S 0 0)),(103,vI (wr (o+1)))] (cD (.agg (Vb 3 S 0 0)) g fun Z g=>(aG 2 [(7,vI (wr (o+1))),(8,vI 0)] (aM (bA (aK ?_)))))));have ho:=v _ (sI i);subst ho;have i:=R;refine aK (bA (aK (bA (aK ?_))));obtain rfl:=sI i;refine iW 6 104 [7,8] [vI (wr (o+1)),vI 0] g.h ?_;exact⟨s,rfl,q,g.t⟩
    intro A i;refine aN (bG (aD (aX (aA 3 [(14,vI (wr (o+1)))] (aS rfl ?_)))));have hL:=G _ (sI i);exact xE (cF ⟨wr (o+1),s,hL,rfl,q,g.f1.f1,l⟩)
   intro A i;refine cG (bF ?_);have ho:=v _ (sI i);have g:=g.f1.f1;refine bF ?_;exact xE (E _ _ ⟨(),s,ho,rfl,q,g,l⟩)
  intro H i K;refine aA 5 [(78,vB (decide (o<(p0.size:Int))))] (bD 78 i ?_ ?_)
  .intro A i;refine aA 2 [(79,vT p0),(80,vI o)] (iL 81 i fun M i=>(aA 3 [(84,vB (decide ((M.toNat:Int)>=32)))] (bD 84 i ?_ ?_)))
   .intro A i;refine aA 2 [(85,vT p0),(86,vI o)] (iL 87 i fun S i=>(aA 2 [(89,vB (decide ((S.toNat:Int)<=126)))] ?_));cases i;exact aT _ kr (K _ _ ⟨u,rfl,q,g.f1.f1,l⟩)
   intro A i;refine aA 5 [(89,vB false)] ?_;cases i;exact aT _ kr (K _ _ ⟨u,rfl,q,g.f1.f1,l⟩)
  intro A i;refine aA 11 [(89,vB false)] ?_;cases i;exact aT _ kr (K _ _ ⟨u,rfl,q,g.f1.f1,l⟩)
 intro A i;refine aB 2 [(105,vB (((dJ p2 (x1.toNat:Int)).getD 0)==8))] (aF i ?_ ?_)
 .intro A i;refine aB 3 [(15,vI (wr (p1+1)))] (aE ?_);refine aU 2 [(109,vT p0),(110,vI p1)] ?_;have⟨M,D,i⟩:=aW i;refine bB rfl (qL (d:=111) (t:=9) (x:=(.tmp 109)) (lo:=(some (.tmp 110))) (hi:=none) kr rfl (ev (vT p0)) kr (.inr ⟨_,_,rfl,(ev (vI p1))⟩) (.inl ⟨rfl,rfl⟩) D (aL 112 i (qDl g) ?_));rintro R i _ F ⟨B,rfl,o,g⟩;refine aQ (cI .normal i (fun u L' w'=>∃s,L'=[(0,vT p0),(1,vI p1),(6,vP p 0),(15,vI u)]/\m.le s/\St s (kB p (Vb 0 eB 0 0) 104::dT f b a::O) w'/\MapQ (fun n:Int=>Value.int .u8 n) (aV .i64) false s f b a p2) ?_ ?_)
  .rintro u i _ G ⟨s,rfl,q,g,l⟩;refine aD (aU 3 [(115,vT p0),(116,vI p1),(117,vI u)] ?_);have⟨E,v,i⟩:=aW i;refine bB rfl (qL (d:=118) (t:=9) (x:=(.tmp 115)) (lo:=(some (.tmp 116))) (hi:=(some (.tmp 117))) kr rfl (ev (vT p0)) kr (.inr ⟨_,_,rfl,(ev (vI p1))⟩) (.inr ⟨_,_,rfl,(ev (vI u))⟩) v (aA 2 [(119,.agg (Vb 4 E 0 0)),(120,vI u)] (cD (.agg (Vb 4 E 0 0)) g fun H g=>(aG 2 [(7,vI u),(8,vI 0)] (aM (bA (aK ?_)))))));obtain rfl:=sI i;refine iW 6 104 [7,8] [vI u,vI 0] g.h ?_;exact⟨s,rfl,q,g.t⟩
  intro u i v;refine aF i ?_ ?_
  .intro A i;refine aX (aA 3 [(15,vI (wr ((wr (p1+1))+1)))] (aS rfl ?_));cases i;exact xE (v _ _ ⟨B,rfl,q.t o,g.f1.f1,l.mono o⟩)
  intro A i;refine aN ?_;cases i;exact xE (v _ _ ⟨B,rfl,q.t o,g.f1.f1,l.mono o⟩)
 intro A i;refine aN (bG (aD (aU 1 [(121,.agg (Vb 0 eB 0 0))] (cD (.agg (Vb 0 eB 0 0)) g fun o g=>(aG 2 [(7,vI 0),(8,vI 9)] (aM ?_))))));cases i;refine iW 6 104 [7,8] [vI 0,vI 9] g.h ?_;exact⟨m,rfl,q,g.t⟩
def NF(N:Nat)(p0:BA)(y1:Tt)(c:EF):Option (EF⊕EB):=
 (tP N p0 c.2 y1 ([(5:Int)])).bind fun a=>if(a==(ByteArray.size p0:Int))=true then((cP 40 c.1 ([(5,(⟨#[]⟩:BA),0,a)])).bind fun b=>some (.inr (b,0,0))) else((eK p0 a).bind fun x1=>if(((dJ y1 (x1.toNat:Int)).getD 0)==6)=true then((mT p0 a (ByteArray.size p0:Int)).bind fun b=>(ND N b 10).bind fun b=>(if(decide (b<0))=true then(some (IntKind.wrap .i64 ((ByteArray.size p0:Int)-a))) else(some b):Ta).bind fun b=>some (.inl (c.1,IntKind.wrap .i64 (a+b)))) else((NR N p0 a y1).bind fun b=>if(b.2.2 !=0)=true then(some (.inr (([]:mV),a,b.2.2))) else((cP 40 c.1 ([(b.1.1,b.1.2.1,b.1.2.2.1,a)])).bind fun a=>some (.inl (a,b.2.1)))))
def KB(N:Nat)(p0:BA):Option EB:=
 if(decide ((ByteArray.size p0:Int)>16384))=true then(some (([]:mV),0,2)) else((yS N).bind fun y1=>(aI (NF N p0 y1) N (([]:mV),0)).bind fun z=>some z)
theorem qDx{p0:BA}{r:EB}(g:St m (O) w)(i:KB N p0=some r):Calls prog 70 #[vT p0] w fun e w'=>∃S U m',e= .returned (.tuple #[vS S r.1 U,vI r.2.1,vI r.2.2])/\m.le m'/\St m' (kR S r.1 U 104 4::O) w'/\RepS C5 m' S U r.1:=by
 unfold KB at i;have q:=m.le_refl;refine bI func70 rfl ntmps70 ?_;refine aB 3 [(2,vd)] (qLt ?_);refine aE (aB 3 [(13,vB (decide ((p0.size:Int)>16384)))] (aF i ?_ ?_))
 .intro A i;refine aB 3 [(2,vd),(3,vI 0),(4,vI 2)] (aM ?_);refine aK (NU ?_);cases i;exact aR [2,3,4] [vd,vI 0,vI 2] ⟨none,0,m,rfl,q,(g.nilroom 104 4),(RepS.nil _ _)⟩
 intro A i;refine aN (aD (aC (aL 14 i (NJ g) ?_)));rintro y1 i _ w1 ⟨o,G,F,m1,rfl,Y,g,l⟩;refine aG 1 [(5,.map o)] (aC (aG 1 [(6,vI 0)] (aE (qLv (aD (aZ ?_))))));have⟨Z,i,j1⟩:=aW i;have g:=(g.nilroom 104 4).front1;refine cK _ kr (cJ (fun V L' w'=>∃(f:EF),∃p s R,aI (NF N p0 y1) V f=some Z/\L'=[(0,vT p0),(2,vS p f.1 s),(5,.map o),(6,vI f.2)]/\m.le R/\St R (dT o G F::kR p f.1 s 104 4::O) w'/\RepS C5 R p s f.1/\MapQ (fun n:Int=>Value.int .u8 n) (aV .i64) false R o G F y1) N ⟨(([]:mV),0),none,0,m1,i,rfl,q.t Y,g,(RepS.nil _ _),l⟩ ?_);rintro V _ w2 ⟨f,p,s,R,hL,rfl,q,g,B,l⟩;rcases V with _|V
 .exact cN hL
 obtain⟨a9,i,K,H⟩:=cO hL;clear hL;unfold NF at i;refine aZ (aU 3 [(15,vT p0),(16,vI f.2),(17,.map o)] (eX 18 3 1 (aV .i64) [(5:Int)] g fun b1 m3 w3 u g r3=>(aL 19 i (GI g.f1 (l.mono u) r3) ?_)));rintro b i _ w4 ⟨m4,rfl,D,g⟩;have q:=(q.t u).t D;have B:=(B.mono u).mono D;have l:=(l.mono u).mono D;refine aA 1 [(6,vI b)] (aS rfl ?_);have g:=g.f1.t;refine aD (aE (aZ (aB 5 [(20,vB (b==(p0.size:Int)))] (aF i ?_ ?_))))
 .intro A i;refine aU 3 [(25,vS p f.1 s),(27,.agg (Vb 5 eB 0 b))] ?_;refine eX 28 104 1 C5 [(5,eB,0,b)] g fun b2 m5 w5 a g r4=> ?_;refine iT 29 96 96 104 40 25 28 g.f2 (.inl kr) (B.mono a) r4.src i fun l1 i v E m6 w6 M g r5=> ?_;refine aA 3 [(2,vS v l1 E),(3,vI 0),(4,vI 0)] (aS rfl ?_);have g:=g.f1.t;refine aD (aM (bA (aK (bA ?_))));have ho:=H _ (sI i);subst ho;have i:=j1;refine aK (bA (NU ?_));obtain rfl:=sI i;exact aR [2,3,4] [vS v l1 E,vI 0,vI 0] ⟨v,E,m6,rfl,(q.t a).t M,g.f1.t,r5⟩
 intro A i;refine aU 3 [(31,.map o),(32,vT p0),(33,vI b)] ?_;refine iL 34 i fun x1 i=> ?_;refine bB rfl (yU (ek:=(fun n:Int=>Value.int .u8 n)) (c:=(aV .i64)) (agg:=false) (k:=(x1.toNat:Int)) (zx:=0) (zcs:=[vI 0]) (z:=(vI 0)) (kt:=5) (et:=3) (d:=35) (t:=130) (x:=(.tmp 31)) (y:=(.tmp 34)) (ok:=false) kr rfl (ev (.map o)) (ev (.int .u8 (x1.toNat:Int))) kr (lW kr) g.h l rfl rfl ?_);rintro a7 rfl;refine aG 2 [(30,vB (((dJ y1 (x1.toNat:Int)).getD 0)==6))] (aF i ?_ ?_)
 .intro A i;refine aU 2 [(37,vT p0),(38,vI b)] ?_;have⟨s2,d5,i⟩:=aW i;refine bB rfl (qL (d:=39) (t:=9) (x:=(.tmp 37)) (lo:=(some (.tmp 38))) (hi:=none) kr rfl (ev (vT p0)) kr (.inr ⟨_,_,rfl,(ev (vI b))⟩) (.inl ⟨rfl,rfl⟩) d5 (aL 40 i (qDj g) ?_));rintro y3 i _ w7 ⟨m7,rfl,a,g⟩;refine aG 1 [(7,vI y3)] (aE (aB 2 [(42,vB (decide (y3<0)))] (cI .normal i (fun E L' w'=>∃v,L'=[(0,vT p0),(2,vS p f.1 s),(5,.map o),(6,vI b),(7,vI E)]/\m.le v/\St v (dT o G F::kR p f.1 s 104 4::O) w'/\RepS C5 v p s f.1/\MapQ (fun n:Int=>Value.int .u8 n) (aV .i64) false v o G F y1) ?_ ?_)))
  .rintro E i _ M ⟨v,rfl,q,g,B,l⟩;refine aD (aB 4 [(6,vI (wr (b+E)))] (cG (yY rfl (bF (cM ?_)))));have hL:=K _ (sI i);exact xE (cF ⟨(f.1,wr (b+E)),p,s,v,hL,rfl,q,g.f1.f1,B,l⟩)
  intro E i M;refine aF i ?_ ?_
  .intro A i;refine aX (aA 5 [(7,vI (wr ((p0.size:Int)-b)))] (aS rfl ?_));cases i;exact xE (M _ _ ⟨m7,rfl,q.t a,g.f1.f1,B.mono a,l.mono a⟩)
  intro A i;refine aN ?_;cases i;exact xE (M _ _ ⟨m7,rfl,q.t a,g.f1.f1,B.mono a,l.mono a⟩)
 intro A i;refine aN (bG (aD (aU 3 [(51,vT p0),(52,vI b),(53,.map o)] (aL 54 i (qEd g l) ?_))));rintro a i _ w9 ⟨m9,rfl,v,g⟩;refine aA 4 [(55,.agg (Va a.1)),(56,vI a.2.1),(57,vI a.2.2)] (cY 8 104 (.agg (Vb 0 eB 0 0)) g fun b3 b0 g=>(cD (.agg (Va a.1)) g fun b5 g=>(aG 2 [(9,vI a.2.1),(10,vI a.2.2)] (aE (aB 2 [(59,vB (a.2.2 !=0))] (aF i ?_ ?_))))))
 .intro A i;refine aU 5 [(2,vd),(3,vI b),(4,vI a.2.2)] ?_;refine aS rfl ?_;have g:=g.f2.t;refine aD (aM (aK (bA ?_)));have ho:=H _ (sI i);subst ho;have i:=j1;refine aK (bA (NU ?_));obtain rfl:=sI i;refine aR [2,3,4] [vd,vI b,vI a.2.2] ?_;have g:=(g.nilroom 104 4).front1;exact⟨none,0,m9,rfl,q.t v,g.t.f1.t,(RepS.nil _ _)⟩
 intro A i;refine aN (aD (aU 2 [(62,vI b),(63,vP b3 3)] (cU (Vb a.1.1 a.1.2.1 a.1.2.2.1 b) g fun b6 g=>(aQ (aX (aA 1 [(64,vS p f.1 s)] (bO 65 (.agg (Vb a.1.1 a.1.2.1 a.1.2.2.1 b)) g.h (eX 66 104 1 C5 [(a.1.1,a.1.2.1,a.1.2.2.1,b)] g fun b4 a8 b7 E g r6=>(iT 67 96 96 104 40 64 66 g.f3 (.inl kr) ((B.mono v).mono E) r6.src i fun l2 i a3 c3 a0 b8 M g r7=>(aA 3 [(2,vS a3 l2 c3),(6,vI a.2.1)] (aS rfl ?_)))))))))));have g:=g.f1.t;refine bG ?_;have hL:=K _ (sI i);exact xE (cF ⟨(l2,a.2.1),a3,c3,a0,hL,rfl,((q.t v).t E).t M,g.f1.t.f1,r7,((l.mono v).mono E).mono M⟩)
def rJ(N:Nat)(p0:bK):Option vW:=
 (idx p0.1 p0.2.1).bind fun x1=>some (p0,x1)
theorem sS{p0:bK}{r:vW}(g:St m (kB bp0 (Ve p0 a1 c1 a2 c2 a3 c3) 115::kR a3 p0.2.2.2 c3 49 5::O) w)(o:RepS C5 m a1 c1 p0.1)(u:RepS aH m a2 c2 p0.2.2.1)(v:RepS C2 m a3 c3 p0.2.2.2)(i:rJ N p0=some r):Calls prog 101 #[vP bp0 0] w fun e w'=>∃d k f l b c m',e= .returned (.agg (Va r.2))/\m.le m'/\St m' (kB bp0 (Ve r.1 d k f l b c) 115::kR b r.1.2.2.2 c 49 5::O) w'/\P7 m' d k f l b c r.1:=by
 unfold rJ at i;have q:=m.le_refl;refine bI func101 rfl ntmps101 ?_;refine aC (cY 2 104 (.agg (Vb 0 eB 0 0)) g fun A D g=>(aQ (aE (eI [(11,fun w'=>Inv m w'/\Piece.holds m w' (kB bp0 (Ve p0 a1 c1 a2 c2 a3 c3) 115)/\True)] kr g fun E _ g=> ?_))));have a:=m.le_refl;refine⟨⟨.inr ⟨Inv.anti g.inv a,Piece.holds_anti g.t.h a,trivial⟩,trivial⟩,?_⟩;refine aO 0 3 (vP bp0 0) (.head _) (aO 1 4 (vP bp0 0) (.head _) (aO 2 5 (vP bp0 0) (.head _) (dI 96 5 3 6 0 (vS a1 p0.1 c1) (.head _) (fun _ h=>h.2.1) (aO 4 7 (vP bp0 0) (.head _) (aO 5 8 (vP bp0 0) (.head _) (aO 6 9 (vP bp0 1) (.head _) (dI 3 9 7 10 1 (vI p0.2.1) (.head _) (fun _ h=>h.2.1) ?_)))))));have⟨x1,p,i⟩:=aW i;refine iZ (t:=96) (e:=104) (x:=(.tmp 6)) (y:=(.tmp 10)) 8 11 C5 kr rfl kr (.head _) (bM eQ) (ev (vS a1 p0.1 c1)) (ev (vI p0.2.1)) kr o p ?_;rintro B s z ⟨_,_,rfl,rfl,⟨_,_,rfl,rfl,⟨_,_,rfl,rfl,rfl⟩⟩⟩ n;refine eU 104 11 9 12 s (.agg (Va x1)) (.head _) (fun _ h=>h.1) n (cA 10 kr (vG 104 2 12 (.agg (Va x1)) g fun F g=>(⟨⟨.inr ⟨Inv.anti g.inv a,Piece.holds_anti g.t.h a,trivial⟩,trivial⟩,?_⟩)));refine dU kr ?_;refine aD (aM ?_);obtain rfl:=sI i;refine iW 2 104 [] [] g.h ?_;exact⟨a1,c1,a2,c2,a3,c3,m,rfl,q,g.t.f1.f1,o,u,v⟩
def wK(N:Nat)(p0:bK)(p1:Int)(p2:BA):Option (bK×Bool):=
 (rJ N p0).bind fun y1=>(if(y1.2.1==p1)=true then(some (y1.2.2.1.toList==p2.toList)) else(some false):Tj).bind fun a=>some (y1.1,a)
theorem BR{p0:bK}{p1:Int}{p2:BA}{r:bK×Bool}(g:St m (kB bp0 (Ve p0 a1 c1 a2 c2 a3 c3) 115::kR a3 p0.2.2.2 c3 49 5::O) w)(G:RepS C5 m a1 c1 p0.1)(H:RepS aH m a2 c2 p0.2.2.1)(M:RepS C2 m a3 c3 p0.2.2.2)(i:wK N p0 p1 p2=some r):Calls prog 99 #[vP bp0 0,vI p1,vT p2] w fun e w'=>∃s v u x c d m',e= .returned (vB r.2)/\m.le m'/\St m' (kB bp0 (Ve r.1 s v u x c d) 115::kR c r.1.2.2.2 d 49 5::O) w'/\P7 m' s v u x c d r.1:=by
 unfold wK at i;have q:=m.le_refl;refine bI func99 rfl ntmps99 ?_;refine aB 1 [] (aC ?_);refine aA 1 [(8,vP bp0 0)] (aL 9 i (sS (p0:=p0) g.f1.f1 G H M) ?_);rintro y1 i _ R ⟨y,B,z,D,f,k,E,rfl,a,g,n,o,p⟩;refine cY 7 104 (.agg (Vb 0 eB 0 0)) g fun F S g=> ?_;refine cD (.agg (Va y1.2)) g fun U g=> ?_;refine aQ (aC (dK 11 i (fun l L' w'=>∃b,L'=[(6,vB l)]/\m.le b/\St b (kB F (Va y1.2) 104::kB bp0 (Ve y1.1 y B z D f k) 115::kR f y1.1.2.2.2 k 49 5::O) w'/\P7 b y B z D f k y1.1) ?_ ?_))
 .rintro l i _ V ⟨b,rfl,q,g,n,o,p⟩;refine aQ (aM ?_);obtain rfl:=sI i;exact aR [6] [vB l] ⟨y,B,z,D,f,k,b,rfl,q,g.t.f1.f1,n,o,p⟩
 intro l i K;refine bH 1 11 3 10 0 (vI y1.2.1) g.h (aA 3 [(14,vB (y1.2.1==p1))] (bD 14 i ?_ ?_))
 .intro A i;refine bH 1 16 9 15 1 (vT y1.2.2.1) g.h (aA 4 [(6,vB (y1.2.2.1.toList==p2.toList))] ?_);cases i;exact aT _ kr (K _ _ ⟨E,rfl,q.t a,g.f2.f2.f2,n,o,p⟩)
 intro A i;refine aA 6 [(6,vB false)] ?_;cases i;exact aT _ kr (K _ _ ⟨E,rfl,q.t a,g.f2.f2.f2,n,o,p⟩)
end
section
open Go Go.Dc Go.Proofs.Tryz
set_option maxHeartbeats 4000000
set_option maxRecDepth 100000
variable {N bp0 c1 c2 c3 c4:Nat} {m:Mem} {O:List Piece} {w:World} {a1 a2 a3 a4:Option Addr}
def nA(N:Nat)(p0:mB)(p1:Int):Option (Ts⊕Unit):=
 some (.inl (p0.2.2.2,p1))
theorem oA{p0:mB}{p1:Int}{r:Ts⊕Unit}(g:St m (O) w)(i:nA N p0 p1=some r):Calls prog 100 #[.agg (Va p0),vI p1] w fun e w'=>(∃(c:Ts),∃m',r= .inl c/\e= .panicked [{v:= .iface 111 (.agg (Vf c)),recovered:=false}]/\m.le m'/\St m' (O) w')\/(∃(h:Unit),r= .inr h/\∃m',e= .returned (.tuple #[])/\m.le m'/\St m' (O) w'):=by
 unfold nA at i;have q:=m.le_refl;refine bI func100 rfl ntmps100 ?_;refine aC (iF 2 104 (.agg (Va p0)) g fun d f k a g b=>(aQ (aX (aA 1 [(4,vP d 3)] (bE 5 (vI p0.2.2.2) g (b.drop 3) (aA 3 [(8,.iface 111 (.agg #[vI p0.2.2.2,vI p1]))] (bB rfl (qHv (x:=(.tmp 8)) kr (ev (.iface 111 (.agg #[vI p0.2.2.2,vI p1]))) ?_))))))));cases i;exact cW (.inl ⟨(p0.2.2.2,p1),f,rfl,rfl,q.t a,g⟩)
def GB(N:Nat)(p0:bK)(p1:BA):Option IY:=
 (wK N p0 1 p1).bind fun y1=>(if(!y1.2)=true then((rJ N y1.1).bind fun a=>(nA N a.2 9).bind fun b=>(match b with| .inl b=>some (.inr (.inl b))| .inr b=>some (.inl a.1))) else(some (.inl y1.1)):Option T21).bind fun a=>(match a with| .inl a=>some (.inr (a.1,IntKind.wrap .i64 (a.2.1+1),a.2.2.1,a.2.2.2))| .inr z=>some z)
theorem MV{p0:bK}{p1:BA}{r:IY}(g:St m (kB bp0 (Ve p0 a1 c1 a2 c2 a3 c3) 115::kR a3 p0.2.2.2 c3 49 5::O) w)(r1:RepS C5 m a1 c1 p0.1)(r2:RepS aH m a2 c2 p0.2.2.1)(r3:RepS C2 m a3 c3 p0.2.2.2)(i:GB N p0 p1=some r):Calls prog 96 #[vP bp0 0,vT p1] w fun e w'=>(∃(z0:Ts),∃m',r= .inl z0/\e= .panicked [{v:= .iface 111 (.agg (Vf z0)),recovered:=false}]/\m.le m'/\St m' (O) w')\/(∃(x:bK),r= .inr x/\∃z D B E s u m',e= .returned (.tuple #[])/\m.le m'/\St m' (kB bp0 (Ve x z D B E s u) 115::kR s x.2.2.2 u 49 5::O) w'/\P7 m' z D B E s u x):=by
 unfold GB at i;have q:=m.le_refl;refine bI func96 rfl ntmps96 ?_;refine aE (aU 2 [(4,vP bp0 0),(5,vT p1)] (aL 6 i (BR (p0:=p0) g.f1.f1 r1 r2 r3) ?_));rintro y1 i _ w1 ⟨a4,c4,a5,c5,a6,c6,m1,rfl,F,g,r4,r5,r6⟩;have q:=q.t F;refine aG 1 [(7,vB (!y1.2))] ?_;have⟨Z,i,Y⟩:=aW i;refine cR .normal (fun L' w'=>∃(a:bK),∃f l k n c d p,(.inl a:T21)=Z/\L'=[(0,vP bp0 0)]/\m.le p/\St p (kB bp0 (Ve a f l k n c d) 115::kR c a.2.2.2 d 49 5::O) w'/\P7 p f l k n c d a) ?_ ?_
 .rintro _ G ⟨a,f,l,k,n,c,d,p,rfl,rfl,q,g,b,o,y⟩;have i:=Y;refine aD (aX (aA 3 [(11,vP bp0 0),(13,vP bp0 1)] (bO 14 (vI a.2.1) g.h (aA 3 [(15,vI (wr (a.2.1+1))),(17,vP bp0 1)] (cU #[vS f a.1 l,vI (wr (a.2.1+1)),vS k a.2.2.1 n,vS c a.2.2.2 d] g fun H g=>(aS rfl ?_))))));cases i;exact oV [] [] rfl ResAll.nil (.inr ⟨_,rfl,f,l,k,n,c,d,p,rfl,q,g.f1.f1,b,o,y⟩)
 intro y;refine aF i ?_ ?_
 .intro A i;refine aX (aA 1 [(8,vP bp0 0)] (aL 9 i (sS (p0:=y1.1) g.f1.f1 r4 r5 r6) ?_));rintro y2 i _ w3 ⟨K,S,M,U,R,V,m3,rfl,o,g,a0,b0,b1⟩;refine dL 10 i (oA (p0:=y2.2) g) ?_;rintro y3 i _ w4 (⟨z1,m5,rfl,rfl,G,g⟩|⟨y4,rfl,m4,rfl,b,g⟩)
  .obtain rfl:=sI i;have i:=Y;refine bY ?_;obtain rfl:=sI i;have g:=g.t.t;exact cW (.inl ⟨z1,m5,rfl,rfl,(q.t o).t G,g⟩)
  refine aS rfl ?_;have H:=jG i;exact xE (y _ _ ⟨y2.1,K,S,M,U,R,V,m4,H,rfl,(q.t o).t b,g.f1.f1,a0.mono b,b0.mono b,b1.mono b⟩)
 intro A i;refine aN ?_;have H:=jG i;exact xE (y _ _ ⟨y1.1,a4,c4,a5,c5,a6,c6,m1,H,rfl,q,g.f1.f1,r4,r5,r6⟩)
def yG(N:Nat)(p0:bK)(p1:Int):Option AQ:=
 (rJ N p0).bind fun y1=>(if(y1.2.1 !=p1)=true then((nA N y1.2 9).bind fun a=>(match a with| .inl a=>some (.inr (.inl a))| .inr a=>some (.inl ()))) else(some (.inl ())):Option EE).bind fun a=>(match a with| .inl a=>(if(p1 !=5)=true then(some (IntKind.wrap .i64 (y1.1.2.1+1))) else(some y1.1.2.1):Ta).bind fun o2=>some (.inr ((y1.1.1,o2,y1.1.2.2.1,y1.1.2.2.2),y1.2))| .inr z=>some z)
theorem FK{p0:bK}{p1:Int}{r:AQ}(g:St m (kB bp0 (Ve p0 a1 c1 a2 c2 a3 c3) 115::kR a3 p0.2.2.2 c3 49 5::O) w)(r1:RepS C5 m a1 c1 p0.1)(r2:RepS aH m a2 c2 p0.2.2.1)(r3:RepS C2 m a3 c3 p0.2.2.2)(i:yG N p0 p1=some r):Calls prog 112 #[vP bp0 0,vI p1] w fun e w'=>(∃(Y:Ts),∃m',r= .inl Y/\e= .panicked [{v:= .iface 111 (.agg (Vf Y)),recovered:=false}]/\m.le m'/\St m' (O) w')\/(∃(y:vW),r= .inr y/\∃E G F H u x m',e= .returned (.agg (Va y.2))/\m.le m'/\St m' (kB bp0 (Ve y.1 E G F H u x) 115::kR u y.1.2.2.2 x 49 5::O) w'/\P7 m' E G F H u x y.1):=by
 unfold yG at i;have q:=m.le_refl;refine bI func112 rfl ntmps112 ?_;refine aC (cY 4 104 (.agg (Vb 0 eB 0 0)) g fun z w1 g=>(aQ (aC (aA 1 [(6,vP bp0 0)] (aL 7 i (sS (p0:=p0) g.f2.f2 r1 r2 r3) ?_)))));rintro y1 i _ w2 ⟨l,o,n,p,b,c,Z,rfl,K,g,d,f,k⟩;have q:=q.t K;refine cY 5 104 (.agg (Vb 0 eB 0 0)) g fun B w3 g=> ?_;refine cD (.agg (Va y1.2)) g fun w4 g=> ?_;refine aQ (aE (aC (bH 1 9 3 8 0 (vI y1.2.1) g.h (aG 2 [(11,vB (y1.2.1 !=p1))] ?_))));have⟨V,i,S⟩:=aW i;refine cR .normal (fun L' w'=>∃(U:Unit),∃s,(.inl U:EE)=V/\L'=[(0,vP bp0 0),(1,vI p1),(4,vP z 0),(5,vP B 0)]/\m.le s/\St s (kB B (Va y1.2) 104::kB bp0 (Ve y1.1 l o n p b c) 115::kB z (Vb 0 eB 0 0) 104::kR b y1.1.2.2.2 c 49 5::O) w'/\P7 s l o n p b c y1.1) ?_ ?_
 .rintro _ M ⟨U,s,rfl,rfl,q,g,d,f,k⟩;have i:=S;refine aD (aE (aB 2 [(15,vB (p1 !=5))] (cI .normal i (fun o2 L' w'=>∃a,L'=[(4,vP z 0),(5,vP B 0)]/\m.le a/\St a (kB B (Va y1.2) 104::kB bp0 #[vS l y1.1.1 o,vI o2,vS n y1.1.2.2.1 p,vS b y1.1.2.2.2 c] 115::kB z (Vb 0 eB 0 0) 104::kR b y1.1.2.2.2 c 49 5::O) w'/\P7 a l o n p b c y1.1) ?_ ?_)))
  .rintro o2 i _ R ⟨a,rfl,q,g,d,f,k⟩;refine aD (aC (bO 23 (.agg (Va y1.2)) g.h (cD (.agg (Va y1.2)) g.f2 fun D g=>(aQ (aM ?_)))));cases i;refine iW 4 104 [] [] g.h ?_;exact .inr ⟨_,rfl,l,o,n,p,b,c,a,rfl,q,g.t.t.f1.f1,d,f,k⟩
  intro o2 i D;refine aF i ?_ ?_
  .intro A i;refine aX (aA 3 [(16,vP bp0 0),(18,vP bp0 1)] (bO 19 (vI y1.1.2.1) g.t.h (aA 3 [(20,vI (wr (y1.1.2.1+1))),(22,vP bp0 1)] (cU #[vS l y1.1.1 o,vI (wr (y1.1.2.1+1)),vS n y1.1.2.2.1 p,vS b y1.1.2.2.2 c] g.f1 fun R g=>(aS rfl ?_)))));cases i;exact xE (D _ _ ⟨s,rfl,q,g.f3.f3.f2.f3,d,f,k⟩)
  intro A i;refine aN ?_;cases i;exact xE (D _ _ ⟨s,rfl,q,g.f3.f3.f3.f3,d,f,k⟩)
 intro D;refine aF i ?_ ?_
 .intro A i;refine aX (bO 12 (.agg (Va y1.2)) g.h (dL 13 i (oA (p0:=y1.2) g) ?_));rintro y2 i _ w6 (⟨z1,m4,rfl,rfl,M,g⟩|⟨y3,rfl,m3,rfl,a,g⟩)
  .obtain rfl:=sI i;have i:=S;refine bY ?_;obtain rfl:=sI i;have g:=g.t.t.t.t;exact cW (.inl ⟨z1,m4,rfl,rfl,q.t M,g⟩)
  refine aS rfl ?_;have R:=jG i;exact xE (D _ _ ⟨(),m3,R,rfl,q.t a,g.f2.f3.f3.f3,d.mono a,f.mono a,k.mono a⟩)
 intro A i;refine aN ?_;have R:=jG i;exact xE (D _ _ ⟨(),Z,R,rfl,q,g.f2.f3.f3.f3,d,f,k⟩)
def BX(N:Nat)(p0:bK):Option AQ:=
 (yG N p0 1).bind fun y1=>(match y1 with| .inl a=>some (.inl a)| .inr a=>(yK N a.2.2.1).bind fun b=>(if b=true then((nA N a.2 9).bind fun b=>(match b with| .inl b=>some (.inr (.inl b))| .inr y5=>some (.inl ()))) else(some (.inl ())):Option EE).bind fun b=>(match b with| .inl b=>some (.inr (a.1,a.2))| .inr z=>some z))
theorem JO{p0:bK}{r:AQ}(g:St m (kB bp0 (Ve p0 a1 c1 a2 c2 a3 c3) 115::kR a3 p0.2.2.2 c3 49 5::O) w)(r1:RepS C5 m a1 c1 p0.1)(r2:RepS aH m a2 c2 p0.2.2.1)(r3:RepS C2 m a3 c3 p0.2.2.2)(i:BX N p0=some r):Calls prog 97 #[vP bp0 0] w fun e w'=>(∃(z0:Ts),∃m',r= .inl z0/\e= .panicked [{v:= .iface 111 (.agg (Vf z0)),recovered:=false}]/\m.le m'/\St m' (O) w')\/(∃(l:vW),r= .inr l/\∃y B z D f k m',e= .returned (.agg (Va l.2))/\m.le m'/\St m' (kB bp0 (Ve l.1 y B z D f k) 115::kR f l.1.2.2.2 k 49 5::O) w'/\P7 m' y B z D f k l.1):=by
 unfold BX at i;have q:=m.le_refl;refine bI func97 rfl ntmps97 ?_;refine aC (cY 2 104 (.agg (Vb 0 eB 0 0)) g fun U w1 g=>(aQ (aC (aA 1 [(4,vP bp0 0)] (dL 5 i (FK (p0:=p0) g.f2.f2 r1 r2 r3) ?_)))));rintro y1 i _ w2 (⟨z1,m2,rfl,rfl,M,g⟩|⟨b,rfl,E,G,F,H,n,o,m1,rfl,K,g,p,s,u⟩)
 .refine bY ?_;obtain rfl:=sI i;have g:=g.t;exact cW (.inl ⟨z1,m2,rfl,rfl,q.t M,g⟩)
 refine cY 3 104 (.agg (Vb 0 eB 0 0)) g fun V w4 g=> ?_;refine cD (.agg (Va b.2)) g fun w5 g=> ?_;refine aQ (aE (aC (bH 1 7 9 6 1 (vT b.2.2.1) g.h (aL 8 i (MY g) ?_))));rintro y3 i _ w6 ⟨m3,rfl,a,g⟩;have q:=(q.t K).t a;refine aQ ?_;have⟨a0,i,Y⟩:=aW i;refine cR .normal (fun L' w'=>∃(Z:Unit),∃d,(.inl Z:EE)=a0/\L'=[(2,vP U 0),(3,vP V 0)]/\m.le d/\St d (kB V (Va b.2) 104::kB bp0 (Ve b.1 E G F H n o) 115::kB U (Vb 0 eB 0 0) 104::kR n b.1.2.2.2 o 49 5::O) w'/\P7 d E G F H n o b.1) ?_ ?_
 .rintro _ x ⟨Z,d,rfl,rfl,q,g,p,s,u⟩;have i:=Y;refine aD (aC (bO 11 (.agg (Va b.2)) g.h (cD (.agg (Va b.2)) g.f2 fun c g=>(aQ (aM ?_)))));cases i;refine iW 2 104 [] [] g.h ?_;exact .inr ⟨_,rfl,E,G,F,H,n,o,d,rfl,q,g.t.t.f1.f1,p,s,u⟩
 intro x;refine aF i ?_ ?_
 .intro A i;refine aX (bO 9 (.agg (Va b.2)) g.h (dL 10 i (oA (p0:=b.2) g) ?_));rintro y4 i _ w8 (⟨z2,m6,rfl,rfl,R,g⟩|⟨y5,rfl,m5,rfl,c,g⟩)
  .obtain rfl:=sI i;have i:=Y;refine bY ?_;obtain rfl:=sI i;have g:=g.t.t.t.t;exact cW (.inl ⟨z2,m6,rfl,rfl,q.t R,g⟩)
  refine aS rfl ?_;have S:=jG i;exact xE (x _ _ ⟨(),m5,S,rfl,q.t c,g.f2.f3.f3.f3,(p.mono a).mono c,(s.mono a).mono c,(u.mono a).mono c⟩)
 intro A i;refine aN ?_;have S:=jG i;exact xE (x _ _ ⟨(),m3,S,rfl,q,g.f2.f3.f3.f3,p.mono a,s.mono a,u.mono a⟩)
def qK(N:Nat)(p0:bK)(p1:BA):Option IY:=
 (wK N p0 4 p1).bind fun y1=>(if(!y1.2)=true then((rJ N y1.1).bind fun a=>(nA N a.2 9).bind fun b=>(match b with| .inl b=>some (.inr (.inl b))| .inr b=>some (.inl a.1))) else(some (.inl y1.1)):Option T21).bind fun a=>(match a with| .inl a=>some (.inr (a.1,IntKind.wrap .i64 (a.2.1+1),a.2.2.1,a.2.2.2))| .inr z=>some z)
theorem sA{p0:bK}{p1:BA}{r:IY}(g:St m (kB bp0 (Ve p0 a1 c1 a2 c2 a3 c3) 115::kR a3 p0.2.2.2 c3 49 5::O) w)(r1:RepS C5 m a1 c1 p0.1)(r2:RepS aH m a2 c2 p0.2.2.1)(r3:RepS C2 m a3 c3 p0.2.2.2)(i:qK N p0 p1=some r):Calls prog 98 #[vP bp0 0,vT p1] w fun e w'=>(∃(z0:Ts),∃m',r= .inl z0/\e= .panicked [{v:= .iface 111 (.agg (Vf z0)),recovered:=false}]/\m.le m'/\St m' (O) w')\/(∃(x:bK),r= .inr x/\∃z D B E s u m',e= .returned (.tuple #[])/\m.le m'/\St m' (kB bp0 (Ve x z D B E s u) 115::kR s x.2.2.2 u 49 5::O) w'/\P7 m' z D B E s u x):=by
 unfold qK at i;have q:=m.le_refl;refine bI func98 rfl ntmps98 ?_;refine aE (aU 2 [(4,vP bp0 0),(5,vT p1)] (aL 6 i (BR (p0:=p0) g.f1.f1 r1 r2 r3) ?_));rintro y1 i _ w1 ⟨a4,c4,a5,c5,a6,c6,m1,rfl,F,g,r4,r5,r6⟩;have q:=q.t F;refine aG 1 [(7,vB (!y1.2))] ?_;have⟨Z,i,Y⟩:=aW i;refine cR .normal (fun L' w'=>∃(a:bK),∃f l k n c d p,(.inl a:T21)=Z/\L'=[(0,vP bp0 0)]/\m.le p/\St p (kB bp0 (Ve a f l k n c d) 115::kR c a.2.2.2 d 49 5::O) w'/\P7 p f l k n c d a) ?_ ?_
 .rintro _ G ⟨a,f,l,k,n,c,d,p,rfl,rfl,q,g,b,o,y⟩;have i:=Y;refine aD (aX (aA 3 [(11,vP bp0 0),(13,vP bp0 1)] (bO 14 (vI a.2.1) g.h (aA 3 [(15,vI (wr (a.2.1+1))),(17,vP bp0 1)] (cU #[vS f a.1 l,vI (wr (a.2.1+1)),vS k a.2.2.1 n,vS c a.2.2.2 d] g fun H g=>(aS rfl ?_))))));cases i;exact oV [] [] rfl ResAll.nil (.inr ⟨_,rfl,f,l,k,n,c,d,p,rfl,q,g.f1.f1,b,o,y⟩)
 intro y;refine aF i ?_ ?_
 .intro A i;refine aX (aA 1 [(8,vP bp0 0)] (aL 9 i (sS (p0:=y1.1) g.f1.f1 r4 r5 r6) ?_));rintro y2 i _ w3 ⟨K,S,M,U,R,V,m3,rfl,o,g,a0,b0,b1⟩;refine dL 10 i (oA (p0:=y2.2) g) ?_;rintro y3 i _ w4 (⟨z1,m5,rfl,rfl,G,g⟩|⟨y4,rfl,m4,rfl,b,g⟩)
  .obtain rfl:=sI i;have i:=Y;refine bY ?_;obtain rfl:=sI i;have g:=g.t.t;exact cW (.inl ⟨z1,m5,rfl,rfl,(q.t o).t G,g⟩)
  refine aS rfl ?_;have H:=jG i;exact xE (y _ _ ⟨y2.1,K,S,M,U,R,V,m4,H,rfl,(q.t o).t b,g.f1.f1,a0.mono b,b0.mono b,b1.mono b⟩)
 intro A i;refine aN ?_;have H:=jG i;exact xE (y _ _ ⟨y1.1,a4,c4,a5,c5,a6,c6,m1,H,rfl,q,g.f1.f1,r4,r5,r6⟩)
def BV(N:Nat)(p0:bK):Option AQ:=
 (yG N p0 3).bind fun y1=>(match y1 with| .inl a=>some (.inl a)| .inr a=>(uT N a.2.2.1).bind fun b=>(if(!b)=true then((nA N a.2 9).bind fun b=>(match b with| .inl b=>some (.inr (.inl b))| .inr y5=>some (.inl ()))) else(some (.inl ())):Option EE).bind fun b=>(match b with| .inl b=>some (.inr (a.1,a.2))| .inr z=>some z))
theorem JQ{p0:bK}{r:AQ}(g:St m (kB bp0 (Ve p0 a1 c1 a2 c2 a3 c3) 115::kR a3 p0.2.2.2 c3 49 5::O) w)(r1:RepS C5 m a1 c1 p0.1)(r2:RepS aH m a2 c2 p0.2.2.1)(r3:RepS C2 m a3 c3 p0.2.2.2)(i:BV N p0=some r):Calls prog 113 #[vP bp0 0] w fun e w'=>(∃(z0:Ts),∃m',r= .inl z0/\e= .panicked [{v:= .iface 111 (.agg (Vf z0)),recovered:=false}]/\m.le m'/\St m' (O) w')\/(∃(l:vW),r= .inr l/\∃y B z D f k m',e= .returned (.agg (Va l.2))/\m.le m'/\St m' (kB bp0 (Ve l.1 y B z D f k) 115::kR f l.1.2.2.2 k 49 5::O) w'/\P7 m' y B z D f k l.1):=by
 unfold BV at i;have q:=m.le_refl;refine bI func113 rfl ntmps113 ?_;refine aC (cY 2 104 (.agg (Vb 0 eB 0 0)) g fun U w1 g=>(aQ (aC (aA 1 [(4,vP bp0 0)] (dL 5 i (FK (p0:=p0) g.f2.f2 r1 r2 r3) ?_)))));rintro y1 i _ w2 (⟨z1,m2,rfl,rfl,M,g⟩|⟨b,rfl,E,G,F,H,n,o,m1,rfl,K,g,p,s,u⟩)
 .refine bY ?_;obtain rfl:=sI i;have g:=g.t;exact cW (.inl ⟨z1,m2,rfl,rfl,q.t M,g⟩)
 refine cY 3 104 (.agg (Vb 0 eB 0 0)) g fun V w4 g=> ?_;refine cD (.agg (Va b.2)) g fun w5 g=> ?_;refine aQ (aE (aC (bH 1 7 9 6 1 (vT b.2.2.1) g.h (aL 8 i (JX g) ?_))));rintro y3 i _ w6 ⟨m3,rfl,a,g⟩;have q:=(q.t K).t a;refine aG 1 [(9,vB (!y3))] ?_;have⟨a0,i,Y⟩:=aW i;refine cR .normal (fun L' w'=>∃(Z:Unit),∃d,(.inl Z:EE)=a0/\L'=[(2,vP U 0),(3,vP V 0)]/\m.le d/\St d (kB V (Va b.2) 104::kB bp0 (Ve b.1 E G F H n o) 115::kB U (Vb 0 eB 0 0) 104::kR n b.1.2.2.2 o 49 5::O) w'/\P7 d E G F H n o b.1) ?_ ?_
 .rintro _ x ⟨Z,d,rfl,rfl,q,g,p,s,u⟩;have i:=Y;refine aD (aC (bO 12 (.agg (Va b.2)) g.h (cD (.agg (Va b.2)) g.f2 fun c g=>(aQ (aM ?_)))));cases i;refine iW 2 104 [] [] g.h ?_;exact .inr ⟨_,rfl,E,G,F,H,n,o,d,rfl,q,g.t.t.f1.f1,p,s,u⟩
 intro x;refine aF i ?_ ?_
 .intro A i;refine aX (bO 10 (.agg (Va b.2)) g.h (dL 11 i (oA (p0:=b.2) g) ?_));rintro y4 i _ w8 (⟨z2,m6,rfl,rfl,R,g⟩|⟨y5,rfl,m5,rfl,c,g⟩)
  .obtain rfl:=sI i;have i:=Y;refine bY ?_;obtain rfl:=sI i;have g:=g.t.t.t.t;exact cW (.inl ⟨z2,m6,rfl,rfl,q.t R,g⟩)
  refine aS rfl ?_;have S:=jG i;exact xE (x _ _ ⟨(),m5,S,rfl,q.t c,g.f2.f3.f3.f3,(p.mono a).mono c,(s.mono a).mono c,(u.mono a).mono c⟩)
 intro A i;refine aN ?_;have S:=jG i;exact xE (x _ _ ⟨(),m3,S,rfl,q,g.f2.f3.f3.f3,p.mono a,s.mono a,u.mono a⟩)
def wF(N:Nat)(p0:bK)(p1:BA):Option (bK×Bool):=
 (wK N p0 4 p1).bind fun y1=>if(!y1.2)=true then(some (y1.1,false)) else(some ((y1.1.1,IntKind.wrap .i64 (y1.1.2.1+1),y1.1.2.2.1,y1.1.2.2.2),true))
theorem AZ{p0:bK}{p1:BA}{r:bK×Bool}(g:St m (kB bp0 (Ve p0 a1 c1 a2 c2 a3 c3) 115::kR a3 p0.2.2.2 c3 49 5::O) w)(D:RepS C5 m a1 c1 p0.1)(E:RepS aH m a2 c2 p0.2.2.1)(F:RepS C2 m a3 c3 p0.2.2.2)(i:wF N p0 p1=some r):Calls prog 124 #[vP bp0 0,vT p1] w fun e w'=>∃d k f l b c m',e= .returned (vB r.2)/\m.le m'/\St m' (kB bp0 (Ve r.1 d k f l b c) 115::kR b r.1.2.2.2 c 49 5::O) w'/\P7 m' d k f l b c r.1:=by
 unfold wF at i;have q:=m.le_refl;refine bI func124 rfl ntmps124 ?_;refine aB 1 [] (aE ?_);refine aU 2 [(5,vP bp0 0),(6,vT p1)] ?_;refine aL 7 i (BR (p0:=p0) g.f1.f1 D E F) ?_;rintro y1 i _ G ⟨n,s,o,u,p,v,x,rfl,a,g,y,z,B⟩;refine aG 1 [(8,vB (!y1.2))] (aF i ?_ ?_)
 .intro A i;refine aB 1 [(4,vB false)] (aM ?_);refine aK ?_;cases i;exact aR [4] [vB false] ⟨n,s,o,u,p,v,x,rfl,q.t a,g.f1.f1,y,z,B⟩
 intro A i;refine aN (aD (aU 3 [(9,vP bp0 0),(11,vP bp0 1)] (bO 12 (vI y1.1.2.1) g.h (aA 3 [(13,vI (wr (y1.1.2.1+1))),(15,vP bp0 1)] (cU #[vS n y1.1.1 s,vI (wr (y1.1.2.1+1)),vS o y1.1.2.2.1 u,vS p y1.1.2.2.2 v] g fun H g=>(aQ (aC (aG 1 [(4,vB true)] (aM ?_)))))))));cases i;exact aR [4] [vB true] ⟨n,s,o,u,p,v,x,rfl,q.t a,g.f1.f1,y,z,B⟩
def MH(N:Nat)(a:uG):Option (uG⊕uG⊕T25):=
 (BX N a.2).bind fun b=>(match b with| .inl b=>some (.inr (.inr (.inl b)))| .inr y5=>(if((List.length a.1:Int)==8)=true then((nA N y5.2 2).bind fun b=>(match b with| .inl b=>some (.inr (.inr (.inr (.inl b))))| .inr b=>some (.inl ()))) else(some (.inl ())):Option T26).bind fun b=>(match b with| .inl o2=>(vY N a.1 y5.2.2.1).bind fun b=>(if b=true then((nA N y5.2 10).bind fun b=>(match b with| .inl b=>some (.inr (.inr (.inr (.inl b))))| .inr b=>some (.inl ()))) else(some (.inl ())):Option T26).bind fun b=>(match b with| .inl b=>(cP 16 a.1 ([y5.2.2.1])).bind fun b=>(wF N y5.1 (⟨#[44]⟩:BA)).bind fun a=>if(!a.2)=true then(some (.inr (.inl (b,a.1.1,a.1.2.1,a.1.2.2.1,a.1.2.2.2)))) else(some (.inl (b,a.1.1,a.1.2.1,a.1.2.2.1,a.1.2.2.2)))| .inr z=>some z)| .inr z=>some z))
def MK(N:Nat)(p0:bK):Option T25:=
 (qK N p0 (⟨#[40]⟩:BA)).bind fun y1=>(match y1 with| .inl a=>some (.inl a)| .inr a=>(wF N a (⟨#[41]⟩:BA)).bind fun a=>if a.2=true then(some (.inr (a.1,([]:Te)))) else((aI (MH N) N (([]:Te),a.1.1,a.1.2.1,a.1.2.2.1,a.1.2.2.2)).bind fun a=>(match a with| .inl a=>(qK N a.2 (⟨#[41]⟩:BA)).bind fun b=>(match b with| .inl b=>some (.inl b)| .inr b=>some (.inr (b,a.1)))| .inr (z)=>some z)))
theorem qCa{p0:bK}{r:T25}(g:St m (kB bp0 (Ve p0 a1 c1 a2 c2 a3 c3) 115::kR a3 p0.2.2.2 c3 49 5::O) w)(r1:RepS C5 m a1 c1 p0.1)(r2:RepS aH m a2 c2 p0.2.2.1)(r3:RepS C2 m a3 c3 p0.2.2.2)(i:MK N p0=some r):Calls prog 116 #[vP bp0 0] w fun e w'=>(∃(z0:Ts),∃m',r= .inl z0/\e= .panicked [{v:= .iface 111 (.agg (Vf z0)),recovered:=false}]/\m.le m'/\St m' (O) w')\/(∃(F:bK×Te),r= .inr F/\∃f7 f9 f8 g0 d6 d8 d7 d9 m',e= .returned (vS d7 F.2 d9)/\m.le m'/\St m' (kR d7 F.2 d9 9 1::kB bp0 (Ve F.1 f7 f9 f8 g0 d6 d8) 115::kR d6 F.1.2.2.2 d8 49 5::O) w'/\RepS C5 m' f7 f9 F.1.1/\RepS aH m' f8 g0 F.1.2.2.1/\RepS C2 m' d6 d8 F.1.2.2.2/\RepS aH m' d7 d9 F.2):=by
 unfold MK at i;have q:=m.le_refl;refine bI func116 rfl ntmps116 ?_;refine aB 1 [] (aC ?_);refine aG 1 [(3,va)] (aC (aA 1 [(5,vP bp0 0)] (dL 6 i (sA (p0:=p0) g.f1.f1 r1 r2 r3) ?_)));rintro y1 i _ w1 (⟨z1,m2,rfl,rfl,g2,g⟩|⟨y2,rfl,a4,c4,a5,c5,a6,c6,m1,rfl,d3,g,r4,r5,r6⟩)
 .refine bY ?_;obtain rfl:=sI i;exact cW (.inl ⟨z1,m2,rfl,rfl,q.t g2,g⟩)
 refine aQ (aE (aU 1 [(7,vP bp0 0)] (aL 8 i (AZ (p0:=y2) g.f1.f1 r4 r5 r6) ?_)));rintro y3 i _ w3 ⟨a7,c7,a8,c8,a9,c9,m3,rfl,d4,g,r7,r8,r9⟩;refine aQ (aF i ?_ ?_)
 .intro A i;refine aB 1 [(2,va)] (aM ?_);refine aK ?_;cases i;refine aR [2] [va] ?_;have g:=(g.nilroom 9 1).front2.front2.front2;exact .inr ⟨_,rfl,a7,c7,a8,c8,a9,c9,none,0,m3,rfl,(q.t d3).t d4,g,r7,r8,r9,(RepS.nil _ _)⟩
 intro A i;refine aN (aD (aE (aZ ?_)));have⟨d5,i,j1⟩:=aW i;refine cR (.exit 0) (fun L' w'=>∃(n:uG),∃s u b3 b8 b4 b9 R Y K,(.inl n)=d5/\L'=[(0,vP bp0 0),(3,vS s n.1 u)]/\m.le K/\St K (kB bp0 (Ve n.2 b3 b8 b4 b9 R Y) 115::kR s n.1 u 9 1::kR R n.2.2.2.2 Y 49 5::O) w'/\RepS aH K s u n.1/\RepS C5 K b3 b8 n.2.1/\RepS aH K b4 b9 n.2.2.2.1/\RepS C2 K R Y n.2.2.2.2) ?_ ?_
 .rintro _ Z ⟨n,s,u,b3,b8,b4,b9,R,Y,K,rfl,rfl,q,g,y,z,B,D⟩;have i:=j1;refine cM (aD (aU 1 [(30,vP bp0 0)] (dL 31 i (sA (p0:=n.2) g.f2.f1 z B D) ?_)));rintro U i _ S (⟨M,x,rfl,rfl,b,g⟩|⟨V,rfl,c,k,d,l,f,o,p,rfl,a,g,E,G,H⟩)
  .refine bY ?_;obtain rfl:=sI i;have g:=g.t;exact cW (.inl ⟨M,x,rfl,rfl,q.t b,g⟩)
  refine aQ (aC (aG 2 [(2,vS s n.1 u)] (aM ?_)));cases i;exact aR [2] [vS s n.1 u] (.inr ⟨_,rfl,c,k,d,l,f,o,s,u,p,rfl,q.t a,g.f1.f1.f2,E,G,H,y.mono a⟩)
 intro e0;have g:=(g.nilroom 9 1).front2.front1.front2;refine cK _ kr (cJ (fun k1 L' w'=>∃(a:uG),∃c d b5 d0 b6 d1 S Z M,aI (MH N) k1 a=some d5/\L'=[(0,vP bp0 0),(3,vS c a.1 d)]/\m.le M/\St M (kB bp0 (Ve a.2 b5 d0 b6 d1 S Z) 115::kR c a.1 d 9 1::kR S a.2.2.2.2 Z 49 5::O) w'/\RepS aH M c d a.1/\RepS C5 M b5 d0 a.2.1/\RepS aH M b6 d1 a.2.2.2.1/\RepS C2 M S Z a.2.2.2.2) N ⟨(([]:Te),y3.1.1,y3.1.2.1,y3.1.2.2.1,y3.1.2.2.2),none,0,a7,c7,a8,c8,a9,c9,m3,i,rfl,(q.t d3).t d4,g,(RepS.nil _ _),r7,r8,r9⟩ ?_);rintro k1 _ w5 ⟨a,c,d,b5,d0,b6,d1,S,Z,M,hL,rfl,q,g,o,g7,g8,g9⟩;rcases k1 with _|k1
 .exact cN hL
 obtain⟨h3,i,g1,E⟩:=cO hL;clear hL;unfold MH at i;refine aZ (aU 1 [(9,vP bp0 0)] (dL 10 i (JO (p0:=a.2) g.f2.f1 g7 g8 g9) ?_));rintro y4 i _ w6 (⟨z2,m7,rfl,rfl,g3,g⟩|⟨y5,rfl,U,a0,V,b0,B,D,m6,rfl,H,g,x,y,z⟩)
 .refine bY ?_;refine eZ ?_;have ho:=E _ (sI i);subst ho;have i:=j1;refine bY ?_;refine eZ ?_;refine bY ?_;obtain rfl:=sI i;have g:=g.t;exact cW (.inl ⟨z2,m7,rfl,rfl,q.t g3,g⟩)
 have q:=q.t H;refine cY 4 104 (.agg (Vb 0 eB 0 0)) g fun b1 w8 g=> ?_;refine cD (.agg (Va y5.2)) g fun w9 g=> ?_;refine aQ (aE (aB 3 [(13,vB ((a.1.length:Int)==8))] ?_));have⟨g5,i,j2⟩:=aW i;refine cR .normal (fun L' w'=>∃(o2:Unit),∃m8,(.inl o2:T26)=g5/\L'=[(0,vP bp0 0),(3,vS c a.1 d),(4,vP b1 0)]/\m.le m8/\St m8 (kB b1 (Va y5.2) 104::kB bp0 (Ve y5.1 U a0 V b0 B D) 115::kR B y5.1.2.2.2 D 49 5::kR c a.1 d 9 1::O) w'/\RepS aH m8 c d a.1/\P7 m8 U a0 V b0 B D y5.1) ?_ ?_
 .rintro _ h4 ⟨o2,m8,rfl,rfl,q,g,o,x,y,z⟩;have i:=j2;refine aD (aE (aU 2 [(16,vS c a.1 d),(17,vP b1 1)] (bO 18 (vT y5.2.2.1) g.h (aL 19 i (JG g o) ?_))));rintro y8 i _ h5 ⟨g4,rfl,b,g⟩;have q:=q.t b;refine aQ ?_;have⟨g6,i,j3⟩:=aW i;refine cR .normal (fun L' w'=>∃(o3:Unit),∃G,(.inl o3:T26)=g6/\L'=[(0,vP bp0 0),(3,vS c a.1 d),(4,vP b1 0)]/\m.le G/\St G (kB b1 (Va y5.2) 104::kB bp0 (Ve y5.1 U a0 V b0 B D) 115::kR B y5.1.2.2.2 D 49 5::kR c a.1 d 9 1::O) w'/\RepS aH G c d a.1/\P7 G U a0 V b0 B D y5.1) ?_ ?_
  .rintro _ h6 ⟨o3,G,rfl,rfl,q,g,o,x,y,z⟩;have i:=j3;refine aD (aU 2 [(22,vS c a.1 d),(23,vP b1 1)] (bO 24 (vT y5.2.2.1) g.h (eX 25 9 1 aH [y5.2.2.1] g fun b2 h1 h7 f g h0=>(iT 26 26 26 9 16 22 25 g.f4 (.inl kr) (o.mono f) h0.src i fun l1 i b7 d2 h2 h8 k g e9=>(aA 1 [(3,vS b7 l1 d2)] (aS rfl ?_))))));have g:=g.f1.t;refine aD (aU 1 [(27,vP bp0 0)] (aL 28 i (AZ (p0:=y5.1) g.f3.f3 ((x.mono f).mono k) ((y.mono f).mono k) ((z.mono f).mono k)) ?_));rintro l i _ h9 ⟨e1,e5,e2,e6,e4,e7,e8,rfl,p,g,f0,f5,f6⟩;refine aG 1 [(29,vB (!l.2))] (aF i ?_ ?_)
   .intro A i;refine cG (yY rfl ?_);have ho:=E _ (sI i);have g:=g.f3.t.f1.f2.f2;refine bF ?_;exact xE (e0 _ _ ⟨(l1,l.1.1,l.1.2.1,l.1.2.2.1,l.1.2.2.2),b7,d2,e1,e5,e2,e6,e4,e7,e8,ho,rfl,((q.t f).t k).t p,g,e9.mono p,f0,f5,f6⟩)
   intro A i;refine aN (bG ?_);have hL:=g1 _ (sI i);exact xE (cF ⟨(l1,l.1.1,l.1.2.1,l.1.2.2.1,l.1.2.2.2),b7,d2,e1,e5,e2,e6,e4,e7,e8,hL,rfl,((q.t f).t k).t p,g.f3.t.f1.f2.f2,e9.mono p,f0,f5,f6⟩)
  intro l;refine aF i ?_ ?_
  .intro A i;refine aX (bO 20 (.agg (Va y5.2)) g.h (dL 21 i (oA (p0:=y5.2) g) ?_));rintro y9 i _ e1 (⟨z4,d2,rfl,rfl,k,g⟩|⟨e2,rfl,b7,rfl,f,g⟩)
   .obtain rfl:=sI i;have i:=j3;refine bY ?_;refine eZ ?_;have ho:=E _ (sI i);subst ho;have i:=j1;refine bY ?_;refine eZ ?_;refine bY ?_;obtain rfl:=sI i;have g:=g.t.t.t.t;exact cW (.inl ⟨z4,d2,rfl,rfl,q.t k,g⟩)
   refine aS rfl ?_;have p:=jG i;exact xE (l _ _ ⟨(),b7,p,rfl,q.t f,g.f3.f3.f3.f3,(o.mono b).mono f,(x.mono b).mono f,(y.mono b).mono f,(z.mono b).mono f⟩)
  intro A i;refine aN ?_;have p:=jG i;exact xE (l _ _ ⟨(),g4,p,rfl,q,g.f3.f3.f3.f3,o.mono b,x.mono b,y.mono b,z.mono b⟩)
 intro f;refine aF i ?_ ?_
 .intro A i;refine aX (bO 14 (.agg (Va y5.2)) g.h (dL 15 i (oA (p0:=y5.2) g) ?_));rintro y6 i _ b7 (⟨z3,p,rfl,rfl,k,g⟩|⟨y7,rfl,G,rfl,b,g⟩)
  .obtain rfl:=sI i;have i:=j2;refine bY ?_;refine eZ ?_;have ho:=E _ (sI i);subst ho;have i:=j1;refine bY ?_;refine eZ ?_;refine bY ?_;obtain rfl:=sI i;have g:=g.t.t.t.t;exact cW (.inl ⟨z3,p,rfl,rfl,q.t k,g⟩)
  refine aS rfl ?_;have l:=jG i;exact xE (f _ _ ⟨(),G,l,rfl,q.t b,g.f3.f3.f3.f3,(o.mono H).mono b,x.mono b,y.mono b,z.mono b⟩)
 intro A i;refine aN ?_;have l:=jG i;exact xE (f _ _ ⟨(),m6,l,rfl,q,g.f3.f3.f3.f3,o.mono H,x,y,z⟩)
def uQ(N:Nat)(p0:bK)(p1:mB)(p2:Tf):eA:=
 (if((List.length p0.2.2.2:Int)==256)=true then((nA N p1 2).bind fun y1=>(match y1 with| .inl a=>some (.inr (.inl a))| .inr a=>some (.inl ()))) else(some (.inl ())):Option xJ).bind fun a=>(match a with| .inl a=>(cP 64 p0.2.2.2 ([p2])).bind fun a=>some (.inr ((p0.1,p0.2.1,p0.2.2.1,a),IntKind.wrap .i64 ((List.length a:Int)-1)))| .inr z=>some z)
theorem yA{p0:bK}{p1:mB}{p2:Tf}{r:nV}(g:St m (kB bp0 (Ve p0 a1 c1 a2 c2 a3 c3) 115::kR a3 p0.2.2.2 c3 49 5::O) w)(z:RepS C5 m a1 c1 p0.1)(B:RepS aH m a2 c2 p0.2.2.1)(D:RepS C2 m a3 c3 p0.2.2.2)(E:RepS (aV .i64) m a4 c4 p2.2.2.2.2)(i:uQ N p0 p1 p2=some r):Calls prog 126 #[vP bp0 0,.agg (Va p1),.agg (V3 p2 a4 c4)] w fun e w'=>(∃(Y:Ts),∃m',r= .inl Y/\e= .panicked [{v:= .iface 111 (.agg (Vf Y)),recovered:=false}]/\m.le m'/\St m' (O) w')\/(∃(u:oL),r= .inr u/\∃F H G K p s m',e= .returned (vI u.2)/\m.le m'/\St m' (kB bp0 (Ve u.1 F H G K p s) 115::kR p u.1.2.2.2 s 49 5::O) w'/\P7 m' F H G K p s u.1):=by
 unfold uQ at i;have q:=m.le_refl;refine bI func126 rfl ntmps126 ?_;refine aC (iF 4 104 (.agg (Va p1)) g fun b1 m1 w1 c g R=>(iF 5 49 (.agg (V3 p2 a4 c4)) g fun M Z w2 b g n=> ?_));have q:=(q.t c).t b;refine aG 1 [] (aE (aC (bH 3 10 36 9 3 (vS a3 p0.2.2.2 c3) g.h (aG 2 [(12,vB ((p0.2.2.2.length:Int)==256))] ?_))));have⟨V,i,S⟩:=aW i;refine cR .normal (fun L' w'=>∃(U:Unit),∃k,(.inl U:xJ)=V/\L'=[(0,vP bp0 0),(5,vP M 0)]/\m.le k/\St k (kB bp0 (Ve p0 a1 c1 a2 c2 a3 c3) 115::kR a3 p0.2.2.2 c3 49 5::O) w'/\MRow k M 0 (V4 p2 a4 c4)/\RepS (aV .i64) k a4 c4 p2.2.2.2.2/\P7 k a1 c1 a2 c2 a3 c3 p0) ?_ ?_
 .rintro _ w3 ⟨U,k,rfl,rfl,q,g,n,E,z,B,D⟩;have i:=S;refine aD (aE (eI [(11,fun w'=>Inv k w'/\True),(10,fun w'=>Inv k w'/\Piece.holds k w' (kB bp0 (Ve p0 a1 c1 a2 c2 a3 c3) 115)/\True)] kr g fun w6 _ g=> ?_));have a:=k.le_refl;refine⟨⟨iA g a,⟨.inr ⟨Inv.anti g.inv a,Piece.holds_anti g.h a,trivial⟩,trivial⟩⟩,?_⟩;refine aO 0 15 (vP bp0 0) (.head _) (aO 1 16 (vP bp0 0) (.head _) (aO 2 17 (vP bp0 0) (.head _) (aO 3 18 (vP bp0 3) (.head _) (dI 36 18 4 19 3 (vS a3 p0.2.2.2 c3) (.tail _ (.head _)) (fun _ h=>h.2.1) (eU 49 5 5 20 0 (.agg (V3 p2 a4 c4)) (.head _) (fun _ h=>h.1) n (cA 6 kr (lK (d:=21) (t:=36) (e:=49) (len:=1) (parts:= #[(0,(.tmp 20))]) C2 (xs:=[p2]) (V4 p2 a4 c4) kr rfl (fun _=>lD kr _) rfl rfl g ⟨(V4 p2 a4 c4),_,rfl,⟨_,_,rfl,rfl,⟨_,_,rfl,rfl,⟨_,_,rfl,rfl,⟨_,_,rfl,rfl,(iD E)⟩⟩⟩⟩,rfl⟩ fun b3 m6 w7 f g r5=> ?_)))))));have a:=Mem.le_trans a f;refine⟨⟨iA g a,⟨.inr ⟨Inv.anti g.inv a,Piece.holds_anti g.t.h a,trivial⟩,trivial⟩⟩,?_⟩;refine cA 7 kr (uY 22 36 36 49 64 19 21 g.f2 (.inl kr) (D.mono f) r5.src i fun o i x y m7 w8 l g r6=> ?_);have a:=Mem.le_trans a l;refine⟨⟨iA g a,⟨.inr ⟨Inv.anti g.inv a,Piece.holds_anti g.t.t.h a,trivial⟩,trivial⟩⟩,?_⟩
  refine aO 8 23 (vP bp0 0) (.head _) (aO 9 24 (vP bp0 3) (.head _) (cA 10 kr (zW 36 24 22 3 (vS x o y) #[vS a1 p0.1 c1,vI p0.2.1,vS a2 p0.2.2.1 c2,vS x o y] g.f2 fun w9 g=>(⟨⟨iA g a,⟨.inl rfl,trivial⟩⟩,?_⟩))));refine dU kr ?_;have g:=g.f2.t;refine aD (aC (bH 3 28 36 27 3 (vS x o y) g.h (aG 3 [(6,vI (wr ((o.length:Int)-1)))] (aM ?_))));obtain rfl:=sI i;exact aR [6] [vI (wr ((o.length:Int)-1))] (.inr ⟨_,rfl,a1,c1,a2,c2,x,y,m7,rfl,(q.t f).t l,g.f1.f1,(z.mono f).mono l,(B.mono f).mono l,r6⟩)
 intro f;refine aF i ?_ ?_
 .intro A i;refine aX (bE 13 (.agg (Va p1)) g (R.mono b) (dL 14 i (oA (p0:=p1) g) ?_));rintro y1 i _ w4 (⟨z1,y,rfl,rfl,l,g⟩|⟨y2,rfl,x,rfl,a,g⟩)
  .obtain rfl:=sI i;have i:=S;refine bY ?_;obtain rfl:=sI i;have g:=g.t.t;exact cW (.inl ⟨z1,y,rfl,rfl,q.t l,g⟩)
  refine aS rfl ?_;have o:=jG i;exact xE (f _ _ ⟨(),x,o,rfl,q.t a,g.f1.f1,n.mono a,((E.mono c).mono b).mono a,((z.mono c).mono b).mono a,((B.mono c).mono b).mono a,((D.mono c).mono b).mono a⟩)
 intro A i;refine aN ?_;have o:=jG i;exact xE (f _ _ ⟨(),Z,o,rfl,q,g.f1.f1,n,(E.mono c).mono b,(z.mono c).mono b,(B.mono c).mono b,(D.mono c).mono b⟩)
def JM(N:Nat)(p1:Int)(y1:vW)(a:Option Tk)(b:Unit):Option (Unit⊕Unit⊕oL):=
 (match a with|none=>some (.inr (.inl ()))|some a=>(if(y1.2.1==4)=true then(if(y1.2.2.1.toList==a.2.toList)=true then((GH N a.1).bind fun b=>some (b==p1)) else(some false)) else(some false):Tj).bind fun o2=>if o2=true then(some (.inr (.inr ((y1.1,a.1))))) else(some (.inl ())))
instance dec_source_parser_operator_L1:DecidableEq (Unit⊕oL):=(@instDecidableEqSum _ _ inferInstance (@instDecidableEqProd _ _ (@instDecidableEqProd _ _ (@instDecidableEqList _ (@instDecidableEqProd _ _ inferInstance (@instDecidableEqProd _ _ inferInstance (@instDecidableEqProd _ _ inferInstance inferInstance)))) (@instDecidableEqProd _ _ inferInstance (@instDecidableEqProd _ _ (@instDecidableEqList _ inferInstance) (@instDecidableEqList _ (@instDecidableEqProd _ _ inferInstance (@instDecidableEqProd _ _ inferInstance (@instDecidableEqProd _ _ inferInstance (@instDecidableEqProd _ _ inferInstance (@instDecidableEqList _ inferInstance))))))))) inferInstance))
def MO(N:Nat)(p0:bK)(p1:Int):Option oL:=
 (rJ N p0).bind fun y1=>(GM N).bind fun a=>(isQ a).bind fun b=>(vF (JM N p1 y1) (Option.getD a []) ()).bind fun a=>(match a with| .inl a=>some (y1.1,0)| .inr (z)=>some z)
theorem qCd{p0:bK}{p1:Int}{r:oL}(g:St m (kB bp0 (Ve p0 a1 c1 a2 c2 a3 c3) 115::kR a3 p0.2.2.2 c3 49 5::O) w)(r1:RepS C5 m a1 c1 p0.1)(r2:RepS aH m a2 c2 p0.2.2.1)(r3:RepS C2 m a3 c3 p0.2.2.2)(i:MO N p0 p1=some r):Calls prog 136 #[vP bp0 0,vI p1] w fun e w'=>∃b9 c8 c7 c9 a8 a9 m',e= .returned (vI r.2)/\m.le m'/\St m' (kB bp0 (Ve r.1 b9 c8 c7 c9 a8 a9) 115::kR a8 r.1.2.2.2 a9 49 5::O) w'/\P7 m' b9 c8 c7 c9 a8 a9 r.1:=by
 unfold MO at i;have q:=m.le_refl;refine bI func136 rfl ntmps136 ?_;refine aB 1 [] (aC ?_);refine aA 1 [(8,vP bp0 0)] (aL 9 i (sS (p0:=p0) g.f1.f1 r1 r2 r3) ?_);rintro y1 i _ w1 ⟨G,M,H,R,o,p,m1,rfl,d0,g,u,v,y⟩;refine cY 5 104 (.agg (Vb 0 eB 0 0)) g fun b1 w2 g=> ?_;refine cD (.agg (Va y1.2)) g fun w3 g=> ?_;refine aQ (aE (aC (aL 10 i (TD g) ?_)));rintro y2 i _ w4 ⟨q1,b,a,m2,rfl,D,g,l⟩;have⟨u1,d3,i⟩:=aW i;obtain⟨z,rfl⟩:=MapQ.at l d3;refine bB rfl (WF (ek:=(fun n:Int=>Value.int .i64 n)) (c:=aH) (agg:=false) (d:=11) (t:=122) (kt:=3) (et:=9) (x:=(.tmp 10)) kr rfl (ev (.map (some z))) kr g l fun U w5 g d2=>(aQ (aZ ?_)));have⟨a7,i,j2⟩:=aW i;refine cR (.exit 0) (fun L' w'=>∃(o1:Unit) (b5:Array Nat) (b0:Tu),∃E,(.inl o1)=a7/\L'=[]/\m.le E/\St E (kB b1 (Va y1.2) 104::kB bp0 (Ve y1.1 G M H R o p) 115::dT (some z) b a::qS U (some z) a b5::kR o y1.1.2.2.2 p 49 5::O) w'/\RepS C5 E G M y1.1.1/\RepS aH E H R y1.1.2.2.1/\RepS C2 E o p y1.1.2.2.2/\MapQ (fun n:Int=>Value.int .i64 n) aH false E (some z) b a y2/\ItR (fun n:Int=>Value.int .i64 n) aH false E b b5 b0) ?_ ?_
 .rintro _ k ⟨o1,b5,b0,E,rfl,rfl,q,g,u,v,y,l,f⟩;have i:=j2;refine cM (aD (aU 1 [(4,vI 0)] (aS rfl ?_)));have g:=g.f3.t;refine aD (aM ?_);cases i;exact aR [4] [vI 0] ⟨G,M,H,R,o,p,E,rfl,q,g.t.f1.t.f1.f1,u,v,y⟩
 intro b7;refine cK _ kr (cJ (fun k1 L' w'=>∃(s1:Unit) (Z:Array Nat) (F:Tu),∃s,LoopE (JM N p1 y1) F s1 a7 k1/\L'=[(1,vI p1),(5,vP b1 0),(11,vP U 0)]/\m.le s/\St s (kB b1 (Va y1.2) 104::kB bp0 (Ve y1.1 G M H R o p) 115::dT (some z) b a::qS U (some z) a Z::kR o y1.1.2.2.2 p 49 5::O) w'/\RepS C5 s G M y1.1.1/\RepS aH s H R y1.1.2.2.1/\RepS C2 s o p y1.1.2.2.2/\MapQ (fun n:Int=>Value.int .i64 n) aH false s (some z) b a y2/\ItR (fun n:Int=>Value.int .i64 n) aH false s b Z F) (List.length (Option.getD y2 [])+1) ⟨(),#[],(Option.getD y2 []),m2,LoopE.start i,rfl,(q.t d0).t D,g.f4.f1.f2.f4.f4,u.mono D,v.mono D,y.mono D,l,d2⟩ ?_);rintro k1 _ w7 ⟨s1,Z,F,s,hL,rfl,q,g,u,v,y,l,b8⟩;rcases k1 with _|k1
 .exact LoopE.zero hL
 refine aC ?_;have g:=g.f2.f3;refine bB rfl (XH (ek:=(fun n:Int=>Value.int .i64 n)) (c:=aH) (agg:=false) (d:=12) (x:=(.tmp 11)) kr rfl (ev (vP U 0)) g l b8 ?_ ?_)
 .intro f k g;obtain⟨d6,i,a0,Y⟩:=hL.nil f;clear hL;unfold JM at i;refine aG 1 [(13,vB false)] (aE (sW false kr (fun h=>Bool.noConfusion h) ?_));intro _;refine cG (bF ?_);cases i;have ho:=Y _ rfl;have g:=g.f4.f1.f2.f4.f4;refine bF ?_;exact xE (b7 _ _ ⟨(),Z,F,s,ho,rfl,q,g,u,v,y,l,b8⟩)
 rintro f b4 b6 d7 w9 d5 rfl g S d1;obtain⟨d6,i,a0,Y⟩:=hL.cons d5;clear hL;unfold JM at i;refine aG 1 [(13,vB true)] (aE (sW true kr ?_ (fun h=>Bool.noConfusion h)));intro _;refine aN (aD (aZ (aC ?_)));have g:=g.f1.f1;refine bB rfl (WP (ek:=(fun n:Int=>Value.int .i64 n)) (c:=aH) (agg:=false) (d:=14) (x:=(.tmp 11)) (K:=vI f.1) (V:=vT f.2) kr rfl (ev (vP U 0)) g l d1 (aG 4 [(6,vI f.1),(7,vT f.2)] (aC (dK 15 i (fun o2 L' w'=>∃B,L'=[(1,vI p1),(5,vP b1 0),(6,vI f.1),(11,vP U 0),(31,vB o2)]/\m.le B/\St B (kB b1 (Va y1.2) 104::kB bp0 (Ve y1.1 G M H R o p) 115::dT (some z) b a::qS U (some z) a b6::kR o y1.1.2.2.2 p 49 5::O) w'/\RepS C5 B G M y1.1.1/\RepS aH B H R y1.1.2.2.1/\RepS C2 B o p y1.1.2.2.2/\MapQ (fun n:Int=>Value.int .i64 n) aH false B (some z) b a y2/\ItR (fun n:Int=>Value.int .i64 n) aH false B b b6 b4) ?_ ?_))))
 .rintro o2 i _ k ⟨B,rfl,q,g,u,v,y,l,S⟩;refine aQ (aF i ?_ ?_)
  .intro A i;refine aU 2 [(4,vI f.1)] ?_;refine aS rfl ?_;have g:=g.f3.t;refine aD (aM (bA ?_));cases i;have ho:=Y _ rfl;subst ho;have i:=j2;refine aK (bA (aK ?_));cases i;exact aR [4] [vI f.1] ⟨G,M,H,R,o,p,B,rfl,q,g.t.f1.t.f1.f1,u,v,y⟩
  intro A i;refine aN (bG ?_);obtain rfl:=sI i;have hL:=a0 _ rfl;exact xE (cF ⟨(),b6,b4,B,hL,rfl,q,g.f4.f4.f4.f4.f4,u,v,y,l,S⟩)
 intro o2 i K;refine bH 1 18 3 17 0 (vI y1.2.1) g.t.t.h (aA 2 [(20,vB (y1.2.1==4))] (bD 20 i ?_ ?_))
 .intro A i;refine bH 1 22 9 21 1 (vT y1.2.2.1) g.t.t.h (aA 4 [(26,vB (y1.2.2.1.toList==f.2.toList))] (bD 26 i ?_ ?_))
  .intro A i;refine aA 1 [(27,vI f.1)] (aL 28 i (SW g) ?_);rintro y3 i _ d8 ⟨m6,rfl,k,g⟩;refine aA 3 [(31,vB (y3==p1))] ?_;cases i;exact aT _ kr (K _ _ ⟨m6,rfl,q.t k,g.f4.f1.f2.f4.f4,u.mono k,v.mono k,y.mono k,l.mono k,S.mono k⟩)
  intro A i;refine aA 5 [(31,vB false)] ?_;cases i;exact aT _ kr (K _ _ ⟨s,rfl,q,g.f4.f1.f2.f4.f4,u,v,y,l,S⟩)
 intro A i;refine aA 11 [(31,vB false)] ?_;cases i;exact aT _ kr (K _ _ ⟨s,rfl,q,g.f4.f1.f2.f4.f4,u,v,y,l,S⟩)
end
section
open Go Go.Dc Go.Proofs.Tryz
set_option maxHeartbeats 4000000
set_option maxRecDepth 100000
variable {N bp0 c1 c2 c3:Nat} {m:Mem} {O:List Piece} {w:World} {a1 a2 a3:Option Addr}
def ML(N:Nat)(R9:bK->mB->(Int)->eA)(Ra:bK->(Int)->rX)(Rb:bK->(Int)->eA)(Rc:bK->(Int)->(Int)->eA)(Rd:bK->(Int)->eA)(p0:bK)(p1:mB)(p2:Int):eA:=
 (qK N p0 (⟨#[40]⟩:BA)).bind fun y1=>(match y1 with| .inl a=>some (.inl a)| .inr b=>(if(p1.2.1.toList==(⟨#[114,101,97,100]⟩:BA).toList)=true then((BV N b).bind fun a=>(match a with| .inl a=>some (.inr (.inl a))| .inr c=>(qK N c.1 (⟨#[44]⟩:BA)).bind fun y5=>(match y5 with| .inl a=>some (.inr (.inl a))| .inr a=>(Rd a (IntKind.wrap .i64 (p2+1))).bind fun a=>(match a with| .inl a=>some (.inr (.inl a))| .inr a=>some (.inl (6,0,c.2.2.1,[a.2],a.1.1,a.1.2.1,a.1.2.2.1,a.1.2.2.2)))))) else(if(p1.2.1.toList==(⟨#[115,105,122,101]⟩:BA).toList)=true then((BV N b).bind fun a=>(match a with| .inl a=>some (.inr (.inl a))| .inr a=>some (.inl (7,0,a.2.2.1,([]:Tb),a.1.1,a.1.2.1,a.1.2.2.1,a.1.2.2.2)))) else(if(p1.2.1.toList==(⟨#[104,97,115]⟩:BA).toList)=true then((BV N b).bind fun a=>(match a with| .inl a=>some (.inr (.inl a))| .inr a=>some (.inl (8,0,a.2.2.1,([]:Tb),a.1.1,a.1.2.1,a.1.2.2.1,a.1.2.2.2)))) else(if(p1.2.1.toList==(⟨#[101,110,118]⟩:BA).toList)=true then((yG N b 3).bind fun a=>(match a with| .inl a=>some (.inr (.inl a))| .inr a=>(yV N a.2.2.1).bind fun c=>(if(!c)=true then((nA N a.2 9).bind fun c=>(match c with| .inl c=>some (.inr (.inr (.inl c)))| .inr c=>some (.inl ()))) else(some (.inl ())):Option T2g).bind fun c=>(match c with| .inl o2=>some (.inl (9,0,a.2.2.1,([]:Tb),a.1.1,a.1.2.1,a.1.2.2.1,a.1.2.2.2))| .inr z=>some z))) else((yG N b 2).bind fun a=>(match a with| .inl a=>some (.inr (.inl a))| .inr a=>(if(decide (a.2.2.2.1>=64))=true then((nA N a.2 9).bind fun b=>(match b with| .inl b=>some (.inr (.inr (.inl b)))| .inr b=>some (.inl ()))) else(some (.inl ())):Option T2g).bind fun b=>(match b with| .inl b=>some (.inl (10,a.2.2.2.1,(⟨#[]⟩:BA),([]:Tb),a.1.1,a.1.2.1,a.1.2.2.1,a.1.2.2.2))| .inr z=>some z)))))):Option T2f).bind fun a=>(match a with| .inl a=>(qK N a.2.2.2.2 (⟨#[41]⟩:BA)).bind fun b=>(match b with| .inl b=>some (.inl b)| .inr b=>(uQ N b p1 (a.1,a.2.1,0,a.2.2.1,a.2.2.2.1)).bind fun a=>(match a with| .inl a=>some (.inl a)| .inr a=>some (.inr (a.1,a.2))))| .inr z=>some z))
def MI(N:Nat)(Rd:bK->(Int)->eA)(p1:Int)(a:AM):Option (AM⊕AM⊕IS):=
 (Rd a.2 (IntKind.wrap .i64 (p1+1))).bind fun b=>(match b with| .inl b=>some (.inr (.inr (.inl b)))| .inr y5=>(cP 8 a.1 ([y5.2])).bind fun b=>(wF N y5.1 (⟨#[44]⟩:BA)).bind fun a=>if(!a.2)=true then(some (.inr (.inl (b,a.1.1,a.1.2.1,a.1.2.2.1,a.1.2.2.2)))) else(some (.inl (b,a.1.1,a.1.2.1,a.1.2.2.1,a.1.2.2.2))))
def MJ(N:Nat)(R9:bK->mB->(Int)->eA)(Ra:bK->(Int)->rX)(Rb:bK->(Int)->eA)(Rc:bK->(Int)->(Int)->eA)(Rd:bK->(Int)->eA)(p0:bK)(p1:Int):rX:=
 (qK N p0 (⟨#[40]⟩:BA)).bind fun y1=>(match y1 with| .inl a=>some (.inl a)| .inr a=>(wF N a (⟨#[41]⟩:BA)).bind fun a=>if a.2=true then(some (.inr (a.1,([]:Tb)))) else((aI (MI N Rd p1) N (([]:Tb),a.1.1,a.1.2.1,a.1.2.2.1,a.1.2.2.2)).bind fun a=>(match a with| .inl a=>(qK N a.2 (⟨#[41]⟩:BA)).bind fun b=>(match b with| .inl b=>some (.inl b)| .inr b=>some (.inr (b,a.1)))| .inr (z)=>some z)))
def MP(N:Nat)(R9:bK->mB->(Int)->eA)(Ra:bK->(Int)->rX)(Rb:bK->(Int)->eA)(Rc:bK->(Int)->(Int)->eA)(Rd:bK->(Int)->eA)(p0:bK)(p1:Int):eA:=
 (rJ N p0).bind fun y1=>(if(y1.2.1==2)=true then((uQ N (y1.1.1,IntKind.wrap .i64 (y1.1.2.1+1),y1.1.2.2.1,y1.1.2.2.2) y1.2 (1,y1.2.2.2.1,0,(⟨#[]⟩:BA),([]:Tb))).bind fun a=>(match a with| .inl a=>some (.inr (.inl a))| .inr a=>some (.inr (.inr (a.1,a.2))))) else((wF N y1.1 (⟨#[45]⟩:BA)).bind fun a=>if a.2=true then((yG N a.1 2).bind fun y5=>(match y5 with| .inl b=>some (.inr (.inl b))| .inr b=>(uQ N b.1 y1.2 (1,IntKind.wrap .i64 (0-b.2.2.2.1),0,(⟨#[]⟩:BA),([]:Tb))).bind fun b=>(match b with| .inl b=>some (.inr (.inl b))| .inr b=>some (.inr (.inr (b.1,b.2)))))) else((wF N a.1 (⟨#[40]⟩:BA)).bind fun a=>if a.2=true then((Rd a.1 (IntKind.wrap .i64 (p1+1))).bind fun b=>(match b with| .inl b=>some (.inr (.inl b))| .inr b=>(qK N b.1 (⟨#[41]⟩:BA)).bind fun c=>(match c with| .inl c=>some (.inr (.inl c))| .inr c=>some (.inr (.inr (c,b.2)))))) else(if(y1.2.1 !=1)=true then((nA N y1.2 9).bind fun b=>(match b with| .inl b=>some (.inr (.inl b))| .inr b=>some (.inl a.1))) else(some (.inl a.1))))):Option (bK⊕nV)).bind fun a=>(match a with| .inl a=>(if(y1.2.2.1.toList==(⟨#[114,101,97,100]⟩:BA).toList)=true then(some (y1.2.2.1.toList==(⟨#[114,101,97,100]⟩:BA).toList)) else(if(y1.2.2.1.toList==(⟨#[115,105,122,101]⟩:BA).toList)=true then(some (y1.2.2.1.toList==(⟨#[115,105,122,101]⟩:BA).toList)) else(if(y1.2.2.1.toList==(⟨#[104,97,115]⟩:BA).toList)=true then(some (y1.2.2.1.toList==(⟨#[104,97,115]⟩:BA).toList)) else(if(y1.2.2.1.toList==(⟨#[101,110,118]⟩:BA).toList)=true then(some (y1.2.2.1.toList==(⟨#[101,110,118]⟩:BA).toList)) else(some (y1.2.2.1.toList==(⟨#[102,108,105,112]⟩:BA).toList))))):Tj).bind fun o2=>if o2=true then((R9 (a.1,IntKind.wrap .i64 (a.2.1+1),a.2.2.1,a.2.2.2) y1.2 p1).bind fun b=>(match b with| .inl b=>some (.inl b)| .inr b=>some (.inr (b.1,b.2)))) else((yK N y1.2.2.1).bind fun b=>(if b=true then((nA N y1.2 9).bind fun b=>(match b with| .inl b=>some (.inr (.inl b))| .inr b=>some (.inl ()))) else(some (.inl ())):Option xJ).bind fun b=>(match b with| .inl b=>(wK N (a.1,IntKind.wrap .i64 (a.2.1+1),a.2.2.1,a.2.2.2) 4 (⟨#[40]⟩:BA)).bind fun a=>if a.2=true then((Ra a.1 p1).bind fun b=>(match b with| .inl b=>some (.inl b)| .inr b=>(uQ N b.1 y1.2 (3,0,0,y1.2.2.1,b.2)).bind fun b=>(match b with| .inl b=>some (.inl b)| .inr b=>some (.inr (b.1,b.2))))) else((ER N a.1.2.2.1 y1.2.2.1).bind fun b=>(if(decide (b<0))=true then((nA N y1.2 9).bind fun c=>(match c with| .inl c=>some (.inr (.inl c))| .inr c=>some (.inl ()))) else(some (.inl ())):Option xJ).bind fun c=>(match c with| .inl c=>(uQ N a.1 y1.2 (2,b,0,(⟨#[]⟩:BA),([]:Tb))).bind fun a=>(match a with| .inl a=>some (.inl a)| .inr a=>some (.inr (a.1,a.2)))| .inr z=>some z))| .inr z=>some z))| .inr z=>some z)
def MN(N:Nat)(Rc:bK->(Int)->(Int)->eA)(p1:Int)(p2:Int)(b:Int×bK):Option (Int×bK⊕nV):=
 (MO N b.2 p1).bind fun y5=>if(y5.2==0)=true then(some (.inr (.inr (y5.1,b.1)))) else((rJ N y5.1).bind fun a=>(Rc (a.1.1,IntKind.wrap .i64 (a.1.2.1+1),a.1.2.2.1,a.1.2.2.2) (IntKind.wrap .i64 (p1+1)) p2).bind fun c=>(match c with| .inl c=>some (.inr (.inl c))| .inr c=>(uQ N c.1 a.2 (4,0,y5.2,(⟨#[]⟩:BA),[b.1,c.2])).bind fun a=>(match a with| .inl a=>some (.inr (.inl a))| .inr a=>if(p1==1)=true then(some (.inr (.inr (a.1,a.2)))) else(some (.inl (a.2,a.1.1,a.1.2.1,a.1.2.2.1,a.1.2.2.2))))))
def MR(N:Nat)(R9:bK->mB->(Int)->eA)(Ra:bK->(Int)->rX)(Rb:bK->(Int)->eA)(Rc:bK->(Int)->(Int)->eA)(Rd:bK->(Int)->eA)(p0:bK)(p1:Int)(p2:Int):eA:=
 if(p1==4)=true then((Rb p0 p2).bind fun y1=>(match y1 with| .inl a=>some (.inl a)| .inr a=>some (.inr (a.1,a.2)))) else((Rc p0 (IntKind.wrap .i64 (p1+1)) p2).bind fun a=>(match a with| .inl a=>some (.inl a)| .inr a=>(aI (MN N Rc p1 p2) N (a.2,a.1.1,a.1.2.1,a.1.2.2.1,a.1.2.2.2)).bind fun z=>some z))
def MX(N:Nat)(R9:bK->mB->(Int)->eA)(Ra:bK->(Int)->rX)(Rb:bK->(Int)->eA)(Rc:bK->(Int)->(Int)->eA)(Rd:bK->(Int)->eA)(p0:bK)(p1:Int):eA:=
 (rJ N p0).bind fun y1=>(if(decide (p1>32))=true then((nA N y1.2 2).bind fun a=>(match a with| .inl a=>some (.inr (.inl a))| .inr a=>some (.inl ()))) else(some (.inl ())):Option xJ).bind fun a=>(match a with| .inl a=>(wK N y1.1 1 (⟨#[105,102]⟩:BA)).bind fun a=>if(!a.2)=true then((Rc a.1 1 p1).bind fun y5=>(match y5 with| .inl b=>some (.inl b)| .inr b=>some (.inr (b.1,b.2)))) else((Rd (a.1.1,IntKind.wrap .i64 (a.1.2.1+1),a.1.2.2.1,a.1.2.2.2) (IntKind.wrap .i64 (p1+1))).bind fun a=>(match a with| .inl a=>some (.inl a)| .inr c=>(GB N c.1 (⟨#[116,104,101,110]⟩:BA)).bind fun a=>(match a with| .inl a=>some (.inl a)| .inr a=>(Rd a (IntKind.wrap .i64 (p1+1))).bind fun a=>(match a with| .inl a=>some (.inl a)| .inr a=>(GB N a.1 (⟨#[101,108,115,101]⟩:BA)).bind fun b=>(match b with| .inl b=>some (.inl b)| .inr b=>(Rd b (IntKind.wrap .i64 (p1+1))).bind fun b=>(match b with| .inl b=>some (.inl b)| .inr b=>(uQ N b.1 y1.2 (5,0,0,(⟨#[]⟩:BA),[c.2,a.2,b.2])).bind fun a=>(match a with| .inl a=>some (.inl a)| .inr a=>some (.inr (a.1,a.2)))))))))| .inr z=>some z)
def iO(N:Nat):Nat->(bK->mB->(Int)->eA)×(((List (Int×BA×Int×Int))×Int×List BA×(List (Int×Int×Int×BA×List Int)))->(Int)->rX)×(((List (Int×BA×Int×Int))×Int×List BA×(List (Int×Int×Int×BA×List Int)))->(Int)->eA)×(((List (Int×BA×Int×Int))×Int×List BA×(List (Int×Int×Int×BA×List Int)))->(Int)->(Int)->eA)×(((List (Int×BA×Int×Int))×Int×List BA×(List (Int×Int×Int×BA×List Int)))->(Int)->eA)
 |0=>((fun _ _ _=>none),(fun _ _=>none),(fun _ _=>none),(fun _ _ _=>none),(fun _ _=>none))
 |D+1=>(ML N (iO N D).1 (iO N D).2.1 (iO N D).2.2.1 (iO N D).2.2.2.1 (iO N D).2.2.2.2,MJ N (iO N D).1 (iO N D).2.1 (iO N D).2.2.1 (iO N D).2.2.2.1 (iO N D).2.2.2.2,MP N (iO N D).1 (iO N D).2.1 (iO N D).2.2.1 (iO N D).2.2.2.1 (iO N D).2.2.2.2,MR N (iO N D).1 (iO N D).2.1 (iO N D).2.2.1 (iO N D).2.2.2.1 (iO N D).2.2.2.2,MX N (iO N D).1 (iO N D).2.1 (iO N D).2.2.1 (iO N D).2.2.2.1 (iO N D).2.2.2.2)
def SV(N:Nat)(p0:bK)(p1:Int):eA:=(iO N N).2.2.2.2 p0 p1
abbrev EY(F:bK->mB->(Int)->eA):Prop:=∀{m:Mem} {O:List Piece} {w:World} {p0:bK} {p1:mB} {p2:Int} {a:Nat} {d:Option Addr} {h:Nat} {f:Option Addr} {k:Nat} {b:Option Addr} {c:Nat} {r:nV} (g:St m (kB a (Ve p0 d h f k b c) 115::kR b p0.2.2.2 c 49 5::O) w) (l:RepS C5 m d h p0.1) (d:RepS aH m f k p0.2.2.1) (d:RepS C2 m b c p0.2.2.2) (i:F p0 p1 p2=some r),Calls prog 147 #[vP a 0,.agg (Va p1),vI p2] w fun e w'=>(∃(b:Ts),∃m',r= .inl b/\e= .panicked [{v:= .iface 111 (.agg (Vf b)),recovered:=false}]/\m.le m'/\St m' (O) w')\/(∃(d:oL),r= .inr d/\∃f k h l b c m',e= .returned (vI d.2)/\m.le m'/\St m' (kB a (Ve d.1 f k h l b c) 115::kR b d.1.2.2.2 c 49 5::O) w'/\P7 m' f k h l b c d.1)
abbrev EQ(F:bK->(Int)->rX):Prop:=∀{m:Mem} {O:List Piece} {w:World} {p0:bK} {p1:Int} {b:Nat} {d:Option Addr} {h:Nat} {f:Option Addr} {k:Nat} {a:Option Addr} {c:Nat} {r:IS} (g:St m (kB b (Ve p0 d h f k a c) 115::kR a p0.2.2.2 c 49 5::O) w) (l:RepS C5 m d h p0.1) (d:RepS aH m f k p0.2.2.1) (d:RepS C2 m a c p0.2.2.2) (i:F p0 p1=some r),Calls prog 148 #[vP b 0,vI p1] w fun e w'=>(∃(a:Ts),∃m',r= .inl a/\e= .panicked [{v:= .iface 111 (.agg (Vf a)),recovered:=false}]/\m.le m'/\St m' (O) w')\/(∃(a:T2b),r= .inr a/\∃k n l o c f d h m',e= .returned (vS d a.2 h)/\m.le m'/\St m' (kR d a.2 h 3 1::kB b (Ve a.1 k n l o c f) 115::kR c a.1.2.2.2 f 49 5::O) w'/\P8 m' k n l o c f d h a)
abbrev EZ(F:bK->(Int)->eA):Prop:=∀{m:Mem} {O:List Piece} {w:World} {p0:bK} {p1:Int} {a:Nat} {d:Option Addr} {h:Nat} {f:Option Addr} {k:Nat} {b:Option Addr} {c:Nat} {r:nV} (g:St m (kB a (Ve p0 d h f k b c) 115::kR b p0.2.2.2 c 49 5::O) w) (l:RepS C5 m d h p0.1) (d:RepS aH m f k p0.2.2.1) (d:RepS C2 m b c p0.2.2.2) (i:F p0 p1=some r),Calls prog 135 #[vP a 0,vI p1] w fun e w'=>(∃(b:Ts),∃m',r= .inl b/\e= .panicked [{v:= .iface 111 (.agg (Vf b)),recovered:=false}]/\m.le m'/\St m' (O) w')\/(∃(d:oL),r= .inr d/\∃f k h l b c m',e= .returned (vI d.2)/\m.le m'/\St m' (kB a (Ve d.1 f k h l b c) 115::kR b d.1.2.2.2 c 49 5::O) w'/\P7 m' f k h l b c d.1)
abbrev FB(F:bK->(Int)->(Int)->eA):Prop:=∀{m:Mem} {O:List Piece} {w:World} {p0:bK} {p1:Int} {p2:Int} {a:Nat} {d:Option Addr} {h:Nat} {f:Option Addr} {k:Nat} {b:Option Addr} {c:Nat} {r:nV} (g:St m (kB a (Ve p0 d h f k b c) 115::kR b p0.2.2.2 c 49 5::O) w) (l:RepS C5 m d h p0.1) (d:RepS aH m f k p0.2.2.1) (d:RepS C2 m b c p0.2.2.2) (i:F p0 p1 p2=some r),Calls prog 125 #[vP a 0,vI p1,vI p2] w fun e w'=>(∃(b:Ts),∃m',r= .inl b/\e= .panicked [{v:= .iface 111 (.agg (Vf b)),recovered:=false}]/\m.le m'/\St m' (O) w')\/(∃(d:oL),r= .inr d/\∃f k h l b c m',e= .returned (vI d.2)/\m.le m'/\St m' (kB a (Ve d.1 f k h l b c) 115::kR b d.1.2.2.2 c 49 5::O) w'/\P7 m' f k h l b c d.1)
abbrev FM(F:bK->(Int)->eA):Prop:=∀{m:Mem} {O:List Piece} {w:World} {p0:bK} {p1:Int} {a:Nat} {d:Option Addr} {h:Nat} {f:Option Addr} {k:Nat} {b:Option Addr} {c:Nat} {r:nV} (g:St m (kB a (Ve p0 d h f k b c) 115::kR b p0.2.2.2 c 49 5::O) w) (l:RepS C5 m d h p0.1) (d:RepS aH m f k p0.2.2.1) (d:RepS C2 m b c p0.2.2.2) (i:F p0 p1=some r),Calls prog 117 #[vP a 0,vI p1] w fun e w'=>(∃(b:Ts),∃m',r= .inl b/\e= .panicked [{v:= .iface 111 (.agg (Vf b)),recovered:=false}]/\m.le m'/\St m' (O) w')\/(∃(d:oL),r= .inr d/\∃f k h l b c m',e= .returned (vI d.2)/\m.le m'/\St m' (kB a (Ve d.1 f k h l b c) 115::kR b d.1.2.2.2 c 49 5::O) w'/\P7 m' f k h l b c d.1)
theorem qCb{R9:bK->mB->(Int)->eA}{Ra:bK->(Int)->rX}{Rb:bK->(Int)->eA}{Rc:bK->(Int)->(Int)->eA}{Rd:bK->(Int)->eA}(o:EY R9)(l:EQ Ra)(s:EZ Rb)(p:FB Rc)(d:FM Rd){p0:bK}{p1:mB}{p2:Int}{r:nV}(g:St m (kB bp0 (Ve p0 a1 c1 a2 c2 a3 c3) 115::kR a3 p0.2.2.2 c3 49 5::O) w)(r1:RepS C5 m a1 c1 p0.1)(r2:RepS aH m a2 c2 p0.2.2.1)(r3:RepS C2 m a3 c3 p0.2.2.2)(i:ML N R9 Ra Rb Rc Rd p0 p1 p2=some r):Calls prog 147 #[vP bp0 0,.agg (Va p1),vI p2] w fun e w'=>(∃(z0:Ts),∃m',r= .inl z0/\e= .panicked [{v:= .iface 111 (.agg (Vf z0)),recovered:=false}]/\m.le m'/\St m' (O) w')\/(∃(y0:oL),r= .inr y0/\∃d1 d3 d2 d4 b6 b7 m',e= .returned (vI y0.2)/\m.le m'/\St m' (kB bp0 (Ve y0.1 d1 d3 d2 d4 b6 b7) 115::kR b6 y0.1.2.2.2 b7 49 5::O) w'/\P7 m' d1 d3 d2 d4 b6 b7 y0.1):=by
 unfold ML at i;have q:=m.le_refl;refine bI func147 rfl ntmps147 ?_;refine aC (iF 4 104 (.agg (Va p1)) g fun D m1 w1 n g b=>(aG 1 [] (aC (aA 1 [(10,vP bp0 0)] (dL 11 i (sA (p0:=p0) g.f1.f1 (r1.mono n) (r2.mono n) (r3.mono n)) ?_)))));rintro y1 i _ w2 (⟨z1,m3,rfl,rfl,d5,g⟩|⟨y2,rfl,a4,c4,a5,c5,a6,c6,m2,rfl,b0,g,r4,r5,r6⟩)
 .refine bY ?_;obtain rfl:=sI i;exact cW (.inl ⟨z1,m3,rfl,rfl,(q.t n).t d5,g⟩)
 have q:=(q.t n).t b0;have b:=b.mono b0;refine aQ (aC (cY 7 49 (.agg #[vI 0,vI 0,vI 0,vT eB,v8]) g fun E w4 g=>(aQ (aE (aU 1 [(12,vP D 1)] (bE 13 (vT p1.2.1) g (b.drop 1) (aQ ?_)))))));have⟨e0,i,u⟩:=aW i;refine cR .normal (fun L' w'=>∃(f:Int×Int×Td×AM),∃Y c7 a8 c8 a9 c9 F H m4,(.inl f:T2f)=e0/\L'=[(0,vP bp0 0),(4,vP D 0),(7,vP E 0)]/\m.le m4/\St m4 (kB E #[vI f.1,vI f.2.1,vI 0,vT f.2.2.1,vS Y f.2.2.2.1 c7] 49::kB bp0 (Ve f.2.2.2.2 a8 c8 a9 c9 F H) 115::kR Y f.2.2.2.1 c7 3 1::kR F f.2.2.2.2.2.2.2 H 49 5::O) w'/\MRow m4 D 0 [vI p1.1,vT p1.2.1,vI p1.2.2.1,vI p1.2.2.2]/\P9 m4 Y c7 a8 c8 a9 c9 F H f.2.2.2) ?_ ?_
 .rintro _ w5 ⟨f,Y,c7,a8,c8,a9,c9,F,H,m4,rfl,rfl,q,g,b,r7,r8,r9,Z⟩;have i:=u;refine aD (aU 1 [(63,vP bp0 0)] (dL 64 i (sA (p0:=f.2.2.2.2) g.f3.f2 r8 r9 Z) ?_));rintro f5 i _ f0 (⟨d9,S,rfl,rfl,c,g⟩|⟨d8,rfl,e2,e6,e4,e7,e5,e8,e9,rfl,a,g,a0,b8,b9⟩)
  .refine bY ?_;obtain rfl:=sI i;have g:=g.t.t;exact cW (.inl ⟨d9,S,rfl,rfl,q.t c,g⟩)
  refine aQ (aC (aA 1 [(65,vP bp0 0)] (bE 66 (.agg (Va p1)) g (b.mono a) (bO 67 (.agg #[vI f.1,vI f.2.1,vI 0,vT f.2.2.1,vS Y f.2.2.2.1 c7]) g.t.t.h (dL 68 i (yA (p0:=d8) (p1:=p1) (p2:=(f.1,f.2.1,0,f.2.2.1,f.2.2.2.1)) g.f1.f1 a0 b8 b9 (r7.mono a)) ?_)))));rintro f6 i _ f4 (⟨e1,V,rfl,rfl,x,g⟩|⟨y,rfl,z,K,B,M,G,R,U,rfl,k,g,d0,d6,d7⟩)
  .refine bY ?_;obtain rfl:=sI i;have g:=g.t.t;exact cW (.inl ⟨e1,V,rfl,rfl,(q.t a).t x,g⟩)
  refine aG 1 [(6,vI y.2)] (aM ?_);cases i;exact aR [6] [vI y.2] (.inr ⟨_,rfl,z,K,B,M,G,R,U,rfl,(q.t a).t k,g.f2.t.f2.t.f1.f1,d0,d6,d7⟩)
 intro B;refine aZ (aB 2 [(24,vB (p1.2.1.toList==b17.toList))] (aF i ?_ ?_))
 .intro A i;refine aU 1 [(26,vP bp0 0)] ?_;refine dL 27 i (JQ (p0:=y2) g.f2.f2 r4 r5 r6) ?_;rintro y3 i _ w6 (⟨z2,m6,rfl,rfl,K,g⟩|⟨G,rfl,e9,f8,f0,f9,f4,g0,m5,rfl,x,g,d7,d8,d9⟩)
  .refine bY ?_;refine eZ ?_;obtain rfl:=sI i;have i:=u;refine bY ?_;obtain rfl:=sI i;have g:=g.t;exact cW (.inl ⟨z2,m6,rfl,rfl,q.t K,g⟩)
  have q:=q.t x;refine aA 2 [(29,.agg #[vI 6,vI 0,vI 0,vT G.2.2.1,v7])] (cD (.agg #[vI 6,vI 0,vI 0,vT G.2.2.1,v7]) g.f2 fun w8 g=>(aQ (aC (aA 1 [(30,vP bp0 0)] (dL 31 i (sA (p0:=G.1) g.f2.f2 d7 d8 d9) ?_)))));rintro y5 i _ w9 (⟨z3,m8,rfl,rfl,M,g⟩|⟨y6,rfl,f5,g1,f6,g2,f7,g3,m7,rfl,c,g,e1,e2,e4⟩)
  .refine bY ?_;refine eZ ?_;obtain rfl:=sI i;have i:=u;refine bY ?_;obtain rfl:=sI i;have g:=g.t;exact cW (.inl ⟨z3,m8,rfl,rfl,q.t M,g⟩)
  refine aQ (aX (aA 3 [(32,vP bp0 0),(34,vI (wr (p2+1)))] (dL 35 i (d (p0:=y6) g.f1.f1 e1 e2 e4) ?_)));rintro y7 i _ g4 (⟨z4,d0,rfl,rfl,R,g⟩|⟨k,rfl,S,a0,U,b8,V,b9,m9,rfl,y,g,e5,e6,e7⟩)
  .refine eZ ?_;obtain rfl:=sI i;have i:=u;refine bY ?_;obtain rfl:=sI i;have g:=g.t;exact cW (.inl ⟨z4,d0,rfl,rfl,(q.t c).t R,g⟩)
  refine eX 36 3 1 (aV .i64) [k.2] g fun Z d6 g5 a g e8=> ?_;refine aA 1 [(37,vP E 4)] (cU #[vI 6,vI 0,vI 0,vT G.2.2.1,vS (aP Z) ([k.2]) 1] g.f3 fun g6 g=>(aS rfl (bG ?_)));have z:=jG i;exact xE (B _ _ ⟨(6,0,G.2.2.1,[k.2],k.1.1,k.1.2.1,k.1.2.2.1,k.1.2.2.2),(aP Z),1,S,a0,U,b8,V,b9,d6,z,rfl,((q.t c).t y).t a,g.f3.f2.f3.f3,(((b.mono x).mono c).mono y).mono a,e8,e5.mono a,e6.mono a,e7.mono a⟩)
 intro A i;refine aB 2 [(38,vB (p1.2.1.toList==b18.toList))] (aF i ?_ ?_)
 .intro A i;refine aX (aA 1 [(40,vP bp0 0)] (dL 41 i (JQ (p0:=y2) g.f2.f2 r4 r5 r6) ?_));rintro y9 i _ b8 (⟨z5,U,rfl,rfl,k,g⟩|⟨a,rfl,x,K,y,M,G,R,S,rfl,c,g,V,Z,a0⟩)
  .refine eZ ?_;obtain rfl:=sI i;have i:=u;refine bY ?_;obtain rfl:=sI i;have g:=g.t;exact cW (.inl ⟨z5,U,rfl,rfl,q.t k,g⟩)
  refine aA 2 [(43,.agg #[vI 7,vI 0,vI 0,vT a.2.2.1,v7])] (cD (.agg #[vI 7,vI 0,vI 0,vT a.2.2.1,v7]) g.f2 fun b9 g=>(aS rfl (bG ?_)));have z:=jG i;have g:=(g.nilroom 3 1).front3.front1.front3.front3;exact xE (B _ _ ⟨(7,0,a.2.2.1,([]:Tb),a.1.1,a.1.2.1,a.1.2.2.1,a.1.2.2.2),none,0,x,K,y,M,G,R,S,z,rfl,q.t c,g,b.mono c,(RepS.nil _ _),V,Z,a0⟩)
 intro A i;refine aB 2 [(44,vB (p1.2.1.toList==b19.toList))] (aF i ?_ ?_)
 .intro A i;refine aX (aA 1 [(46,vP bp0 0)] (dL 47 i (JQ (p0:=y2) g.f2.f2 r4 r5 r6) ?_));rintro d0 i _ b8 (⟨z6,U,rfl,rfl,k,g⟩|⟨a,rfl,x,K,y,M,G,R,S,rfl,c,g,V,Z,a0⟩)
  .refine eZ ?_;obtain rfl:=sI i;have i:=u;refine bY ?_;obtain rfl:=sI i;have g:=g.t;exact cW (.inl ⟨z6,U,rfl,rfl,q.t k,g⟩)
  refine aA 2 [(49,.agg #[vI 8,vI 0,vI 0,vT a.2.2.1,v7])] (cD (.agg #[vI 8,vI 0,vI 0,vT a.2.2.1,v7]) g.f2 fun b9 g=>(aS rfl (bG ?_)));have z:=jG i;have g:=(g.nilroom 3 1).front3.front1.front3.front3;exact xE (B _ _ ⟨(8,0,a.2.2.1,([]:Tb),a.1.1,a.1.2.1,a.1.2.2.1,a.1.2.2.2),none,0,x,K,y,M,G,R,S,z,rfl,q.t c,g,b.mono c,(RepS.nil _ _),V,Z,a0⟩)
 intro A i;refine aB 2 [(50,vB (p1.2.1.toList==b1a.toList))] (aF i ?_ ?_)
 .intro A i;refine aU 1 [(52,vP bp0 0)] ?_;refine dL 53 i (FK (p0:=y2) g.f2.f2 r4 r5 r6) ?_;rintro f0 i _ e5 (⟨z7,d6,rfl,rfl,b8,g⟩|⟨a,rfl,U,Z,V,a0,G,K,e4,rfl,y,g,M,R,S⟩)
  .refine bY ?_;refine eZ ?_;obtain rfl:=sI i;have i:=u;refine bY ?_;obtain rfl:=sI i;have g:=g.t;exact cW (.inl ⟨z7,d6,rfl,rfl,q.t b8,g⟩)
  refine cY 8 104 (.agg (Vb 0 eB 0 0)) g fun b4 e6 g=> ?_;refine cD (.agg (Va a.2)) g fun e7 g=> ?_;refine aQ (aE (aC (bH 1 55 9 54 1 (vT a.2.2.1) g.h (aL 56 i (NL g) ?_))));rintro e2 i _ e8 ⟨d7,rfl,c,g⟩;have q:=(q.t y).t c;refine aG 1 [(57,vB (!e2))] ?_;have⟨e1,i,j2⟩:=aW i;refine cR .normal (fun L' w'=>∃(o2:Unit),∃x,(.inl o2:T2g)=e1/\L'=[(0,vP bp0 0),(4,vP D 0),(7,vP E 0),(8,vP b4 0)]/\m.le x/\St x (kB b4 (Va a.2) 104::kB bp0 (Ve a.1 U Z V a0 G K) 115::kB E #[vI 0,vI 0,vI 0,vT eB,v7] 49::kR G a.1.2.2.2 K 49 5::O) w'/\MRow x D 0 [vI p1.1,vT p1.2.1,vI p1.2.2.1,vI p1.2.2.2]/\P7 x U Z V a0 G K a.1) ?_ ?_
  .rintro _ k ⟨o2,x,rfl,rfl,q,g,b,M,R,S⟩;have i:=j2;refine aD (aX (bH 1 61 9 60 1 (vT a.2.2.1) g.h (aA 1 [(62,.agg #[vI 9,vI 0,vI 0,vT a.2.2.1,v7])] (cD (.agg #[vI 9,vI 0,vI 0,vT a.2.2.1,v7]) g.f2 fun b9 g=>(aS rfl (bG ?_))))));have z:=jG i;have g:=(g.nilroom 3 1).front2;exact xE (B _ _ ⟨(9,0,a.2.2.1,([]:Tb),a.1.1,a.1.2.1,a.1.2.2.1,a.1.2.2.2),none,0,U,Z,V,a0,G,K,x,z,rfl,q,g.t.f3.f1.f3.f3,b,(RepS.nil _ _),M,R,S⟩)
  intro d0;refine aF i ?_ ?_
  .intro A i;refine aX (bO 58 (.agg (Va a.2)) g.h (dL 59 i (oA (p0:=a.2) g) ?_));rintro f4 i _ e9 (⟨z8,d9,rfl,rfl,b9,g⟩|⟨f5,rfl,d8,rfl,k,g⟩)
   .obtain rfl:=sI i;have i:=j2;refine bY ?_;refine eZ ?_;obtain rfl:=sI i;have i:=u;refine bY ?_;obtain rfl:=sI i;have g:=g.t.t.t.t;exact cW (.inl ⟨z8,d9,rfl,rfl,q.t b9,g⟩)
   refine aS rfl ?_;have n2:=jG i;exact xE (d0 _ _ ⟨(),d8,n2,rfl,q.t k,g.f2.f3.f3.f3,((b.mono y).mono c).mono k,(M.mono c).mono k,(R.mono c).mono k,(S.mono c).mono k⟩)
  intro A i;refine aN ?_;have n2:=jG i;exact xE (d0 _ _ ⟨(),d7,n2,rfl,q,g.f2.f3.f3.f3,(b.mono y).mono c,M.mono c,R.mono c,S.mono c⟩)
 intro A i;refine aU 1 [(14,vP bp0 0)] ?_;refine dL 15 i (FK (p0:=y2) g.f2.f2 r4 r5 r6) ?_;rintro e6 i _ e1 (⟨z9,d0,rfl,rfl,a0,g⟩|⟨a,rfl,S,V,U,Z,y,G,b9,rfl,x,g,K,M,R⟩)
 .refine bY ?_;refine eZ ?_;obtain rfl:=sI i;have i:=u;refine bY ?_;obtain rfl:=sI i;have g:=g.t;exact cW (.inl ⟨z9,d0,rfl,rfl,q.t a0,g⟩)
 have q:=q.t x;refine cY 9 104 (.agg (Vb 0 eB 0 0)) g fun b5 e2 g=> ?_;refine cD (.agg (Va a.2)) g fun e4 g=> ?_;refine aQ (aE (aC (bH 1 17 3 16 2 (vI a.2.2.2.1) g.h (aG 1 [(18,vB (decide (a.2.2.2.1>=64)))] ?_))));have⟨d8,i,j3⟩:=aW i;refine cR .normal (fun L' w'=>∃(o3:Unit),∃k,(.inl o3:T2g)=d8/\L'=[(0,vP bp0 0),(4,vP D 0),(7,vP E 0),(9,vP b5 0)]/\m.le k/\St k (kB b5 (Va a.2) 104::kB bp0 (Ve a.1 S V U Z y G) 115::kB E #[vI 0,vI 0,vI 0,vT eB,v7] 49::kR y a.1.2.2.2 G 49 5::O) w'/\MRow k D 0 [vI p1.1,vT p1.2.1,vI p1.2.2.1,vI p1.2.2.2]/\P7 k S V U Z y G a.1) ?_ ?_
 .rintro _ c ⟨o3,k,rfl,rfl,q,g,b,K,M,R⟩;have i:=j3;refine aD (aX (bH 1 22 3 21 2 (vI a.2.2.2.1) g.h (aA 1 [(23,.agg #[vI 10,vI a.2.2.2.1,vI 0,vT eB,v7])] (cD (.agg #[vI 10,vI a.2.2.2.1,vI 0,vT eB,v7]) g.f2 fun b8 g=>(aS rfl (bG ?_))))));have z:=jG i;have g:=(g.nilroom 3 1).front2;exact xE (B _ _ ⟨(10,a.2.2.2.1,eB,([]:Tb),a.1.1,a.1.2.1,a.1.2.2.1,a.1.2.2.2),none,0,S,V,U,Z,y,G,k,z,rfl,q,g.t.f3.f1.f3.f3,b,(RepS.nil _ _),K,M,R⟩)
 intro b8;refine aF i ?_ ?_
 .intro A i;refine aX (bO 19 (.agg (Va a.2)) g.h (dL 20 i (oA (p0:=a.2) g) ?_));rintro e7 i _ e5 (⟨d9,d7,rfl,rfl,z,g⟩|⟨e8,rfl,d6,rfl,c,g⟩)
  .obtain rfl:=sI i;have i:=j3;refine bY ?_;refine eZ ?_;obtain rfl:=sI i;have i:=u;refine bY ?_;obtain rfl:=sI i;have g:=g.t.t.t.t;exact cW (.inl ⟨d9,d7,rfl,rfl,q.t z,g⟩)
  refine aS rfl ?_;have n3:=jG i;exact xE (b8 _ _ ⟨(),d6,n3,rfl,q.t c,g.f2.f3.f3.f3,(b.mono x).mono c,K.mono c,M.mono c,R.mono c⟩)
 intro A i;refine aN ?_;have n3:=jG i;exact xE (b8 _ _ ⟨(),b9,n3,rfl,q,g.f2.f3.f3.f3,b.mono x,K,M,R⟩)
theorem qBx{R9:bK->mB->(Int)->eA}{Ra:bK->(Int)->rX}{Rb:bK->(Int)->eA}{Rc:bK->(Int)->(Int)->eA}{Rd:bK->(Int)->eA}(k:EY R9)(c:EQ Ra)(n:EZ Rb)(l:FB Rc)(a:FM Rd){p0:bK}{p1:Int}{r:IS}(g:St m (kB bp0 (Ve p0 a1 c1 a2 c2 a3 c3) 115::kR a3 p0.2.2.2 c3 49 5::O) w)(r1:RepS C5 m a1 c1 p0.1)(r2:RepS aH m a2 c2 p0.2.2.1)(r3:RepS C2 m a3 c3 p0.2.2.2)(i:MJ N R9 Ra Rb Rc Rd p0 p1=some r):Calls prog 148 #[vP bp0 0,vI p1] w fun e w'=>(∃(z0:Ts),∃m',r= .inl z0/\e= .panicked [{v:= .iface 111 (.agg (Vf z0)),recovered:=false}]/\m.le m'/\St m' (O) w')\/(∃(G:T2b),r= .inr G/\∃e1 e4 e2 e5 b5 b7 b6 b8 m',e= .returned (vS b6 G.2 b8)/\m.le m'/\St m' (kR b6 G.2 b8 3 1::kB bp0 (Ve G.1 e1 e4 e2 e5 b5 b7) 115::kR b5 G.1.2.2.2 b7 49 5::O) w'/\P8 m' e1 e4 e2 e5 b5 b7 b6 b8 G):=by
 unfold MJ at i;have q:=m.le_refl;refine bI func148 rfl ntmps148 ?_;refine aB 1 [] (aC ?_);refine aG 1 [(5,v7)] (aC (aA 1 [(6,vP bp0 0)] (dL 7 i (sA (p0:=p0) g.f1.f1 r1 r2 r3) ?_)));rintro y1 i _ w1 (⟨z1,m2,rfl,rfl,e7,g⟩|⟨y2,rfl,a4,c4,a5,c5,a6,c6,m1,rfl,b2,g,r4,r5,r6⟩)
 .refine bY ?_;obtain rfl:=sI i;exact cW (.inl ⟨z1,m2,rfl,rfl,q.t e7,g⟩)
 refine aQ (aE (aU 1 [(8,vP bp0 0)] (aL 9 i (AZ (p0:=y2) g.f1.f1 r4 r5 r6) ?_)));rintro y3 i _ w3 ⟨a7,c7,a8,c8,a9,c9,m3,rfl,b3,g,r7,r8,r9⟩;refine aQ (aF i ?_ ?_)
 .intro A i;refine aB 1 [(4,v7)] (aM ?_);refine aK ?_;cases i;refine aR [4] [v7] ?_;have g:=(g.nilroom 3 1).front2.front2.front2;exact .inr ⟨_,rfl,a7,c7,a8,c8,a9,c9,none,0,m3,rfl,(q.t b2).t b3,g,r7,r8,r9,(RepS.nil _ _)⟩
 intro A i;refine aN (aD (aE (aZ ?_)));have⟨b4,i,j1⟩:=aW i;refine cR (.exit 0) (fun L' w'=>∃(o:AM),∃d f H U K V B E m4,(.inl o)=b4/\L'=[(0,vP bp0 0),(5,vS d o.1 f)]/\m.le m4/\St m4 (kB bp0 (Ve o.2 H U K V B E) 115::kR d o.1 f 3 1::kR B o.2.2.2.2 E 49 5::O) w'/\P9 m4 d f H U K V B E o) ?_ ?_
 .rintro _ w4 ⟨o,d,f,H,U,K,V,B,E,m4,rfl,rfl,q,g,M,R,S,Y⟩;have i:=j1;refine cM (aD (aU 1 [(20,vP bp0 0)] (dL 21 i (sA (p0:=o.2) g.f2.f1 R S Y) ?_)));rintro y7 i _ b9 (⟨z3,F,rfl,rfl,h,g⟩|⟨y8,rfl,p,x,s,y,u,z,D,rfl,b,g,Z,a0,b0⟩)
  .refine bY ?_;obtain rfl:=sI i;have g:=g.t;exact cW (.inl ⟨z3,F,rfl,rfl,q.t h,g⟩)
  refine aQ (aC (aG 2 [(4,vS d o.1 f)] (aM ?_)));cases i;exact aR [4] [vS d o.1 f] (.inr ⟨_,rfl,p,x,s,y,u,z,d,f,D,rfl,q.t b,g.f1.f1.f2,Z,a0,b0,M.mono b⟩)
 intro b9;have g:=(g.nilroom 3 1).front2.front1.front2;refine cK _ kr (cJ (fun k1 L' w'=>∃(s:AM),∃x y M Y R Z D F m5,aI (MI N Rd p1) k1 s=some b4/\L'=[(0,vP bp0 0),(1,vI p1),(5,vS x s.1 y)]/\m.le m5/\St m5 (kB bp0 (Ve s.2 M Y R Z D F) 115::kR x s.1 y 3 1::kR D s.2.2.2.2 F 49 5::O) w'/\P9 m5 x y M Y R Z D F s) N ⟨(([]:Tb),y3.1.1,y3.1.2.1,y3.1.2.2.1,y3.1.2.2.2),none,0,a7,c7,a8,c8,a9,c9,m3,i,rfl,(q.t b2).t b3,g,(RepS.nil _ _),r7,r8,r9⟩ ?_);rintro k1 _ w5 ⟨s,x,y,M,Y,R,Z,D,F,m5,hL,rfl,q,g,e9,f0,f4,f5⟩;rcases k1 with _|k1
 .exact cN hL
 obtain⟨g6,i,e6,b0⟩:=cO hL;clear hL;unfold MI at i;refine aZ (aU 4 [(10,vS x s.1 y),(11,vP bp0 0),(13,vI (wr (p1+1)))] (dL 14 i (a (p0:=s.2) g.f2.f1 f0 f4 f5) ?_));rintro y4 i _ w6 (⟨z2,m7,rfl,rfl,e8,g⟩|⟨y5,rfl,g0,g3,g1,g4,g2,g5,m6,rfl,z,g,f6,f7,f8⟩)
 .refine bY ?_;refine eZ ?_;have ho:=b0 _ (sI i);subst ho;have i:=j1;refine bY ?_;refine eZ ?_;refine bY ?_;obtain rfl:=sI i;have g:=g.t;exact cW (.inl ⟨z2,m7,rfl,rfl,q.t e8,g⟩)
 refine eX 15 3 1 (aV .i64) [y5.2] g fun b1 m8 w8 b g f9=> ?_;refine iT 16 22 22 3 8 10 15 g.f3 (.inl kr) ((e9.mono z).mono b) f9.src i fun l1 i S a0 m9 w9 h g d7=> ?_;refine aA 1 [(5,vS S l1 a0)] (aS rfl ?_);have g:=g.f1.t;refine aD (aU 1 [(17,vP bp0 0)] (aL 18 i (AZ (p0:=y5.1) g.f2.f2 ((f6.mono b).mono h) ((f7.mono b).mono h) ((f8.mono b).mono h)) ?_));rintro u i _ g7 ⟨d0,d3,d1,d4,d2,d5,d6,rfl,p,g,d8,d9,e0⟩;refine aG 1 [(19,vB (!u.2))] (aF i ?_ ?_)
 .intro A i;refine cG (yY rfl ?_);have ho:=b0 _ (sI i);have g:=g.f1.f2.f2;refine bF ?_;exact xE (b9 _ _ ⟨(l1,u.1.1,u.1.2.1,u.1.2.2.1,u.1.2.2.2),S,a0,d0,d3,d1,d4,d2,d5,d6,ho,rfl,(((q.t z).t b).t h).t p,g,d7.mono p,d8,d9,e0⟩)
 intro A i;refine aN (bG ?_);have hL:=e6 _ (sI i);exact xE (cF ⟨(l1,u.1.1,u.1.2.1,u.1.2.2.1,u.1.2.2.2),S,a0,d0,d3,d1,d4,d2,d5,d6,hL,rfl,(((q.t z).t b).t h).t p,g.f1.f2.f2,d7.mono p,d8,d9,e0⟩)
theorem qCe{R9:bK->mB->(Int)->eA}{Ra:bK->(Int)->rX}{Rb:bK->(Int)->eA}{Rc:bK->(Int)->(Int)->eA}{Rd:bK->(Int)->eA}(d:EY R9)(c:EQ Ra)(E:EZ Rb)(D:FB Rc)(f:FM Rd){p0:bK}{p1:Int}{r:nV}(g:St m (kB bp0 (Ve p0 a1 c1 a2 c2 a3 c3) 115::kR a3 p0.2.2.2 c3 49 5::O) w)(r1:RepS C5 m a1 c1 p0.1)(r2:RepS aH m a2 c2 p0.2.2.1)(r3:RepS C2 m a3 c3 p0.2.2.2)(i:MP N R9 Ra Rb Rc Rd p0 p1=some r):Calls prog 135 #[vP bp0 0,vI p1] w fun e w'=>(∃(z0:Ts),∃m',r= .inl z0/\e= .panicked [{v:= .iface 111 (.agg (Vf z0)),recovered:=false}]/\m.le m'/\St m' (O) w')\/(∃(y0:oL),r= .inr y0/\∃d6 d8 d7 d9 b9 d0 m',e= .returned (vI y0.2)/\m.le m'/\St m' (kB bp0 (Ve y0.1 d6 d8 d7 d9 b9 d0) 115::kR b9 y0.1.2.2.2 d0 49 5::O) w'/\P7 m' d6 d8 d7 d9 b9 d0 y0.1):=by
 unfold MP at i;have q:=m.le_refl;refine bI func135 rfl ntmps135 ?_;refine aB 1 [] (aC ?_);refine aA 1 [(8,vP bp0 0)] (aL 9 i (sS (p0:=p0) g.f1.f1 r1 r2 r3) ?_);rintro y1 i _ w1 ⟨a4,c4,a5,c5,a6,c6,m1,rfl,e1,g,r4,r5,r6⟩;have q:=q.t e1;refine cY 5 104 (.agg (Vb 0 eB 0 0)) g fun l w2 g=> ?_;refine cD (.agg (Va y1.2)) g fun w3 g=> ?_;refine aQ (aE ?_);have⟨f7,i,F⟩:=aW i;refine cR .normal (fun L' w'=>∃(a:bK),∃K R M S x y H,(.inl a:bK⊕nV)=f7/\L'=[(0,vP bp0 0),(1,vI p1),(5,vP l 0)]/\m.le H/\St H (kB l (Va y1.2) 104::kB bp0 (Ve a K R M S x y) 115::kR x a.2.2.2 y 49 5::O) w'/\P7 H K R M S x y a) ?_ ?_
 .rintro _ w4 ⟨a,K,R,M,S,x,y,H,rfl,rfl,q,g,n,o,p⟩;have i:=F;refine aD (aU 3 [(54,vP bp0 0),(56,vP bp0 1)] (bO 57 (vI a.2.1) g.t.h (aA 3 [(58,vI (wr (a.2.1+1))),(60,vP bp0 1)] (cU #[vS K a.1 R,vI (wr (a.2.1+1)),vS M a.2.2.1 S,vS x a.2.2.2 y] g.f1 fun h4 g=>(aQ (aE (aC (bH 1 62 9 61 1 (vT y1.2.2.1) g.t.h (aQ (aZ (aE (aB 2 [(63,vB (y1.2.2.1.toList==b17.toList))] (cI .normal i (fun o2 L' w'=>∃b4,L'=[(0,vP bp0 0),(1,vI p1),(5,vP l 0),(63,vB o2)]/\m.le b4/\St b4 (kB bp0 #[vS K a.1 R,vI (wr (a.2.1+1)),vS M a.2.2.1 S,vS x a.2.2.2 y] 115::kB l (Va y1.2) 104::kR x a.2.2.2 y 49 5::O) w'/\P7 b4 K R M S x y a) ?_ ?_)))))))))))))
  .rintro o2 i _ h5 ⟨b4,rfl,q,g,n,o,p⟩;refine aD (aF i ?_ ?_)
   .intro A i;refine aU 1 [(69,vP bp0 0)] ?_;refine bO 70 (.agg (Va y1.2)) g.t.h ?_;refine aA 1 [(71,vI p1)] (dL 72 i (d (p0:=(a.1,wr (a.2.1+1),a.2.2.1,a.2.2.2)) (p1:=y1.2) g.f2.f1 n o p) ?_);rintro b5 i _ b3 (⟨z7,Z,rfl,rfl,k,g⟩|⟨s,rfl,u,G,z,U,B,V,Y,rfl,b,g,a0,b0,b2⟩)
    .refine bY ?_;refine eZ ?_;refine bY ?_;obtain rfl:=sI i;have g:=g.t;exact cW (.inl ⟨z7,Z,rfl,rfl,q.t k,g⟩)
    refine aG 1 [(4,vI s.2)] (aM (bA (aK ?_)));cases i;exact aR [4] [vI s.2] (.inr ⟨_,rfl,u,G,z,U,B,V,Y,rfl,q.t b,g.f2.t.f1.f1,a0,b0,b2⟩)
   intro A i;refine aN (bG (aD (aE (aC (bH 1 74 9 73 1 (vT y1.2.2.1) g.t.h (aL 75 i (MY g) ?_))))));rintro k2 i _ h6 ⟨f3,rfl,s,g⟩;have q:=q.t s;have n:=n.mono s;have o:=o.mono s;have p:=p.mono s;refine aQ ?_;have⟨f8,i,j3⟩:=aW i;refine cR .normal (fun L' w'=>∃(o3:Unit),∃b5,(.inl o3:xJ)=f8/\L'=[(0,vP bp0 0),(1,vI p1),(5,vP l 0)]/\m.le b5/\St b5 (kB bp0 #[vS K a.1 R,vI (wr (a.2.1+1)),vS M a.2.2.1 S,vS x a.2.2.2 y] 115::kB l (Va y1.2) 104::kR x a.2.2.2 y 49 5::O) w'/\P7 b5 K R M S x y a) ?_ ?_
   .rintro _ h7 ⟨o3,b5,rfl,rfl,q,g,n,o,p⟩;have i:=j3;refine aD (aE (aU 1 [(78,vP bp0 0)] (aL 79 i (BR (p0:=(a.1,wr (a.2.1+1),a.2.2.1,a.2.2.2)) g.f2.f1 n o p) ?_)));rintro B i _ h8 ⟨b7,b8,Z,b0,a0,b2,z,rfl,d1,g,U,G,V⟩;have q:=q.t d1;refine aQ (aF i ?_ ?_)
    .intro A i;refine aE (eI [(10,fun w'=>Inv z w'/\Piece.holds z w' (kB l (Va y1.2) 104)/\True)] kr g fun h9 _ g=> ?_);have b:=z.le_refl;refine⟨⟨.inr ⟨Inv.anti g.inv b,Piece.holds_anti g.t.t.h b,trivial⟩,trivial⟩,?_⟩;refine aO 0 80 (vP bp0 0) (.head _) (dI 104 5 1 81 0 (.agg (Va y1.2)) (.head _) (fun _ h=>h.2.1) (aO 2 82 (vP l 1) (.head _) (dI 9 82 3 83 1 (vT y1.2.2.1) (.head _) (fun _ h=>h.2.1) (aO 4 84 (vP bp0 0) (.head _) (aO 5 85 (vI p1) (.head _) ?_)))));have g:=g.f1.f1;have⟨k4,e9,i⟩:=aW i;refine cA 6 kr (DD 86 148 #[vP bp0 0,vI p1] kr rfl ((c (p0:=B.1) g U G V e9).mono ?_));rintro _ k0 (⟨z9,f4,rfl,rfl,u,g⟩|⟨b6,rfl,g7,h0,g8,h1,g9,h2,d2,d3,h3,rfl,k,g,f9,g0,g1,g2⟩)
     .refine .inr ⟨_,rfl,?_⟩;have b:=Mem.le_trans b u;refine bY ?_;refine bY ?_;obtain rfl:=sI i;have g:=g.t;exact cW (.inl ⟨z9,f4,rfl,rfl,q.t u,g⟩)
     refine .inl ⟨_,rfl,?_⟩;have b:=Mem.le_trans b k;refine⟨⟨.inr ⟨Inv.anti g.inv b,Piece.holds_anti g.t.t.t.h b,trivial⟩,trivial⟩,?_⟩;refine aO 7 87 (.agg #[vI 3,vI 0,vI 0,vT y1.2.2.1,vS d2 b6.2 d3]) (.head _) ?_;have g:=g.f2.f2;have⟨k5,f0,i⟩:=aW i;refine cA 8 kr (DD 88 126 #[vP bp0 0,.agg (Va y1.2),.agg #[vI 3,vI 0,vI 0,vT y1.2.2.1,vS d2 b6.2 d3]] kr rfl ((yA (p0:=b6.1) (p1:=y1.2) (p2:=(3,0,0,y1.2.2.1,b6.2)) g f9 g0 g1 g2 f0).mono ?_));rintro _ k1 (⟨g6,f6,rfl,rfl,b3,g⟩|⟨e0,rfl,e2,e6,e4,e7,e5,e8,f5,rfl,Y,g,g3,g4,g5⟩)
     .refine .inr ⟨_,rfl,?_⟩;have b:=Mem.le_trans b b3;refine bY ?_;refine bY ?_;obtain rfl:=sI i;have g:=g.t.t;exact cW (.inl ⟨g6,f6,rfl,rfl,(q.t k).t b3,g⟩)
     refine .inl ⟨_,rfl,?_⟩;have b:=Mem.le_trans b Y;refine⟨⟨.inr ⟨Inv.anti g.inv b,Piece.holds_anti g.t.t.t.h b,trivial⟩,trivial⟩,?_⟩;refine aO 9 4 (vI e0.2) (.head _) (dU kr ?_);have g:=g.f2.t;refine aD (aM (aK ?_));cases i;exact aR [4] [vI e0.2] (.inr ⟨_,rfl,e2,e6,e4,e7,e5,e8,f5,rfl,(q.t k).t Y,g.f2.t.f1.f1,g3,g4,g5⟩)
    intro A i;refine aN (aD (aE (eI [(8,fun w'=>Inv z w'/\Piece.holds z w' (kB bp0 (Ve B.1 b7 b8 Z b0 a0 b2) 115)/\Piece.holds z w' (kB l (Va y1.2) 104)/\True)] kr g fun g0 _ g=> ?_)));have k:=z.le_refl;refine⟨⟨.inr ⟨Inv.anti g.inv k,Piece.holds_anti g.h k,Piece.holds_anti g.t.t.h k,trivial⟩,trivial⟩,?_⟩;refine aO 0 89 (vP bp0 0) (.head _) (aO 1 90 (vP bp0 0) (.head _) (aO 2 91 (vP bp0 2) (.head _) (dI 26 91 3 92 2 (vS Z B.1.2.2.1 b0) (.head _) (fun _ h=>h.2.1) (aO 4 93 (vP l 1) (.head _) (dI 9 93 5 94 1 (vT y1.2.2.1) (.head _) (fun _ h=>h.2.2.1) (cA 6 kr (iC 95 i (fun _ h=>SE g G h) ?_)))))));rintro Y i _ g1 ⟨e7,rfl,b,g⟩;refine⟨_,rfl,?_⟩;have q:=q.t b;have k:=Mem.le_trans k b;refine⟨⟨.inr ⟨Inv.anti g.inv k,Piece.holds_anti g.h k,Piece.holds_anti g.t.t.h k,trivial⟩,trivial⟩,?_⟩;refine aO 7 7 (vI Y) (.head _) (dU kr (aD (aE (aB 2 [(97,vB (decide (Y<0)))] ?_))));have⟨f0,i,j4⟩:=aW i;refine cR .normal (fun L' w'=>∃(o4:Unit),∃b3,(.inl o4:xJ)=f0/\L'=[(0,vP bp0 0),(5,vP l 0),(7,vI Y)]/\m.le b3/\St b3 (kB bp0 (Ve B.1 b7 b8 Z b0 a0 b2) 115::kB l (Va y1.2) 104::kR a0 B.1.2.2.2 b2 49 5::O) w'/\P7 b3 b7 b8 Z b0 a0 b2 B.1) ?_ ?_
    .rintro _ g2 ⟨o4,b3,rfl,rfl,q,g,U,G,V⟩;have i:=j4;refine aD (aU 1 [(100,vP bp0 0)] (bO 101 (.agg (Va y1.2)) g.t.h (aA 2 [(103,.agg #[vI 2,vI Y,vI 0,vT eB,v7])] (dL 104 i (yA (p0:=B.1) (p1:=y1.2) (p2:=(2,Y,0,eB,([]:Tb))) g.f2.f1 U G V (RepS.nil _ _)) ?_))));rintro g4 i _ g3 (⟨f9,e9,rfl,rfl,b6,g⟩|⟨d2,rfl,d3,e4,e0,e5,e2,e6,e8,rfl,u,g,f4,f5,f6⟩)
     .refine bY ?_;obtain rfl:=sI i;have g:=g.t;exact cW (.inl ⟨f9,e9,rfl,rfl,q.t b6,g⟩)
     refine aG 1 [(4,vI d2.2)] (aM ?_);cases i;exact aR [4] [vI d2.2] (.inr ⟨_,rfl,d3,e4,e0,e5,e2,e6,e8,rfl,q.t u,g.f2.t.f1.f1,f4,f5,f6⟩)
    intro d2;refine aF i ?_ ?_
    .intro A i;refine aX (bO 98 (.agg (Va y1.2)) g.t.t.h (dL 99 i (oA (p0:=y1.2) g) ?_));rintro e5 i _ e4 (⟨e2,e0,rfl,rfl,b6,g⟩|⟨e6,rfl,d3,rfl,u,g⟩)
     .obtain rfl:=sI i;have i:=j4;refine bY ?_;obtain rfl:=sI i;have g:=g.t.t.t;exact cW (.inl ⟨e2,e0,rfl,rfl,q.t b6,g⟩)
     refine aS rfl ?_;have n4:=jG i;exact xE (d2 _ _ ⟨(),d3,n4,rfl,q.t u,g.f1.f2.f2,(U.mono b).mono u,(G.mono b).mono u,(V.mono b).mono u⟩)
    intro A i;refine aN ?_;have n4:=jG i;exact xE (d2 _ _ ⟨(),e7,n4,rfl,q,g.f1.f2.f2,U.mono b,G.mono b,V.mono b⟩)
   intro u;refine aF i ?_ ?_
   .intro A i;refine aX (bO 76 (.agg (Va y1.2)) g.t.h (dL 77 i (oA (p0:=y1.2) g) ?_));rintro Y i _ V (⟨U,G,rfl,rfl,k,g⟩|⟨Z,rfl,B,rfl,b,g⟩)
    .obtain rfl:=sI i;have i:=j3;refine bY ?_;obtain rfl:=sI i;have g:=g.t.t.t;exact cW (.inl ⟨U,G,rfl,rfl,q.t k,g⟩)
    refine aS rfl ?_;have z:=jG i;exact xE (u _ _ ⟨(),B,z,rfl,q.t b,g.f2.f2.f2,n.mono b,o.mono b,p.mono b⟩)
   intro A i;refine aN ?_;have z:=jG i;exact xE (u _ _ ⟨(),f3,z,rfl,q,g.f2.f2.f2,n,o,p⟩)
  intro o2 i b;refine aF i ?_ ?_
  .intro A i;refine aN ?_;cases i;exact xE (b _ _ ⟨H,rfl,q,g.f2.f2.f2,n,o,p⟩)
  intro A i;refine aB 2 [(63,vB (y1.2.2.1.toList==b18.toList))] (aF i ?_ ?_)
  .intro A i;refine aN ?_;cases i;exact xE (b _ _ ⟨H,rfl,q,g.f2.f2.f2,n,o,p⟩)
  intro A i;refine aB 2 [(63,vB (y1.2.2.1.toList==b19.toList))] (aF i ?_ ?_)
  .intro A i;refine aN ?_;cases i;exact xE (b _ _ ⟨H,rfl,q,g.f2.f2.f2,n,o,p⟩)
  intro A i;refine aB 2 [(63,vB (y1.2.2.1.toList==b1a.toList))] (aF i ?_ ?_)
  .intro A i;refine aN ?_;cases i;exact xE (b _ _ ⟨H,rfl,q,g.f2.f2.f2,n,o,p⟩)
  intro A i;refine aX (aA 2 [(63,vB (y1.2.2.1.toList==b1b.toList))] (aS rfl ?_));cases i;exact xE (b _ _ ⟨H,rfl,q,g.f2.f2.f2,n,o,p⟩)
 intro G;refine aZ (aC (bH 1 12 3 11 0 (vI y1.2.1) g.h (aG 2 [(10,vB (y1.2.1==2))] (aF i ?_ ?_))))
 .intro A i;refine aU 3 [(14,vP bp0 0),(16,vP bp0 1)] ?_;refine bO 17 (vI y1.1.2.1) g.t.h ?_;refine aA 3 [(18,vI (wr (y1.1.2.1+1))),(20,vP bp0 1)] (cU #[vS a4 y1.1.1 c4,vI (wr (y1.1.2.1+1)),vS a5 y1.1.2.2.1 c5,vS a6 y1.1.2.2.2 c6] g.f1 fun w5 g=>(aQ (aC (aA 1 [(21,vP bp0 0)] (bO 22 (.agg (Va y1.2)) g.t.h (bH 1 24 3 23 2 (vI y1.2.2.2.1) g.t.h (aA 1 [(25,.agg #[vI 1,vI y1.2.2.2.1,vI 0,vT eB,v7])] (dL 26 i (yA (p0:=(y1.1.1,wr (y1.1.2.1+1),y1.1.2.2.1,y1.1.2.2.2)) (p1:=y1.2) (p2:=(1,y1.2.2.2.1,0,eB,([]:Tb))) g.f2.f1 r4 r5 r6 (RepS.nil _ _)) ?_))))))));rintro y2 i _ w6 (⟨z1,m4,rfl,rfl,k,g⟩|⟨Y,rfl,n,s,o,u,p,z,Z,rfl,b,g,B,U,V⟩)
  .refine bY ?_;refine eZ ?_;obtain rfl:=sI i;have i:=F;refine bY ?_;obtain rfl:=sI i;have g:=g.t;exact cW (.inl ⟨z1,m4,rfl,rfl,q.t k,g⟩)
  refine aG 1 [(4,vI Y.2)] (aM (bA ?_));cases i;have i:=F;refine aK ?_;cases i;exact aR [4] [vI Y.2] (.inr ⟨_,rfl,n,s,o,u,p,z,Z,rfl,q.t b,g.f2.t.f1.f1,B,U,V⟩)
 intro A i;refine aU 1 [(28,vP bp0 0)] ?_;refine aL 29 i (AZ (p0:=y1.1) g.f2.f2 r4 r5 r6) ?_;rintro y4 i _ w8 ⟨f5,g2,f6,g3,f8,g4,m5,rfl,b5,g,b2,b3,b4⟩;have q:=q.t b5;refine aG 1 [(27,vB y4.2)] (aF i ?_ ?_)
 .intro A i;refine aE (eI [(9,fun w'=>Inv m5 w'/\Piece.holds m5 w' (kB l (Va y1.2) 104)/\True)] kr g fun w9 _ g=> ?_);have b:=m5.le_refl;refine⟨⟨.inr ⟨Inv.anti g.inv b,Piece.holds_anti g.t.t.h b,trivial⟩,trivial⟩,?_⟩;refine aO 0 30 (vP bp0 0) (.head _) (dI 104 5 1 31 0 (.agg (Va y1.2)) (.head _) (fun _ h=>h.2.1) (aO 2 32 (vP bp0 0) (.head _) ?_));have g:=g.f1.f1;have⟨y5,d4,i⟩:=aW i;refine cA 3 kr (DD 33 112 #[vP bp0 0,vI 2] kr rfl ((FK (p0:=y4.1) g b2 b3 b4 d4).mono ?_));rintro _ e5 (⟨z2,m7,rfl,rfl,o,g⟩|⟨n,rfl,d1,e0,d2,e2,d3,e4,m6,rfl,k,g,Z,a0,b0⟩)
  .refine .inr ⟨_,rfl,?_⟩;have b:=Mem.le_trans b o;refine bY ?_;refine eZ ?_;obtain rfl:=sI i;have i:=F;refine bY ?_;obtain rfl:=sI i;have g:=g.t;exact cW (.inl ⟨z2,m7,rfl,rfl,q.t o,g⟩)
  refine .inl ⟨_,rfl,?_⟩;have b:=Mem.le_trans b k;refine⟨⟨.inr ⟨Inv.anti g.inv b,Piece.holds_anti g.t.t.h b,trivial⟩,trivial⟩,?_⟩;refine aO 4 34 (vI n.2.2.2.1) (.head _) (aO 5 35 (vI (wr (0-n.2.2.2.1))) (.head _) (aO 6 36 (.agg #[vI 1,vI (wr (0-n.2.2.2.1)),vI 0,vT eB,v7]) (.head _) ?_));have g:=g.f1.f1;have⟨y7,d5,i⟩:=aW i;refine cA 7 kr (DD 37 126 #[vP bp0 0,.agg (Va y1.2),.agg #[vI 1,vI (wr (0-n.2.2.2.1)),vI 0,vT eB,v7]] kr rfl ((yA (p0:=n.1) (p1:=y1.2) (p2:=(1,wr (0-n.2.2.2.1),0,eB,([]:Tb))) g Z a0 b0 (RepS.nil _ _) d5).mono ?_));rintro _ e6 (⟨z3,m9,rfl,rfl,s,g⟩|⟨y8,rfl,u,U,z,V,B,Y,m8,rfl,p,g,b6,b7,b8⟩)
  .refine .inr ⟨_,rfl,?_⟩;have b:=Mem.le_trans b s;refine bY ?_;refine eZ ?_;obtain rfl:=sI i;have i:=F;refine bY ?_;obtain rfl:=sI i;have g:=g.t;exact cW (.inl ⟨z3,m9,rfl,rfl,(q.t k).t s,g⟩)
  refine .inl ⟨_,rfl,?_⟩;have b:=Mem.le_trans b p;refine⟨⟨.inr ⟨Inv.anti g.inv b,Piece.holds_anti g.t.t.h b,trivial⟩,trivial⟩,?_⟩;refine aO 8 4 (vI y8.2) (.head _) (dU kr (aD (aM (bA ?_))));cases i;have i:=F;refine aK ?_;cases i;exact aR [4] [vI y8.2] (.inr ⟨_,rfl,u,U,z,V,B,Y,m8,rfl,(q.t k).t p,g.f2.t.f1.f1,b6,b7,b8⟩)
 intro A i;refine aU 1 [(39,vP bp0 0)] ?_;refine aL 40 i (AZ (p0:=y4.1) g.f1.f1 b2 b3 b4) ?_;rintro B i _ g9 ⟨U,Z,V,a0,Y,b0,e2,rfl,b6,g,n,o,p⟩;have q:=q.t b6;refine aG 1 [(38,vB B.2)] (aF i ?_ ?_)
 .intro A i;refine aU 3 [(41,vP bp0 0),(43,vI (wr (p1+1)))] ?_;refine dL 44 i (f (p0:=B.1) g.f1.f1 n o p) ?_;rintro h2 i _ h0 (⟨z4,e4,rfl,rfl,s,g⟩|⟨k,rfl,f9,g5,g0,g6,g1,g7,g8,rfl,b,g,e7,e8,e9⟩)
  .refine bY ?_;refine eZ ?_;obtain rfl:=sI i;have i:=F;refine bY ?_;obtain rfl:=sI i;have g:=g.t;exact cW (.inl ⟨z4,e4,rfl,rfl,q.t s,g⟩)
  refine aG 1 [(6,vI k.2)] (aC (aA 1 [(45,vP bp0 0)] (dL 46 i (sA (p0:=k.1) g.f1.f1 e7 e8 e9) ?_)));rintro h3 i _ h1 (⟨z5,e6,rfl,rfl,z,g⟩|⟨h4,rfl,b7,d2,b8,d3,d1,e0,e5,rfl,u,g,f0,f3,f4⟩)
  .refine bY ?_;refine eZ ?_;obtain rfl:=sI i;have i:=F;refine bY ?_;obtain rfl:=sI i;have g:=g.t;exact cW (.inl ⟨z5,e6,rfl,rfl,(q.t b).t z,g⟩)
  refine aQ (aC (aG 2 [(4,vI k.2)] (aM (bA ?_))));cases i;have i:=F;refine aK ?_;cases i;exact aR [4] [vI k.2] (.inr ⟨_,rfl,b7,d2,b8,d3,d1,e0,e5,rfl,(q.t b).t u,g.f2.t.f1.f1,f0,f3,f4⟩)
 intro A i;refine aC (bH 1 50 3 49 0 (vI y1.2.1) g.t.t.h (aG 2 [(48,vB (y1.2.1 !=1))] (aF i ?_ ?_)))
 .intro A i;refine aX (bO 52 (.agg (Va y1.2)) g.t.t.h (dL 53 i (oA (p0:=y1.2) g) ?_));rintro b8 i _ b7 (⟨z6,z,rfl,rfl,k,g⟩|⟨d1,rfl,u,rfl,b,g⟩)
  .refine eZ ?_;obtain rfl:=sI i;have i:=F;refine bY ?_;obtain rfl:=sI i;have g:=g.t.t.t;exact cW (.inl ⟨z6,z,rfl,rfl,q.t k,g⟩)
  refine aS rfl (bG ?_);have s:=jG i;exact xE (G _ _ ⟨B.1,U,Z,V,a0,Y,b0,u,s,rfl,q.t b,g.f1.f1.f2,n.mono b,o.mono b,p.mono b⟩)
 intro A i;refine aN (bG ?_);have s:=jG i;exact xE (G _ _ ⟨B.1,U,Z,V,a0,Y,b0,e2,s,rfl,q,g.f1.f1.f2,n,o,p⟩)
theorem qCc{R9:bK->mB->(Int)->eA}{Ra:bK->(Int)->rX}{Rb:bK->(Int)->eA}{Rc:bK->(Int)->(Int)->eA}{Rd:bK->(Int)->eA}(l:EY R9)(k:EQ Ra)(b:EZ Rb)(a:FB Rc)(n:FM Rd){p0:bK}{p1:Int}{p2:Int}{r:nV}(g:St m (kB bp0 (Ve p0 a1 c1 a2 c2 a3 c3) 115::kR a3 p0.2.2.2 c3 49 5::O) w)(r1:RepS C5 m a1 c1 p0.1)(r2:RepS aH m a2 c2 p0.2.2.1)(r3:RepS C2 m a3 c3 p0.2.2.2)(i:MR N R9 Ra Rb Rc Rd p0 p1 p2=some r):Calls prog 125 #[vP bp0 0,vI p1,vI p2] w fun e w'=>(∃(z0:Ts),∃m',r= .inl z0/\e= .panicked [{v:= .iface 111 (.agg (Vf z0)),recovered:=false}]/\m.le m'/\St m' (O) w')\/(∃(M:oL),r= .inr M/\∃d2 d4 d3 d5 H K m',e= .returned (vI M.2)/\m.le m'/\St m' (kB bp0 (Ve M.1 d2 d4 d3 d5 H K) 115::kR H M.1.2.2.2 K 49 5::O) w'/\P7 m' d2 d4 d3 d5 H K M.1):=by
 unfold MR at i;have q:=m.le_refl;refine bI func125 rfl ntmps125 ?_;refine aB 1 [] (aE ?_);refine aB 2 [(12,vB (p1==4))] (aF i ?_ ?_)
 .intro A i;refine aU 2 [(13,vP bp0 0),(14,vI p2)] ?_;refine dL 15 i (b (p0:=p0) g.f1.f1 r1 r2 r3) ?_;rintro y1 i _ R (⟨G,B,rfl,rfl,d,g⟩|⟨f,rfl,o,u,p,x,s,y,z,rfl,c,g,D,E,F⟩)
  .refine bY ?_;refine bY ?_;obtain rfl:=sI i;exact cW (.inl ⟨G,B,rfl,rfl,q.t d,g⟩)
  refine aG 1 [(6,vI f.2)] (aM (aK ?_));cases i;exact aR [6] [vI f.2] (.inr ⟨_,rfl,o,u,p,x,s,y,z,rfl,q.t c,g.f1.f1,D,E,F⟩)
 intro A i;refine aN (aD (aU 4 [(16,vP bp0 0),(18,vI (wr (p1+1))),(19,vI p2)] (dL 20 i (a (p0:=p0) g.f1.f1 r1 r2 r3) ?_)));rintro y3 i _ w3 (⟨z2,m4,rfl,rfl,d8,g⟩|⟨y,rfl,a7,c7,a8,c8,a9,c9,m3,rfl,d7,g,r7,r8,r9⟩)
 .refine bY ?_;obtain rfl:=sI i;exact cW (.inl ⟨z2,m4,rfl,rfl,q.t d8,g⟩)
 refine aG 1 [(7,vI y.2)] (aZ ?_);have⟨e2,i,S⟩:=aW i;refine cK _ kr (cJ (fun U L' w'=>∃(c:Int×bK),∃B E D F s u V,aI (MN N Rc p1 p2) U c=some e2/\L'=[(0,vP bp0 0),(1,vI p1),(2,vI p2),(7,vI c.1)]/\m.le V/\St V (kB bp0 (Ve c.2 B E D F s u) 115::kR s c.2.2.2.2 u 49 5::O) w'/\P7 V B E D F s u c.2) N ⟨(y.2,y.1.1,y.1.2.1,y.1.2.2.1,y.1.2.2.2),a7,c7,a8,c8,a9,c9,m3,i,rfl,q.t d7,g.f1.f1,r7,r8,r9⟩ ?_);rintro U _ w5 ⟨c,B,E,D,F,s,u,V,hL,rfl,q,g,f9,g0,g1⟩;rcases U with _|U
 .exact cN hL
 obtain⟨h6,i,d6,o⟩:=cO hL;clear hL;unfold MN at i;refine aZ (aU 2 [(21,vP bp0 0),(22,vI p1)] (aL 23 i (qCd (p0:=c.2) g.f1.f1 f9 g0 g1) ?_));rintro y5 i _ w6 ⟨e4,f0,e5,f3,e6,f4,m6,rfl,d9,g,b6,b7,b8⟩;have q:=q.t d9;refine aG 1 [(8,vI y5.2)] (aE (aB 2 [(25,vB (y5.2==0))] (aF i ?_ ?_)))
 .intro A i;refine aB 2 [(6,vI c.1)] (aM ?_);refine aK (bA ?_);have ho:=o _ (sI i);subst ho;have i:=S;refine aK (bA ?_);cases i;exact aR [6] [vI c.1] (.inr ⟨_,rfl,e4,f0,e5,f3,e6,f4,m6,rfl,q,g.f1.f1,b6,b7,b8⟩)
 intro A i;refine aN (aD (aU 1 [(27,vP bp0 0)] (aL 28 i (sS (p0:=y5.1) g.f1.f1 b6 b7 b8) ?_)));rintro d i _ w7 ⟨e7,f5,e8,f6,e9,f7,m7,rfl,G,g,g2,g3,g4⟩;refine cY 9 104 (.agg (Vb 0 eB 0 0)) g fun b1 w8 g=> ?_;refine cD (.agg (Va d.2)) g fun w9 g=> ?_;refine aQ (aC (aA 3 [(29,vP bp0 0),(31,vP bp0 1)] (bO 32 (vI d.1.2.1) g.t.h (aA 3 [(33,vI (wr (d.1.2.1+1))),(35,vP bp0 1)] (cU #[vS e7 d.1.1 f5,vI (wr (d.1.2.1+1)),vS e8 d.1.2.2.1 f6,vS e9 d.1.2.2.2 f7] g.f1 fun h7 g=>(aQ (aC (aA 4 [(36,vP bp0 0),(38,vI (wr (p1+1))),(39,vI p2)] (dL 40 i (a (p0:=(d.1.1,wr (d.1.2.1+1),d.1.2.2.1,d.1.2.2.2)) g.f2.f1 g2 g3 g4) ?_)))))))));rintro y7 i _ h8 (⟨z3,m9,rfl,rfl,e1,g⟩|⟨z,rfl,g9,h2,h0,h3,h1,h4,m8,rfl,e0,g,g5,g6,g7⟩)
 .refine bY ?_;refine eZ ?_;have ho:=o _ (sI i);subst ho;have i:=S;refine bY ?_;refine eZ ?_;obtain rfl:=sI i;have g:=g.t;exact cW (.inl ⟨z3,m9,rfl,rfl,(q.t G).t e1,g⟩)
 refine aG 1 [(10,vI z.2)] (aC (aA 1 [(41,vP bp0 0)] (bO 42 (.agg (Va d.2)) g.t.t.h (aA 3 [(43,vI y5.2),(44,vI c.1),(45,vI z.2)] (eX 46 3 2 (aV .i64) [c.1,z.2] g fun b2 h5 h9 p g g8=> ?_)))));have q:=((q.t G).t e0).t p;refine aA 1 [(47,.agg #[vI 4,vI 0,vI y5.2,vT eB,vS (aP b2) ([c.1,z.2]) 2])] (dL 48 i (yA (p0:=z.1) (p1:=d.2) (p2:=(4,0,y5.2,eB,[c.1,z.2])) g.f2.f2 (g5.mono p) (g6.mono p) (g7.mono p) g8) ?_);rintro y9 i _ k0 (⟨z4,f8,rfl,rfl,R,g⟩|⟨f,rfl,Y,b0,Z,b3,a0,b4,b5,rfl,x,g,b9,d0,d1⟩)
 .refine bY ?_;refine eZ ?_;have ho:=o _ (sI i);subst ho;have i:=S;refine bY ?_;refine eZ ?_;obtain rfl:=sI i;have g:=g.t.t;exact cW (.inl ⟨z4,f8,rfl,rfl,q.t R,g⟩)
 refine aA 1 [(7,vI f.2)] (aS rfl ?_);have g:=g.f2.t;refine aD (aB 2 [(50,vB (p1==1))] (aF i ?_ ?_))
 .intro A i;refine aB 2 [(6,vI f.2)] (aM ?_);refine bA ?_;have ho:=o _ (sI i);subst ho;have i:=S;refine aK (bA ?_);cases i;exact aR [6] [vI f.2] (.inr ⟨_,rfl,Y,b0,Z,b3,a0,b4,b5,rfl,q.t x,g.f2.t.f1.f1,b9,d0,d1⟩)
 intro A i;refine aN (bG ?_);have hL:=d6 _ (sI i);exact xE (cF ⟨(f.2,f.1.1,f.1.2.1,f.1.2.2.1,f.1.2.2.2),Y,b0,Z,b3,a0,b4,b5,hL,rfl,q.t x,g.f2.t.f1.f1,b9,d0,d1⟩)
theorem qCm{R9:bK->mB->(Int)->eA}{Ra:bK->(Int)->rX}{Rb:bK->(Int)->eA}{Rc:bK->(Int)->(Int)->eA}{Rd:bK->(Int)->eA}(k:EY R9)(d:EQ Ra)(l:EZ Rb)(b:FB Rc)(a:FM Rd){p0:bK}{p1:Int}{r:nV}(g:St m (kB bp0 (Ve p0 a1 c1 a2 c2 a3 c3) 115::kR a3 p0.2.2.2 c3 49 5::O) w)(r1:RepS C5 m a1 c1 p0.1)(r2:RepS aH m a2 c2 p0.2.2.1)(r3:RepS C2 m a3 c3 p0.2.2.2)(i:MX N R9 Ra Rb Rc Rd p0 p1=some r):Calls prog 117 #[vP bp0 0,vI p1] w fun e w'=>(∃(z0:Ts),∃m',r= .inl z0/\e= .panicked [{v:= .iface 111 (.agg (Vf z0)),recovered:=false}]/\m.le m'/\St m' (O) w')\/(∃(B:oL),r= .inr B/\∃Y a0 Z b0 y z m',e= .returned (vI B.2)/\m.le m'/\St m' (kB bp0 (Ve B.1 Y a0 Z b0 y z) 115::kR y B.1.2.2.2 z 49 5::O) w'/\P7 m' Y a0 Z b0 y z B.1):=by
 unfold MX at i;have q:=m.le_refl;refine bI func117 rfl ntmps117 ?_;refine aB 1 [] (aC ?_);refine aA 1 [(9,vP bp0 0)] (aL 10 i (sS (p0:=p0) g.f1.f1 r1 r2 r3) ?_);rintro y1 i _ w1 ⟨a4,c4,a5,c5,a6,c6,m1,rfl,b4,g,S,U,V⟩;have q:=q.t b4;refine cY 5 104 (.agg (Vb 0 eB 0 0)) g fun b1 w2 g=> ?_;refine cD (.agg (Va y1.2)) g fun w3 g=> ?_;refine aQ (aE (aB 2 [(12,vB (decide (p1>32)))] ?_));have⟨e0,i,j1⟩:=aW i;refine cR .normal (fun L' w'=>∃(o1:Unit),∃R,(.inl o1:xJ)=e0/\L'=[(0,vP bp0 0),(1,vI p1),(5,vP b1 0)]/\m.le R/\St R (kB b1 (Va y1.2) 104::kB bp0 (Ve y1.1 a4 c4 a5 c5 a6 c6) 115::kR a6 y1.1.2.2.2 c6 49 5::O) w'/\P7 R a4 c4 a5 c5 a6 c6 y1.1) ?_ ?_
 .rintro _ w4 ⟨o1,R,rfl,rfl,q,g,S,U,V⟩;have i:=j1;refine aD (aE (aU 1 [(15,vP bp0 0)] (aL 16 i (BR (p0:=y1.1) g.f2.f2 S U V) ?_)));rintro f i _ w7 ⟨a7,c7,a8,c8,a9,c9,m5,rfl,b5,g,r7,r8,r9⟩;have q:=q.t b5;refine aG 1 [(17,vB (!f.2))] (aF i ?_ ?_)
  .intro A i;refine aU 2 [(18,vP bp0 0),(19,vI p1)] ?_;refine dL 20 i (b (p0:=f.1) g.f1.f1 r7 r8 r9) ?_;rintro y5 i _ w8 (⟨z2,M,rfl,rfl,n,g⟩|⟨H,rfl,o,u,p,x,s,D,K,rfl,c,g,E,F,G⟩)
   .refine bY ?_;refine bY ?_;obtain rfl:=sI i;have g:=g.t;exact cW (.inl ⟨z2,M,rfl,rfl,q.t n,g⟩)
   refine aG 1 [(4,vI H.2)] (aM (aK ?_));cases i;exact aR [4] [vI H.2] (.inr ⟨_,rfl,o,u,p,x,s,D,K,rfl,q.t c,g.f2.t.f1.f1,E,F,G⟩)
  intro A i;refine aN (aD (aU 3 [(21,vP bp0 0),(23,vP bp0 1)] (bO 24 (vI f.1.2.1) g.h (aA 3 [(25,vI (wr (f.1.2.1+1))),(27,vP bp0 1)] (cU #[vS a7 f.1.1 c7,vI (wr (f.1.2.1+1)),vS a8 f.1.2.2.1 c8,vS a9 f.1.2.2.2 c9] g fun n2 g=>(aQ (aC (aA 3 [(28,vP bp0 0),(30,vI (wr (p1+1)))] (dL 31 i (a (p0:=(f.1.1,wr (f.1.2.1+1),f.1.2.2.1,f.1.2.2.2)) g.f1.f1 r7 r8 r9) ?_)))))))));rintro y7 i _ n3 (⟨z3,m9,rfl,rfl,b6,g⟩|⟨u,rfl,g5,k0,g6,k1,g7,k2,m8,rfl,x,g,e1,e2,e4⟩)
  .refine bY ?_;obtain rfl:=sI i;have g:=g.t;exact cW (.inl ⟨z3,m9,rfl,rfl,q.t b6,g⟩)
  refine aG 1 [(6,vI u.2)] (aC (aA 1 [(32,vP bp0 0)] (dL 33 i (MV (p0:=u.1) g.f1.f1 e1 e2 e4) ?_)));rintro y9 i _ n4 (⟨z4,d4,rfl,rfl,D,g⟩|⟨g3,rfl,g8,k4,g9,k5,h0,k6,l6,rfl,b7,g,e5,e6,e7⟩)
  .refine bY ?_;obtain rfl:=sI i;have g:=g.t;exact cW (.inl ⟨z4,d4,rfl,rfl,(q.t x).t D,g⟩)
  have q:=(q.t x).t b7;refine aQ (aC (aA 3 [(34,vP bp0 0),(36,vI (wr (p1+1)))] (dL 37 i (a (p0:=g3) g.f1.f1 e5 e6 e7) ?_)));rintro o0 i _ n5 (⟨z5,d5,rfl,rfl,E,g⟩|⟨n,rfl,h1,k7,h2,k8,h3,k9,l7,rfl,p,g,e8,e9,f0⟩)
  .refine bY ?_;obtain rfl:=sI i;have g:=g.t;exact cW (.inl ⟨z5,d5,rfl,rfl,q.t E,g⟩)
  refine aG 1 [(7,vI n.2)] (aC (aA 1 [(38,vP bp0 0)] (dL 39 i (MV (p0:=n.1) g.f1.f1 e8 e9 f0) ?_)));rintro o3 i _ n6 (⟨z6,d6,rfl,rfl,G,g⟩|⟨g4,rfl,h4,l0,h5,l1,h6,l2,l8,rfl,F,g,f3,f4,f5⟩)
  .refine bY ?_;obtain rfl:=sI i;have g:=g.t;exact cW (.inl ⟨z6,d6,rfl,rfl,(q.t p).t G,g⟩)
  have q:=(q.t p).t F;refine aQ (aC (aA 3 [(40,vP bp0 0),(42,vI (wr (p1+1)))] (dL 43 i (a (p0:=g4) g.f1.f1 f3 f4 f5) ?_)));rintro o4 i _ n7 (⟨z7,d7,rfl,rfl,H,g⟩|⟨o,rfl,h7,l3,h8,l4,h9,l5,l9,rfl,s,g,f6,f7,f8⟩)
  .refine bY ?_;obtain rfl:=sI i;have g:=g.t;exact cW (.inl ⟨z7,d7,rfl,rfl,q.t H,g⟩)
  refine aG 1 [(8,vI o.2)] (aC (aA 1 [(44,vP bp0 0)] (bO 45 (.agg (Va y1.2)) g.t.t.h (aA 3 [(46,vI u.2),(47,vI n.2),(48,vI o.2)] (eX 49 3 3 (aV .i64) [u.2,n.2,o.2] g fun b2 n0 n8 c g f9=>(aA 1 [(50,.agg #[vI 5,vI 0,vI 0,vT eB,vS (aP b2) ([u.2,n.2,o.2]) 3])] (dL 51 i (yA (p0:=o.1) (p1:=y1.2) (p2:=(5,0,0,eB,[u.2,n.2,o.2])) g.f2.f2 (f6.mono c) (f7.mono c) (f8.mono c) f9) ?_)))))));rintro o5 i _ n9 (⟨z8,d9,rfl,rfl,M,g⟩|⟨b3,rfl,b8,d1,b9,d2,d0,d3,d8,rfl,K,g,g0,g1,g2⟩)
  .refine bY ?_;obtain rfl:=sI i;have g:=g.t.t;exact cW (.inl ⟨z8,d9,rfl,rfl,((q.t s).t c).t M,g⟩)
  refine aA 1 [(4,vI b3.2)] (aS rfl ?_);have g:=g.f2.t;refine aD (aM ?_);cases i;exact aR [4] [vI b3.2] (.inr ⟨_,rfl,b8,d1,b9,d2,d0,d3,d8,rfl,((q.t s).t c).t K,g.f2.t.f1.f1,g0,g1,g2⟩)
 intro f;refine aF i ?_ ?_
 .intro A i;refine aX (bO 13 (.agg (Va y1.2)) g.h (dL 14 i (oA (p0:=y1.2) g) ?_));rintro D i _ x (⟨u,s,rfl,rfl,n,g⟩|⟨E,rfl,p,rfl,c,g⟩)
  .obtain rfl:=sI i;have i:=j1;refine bY ?_;obtain rfl:=sI i;have g:=g.t.t.t;exact cW (.inl ⟨u,s,rfl,rfl,q.t n,g⟩)
  refine aS rfl ?_;have o:=jG i;exact xE (f _ _ ⟨(),p,o,rfl,q.t c,g.f2.f2.f2,S.mono c,U.mono c,V.mono c⟩)
 intro A i;refine aN ?_;have o:=jG i;exact xE (f _ _ ⟨(),m1,o,rfl,q,g.f2.f2.f2,S,U,V⟩)
theorem lP(N:Nat):∀D:Nat,(∀{m:Mem} {O:List Piece} {w:World} {p0:bK} {p1:mB} {p2:Int} {b:Nat} {p:Option Addr} {s:Nat} {q:Option Addr} {t:Nat} {n:Option Addr} {o:Nat} {r:nV} (g:St m (kB b (Ve p0 p s q t n o) 115::kR n p0.2.2.2 o 49 5::O) w) (u:RepS C5 m p s p0.1) (x:RepS aH m q t p0.2.2.1) (y:RepS C2 m n o p0.2.2.2) (i:(iO N D).1 p0 p1 p2=some r),Calls prog 147 #[vP b 0,.agg (Va p1),vI p2] w fun e w'=>(∃(z:Ts),∃m',r= .inl z/\e= .panicked [{v:= .iface 111 (.agg (Vf z)),recovered:=false}]/\m.le m'/\St m' (O) w')\/(∃(a:oL),r= .inr a/\∃f k h l c d m',e= .returned (vI a.2)/\m.le m'/\St m' (kB b (Ve a.1 f k h l c d) 115::kR c a.1.2.2.2 d 49 5::O) w'/\P7 m' f k h l c d a.1))/\(∀{m:Mem} {O:List Piece} {w:World} {p0:bK} {p1:Int} {b:Nat} {p:Option Addr} {s:Nat} {q:Option Addr} {t:Nat} {n:Option Addr} {o:Nat} {r:IS} (g:St m (kB b (Ve p0 p s q t n o) 115::kR n p0.2.2.2 o 49 5::O) w) (u:RepS C5 m p s p0.1) (x:RepS aH m q t p0.2.2.1) (y:RepS C2 m n o p0.2.2.2) (i:(iO N D).2.1 p0 p1=some r),Calls prog 148 #[vP b 0,vI p1] w fun e w'=>(∃(z:Ts),∃m',r= .inl z/\e= .panicked [{v:= .iface 111 (.agg (Vf z)),recovered:=false}]/\m.le m'/\St m' (O) w')\/(∃(a:T2b),r= .inr a/\∃f k h l c d A B m',e= .returned (vS A a.2 B)/\m.le m'/\St m' (kR A a.2 B 3 1::kB b (Ve a.1 f k h l c d) 115::kR c a.1.2.2.2 d 49 5::O) w'/\P8 m' f k h l c d A B a))/\(∀{m:Mem} {O:List Piece} {w:World} {p0:bK} {p1:Int} {b:Nat} {p:Option Addr} {s:Nat} {q:Option Addr} {t:Nat} {n:Option Addr} {o:Nat} {r:nV} (g:St m (kB b (Ve p0 p s q t n o) 115::kR n p0.2.2.2 o 49 5::O) w) (u:RepS C5 m p s p0.1) (x:RepS aH m q t p0.2.2.1) (y:RepS C2 m n o p0.2.2.2) (i:(iO N D).2.2.1 p0 p1=some r),Calls prog 135 #[vP b 0,vI p1] w fun e w'=>(∃(z:Ts),∃m',r= .inl z/\e= .panicked [{v:= .iface 111 (.agg (Vf z)),recovered:=false}]/\m.le m'/\St m' (O) w')\/(∃(a:oL),r= .inr a/\∃f k h l c d m',e= .returned (vI a.2)/\m.le m'/\St m' (kB b (Ve a.1 f k h l c d) 115::kR c a.1.2.2.2 d 49 5::O) w'/\P7 m' f k h l c d a.1))/\(∀{m:Mem} {O:List Piece} {w:World} {p0:bK} {p1:Int} {p2:Int} {b:Nat} {p:Option Addr} {s:Nat} {q:Option Addr} {t:Nat} {n:Option Addr} {o:Nat} {r:nV} (g:St m (kB b (Ve p0 p s q t n o) 115::kR n p0.2.2.2 o 49 5::O) w) (u:RepS C5 m p s p0.1) (x:RepS aH m q t p0.2.2.1) (y:RepS C2 m n o p0.2.2.2) (i:(iO N D).2.2.2.1 p0 p1 p2=some r),Calls prog 125 #[vP b 0,vI p1,vI p2] w fun e w'=>(∃(z:Ts),∃m',r= .inl z/\e= .panicked [{v:= .iface 111 (.agg (Vf z)),recovered:=false}]/\m.le m'/\St m' (O) w')\/(∃(a:oL),r= .inr a/\∃f k h l c d m',e= .returned (vI a.2)/\m.le m'/\St m' (kB b (Ve a.1 f k h l c d) 115::kR c a.1.2.2.2 d 49 5::O) w'/\P7 m' f k h l c d a.1))/\(∀{m:Mem} {O:List Piece} {w:World} {p0:bK} {p1:Int} {b:Nat} {p:Option Addr} {s:Nat} {q:Option Addr} {t:Nat} {n:Option Addr} {o:Nat} {r:nV} (g:St m (kB b (Ve p0 p s q t n o) 115::kR n p0.2.2.2 o 49 5::O) w) (u:RepS C5 m p s p0.1) (x:RepS aH m q t p0.2.2.1) (y:RepS C2 m n o p0.2.2.2) (i:(iO N D).2.2.2.2 p0 p1=some r),Calls prog 117 #[vP b 0,vI p1] w fun e w'=>(∃(z:Ts),∃m',r= .inl z/\e= .panicked [{v:= .iface 111 (.agg (Vf z)),recovered:=false}]/\m.le m'/\St m' (O) w')\/(∃(a:oL),r= .inr a/\∃f k h l c d m',e= .returned (vI a.2)/\m.le m'/\St m' (kB b (Ve a.1 f k h l c d) 115::kR c a.1.2.2.2 d 49 5::O) w'/\P7 m' f k h l c d a.1))
 |0=>⟨fun _ _ _ _ i=>(by cases i),fun _ _ _ _ i=>(by cases i),fun _ _ _ _ i=>(by cases i),fun _ _ _ _ i=>(by cases i),fun _ _ _ _ i=>(by cases i)⟩
 |D+1=>⟨fun g u x y i=>qCb (lP N D).1 (lP N D).2.1 (lP N D).2.2.1 (lP N D).2.2.2.1 (lP N D).2.2.2.2 g u x y i,fun g u x y i=>qBx (lP N D).1 (lP N D).2.1 (lP N D).2.2.1 (lP N D).2.2.2.1 (lP N D).2.2.2.2 g u x y i,fun g u x y i=>qCe (lP N D).1 (lP N D).2.1 (lP N D).2.2.1 (lP N D).2.2.2.1 (lP N D).2.2.2.2 g u x y i,fun g u x y i=>qCc (lP N D).1 (lP N D).2.1 (lP N D).2.2.1 (lP N D).2.2.2.1 (lP N D).2.2.2.2 g u x y i,fun g u x y i=>qCm (lP N D).1 (lP N D).2.1 (lP N D).2.2.1 (lP N D).2.2.2.1 (lP N D).2.2.2.2 g u x y i⟩
theorem qDd{p0:bK}{p1:Int}{r:nV}(g:St m (kB bp0 (Ve p0 a1 c1 a2 c2 a3 c3) 115::kR a3 p0.2.2.2 c3 49 5::O) w)(n:RepS C5 m a1 c1 p0.1)(o:RepS aH m a2 c2 p0.2.2.1)(p:RepS C2 m a3 c3 p0.2.2.2)(i:SV N p0 p1=some r):Calls prog 117 #[vP bp0 0,vI p1] w fun e w'=>(∃(l:Ts),∃m',r= .inl l/\e= .panicked [{v:= .iface 111 (.agg (Vf l)),recovered:=false}]/\m.le m'/\St m' (O) w')\/(∃(c:oL),r= .inr c/\∃d h f k a b m',e= .returned (vI c.2)/\m.le m'/\St m' (kB bp0 (Ve c.1 d h f k a b) 115::kR a c.1.2.2.2 b 49 5::O) w'/\P7 m' d h f k a b c.1):=
 (lP N N).2.2.2.2 g n o p i
end
section
open Go Go.Dc Go.Proofs.Tryz
set_option maxHeartbeats 4000000
set_option maxRecDepth 100000
variable {N bp0 c1 c2 c3 c4:Nat} {m:Mem} {O:List Piece} {w:World} {a1 a2 a3 a4:Option Addr}
def MU(N:Nat)(p1:Tn)(b:Option (List Tv))(y1:vW)(c:T2h)(a:Int):Tz:=
 if(decide (a<(List.length p1:Int)))=true then((idx p1 a).bind fun x1=>(if(x1.1==((dJ b y1.2.2.1).getD 0))=true then(some (x1.2.1.toList==c.2.2.2.2.2.1.toList)) else(some false):Tj).bind fun b=>if b=true then(some (.inr (.inr (a)))) else(some (.inl (IntKind.wrap .i64 (a+1))))) else(some (.inr (.inl ())))
def NB(N:Nat)(p0:bK)(p1:Tn):Option AP:=
 (iM (some []:Option (List Tv)) (⟨#[102,117,110,99]⟩:BA) 1).bind fun a=>(iM a (⟨#[116,101,115,116]⟩:BA) 2).bind fun a=>(iM a (⟨#[103,101,110]⟩:BA) 3).bind fun b=>(rJ N p0).bind fun y1=>(if(y1.2.1 !=1)=true then(some true) else(some (((dJ b y1.2.2.1).getD 0)==0)):Tj).bind fun a=>(if a=true then((nA N y1.2 9).bind fun a=>(match a with| .inl a=>some (.inr (.inl a))| .inr a=>some (.inl ()))) else(some (.inl ())):Option EI).bind fun a=>(match a with| .inl o2=>(if((List.length p1:Int)==64)=true then((nA N y1.2 2).bind fun a=>(match a with| .inl a=>some (.inr (.inl a))| .inr y5=>some (.inl ()))) else(some (.inl ())):Option EI).bind fun a=>(match a with| .inl a=>(if(((dJ b y1.2.2.1).getD 0)==3)=true then((BV N (y1.1.1,IntKind.wrap .i64 (y1.1.2.1+1),y1.1.2.2.1,y1.1.2.2.2)).bind fun a=>(match a with| .inl a=>some (.inr (.inl a))| .inr a=>some (.inl (a.1.1,a.1.2.1,a.1.2.2.1,a.1.2.2.2,a.2.1,a.2.2.1,a.2.2.2.1,a.2.2.2.2)))) else((BX N (y1.1.1,IntKind.wrap .i64 (y1.1.2.1+1),y1.1.2.2.1,y1.1.2.2.2)).bind fun a=>(match a with| .inl a=>some (.inr (.inl a))| .inr a=>some (.inl (a.1.1,a.1.2.1,a.1.2.2.1,a.1.2.2.2,a.2.1,a.2.2.1,a.2.2.2.1,a.2.2.2.2)))):Option (T2h⊕AP)).bind fun a=>(match a with| .inl a=>((aI (MU N p1 b y1 a) N 0).bind fun c=>(match c with| .inl c=>some (-1)| .inr (z)=>some z):Ta).bind fun c=>(if(decide (c>=0))=true then((nA N a.2.2.2.2 10).bind fun c=>(match c with| .inl c=>some (.inr (.inl c))| .inr c=>some (.inl ()))) else(some (.inl ())):Option EI).bind fun c=>(match c with| .inl c=>(if(((dJ b y1.2.2.1).getD 0)==1)=true then((MK N (a.1,a.2.1,a.2.2.1,a.2.2.2.1)).bind fun c=>(match c with| .inl c=>some (.inr (.inl c))| .inr c=>some (.inl (c.2,c.1.1,c.1.2.1,c.1.2.2.1,c.1.2.2.2)))) else(some (.inl (([]:Te),a.1,a.2.1,a.2.2.1,a.2.2.2.1))):Option (uG⊕AP)).bind fun c=>(match c with| .inl d=>(qK N d.2 (⟨#[61]⟩:BA)).bind fun c=>(match c with| .inl c=>some (.inl c)| .inr c=>(SV N (c.1,c.2.1,d.1,([]:Tg)) 1).bind fun c=>(match c with| .inl c=>some (.inl c)| .inr c=>(qK N c.1 (⟨#[59]⟩:BA)).bind fun e=>(match e with| .inl e=>some (.inl e)| .inr e=>some (.inr (e,(((dJ b y1.2.2.1).getD 0),a.2.2.2.2.2.1,d.1,c.1.2.2.2))))))| .inr z=>some z)| .inr z=>some z)| .inr z=>some z)| .inr z=>some z)| .inr z=>some z)
theorem qDc{p0:bK}{p1:Tn}{r:AP}(g:St m (kB bp0 (Ve p0 a1 c1 a2 c2 a3 c3) 115::kR a3 p0.2.2.2 c3 49 5::O) w)(r1:RepS C5 m a1 c1 p0.1)(r2:RepS aH m a2 c2 p0.2.2.1)(r3:RepS C2 m a3 c3 p0.2.2.2)(E:RepS C3 m a4 c4 p1)(i:NB N p0 p1=some r):Calls prog 102 #[vP bp0 0,vS a4 p1 c4] w fun e w'=>(∃(z0:Ts),∃m',r= .inl z0/\e= .panicked [{v:= .iface 111 (.agg (Vf z0)),recovered:=false}]/\m.le m'/\St m' (O) w')\/(∃(y0:bK×Tm),r= .inr y0/\∃g5 g8 g6 g9 e7 e9 e8 f0 g7 h0 m',e= .returned (.agg (V6 y0.2 e8 f0 g7 h0))/\m.le m'/\St m' (kR e8 y0.2.2.2.1 f0 9 1::kB bp0 (Ve y0.1 g5 g8 g6 g9 e7 e9) 115::kR e7 y0.1.2.2.2 e9 49 5::O) w'/\RepS C5 m' g5 g8 y0.1.1/\RepS aH m' g6 g9 y0.1.2.2.1/\RepS C2 m' e7 e9 y0.1.2.2.2/\RepS aH m' e8 f0 y0.2.2.2.1/\RepS C2 m' g7 h0 y0.2.2.2.2):=by
 unfold NB at i;have q:=m.le_refl;refine bI func102 rfl ntmps102 ?_;refine aC (cY 4 38 (.agg #[vI 0,vT eB,v8,v8]) g fun Y w1 g=>(aQ (aC (bB rfl (GQ (d:=9) (t:=144) kr rfl g fun D w2 g=> ?_)))));have⟨q6,d1,i⟩:=aW i;refine bB rfl (nB (ek:=(fun s:BA=>Value.string s)) (c:=(aV .i64)) (agg:=false) (k:=bu) (yv:=1) (cs:=[vI 1]) (z:=(vI 0)) (v:=(vI 1)) (kt:=9) (et:=3) (t:=144) (x:=(.tmp 9)) (y:=(.const (vT bu))) (u:=(.const (vI 1))) kr (ev (.map (some D))) (ev (vT bu)) (ev (vI 1)) kr (LT kr) g (MapQ.new (fun s:BA=>Value.string s) (aV .i64) false _ _) rfl rfl d1 fun q2 o0 w3 g r5=> ?_);have⟨q7,d2,i⟩:=aW i;refine bB rfl (nB (ek:=(fun s:BA=>Value.string s)) (c:=(aV .i64)) (agg:=false) (k:=bv) (yv:=2) (cs:=[vI 2]) (z:=(vI 0)) (v:=(vI 2)) (kt:=9) (et:=3) (t:=144) (x:=(.tmp 9)) (y:=(.const (vT bv))) (u:=(.const (vI 2))) kr (ev (.map (some D))) (ev (vT bv)) (ev (vI 2)) kr (LT kr) g r5 rfl rfl d2 fun q3 q0 w4 g r6=> ?_);have⟨b,d3,i⟩:=aW i
 refine bB rfl (nB (ek:=(fun s:BA=>Value.string s)) (c:=(aV .i64)) (agg:=false) (k:=bw) (yv:=3) (cs:=[vI 3]) (z:=(vI 0)) (v:=(vI 3)) (kt:=9) (et:=3) (t:=144) (x:=(.tmp 9)) (y:=(.const (vT bw))) (u:=(.const (vI 3))) kr (ev (.map (some D))) (ev (vT bw)) (ev (vI 3)) kr (LT kr) g r6 rfl rfl d3 fun B p w5 g l=>(aG 2 [(5,.map (some D))] (aC (aA 1 [(11,vP bp0 0)] (aL 12 i (sS (p0:=p0) g.f3.f3 r1 r2 r3) ?_)))));rintro y1 i _ w6 ⟨a5,c5,a6,c6,a7,c7,m1,rfl,b9,g,r8,r9,V⟩;have l:=l.mono b9;refine cY 6 104 (.agg (Vb 0 eB 0 0)) g fun M w7 g=> ?_;refine cD (.agg (Va y1.2)) g fun w8 g=> ?_;refine aQ (aC (aA 2 [(13,.map (some D)),(14,vP M 1)] (bO 15 (vT y1.2.2.1) g.h (bB rfl (yU (ek:=(fun s:BA=>Value.string s)) (c:=(aV .i64)) (agg:=false) (k:=y1.2.2.1) (zx:=0) (zcs:=[vI 0]) (z:=(vI 0)) (kt:=9) (et:=3) (d:=16) (t:=144) (x:=(.tmp 13)) (y:=(.tmp 15)) (ok:=false) kr rfl (ev (.map (some D))) (ev (vT y1.2.2.1)) kr (LT kr) g.t.t.t.h l rfl rfl ?_)))));rintro q1 rfl;refine cY 7 3 (vI 0) g fun R w9 g=> ?_;refine cD (vI ((dJ b y1.2.2.1).getD 0)) g fun r0 g=> ?_;refine aQ (aE (aC ?_));have⟨o1,i,J⟩:=aW i
 refine sH (j:=7) (fun L' w'=>∃m2,L'=[(0,vP bp0 0),(1,vS a4 p1 c4),(4,vP Y 0),(6,vP M 0),(7,vP R 0),(23,vB o1)]/\m.le m2/\St m2 (kB R #[vI ((dJ b y1.2.2.1).getD 0)] 3::kB M (Va y1.2) 104::kB bp0 (Ve y1.1 a5 c5 a6 c6 a7 c7) 115::kB Y #[vI 0,vT eB,va,v6] 38::dT (some D) B p::kR a7 y1.1.2.2.2 c7 49 5::O) w'/\RepS C3 m2 a4 c4 p1/\RepS C5 m2 a5 c5 y1.1.1/\RepS aH m2 a6 c6 y1.1.2.2.1/\RepS C2 m2 a7 c7 y1.1.2.2.2/\MapQ (fun s:BA=>Value.string s) (aV .i64) false m2 (some D) B p b) ?_ ?_
 .have i:=J;rintro _ s0 ⟨m2,rfl,q,g,E,r8,r9,V,l⟩;refine aQ ?_;have⟨k5,i,j1⟩:=aW i;refine cR .normal (fun L' w'=>∃(o2:Unit),∃m3,(.inl o2:EI)=k5/\L'=[(0,vP bp0 0),(1,vS a4 p1 c4),(4,vP Y 0),(6,vP M 0),(7,vP R 0)]/\m.le m3/\St m3 (kB R #[vI ((dJ b y1.2.2.1).getD 0)] 3::kB M (Va y1.2) 104::kB bp0 (Ve y1.1 a5 c5 a6 c6 a7 c7) 115::kB Y #[vI 0,vT eB,va,v6] 38::dT (some D) B p::kR a7 y1.1.2.2.2 c7 49 5::O) w'/\RepS C3 m3 a4 c4 p1/\RepS C5 m3 a5 c5 y1.1.1/\RepS aH m3 a6 c6 y1.1.2.2.1/\RepS C2 m3 a7 c7 y1.1.2.2.2/\MapQ (fun s:BA=>Value.string s) (aV .i64) false m3 (some D) B p b) ?_ ?_
  .rintro _ s2 ⟨o2,m3,rfl,rfl,q,g,E,r8,r9,V,l⟩;have i:=j1;refine aD (aE (aB 3 [(28,vB ((p1.length:Int)==64))] ?_));have⟨k6,i,j2⟩:=aW i;refine cR .normal (fun L' w'=>∃(o3:Unit),∃m6,(.inl o3:EI)=k6/\L'=[(0,vP bp0 0),(1,vS a4 p1 c4),(4,vP Y 0),(6,vP M 0),(7,vP R 0)]/\m.le m6/\St m6 (kB R #[vI ((dJ b y1.2.2.1).getD 0)] 3::kB M (Va y1.2) 104::kB bp0 (Ve y1.1 a5 c5 a6 c6 a7 c7) 115::kB Y #[vI 0,vT eB,va,v6] 38::dT (some D) B p::kR a7 y1.1.2.2.2 c7 49 5::O) w'/\RepS C3 m6 a4 c4 p1/\RepS C5 m6 a5 c5 y1.1.1/\RepS aH m6 a6 c6 y1.1.2.2.1/\RepS C2 m6 a7 c7 y1.1.2.2.2/\MapQ (fun s:BA=>Value.string s) (aV .i64) false m6 (some D) B p b) ?_ ?_
   .rintro _ s3 ⟨o3,m6,rfl,rfl,q,g,E,r8,r9,V,l⟩;have i:=j2;refine aD (aU 3 [(31,vP bp0 0),(33,vP bp0 1)] (bO 34 (vI y1.1.2.1) g.t.t.h (aA 3 [(35,vI (wr (y1.1.2.1+1))),(37,vP bp0 1)] (cU #[vS a5 y1.1.1 c5,vI (wr (y1.1.2.1+1)),vS a6 y1.1.2.2.1 c6,vS a7 y1.1.2.2.2 c7] g.f2 fun s4 g=>(aQ (aE (aC (bO 38 (vI ((dJ b y1.2.2.1).getD 0)) g.t.h (aG 1 [(39,vB (((dJ b y1.2.2.1).getD 0)==3))] ?_)))))))));have⟨k7,i,j3⟩:=aW i;refine cR .normal (fun L' w'=>∃(a:T2h),∃Z c8 a9 c9 n o m9,(.inl a:T2h⊕AP)=k7/\L'=[(0,vP bp0 0),(1,vS a4 p1 c4),(4,vP Y 0),(6,vP M 0),(7,vP R 0)]/\m.le m9/\St m9 (kB bp0 #[vS Z a.1 c8,vI a.2.1,vS a9 a.2.2.1 c9,vS n a.2.2.2.1 o] 115::kB R #[vI ((dJ b y1.2.2.1).getD 0)] 3::kB M (Va a.2.2.2.2) 104::kB Y #[vI 0,vT eB,va,v6] 38::dT (some D) B p::kR n a.2.2.2.1 o 49 5::O) w'/\RepS C3 m9 a4 c4 p1/\RepS C5 m9 Z c8 a.1/\RepS aH m9 a9 c9 a.2.2.1/\RepS C2 m9 n o a.2.2.2.1/\MapQ (fun s:BA=>Value.string s) (aV .i64) false m9 (some D) B p b) ?_ ?_
    .rintro _ s5 ⟨a,Z,c8,a9,c9,n,o,m9,rfl,rfl,q,g,E,F,G,H,l⟩;have i:=j3;refine aD (aE (aU 2 [(44,vS a4 p1 c4),(45,.func (.func 115) #[] #[vP R 0,vP M 0])] (bB rfl (eJ 46 114 #[vS a4 p1 c4,.func (.func 115) #[] #[vP R 0,vP M 0]] kr rfl (bI func114 rfl ntmps114 (aB 1 [] (aC (aA 2 [(5,vS a4 p1 c4),(6,.func (.func 115) #[] #[vP R 0,vP M 0])] ?_))))))));have⟨o5,i,j4⟩:=aW i;refine bB rfl (eJ 7 123 #[vS a4 p1 c4,.func (.func 115) #[] #[vP R 0,vP M 0]] kr rfl (OZ (fun v' w'=>∃a0,v'=(vI o5)/\m.le a0/\St a0 (kB bp0 #[vS Z a.1 c8,vI a.2.1,vS a9 a.2.2.1 c9,vS n a.2.2.2.1 o] 115::kB R #[vI ((dJ b y1.2.2.1).getD 0)] 3::kB M (Va a.2.2.2.2) 104::kB Y #[vI 0,vT eB,va,v6] 38::dT (some D) B p::kR n a.2.2.2.1 o 49 5::O) w'/\RepS C3 a0 a4 c4 p1/\RepS C5 a0 Z c8 a.1/\RepS aH a0 a9 c9 a.2.2.1/\RepS C2 a0 n o a.2.2.2.1/\MapQ (fun s:BA=>Value.string s) (aV .i64) false a0 (some D) B p b) ?_ ?_))
     .have i:=j4;rintro _ s6 ⟨a0,rfl,q,g,E,F,G,H,l⟩;refine⟨_,rfl,?_⟩;refine aG 2 [(4,vB (decide (o5>=0)))] (aM (aR [4] [vB (decide (o5>=0))] (⟨_,rfl,?_⟩)));refine aQ ?_;have⟨k8,i,j7⟩:=aW i;refine cR .normal (fun L' w'=>∃(o8:Unit),∃b0,(.inl o8:EI)=k8/\L'=[(0,vP bp0 0),(4,vP Y 0),(6,vP M 0),(7,vP R 0)]/\m.le b0/\St b0 (kB bp0 #[vS Z a.1 c8,vI a.2.1,vS a9 a.2.2.1 c9,vS n a.2.2.2.1 o] 115::kB R #[vI ((dJ b y1.2.2.1).getD 0)] 3::kB M (Va a.2.2.2.2) 104::kB Y #[vI 0,vT eB,va,v6] 38::dT (some D) B p::kR n a.2.2.2.1 o 49 5::O) w'/\RepS C5 b0 Z c8 a.1/\RepS aH b0 a9 c9 a.2.2.1/\RepS C2 b0 n o a.2.2.2.1/\MapQ (fun s:BA=>Value.string s) (aV .i64) false b0 (some D) B p b) ?_ ?_
      .rintro _ s7 ⟨o8,b0,rfl,rfl,q,g,F,G,H,l⟩;have i:=j7;refine aD (aC (bO 49 (vI ((dJ b y1.2.2.1).getD 0)) g.t.h (bH 1 51 9 50 1 (vT a.2.2.2.2.2.1) g.t.t.h (aA 1 [(52,.agg #[vI ((dJ b y1.2.2.1).getD 0),vT a.2.2.2.2.2.1,va,v6])] (cY 8 38 (.agg #[vI 0,vT eB,v8,v8]) g fun b7 s8 g=>(cD (.agg #[vI ((dJ b y1.2.2.1).getD 0),vT a.2.2.2.2.2.1,va,v6]) g fun s9 g=>(aQ (aE (aC (bO 53 (vI ((dJ b y1.2.2.1).getD 0)) g.t.t.h (aG 1 [(54,vB (((dJ b y1.2.2.1).getD 0)==1))] ?_)))))))))));have⟨k9,i,j8⟩:=aW i;refine cR .normal (fun L' w'=>∃(f:uG),∃S U e2 e5 e4 e6 e0 e1 b8,(.inl f:uG⊕AP)=k9/\L'=[(0,vP bp0 0),(4,vP Y 0),(8,vP b7 0)]/\m.le b8/\St b8 (kB b7 #[vI ((dJ b y1.2.2.1).getD 0),vT a.2.2.2.2.2.1,vS S f.1 U,v6] 38::kB bp0 (Ve f.2 e2 e5 e4 e6 e0 e1) 115::kB R #[vI ((dJ b y1.2.2.1).getD 0)] 3::kB M (Va a.2.2.2.2) 104::kB Y #[vI 0,vT eB,va,v6] 38::dT (some D) B p::kR S f.1 U 9 1::kR e0 f.2.2.2.2 e1 49 5::O) w'/\RepS aH b8 S U f.1/\RepS C5 b8 e2 e5 f.2.1/\RepS aH b8 e4 e6 f.2.2.2.1/\RepS C2 b8 e0 e1 f.2.2.2.2/\MapQ (fun s:BA=>Value.string s) (aV .i64) false b8 (some D) B p b) ?_ ?_
       .rintro _ t0 ⟨f,S,U,e2,e5,e4,e6,e0,e1,b8,rfl,rfl,q,g,g3,l0,l1,l2,l⟩;have i:=j8;refine aD (aU 1 [(58,vP bp0 0)] (dL 59 i (sA (p0:=f.2) g.f7.f2 l0 l1 l2) ?_));rintro u0 i _ t3 (⟨z7,h9,rfl,rfl,f8,g⟩|⟨d0,rfl,g1,g2,l9,n5,h1,h5,q4,rfl,d4,g,l3,q8,q9⟩)
        .refine bY ?_;obtain rfl:=sI i;have g:=g.t.t.t.t.t.t;exact cW (.inl ⟨z7,h9,rfl,rfl,q.t f8,g⟩)
        have q:=q.t d4;refine aQ (aC (aA 3 [(60,vP bp0 0),(61,vP bp0 0),(62,vP b7 2)] (bO 63 (vS S f.1 U) g.t.t.h (aA 2 [(65,vP bp0 2)] (cU #[vS g1 d0.1 g2,vI d0.2.1,vS S f.1 U,vS h1 d0.2.2.2 h5] g fun t4 g=>(aA 2 [(67,vP bp0 3)] (cU #[vS g1 d0.1 g2,vI d0.2.1,vS S f.1 U,v6] g fun t5 g=>(aS rfl ?_))))))));have g:=g.f1.t;refine aD (aU 1 [(68,vP bp0 0)] ?_);have g:=(g.nilroom 49 5).front1;refine dL 69 i (qDd (p0:=(d0.1,d0.2.1,f.1,([]:Tg))) g l3 (g3.mono d4) (RepS.nil _ _)) ?_;rintro u1 i _ t6 (⟨z8,k0,rfl,rfl,f9,g⟩|⟨d9,rfl,n0,n6,n4,n9,d7,d8,q5,rfl,d5,g,l4,l5,g4⟩)
        .refine bY ?_;obtain rfl:=sI i;have g:=g.t.t.t.t.t.t;exact cW (.inl ⟨z8,k0,rfl,rfl,q.t f9,g⟩)
        refine aQ (aC (bH 3 73 36 72 3 (vS d7 d9.1.2.2.2 d8) g.h (aA 1 [(74,vP b7 3)] (cU #[vI ((dJ b y1.2.2.1).getD 0),vT a.2.2.2.2.2.1,vS S f.1 U,vS d7 d9.1.2.2.2 d8] g.f2 fun t7 g=>(aQ (aC (aA 1 [(75,vP bp0 0)] (dL 76 i (sA (p0:=d9.1) g.f2.f2 l4 l5 g4) ?_))))))));rintro u2 i _ t8 (⟨z9,k4,rfl,rfl,g0,g⟩|⟨u3,rfl,h2,h6,h3,h7,h4,h8,k2,rfl,d6,g,l6,l7,l8⟩)
        .refine bY ?_;obtain rfl:=sI i;have g:=g.t.t.t.t.t.t;exact cW (.inl ⟨z9,k4,rfl,rfl,(q.t d5).t g0,g⟩)
        refine aQ (aC (bO 77 (.agg #[vI ((dJ b y1.2.2.1).getD 0),vT a.2.2.2.2.2.1,vS S f.1 U,vS d7 d9.1.2.2.2 d8]) g.t.t.h (cD (.agg #[vI ((dJ b y1.2.2.1).getD 0),vT a.2.2.2.2.2.1,vS S f.1 U,vS d7 d9.1.2.2.2 d8]) g.f5 fun t9 g=>(aQ (aM ?_)))));obtain rfl:=sI i;refine iW 4 38 [] [] g.h ?_;exact .inr ⟨_,rfl,h2,h6,h3,h7,h4,h8,S,U,d7,d8,k2,rfl,(q.t d5).t d6,g.t.f2.t.f2.t.f2.t.f2.t.f1.f1.f2,l6,l7,l8,((g3.mono d4).mono d5).mono d6,g4.mono d6⟩
       intro d6;refine aF i ?_ ?_
       .intro A i;refine aX (aA 1 [(55,vP bp0 0)] (dL 56 i (qCa (p0:=(a.1,a.2.1,a.2.2.1,a.2.2.2.1)) g.f6.f2 F G H) ?_));rintro h7 i _ h5 (⟨z6,g4,rfl,rfl,d5,g⟩|⟨d0,rfl,d9,g0,f8,g1,f9,g2,d7,d8,g3,rfl,d4,g,h1,h2,h3,h4⟩)
        .obtain rfl:=sI i;have i:=j8;refine bY ?_;obtain rfl:=sI i;have g:=g.t.t.t.t.t;exact cW (.inl ⟨z6,g4,rfl,rfl,q.t d5,g⟩)
        refine aA 1 [(57,vP b7 2)] (cU #[vI ((dJ b y1.2.2.1).getD 0),vT a.2.2.2.2.2.1,vS d7 d0.2 d8,v6] g.f3 fun h6 g=>(aS rfl ?_));have n8:=jG i;exact xE (d6 _ _ ⟨(d0.2,d0.1.1,d0.1.2.1,d0.1.2.2.1,d0.1.2.2.2),d7,d8,d9,g0,f8,g1,f9,g2,g3,n8,rfl,q.t d4,g.f3.f2.f7.f7.f7.f7.f7.f7,h4,h1,h2,h3,l.mono d4⟩)
       intro A i;refine aN ?_;have n8:=jG i;have g:=(g.nilroom 9 1).front7.front1.front7.front7.front7.front7.front7.front7;exact xE (d6 _ _ ⟨(([]:Te),a.1,a.2.1,a.2.2.1,a.2.2.2.1),none,0,Z,c8,a9,c9,n,o,b0,n8,rfl,q,g,(RepS.nil _ _),F,G,H,l⟩)
      intro U;refine aF i ?_ ?_
      .intro A i;refine aX (bO 47 (.agg (Va a.2.2.2.2)) g.t.t.h (dL 48 i (oA (p0:=a.2.2.2.2) g) ?_));rintro d5 i _ d4 (⟨z5,d0,rfl,rfl,S,g⟩|⟨d6,rfl,b8,rfl,f,g⟩)
       .obtain rfl:=sI i;have i:=j7;refine bY ?_;obtain rfl:=sI i;have g:=g.t.t.t.t.t.t;exact cW (.inl ⟨z5,d0,rfl,rfl,q.t S,g⟩)
       refine aS rfl ?_;have n7:=jG i;exact xE (U _ _ ⟨(),b8,n7,rfl,q.t f,g.f5.f5.f5.f5.f5.f5,F.mono f,G.mono f,H.mono f,l.mono f⟩)
      intro A i;refine aN ?_;have n7:=jG i;exact xE (U _ _ ⟨(),a0,n7,rfl,q,g.f5.f5.f5.f5.f5.f5,F,G,H,l⟩)
     refine bI func123 rfl ntmps123 ?_;refine aB 1 [] (aE ?_);refine aB 3 [(7,vI (p1.length:Int)),(8,vI 0)] (aZ ?_);have⟨d8,i,j5⟩:=aW i;refine cR (.exit 0) (fun L' w'=>∃(o6:Unit),∃U,(.inl o6)=d8/\L'=[]/\m.le U/\St U (kB bp0 #[vS Z a.1 c8,vI a.2.1,vS a9 a.2.2.1 c9,vS n a.2.2.2.1 o] 115::kB R #[vI ((dJ b y1.2.2.1).getD 0)] 3::kB M (Va a.2.2.2.2) 104::kB Y #[vI 0,vT eB,va,v6] 38::dT (some D) B p::kR n a.2.2.2.1 o 49 5::O) w'/\RepS C3 U a4 c4 p1/\RepS C5 U Z c8 a.1/\RepS aH U a9 c9 a.2.2.1/\RepS C2 U n o a.2.2.2.1/\MapQ (fun s:BA=>Value.string s) (aV .i64) false U (some D) B p b) ?_ ?_
     .rintro _ f ⟨o6,U,rfl,rfl,q,g,E,F,G,H,l⟩;have i:=j5;refine cM (aD (aB 1 [(4,vI (-1))] (aM ?_)));cases i;exact aR [4] [vI (-1)] ⟨_,rfl,⟨U,rfl,q,g.f5.f5.f5.f5.f5.f5,E,F,G,H,l⟩⟩
     intro e1;refine cK _ kr (cJ (fun k1 L' w'=>∃(s1:Int),∃b0,aI (MU N p1 b y1 a) k1 s1=some d8/\L'=[(0,vS a4 p1 c4),(1,.func (.func 115) #[] #[vP R 0,vP M 0]),(7,vI (p1.length:Int)),(8,vI s1)]/\m.le b0/\St b0 (kB bp0 #[vS Z a.1 c8,vI a.2.1,vS a9 a.2.2.1 c9,vS n a.2.2.2.1 o] 115::kB R #[vI ((dJ b y1.2.2.1).getD 0)] 3::kB M (Va a.2.2.2.2) 104::kB Y #[vI 0,vT eB,va,v6] 38::dT (some D) B p::kR n a.2.2.2.1 o 49 5::O) w'/\RepS C3 b0 a4 c4 p1/\RepS C5 b0 Z c8 a.1/\RepS aH b0 a9 c9 a.2.2.1/\RepS C2 b0 n o a.2.2.2.1/\MapQ (fun s:BA=>Value.string s) (aV .i64) false b0 (some D) B p b) N ⟨0,m9,i,rfl,q,g.f5.f5.f5.f5.f5.f5,E,F,G,H,l⟩ ?_);rintro k1 _ f9 ⟨s1,b0,hL,rfl,q,g,E,F,G,H,l⟩;rcases k1 with _|k1
     .exact cN hL
     obtain⟨f8,i,e5,d7⟩:=cO hL;clear hL;unfold MU at i;refine aB 1 [(9,vB (decide (s1<(p1.length:Int))))] (aE ?_);refine aF i ?_ ?_
     .intro A i;refine aN (aD (aE (aZ (aB 2 [(5,vI s1)] (aC (aA 3 [(11,.func (.func 115) #[] #[vP R 0,vP M 0]),(12,vS a4 p1 c4),(13,vI s1)] (dQ 14 E i ?_)))))));rintro x1 i b5 f1 e6 ⟨_,_,rfl,rfl,⟨_,_,rfl,rfl,⟨_,_,rfl,⟨b8,d4,rfl,d9⟩,⟨d0,d5,rfl,e0⟩⟩⟩⟩ d6;refine dY 15 38 14 f1 (.agg (V6 x1 b8 d4 d0 d5)) g d6 (bB rfl (eJ 16 115 #[.agg (V6 x1 b8 d4 d0 d5),vP R 0,vP M 0] kr rfl (bI func115 rfl ntmps115 (aC (iF 3 38 (.agg (V6 x1 b8 d4 d0 d5)) g fun b6 e4 g0 f g e2=> ?_)))));have E:=E.mono f;have l:=l.mono f;refine aG 1 [] (aC (dK 12 i (fun o7 L' w'=>∃S,L'=[(4,vB o7)]/\m.le S/\St S (kB bp0 #[vS Z a.1 c8,vI a.2.1,vS a9 a.2.2.1 c9,vS n a.2.2.2.1 o] 115::kB R #[vI ((dJ b y1.2.2.1).getD 0)] 3::kB M (Va a.2.2.2.2) 104::kB Y #[vI 0,vT eB,va,v6] 38::dT (some D) B p::kR n a.2.2.2.1 o 49 5::O) w'/\RepS C3 S a4 c4 p1/\MRow S b5 f1 (V7 x1 b8 d4 d0 d5)/\RepS aH S b8 d4 x1.2.2.1/\RepS C2 S d0 d5 x1.2.2.2/\RepS C5 S Z c8 a.1/\RepS aH S a9 c9 a.2.2.1/\RepS C2 S n o a.2.2.2.1/\MapQ (fun s:BA=>Value.string s) (aV .i64) false S (some D) B p b) ?_ ?_))
      .rintro o7 i _ g1 ⟨S,rfl,q,g,E,d6,d9,e0,F,G,H,l⟩;refine aQ (aM (aR [4] [vB o7] (⟨_,rfl,?_⟩)));refine aQ (aF i ?_ ?_)
       .intro A i;refine aB 2 [(4,vI s1)] (aM ?_);refine bA (aK ?_);have ho:=d7 _ (sI i);subst ho;have i:=j5;refine aK (bA (aK ?_));obtain rfl:=sI i;exact aR [4] [vI s1] ⟨_,rfl,⟨S,rfl,q,g.f5.f5.f5.f5.f5.f5,E,F,G,H,l⟩⟩
       intro A i;refine aN (bG (aD (aX (aA 2 [(8,vI (wr (s1+1)))] (aS rfl ?_)))));have hL:=e5 _ (sI i);exact xE (cF ⟨wr (s1+1),S,hL,rfl,q,g.f5.f5.f5.f5.f5.f5,E,F,G,H,l⟩)
      intro o7 i K;refine aA 1 [(5,vP b6 0)] (bE 6 (vI x1.1) g e2 (bO 7 (vI ((dJ b y1.2.2.1).getD 0)) g.t.h (aA 2 [(9,vB (x1.1==((dJ b y1.2.2.1).getD 0)))] (bD 9 i ?_ ?_))))
      .intro A i;refine aA 1 [(10,vP b6 1)] (bE 11 (vT x1.2.1) g (e2.drop 1) (bH 1 13 9 12 1 (vT a.2.2.2.2.2.1) g.t.t.h (aA 3 [(4,vB (x1.2.1.toList==a.2.2.2.2.2.1.toList))] ?_)));cases i;exact aT _ kr (K _ _ ⟨e4,rfl,q.t f,g.f5.f5.f5.f5.f5.f5,E,d6.mono f,d9.mono f,e0.mono f,F.mono f,G.mono f,H.mono f,l⟩)
      intro A i;refine aA 7 [(4,vB false)] ?_;cases i;exact aT _ kr (K _ _ ⟨e4,rfl,q.t f,g.f5.f5.f5.f5.f5.f5,E,d6.mono f,d9.mono f,e0.mono f,F.mono f,G.mono f,H.mono f,l⟩)
     intro A i;refine cG (bF ?_);have ho:=d7 _ (sI i);have g:=g.f5.f5.f5.f5.f5.f5;refine bF ?_;exact xE (e1 _ _ ⟨(),b0,ho,rfl,q,g,E,F,G,H,l⟩)
    intro G;refine aF i ?_ ?_
    .intro A i;refine aX (aA 1 [(40,vP bp0 0)] (dL 41 i (JQ (p0:=(y1.1.1,wr (y1.1.2.1+1),y1.1.2.2.1,y1.1.2.2.2)) g.f5.f1 r8 r9 V) ?_));rintro y6 i _ e0 (⟨z3,d6,rfl,rfl,H,g⟩|⟨f,rfl,U,b8,a0,d0,b0,d4,d5,rfl,F,g,d7,d8,d9⟩)
     .obtain rfl:=sI i;have i:=j3;refine bY ?_;obtain rfl:=sI i;have g:=g.t.t.t.t;exact cW (.inl ⟨z3,d6,rfl,rfl,q.t H,g⟩)
     refine cD (.agg (Va f.2)) g.f3 fun e1 g=> ?_;refine aS rfl ?_;have S:=jG i;exact xE (G _ _ ⟨(f.1.1,f.1.2.1,f.1.2.2.1,f.1.2.2.2,f.2.1,f.2.2.1,f.2.2.2.1,f.2.2.2.2),U,b8,a0,d0,b0,d4,d5,S,rfl,q.t F,g.f2.f5.f5.f3.f5.f5,E.mono F,d7,d8,d9,l.mono F⟩)
    intro A i;refine aX (aA 1 [(42,vP bp0 0)] (dL 43 i (JO (p0:=(y1.1.1,wr (y1.1.2.1+1),y1.1.2.2.1,y1.1.2.2.2)) g.f5.f1 r8 r9 V) ?_));rintro y8 i _ e0 (⟨z4,d6,rfl,rfl,H,g⟩|⟨f,rfl,U,b8,a0,d0,b0,d4,d5,rfl,F,g,d7,d8,d9⟩)
    .obtain rfl:=sI i;have i:=j3;refine bY ?_;obtain rfl:=sI i;have g:=g.t.t.t.t;exact cW (.inl ⟨z4,d6,rfl,rfl,q.t H,g⟩)
    refine cD (.agg (Va f.2)) g.f3 fun e1 g=> ?_;refine aS rfl ?_;have S:=jG i;exact xE (G _ _ ⟨(f.1.1,f.1.2.1,f.1.2.2.1,f.1.2.2.2,f.2.1,f.2.2.1,f.2.2.2.1,f.2.2.2.2),U,b8,a0,d0,b0,d4,d5,S,rfl,q.t F,g.f2.f5.f5.f3.f5.f5,E.mono F,d7,d8,d9,l.mono F⟩)
   intro f;refine aF i ?_ ?_
   .intro A i;refine aX (bO 29 (.agg (Va y1.2)) g.t.h (dL 30 i (oA (p0:=y1.2) g) ?_));rintro U i _ S (⟨H,G,rfl,rfl,n,g⟩|⟨y5,rfl,F,rfl,a,g⟩)
    .obtain rfl:=sI i;have i:=j2;refine bY ?_;obtain rfl:=sI i;have g:=g.t.t.t.t.t.t;exact cW (.inl ⟨H,G,rfl,rfl,q.t n,g⟩)
    refine aS rfl ?_;have o:=jG i;exact xE (f _ _ ⟨(),F,o,rfl,q.t a,g.f5.f5.f5.f5.f5.f5,E.mono a,r8.mono a,r9.mono a,V.mono a,l.mono a⟩)
   intro A i;refine aN ?_;have o:=jG i;exact xE (f _ _ ⟨(),m3,o,rfl,q,g.f5.f5.f5.f5.f5.f5,E,r8,r9,V,l⟩)
  intro f;refine aF i ?_ ?_
  .intro A i;refine aX (bO 24 (.agg (Va y1.2)) g.t.h (dL 25 i (oA (p0:=y1.2) g) ?_));rintro U i _ S (⟨H,G,rfl,rfl,n,g⟩|⟨Z,rfl,F,rfl,a,g⟩)
   .obtain rfl:=sI i;have i:=j1;refine bY ?_;obtain rfl:=sI i;have g:=g.t.t.t.t.t.t;exact cW (.inl ⟨H,G,rfl,rfl,q.t n,g⟩)
   refine aS rfl ?_;have o:=jG i;exact xE (f _ _ ⟨(),F,o,rfl,q.t a,g.f5.f5.f5.f5.f5.f5,E.mono a,r8.mono a,r9.mono a,V.mono a,l.mono a⟩)
  intro A i;refine aN ?_;have o:=jG i;exact xE (f _ _ ⟨(),m2,o,rfl,q,g.f5.f5.f5.f5.f5.f5,E,r8,r9,V,l⟩)
 intro K;refine bH 1 18 3 17 0 (vI y1.2.1) g.t.h (aA 2 [(20,vB (y1.2.1 !=1))] (bD 20 i ?_ ?_))
 .intro A i;refine aA 3 [(23,vB true)] ?_;cases i;exact aT _ kr (K _ _ ⟨m1,rfl,q.t b9,g.f3.f4.f5.f5.f5.f5,E.mono b9,r8,r9,V,l⟩)
 intro A i;refine bO 21 (vI ((dJ b y1.2.2.1).getD 0)) g.h ?_;refine aA 2 [(23,vB (((dJ b y1.2.2.1).getD 0)==0))] ?_;cases i;exact aT _ kr (K _ _ ⟨m1,rfl,q.t b9,g.f3.f4.f5.f5.f5.f5,E.mono b9,r8,r9,V,l⟩)
def MT(N:Nat)(d:vW)(a:JA):Option IX:=
 (wK N (a.1,a.2.1,a.2.2.1,a.2.2.2.1) 1 (⟨#[105,109,112,111,114,116]⟩:BA)).bind fun c=>if c.2=true then((if((List.length a.2.2.2.2:Int)==8)=true then((rJ N c.1).bind fun b=>(nA N b.2 2).bind fun e=>(match e with| .inl e=>some (.inr (.inr (.inr (.inl e))))| .inr e=>some (.inl b.1))) else(some (.inl c.1)):Option (bK⊕IX)).bind fun b=>(match b with| .inl o2=>(BX N (o2.1,IntKind.wrap .i64 (o2.2.1+1),o2.2.2.1,o2.2.2.2)).bind fun b=>(match b with| .inl b=>some (.inr (.inr (.inl b)))| .inr b=>(if(b.2.2.1.toList==d.2.2.1.toList)=true then(some true) else((vY N a.2.2.2.2 b.2.2.1).bind fun d=>some d):Tj).bind fun d=>(if d=true then((nA N b.2 10).bind fun d=>(match d with| .inl d=>some (.inr (.inr (.inr (.inl d))))| .inr d=>some (.inl ()))) else(some (.inl ())):Option (Unit⊕IX)).bind fun d=>(match d with| .inl d=>(cP 16 a.2.2.2.2 ([b.2.2.1])).bind fun d=>(qK N b.1 (⟨#[59]⟩:BA)).bind fun b=>(match b with| .inl b=>some (.inr (.inr (.inl b)))| .inr b=>some (.inl (b.1,b.2.1,b.2.2.1,b.2.2.2,d)))| .inr z=>some z))| .inr z=>some z)) else(some (.inr (.inl (c.1.1,c.1.2.1,c.1.2.2.1,c.1.2.2.2,a.2.2.2.2))))
def MW(N:Nat)(c:IU):Option (IU⊕IU⊕T2l):=
 (rJ N (c.1,c.2.1,c.2.2.1,c.2.2.2.1)).bind fun a=>if(a.2.1 !=5)=true then((NB N a.1 c.2.2.2.2).bind fun b=>(match b with| .inl b=>some (.inr (.inr (.inl b)))| .inr b=>(cP 72 c.2.2.2.2 ([b.2])).bind fun d=>some (.inl (b.1.1,b.1.2.1,b.1.2.2.1,b.1.2.2.2,d)))) else(some (.inr (.inl (a.1.1,a.1.2.1,a.1.2.2.1,a.1.2.2.2,c.2.2.2.2))))
def NA(N:Nat)(p0:bK):Option T2l:=
 (GB N p0 (⟨#[112,97,99,107,97,103,101]⟩:BA)).bind fun y1=>(match y1 with| .inl a=>some (.inl a)| .inr a=>(BX N a).bind fun a=>(match a with| .inl a=>some (.inl a)| .inr c=>(qK N c.1 (⟨#[59]⟩:BA)).bind fun y5=>(match y5 with| .inl a=>some (.inl a)| .inr a=>(aI (MT N c) N (a.1,a.2.1,a.2.2.1,a.2.2.2,([]:Te))).bind fun a=>(match a with| .inl a=>(aI (MW N) N (a.1,a.2.1,a.2.2.1,a.2.2.2.1,([]:Tn))).bind fun b=>(match b with| .inl b=>some (.inr ((b.1,b.2.1,b.2.2.1,b.2.2.2.1),(c.2.2.1,a.2.2.2.2,b.2.2.2.2)))| .inr (z)=>some z)| .inr (z)=>some z))))
theorem qCy{p0:bK}{r:T2l}(g:St m (kB bp0 (Ve p0 a1 c1 a2 c2 a3 c3) 115::kR a3 p0.2.2.2 c3 49 5::O) w)(r1:RepS C5 m a1 c1 p0.1)(r2:RepS aH m a2 c2 p0.2.2.1)(r3:RepS C2 m a3 c3 p0.2.2.2)(i:NA N p0=some r):Calls prog 72 #[vP bp0 0] w fun e w'=>(∃(z0:Ts),∃m',r= .inl z0/\e= .panicked [{v:= .iface 111 (.agg (Vf z0)),recovered:=false}]/\m.le m'/\St m' (O) w')\/(∃(M:bK×Tp),r= .inr M/\∃h6 h8 h7 h9 f9 g2 g0 g3 g1 g4 m',e= .returned (.agg (V2 M.2 g0 g3 g1 g4))/\m.le m'/\St m' (kR g0 M.2.2.1 g3 9 1::kR g1 M.2.2.2 g4 38 4::kB bp0 (Ve M.1 h6 h8 h7 h9 f9 g2) 115::kR f9 M.1.2.2.2 g2 49 5::O) w'/\RepS C5 m' h6 h8 M.1.1/\RepS aH m' h7 h9 M.1.2.2.1/\RepS C2 m' f9 g2 M.1.2.2.2/\RepS aH m' g0 g3 M.2.2.1/\RepS C3 m' g1 g4 M.2.2.2):=by
 unfold NA at i;have q:=m.le_refl;refine bI func72 rfl ntmps72 ?_;refine aC (cY 2 29 (.agg #[vT eB,v8,v8]) g fun x w1 g=>(aQ (aC (aA 1 [(5,vP bp0 0)] (dL 6 i (MV (p0:=p0) g.f2.f2 r1 r2 r3) ?_)))));rintro y1 i _ w2 (⟨z1,m2,rfl,rfl,k5,g⟩|⟨y2,rfl,a4,c4,a5,c5,a6,c6,m1,rfl,k4,g,r4,r5,r6⟩)
 .refine bY ?_;obtain rfl:=sI i;have g:=g.t;exact cW (.inl ⟨z1,m2,rfl,rfl,q.t k5,g⟩)
 have q:=q.t k4;refine aQ (aC (aA 1 [(7,vP bp0 0)] (dL 8 i (JO (p0:=y2) g.f1.f1 r4 r5 r6) ?_)));rintro y3 i _ w4 (⟨z2,m4,rfl,rfl,k6,g⟩|⟨s,rfl,a7,c7,a8,c8,a9,c9,m3,rfl,e6,g,r7,r8,r9⟩)
 .refine bY ?_;obtain rfl:=sI i;have g:=g.t;exact cW (.inl ⟨z2,m4,rfl,rfl,q.t k6,g⟩)
 refine aA 2 [(10,.agg #[vT s.2.2.1,va,vb])] (cY 3 29 (.agg #[vT eB,v8,v8]) g fun p w6 g=>(cD (.agg #[vT s.2.2.1,va,vb]) g fun w7 g=>(aQ (aC (aA 1 [(11,vP bp0 0)] (dL 12 i (sA (p0:=s.1) g.f2.f2 r7 r8 r9) ?_))))));rintro y5 i _ w8 (⟨z3,m6,rfl,rfl,k8,g⟩|⟨y6,rfl,k9,l7,l0,l8,l3,l9,m5,rfl,k7,g,o6,o7,o8⟩)
 .refine bY ?_;obtain rfl:=sI i;have g:=g.t.t;exact cW (.inl ⟨z3,m6,rfl,rfl,(q.t e6).t k8,g⟩)
 refine aQ (aE (aZ ?_));have⟨e8,i,j1⟩:=aW i;refine cR (.exit 0) (fun L' w'=>∃(c:JA),∃b6 d2 b7 d3 V Z n o m7,(.inl c)=e8/\L'=[(0,vP bp0 0),(2,vP x 0),(3,vP p 0)]/\m.le m7/\St m7 (kB bp0 #[vS b6 c.1 d2,vI c.2.1,vS b7 c.2.2.1 d3,vS V c.2.2.2.1 Z] 115::kB p #[vT s.2.2.1,vS n c.2.2.2.2 o,vb] 29::kB x #[vT eB,va,vb] 29::kR V c.2.2.2.1 Z 49 5::kR n c.2.2.2.2 o 9 1::O) w'/\RepS C5 m7 b6 d2 c.1/\RepS aH m7 b7 d3 c.2.2.1/\RepS C2 m7 V Z c.2.2.2.1/\RepS aH m7 n o c.2.2.2.2) ?_ ?_
 .rintro _ s0 ⟨c,b6,d2,b7,d3,V,Z,n,o,m7,rfl,rfl,q,g,n7,n8,n9,R⟩;have i:=j1;refine cM (aD (aE (aZ ?_)));have⟨e5,i,j5⟩:=aW i;refine cR (.exit 2) (fun L' w'=>∃(l:IU),∃b8 d1 b9 d4 U Y F G z,(.inl l)=e5/\L'=[(2,vP x 0),(3,vP p 0)]/\m.le z/\St z (kB bp0 #[vS b8 l.1 d1,vI l.2.1,vS b9 l.2.2.1 d4,vS U l.2.2.2.1 Y] 115::kB p #[vT s.2.2.1,vS n c.2.2.2.2 o,vS F l.2.2.2.2 G] 29::kB x #[vT eB,va,vb] 29::kR n c.2.2.2.2 o 9 1::kR U l.2.2.2.1 Y 49 5::kR F l.2.2.2.2 G 38 4::O) w'/\RepS C5 z b8 d1 l.1/\RepS aH z b9 d4 l.2.2.1/\RepS C2 z U Y l.2.2.2.1/\RepS aH z n o c.2.2.2.2/\RepS C3 z F G l.2.2.2.2) ?_ ?_
  .rintro _ u ⟨l,b8,d1,b9,d4,U,Y,F,G,z,rfl,rfl,q,g,a,b,f,R,k⟩;have i:=j5;refine cM (aD (aC (bO 67 (.agg #[vT s.2.2.1,vS n c.2.2.2.2 o,vS F l.2.2.2.2 G]) g.t.h (cD (.agg #[vT s.2.2.1,vS n c.2.2.2.2 o,vS F l.2.2.2.2 G]) g.f2 fun y g=>(aQ (aM ?_))))));cases i;refine iW 2 29 [] [] g.h ?_;exact .inr ⟨_,rfl,b8,d1,b9,d4,U,Y,n,o,F,G,z,rfl,q,g.t.f1.t.f2.f1.f3.f3,a,b,f,R,k⟩
  intro e7;have g:=(g.nilroom 38 4).front4.front5.front5.front5.front5;refine cK _ kr (cJ (fun k2 L' w'=>∃(b:IU),∃d7 e0 d8 e1 d0 d5 u y B,aI (MW N) k2 b=some e5/\L'=[(0,vP bp0 0),(2,vP x 0),(3,vP p 0)]/\m.le B/\St B (kB bp0 #[vS d7 b.1 e0,vI b.2.1,vS d8 b.2.2.1 e1,vS d0 b.2.2.2.1 d5] 115::kB p #[vT s.2.2.1,vS n c.2.2.2.2 o,vS u b.2.2.2.2 y] 29::kB x #[vT eB,va,vb] 29::kR n c.2.2.2.2 o 9 1::kR d0 b.2.2.2.1 d5 49 5::kR u b.2.2.2.2 y 38 4::O) w'/\RepS C5 B d7 e0 b.1/\RepS aH B d8 e1 b.2.2.1/\RepS C2 B d0 d5 b.2.2.2.1/\RepS aH B n o c.2.2.2.2/\RepS C3 B u y b.2.2.2.2) N ⟨(c.1,c.2.1,c.2.2.1,c.2.2.2.1,([]:Tn)),b6,d2,b7,d3,V,Z,none,0,m7,i,rfl,q,g,n7,n8,n9,R,(RepS.nil _ _)⟩ ?_);rintro k2 _ s3 ⟨b,d7,e0,d8,e1,d0,d5,u,y,B,hL,rfl,q,g,o0,o9,q0,R,b0⟩;rcases k2 with _|k2
  .exact cN hL
  obtain⟨r0,i,g9,e4⟩:=cO hL;clear hL;unfold MW at i;refine aE (aU 1 [(54,vP bp0 0)] (aL 55 i (sS (p0:=(b.1,b.2.1,b.2.2.1,b.2.2.2.1)) g.f4.f1 o0 o9 q0) ?_));rintro S i _ s4 ⟨h0,k0,h1,l4,h2,l5,a0,rfl,D,g,g6,g7,g8⟩;have q:=q.t D;have b0:=b0.mono D;refine aG 2 [(57,vB (S.2.1 !=5))] (aF i ?_ ?_)
  .intro A i;refine aN (aD (aZ (eI [(10,fun w'=>Inv a0 w'/\True),(9,fun w'=>Inv a0 w'/\Piece.holds a0 w' (kB p #[vT s.2.2.1,vS n c.2.2.2.2 o,vS u b.2.2.2.2 y] 29)/\True)] kr g fun s5 _ g=> ?_)));have a:=a0.le_refl;refine⟨⟨iA g a,⟨.inr ⟨Inv.anti g.inv a,Piece.holds_anti g.t.t.h a,trivial⟩,trivial⟩⟩,?_⟩;refine aO 0 58 (vP p 2) (.head _) (dI 27 58 1 59 2 (vS u b.2.2.2.2 y) (.tail _ (.head _)) (fun _ h=>h.2.1) (aO 2 60 (vP bp0 0) (.head _) (aO 3 61 (vP p 2) (.head _) (dI 27 61 4 62 2 (vS u b.2.2.2.2 y) (.tail _ (.head _)) (fun _ h=>h.2.1) ?_))));have g:=g.f1.f1;have⟨t0,n4,i⟩:=aW i;refine cA 5 kr (DD 63 102 #[vP bp0 0,vS u b.2.2.2.2 y] kr rfl ((qDc (p0:=S.1) g g6 g7 g8 b0 n4).mono ?_));rintro _ s6 (⟨z8,n5,rfl,rfl,d6,g⟩|⟨H,rfl,h3,l6,h4,n0,h5,n1,e9,f8,f0,g5,q8,rfl,E,g,q1,q2,q3,q4,q5⟩)
   .refine .inr ⟨_,rfl,?_⟩;have a:=Mem.le_trans a d6;refine eZ ?_;have ho:=e4 _ (sI i);subst ho;have i:=j5;refine bY ?_;refine eZ ?_;refine bY ?_;obtain rfl:=sI i;have g:=g.t.t.t.t;exact cW (.inl ⟨z8,n5,rfl,rfl,q.t d6,g⟩)
   refine .inl ⟨_,rfl,?_⟩;have a:=Mem.le_trans a E;refine⟨⟨iA g a,⟨.inr ⟨Inv.anti g.inv a,Piece.holds_anti g.t.t.t.h a,trivial⟩,trivial⟩⟩,?_⟩;refine cA 6 kr (lK (d:=64) (t:=27) (e:=38) (len:=1) (parts:= #[(0,(.tmp 63))]) C3 (xs:=[H.2]) (V7 H.2 e9 f8 f0 g5) kr rfl (fun _=>lD kr _) rfl rfl g ⟨(V7 H.2 e9 f8 f0 g5),_,rfl,⟨_,_,rfl,rfl,⟨_,_,rfl,rfl,⟨_,_,rfl,(iD q4),(iD q5)⟩⟩⟩,rfl⟩ fun b5 q9 s7 f g q6=> ?_);have a:=Mem.le_trans a f;refine⟨⟨iA g a,⟨.inr ⟨Inv.anti g.inv a,Piece.holds_anti g.t.t.t.t.h a,trivial⟩,trivial⟩⟩,?_⟩;refine cA 7 kr (uY 65 27 27 38 72 59 64 g.f7 (.inl kr) ((b0.mono E).mono f) q6.src i fun l2 i d9 e2 n6 s8 k g q7=> ?_);have a:=Mem.le_trans a k;refine⟨⟨iA g a,⟨.inr ⟨Inv.anti g.inv a,Piece.holds_anti g.t.t.t.t.t.h a,trivial⟩,trivial⟩⟩,?_⟩;refine aO 8 66 (vP p 2) (.head _) (cA 9 kr (zW 27 66 65 2 (vS d9 l2 e2) #[vT s.2.2.1,vS n c.2.2.2.2 o,vS d9 l2 e2] g.f5 fun s9 g=>(⟨⟨iA g a,⟨.inl rfl,trivial⟩⟩,?_⟩)));refine dU kr ?_;have g:=g.f2.t.f2.t;refine bG ?_;have hL:=g9 _ (sI i);exact xE (cF ⟨(H.1.1,H.1.2.1,H.1.2.2.1,H.1.2.2.2,l2),h3,l6,h4,n0,h5,n1,d9,e2,n6,hL,rfl,((q.t E).t f).t k,g.f1.f3.f5.f5.f4.f5,(q1.mono f).mono k,(q2.mono f).mono k,(q3.mono f).mono k,(((R.mono D).mono E).mono f).mono k,q7⟩)
  intro A i;refine cG (bF ?_);have ho:=e4 _ (sI i);have g:=g.f5.f2.f5.f5.f5.f5;refine bF ?_;exact xE (e7 _ _ ⟨(S.1.1,S.1.2.1,S.1.2.2.1,S.1.2.2.2,b.2.2.2.2),h0,k0,h1,l4,h2,l5,u,y,a0,ho,rfl,q,g,g6,g7,g8,R.mono D,b0⟩)
 intro g5;have g:=(g.nilroom 9 1).front2.front4.front4.front4;refine cK _ kr (cJ (fun k1 L' w'=>∃(b:JA),∃e1 e4 e2 e5 b0 d4 f k m8,aI (MT N s) k1 b=some e8/\L'=[(0,vP bp0 0),(2,vP x 0),(3,vP p 0)]/\m.le m8/\St m8 (kB bp0 #[vS e1 b.1 e4,vI b.2.1,vS e2 b.2.2.1 e5,vS b0 b.2.2.2.1 d4] 115::kB p #[vT s.2.2.1,vS f b.2.2.2.2 k,vb] 29::kB x #[vT eB,va,vb] 29::kR b0 b.2.2.2.1 d4 49 5::kR f b.2.2.2.2 k 9 1::O) w'/\RepS C5 m8 e1 e4 b.1/\RepS aH m8 e2 e5 b.2.2.1/\RepS C2 m8 b0 d4 b.2.2.2.1/\RepS aH m8 f k b.2.2.2.2) N ⟨(y6.1,y6.2.1,y6.2.2.1,y6.2.2.2,([]:Te)),k9,l7,l0,l8,l3,l9,none,0,m5,i,rfl,(q.t e6).t k7,g,o6,o7,o8,(RepS.nil _ _)⟩ ?_);rintro k1 _ s4 ⟨b,e1,e4,e2,e5,b0,d4,f,k,m8,hL,rfl,q,g,o9,q0,q1,l⟩;rcases k1 with _|k1
 .exact cN hL
 obtain⟨s3,i,k0,B⟩:=cO hL;clear hL;unfold MT at i;refine aE (aU 1 [(13,vP bp0 0)] (aL 14 i (BR (p0:=(b.1,b.2.1,b.2.2.1,b.2.2.2.1)) g.f3.f1 o9 q0 q1) ?_));rintro y7 i _ s5 ⟨g8,h2,g9,h3,h0,h4,m9,rfl,e7,g,e9,f0,f8⟩;have q:=q.t e7;have l:=l.mono e7;refine aQ (aF i ?_ ?_)
 .intro A i;refine aN (aD (aZ (aE (aC (bH 1 16 26 15 1 (vS f b.2.2.2.2 k) g.t.t.h (aG 2 [(18,vB ((b.2.2.2.2.length:Int)==8))] ?_))))));have⟨n9,i,j2⟩:=aW i;refine cR .normal (fun L' w'=>∃(o2:bK),∃b8 d5 b9 d6 Y a0 D,(.inl o2:bK⊕IX)=n9/\L'=[(0,vP bp0 0),(2,vP x 0),(3,vP p 0)]/\m.le D/\St D (kB bp0 (Ve o2 b8 d5 b9 d6 Y a0) 115::kB p #[vT s.2.2.1,vS f b.2.2.2.2 k,vb] 29::kB x #[vT eB,va,vb] 29::kR f b.2.2.2.2 k 9 1::kR Y o2.2.2.2 a0 49 5::O) w'/\RepS C5 D b8 d5 o2.1/\RepS aH D b9 d6 o2.2.2.1/\RepS C2 D Y a0 o2.2.2.2/\RepS aH D f k b.2.2.2.2) ?_ ?_
  .rintro _ s6 ⟨o2,b8,d5,b9,d6,Y,a0,D,rfl,rfl,q,g,q2,q3,q4,l⟩;have i:=j2;refine aD (aU 3 [(22,vP bp0 0),(24,vP bp0 1)] (bO 25 (vI o2.2.1) g.h (aA 3 [(26,vI (wr (o2.2.1+1))),(28,vP bp0 1)] (cU #[vS b8 o2.1 d5,vI (wr (o2.2.1+1)),vS b9 o2.2.2.1 d6,vS Y o2.2.2.2 a0] g fun s7 g=>(aQ (aC (aA 1 [(29,vP bp0 0)] (dL 30 i (JO (p0:=(o2.1,wr (o2.2.1+1),o2.2.2.1,o2.2.2.2)) g.f4.f1 q2 q3 q4) ?_))))))));rintro t9 i _ s8 (⟨z5,n6,rfl,rfl,g6,g⟩|⟨a,rfl,d0,d7,d1,d8,R,S,n5,rfl,U,g,F,G,H⟩)
   .refine bY ?_;refine eZ ?_;have ho:=B _ (sI i);subst ho;have i:=j1;refine bY ?_;refine eZ ?_;refine bY ?_;obtain rfl:=sI i;have g:=g.t.t.t;exact cW (.inl ⟨z5,n6,rfl,rfl,q.t g6,g⟩)
   have l:=l.mono U;refine cY 4 104 (.agg (Vb 0 eB 0 0)) g fun b3 s9 g=> ?_;refine cD (.agg (Va a.2)) g fun t0 g=> ?_;refine aQ (aE (aC (dK 12 i (fun o3 L' w'=>∃z,L'=[(0,vP bp0 0),(2,vP x 0),(3,vP p 0),(4,vP b3 0),(42,vB o3)]/\m.le z/\St z (kB b3 (Va a.2) 104::kB bp0 (Ve a.1 d0 d7 d1 d8 R S) 115::kB p #[vT s.2.2.1,vS f b.2.2.2.2 k,vb] 29::kB x #[vT eB,va,vb] 29::kR R a.1.2.2.2 S 49 5::kR f b.2.2.2.2 k 9 1::O) w'/\RepS C5 z d0 d7 a.1.1/\RepS aH z d1 d8 a.1.2.2.1/\RepS C2 z R S a.1.2.2.2/\RepS aH z f k b.2.2.2.2) ?_ ?_)))
   .rintro o3 i _ t3 ⟨z,rfl,q,g,F,G,H,l⟩;refine aQ ?_;have⟨o0,i,j3⟩:=aW i;refine cR .normal (fun L' w'=>∃(o4:Unit),∃E,(.inl o4:Unit⊕IX)=o0/\L'=[(0,vP bp0 0),(2,vP x 0),(3,vP p 0),(4,vP b3 0)]/\m.le E/\St E (kB b3 (Va a.2) 104::kB bp0 (Ve a.1 d0 d7 d1 d8 R S) 115::kB p #[vT s.2.2.1,vS f b.2.2.2.2 k,vb] 29::kB x #[vT eB,va,vb] 29::kR R a.1.2.2.2 S 49 5::kR f b.2.2.2.2 k 9 1::O) w'/\RepS C5 E d0 d7 a.1.1/\RepS aH E d1 d8 a.1.2.2.1/\RepS C2 E R S a.1.2.2.2/\RepS aH E f k b.2.2.2.2) ?_ ?_
    .rintro _ t4 ⟨o4,E,rfl,rfl,q,g,F,G,H,l⟩;have i:=j3;refine aD (aC (bH 1 46 26 45 1 (vS f b.2.2.2.2 k) g.t.t.h (bH 1 48 9 47 1 (vT a.2.2.1) g.h (eX 49 9 1 aH [a.2.2.1] g fun b4 r0 t5 u g q5=>(iT 50 26 26 9 16 46 49 g.f6 (.inl kr) (l.mono u) q5.src i fun l1 i h1 h5 s0 t6 y g q6=>(aA 1 [(51,vP p 1)] (cU #[vT s.2.2.1,vS h1 l1 h5,vb] g.f4 fun t7 g=>(aS rfl ?_))))))));have g:=g.f2.t;refine aD (aX (aA 1 [(52,vP bp0 0)] (dL 53 i (sA (p0:=a.1) g.f5.f4 ((F.mono u).mono y) ((G.mono u).mono y) ((H.mono u).mono y)) ?_)));rintro u0 i _ t8 (⟨z7,n8,rfl,rfl,g7,g⟩|⟨e0,rfl,l4,n0,l5,n1,l6,n4,n7,rfl,d9,g,q7,q8,q9⟩)
     .refine eZ ?_;have ho:=B _ (sI i);subst ho;have i:=j1;refine bY ?_;refine eZ ?_;refine bY ?_;obtain rfl:=sI i;have g:=g.t.t.t.t;exact cW (.inl ⟨z7,n8,rfl,rfl,((q.t u).t y).t g7,g⟩)
     refine aS rfl (bG ?_);have hL:=k0 _ (sI i);exact xE (cF ⟨(e0.1,e0.2.1,e0.2.2.1,e0.2.2.2,l1),l4,n0,l5,n1,l6,n4,h1,h5,n7,hL,rfl,((q.t u).t y).t d9,g.f4.t.f3.f2.f4.f4.f4,q7,q8,q9,q6.mono d9⟩)
    intro d9;refine aF i ?_ ?_
    .intro A i;refine aX (bO 43 (.agg (Va a.2)) g.h (dL 44 i (oA (p0:=a.2) g) ?_));rintro h5 i _ h1 (⟨z6,g7,rfl,rfl,y,g⟩|⟨l4,rfl,e0,rfl,u,g⟩)
     .obtain rfl:=sI i;have i:=j3;refine bY ?_;refine eZ ?_;have ho:=B _ (sI i);subst ho;have i:=j1;refine bY ?_;refine eZ ?_;refine bY ?_;obtain rfl:=sI i;have g:=g.t.t.t.t.t.t;exact cW (.inl ⟨z6,g7,rfl,rfl,q.t y,g⟩)
     refine aS rfl ?_;have n3:=jG i;exact xE (d9 _ _ ⟨(),e0,n3,rfl,q.t u,g.f5.f5.f5.f5.f5.f5,F.mono u,G.mono u,H.mono u,l.mono u⟩)
    intro A i;refine aN ?_;have n3:=jG i;exact xE (d9 _ _ ⟨(),z,n3,rfl,q,g.f5.f5.f5.f5.f5.f5,F,G,H,l⟩)
   intro o3 i K;refine bH 1 32 9 31 1 (vT a.2.2.1) g.h (bH 1 34 9 33 0 (vT s.2.2.1) g.t.t.t.h (aA 2 [(36,vB (a.2.2.1.toList==s.2.2.1.toList))] (bD 36 i ?_ ?_)))
   .intro A i;refine aA 6 [(42,vB true)] ?_;cases i;exact aT _ kr (K _ _ ⟨n5,rfl,q.t U,g.f5.f3.f5.f5.f5.f5,F,G,H,l⟩)
   intro A i;refine bH 1 38 26 37 1 (vS f b.2.2.2.2 k) g.t.t.t.h (bH 1 40 9 39 1 (vT a.2.2.1) g.h (aL 41 i (JG g l) ?_));rintro E i _ d9 ⟨y,rfl,u,g⟩;refine aA 1 [(42,vB E)] ?_;cases i;exact aT _ kr (K _ _ ⟨y,rfl,(q.t U).t u,g.f5.f3.f5.f5.f5.f5,F.mono u,G.mono u,H.mono u,l.mono u⟩)
  intro z;refine aF i ?_ ?_
  .intro A i;refine aX (aA 1 [(19,vP bp0 0)] (aL 20 i (sS (p0:=y7.1) g.f1.f1 e9 f0 f8) ?_));rintro y8 i _ g6 ⟨F,R,G,S,H,U,e0,rfl,u,g,d7,d8,d9⟩;refine dL 21 i (oA (p0:=y8.2) g) ?_;rintro y9 i _ g7 (⟨z4,d1,rfl,rfl,y,g⟩|⟨h1,rfl,d0,rfl,a,g⟩)
   .obtain rfl:=sI i;have i:=j2;refine bY ?_;refine eZ ?_;have ho:=B _ (sI i);subst ho;have i:=j1;refine bY ?_;refine eZ ?_;refine bY ?_;obtain rfl:=sI i;have g:=g.t.t.t.t.t;exact cW (.inl ⟨z4,d1,rfl,rfl,(q.t u).t y,g⟩)
   refine aS rfl ?_;have E:=jG i;exact xE (z _ _ ⟨y8.1,F,R,G,S,H,U,d0,E,rfl,(q.t u).t a,g.f1.f4.f4.f4.f4,d7.mono a,d8.mono a,d9.mono a,(l.mono u).mono a⟩)
  intro A i;refine aN ?_;have E:=jG i;exact xE (z _ _ ⟨y7.1,g8,h2,g9,h3,h0,h4,m9,E,rfl,q,g.f1.f4.f4.f4.f4,e9,f0,f8,l⟩)
 intro A i;refine cG (bF ?_);have ho:=B _ (sI i);have g:=g.f4.f2.f4.f4.f4;refine bF ?_;exact xE (g5 _ _ ⟨(y7.1.1,y7.1.2.1,y7.1.2.2.1,y7.1.2.2.2,b.2.2.2.2),g8,h2,g9,h3,h0,h4,f,k,m9,ho,rfl,q,g,e9,f0,f8,l⟩)
def CK(N:Nat)(p0:BA):Option T1x:=
 (KB N p0).bind fun y1=>if(y1.2.2 !=0)=true then(some (((⟨#[]⟩:BA),([]:Te),([]:Tn)),y1.2.1,y1.2.2)) else((NA N (y1.1,0,([]:Te),([]:Tg))).bind fun a=>(match a with| .inl a=>some (((⟨#[]⟩:BA),([]:Te),([]:Tn)),a.1,a.2)| .inr a=>some (a.2,0,0)))
theorem qDw{p0:BA}{r:T1x}(g:St m (O) w)(i:CK N p0=some r):Calls prog 46 #[vT p0] w fun e w'=>∃n s p u m',e= .returned (.tuple #[.agg (V2 r.1 n s p u),vI r.2.1,vI r.2.2])/\m.le m'/\St m' (kR n r.1.2.1 s 9 1::kR p r.1.2.2 u 38 4::O) w'/\P2 m' n s p u r.1.2:=by
 unfold CK at i;have q:=m.le_refl;refine qKi func46 rfl ntmps46 [(0,vT p0)] kr rfl ?_;refine LN ?_;refine aX (cY 2 29 (.agg #[vT eB,v8,v8]) g fun l w1 g=>(cY 3 3 (vI 0) g fun c w2 g=>(cY 4 31 (vI 0) g fun f w3 g=>(aS rfl (LC (LN (aX (aA 1 [(8,vT p0)] (aL 9 i (qDx g) ?_)))))))));rintro y1 i _ w4 ⟨E,G,k,rfl,H,g,V⟩;have q:=q.t H;refine aA 5 [(11,vI y1.2.1),(12,vI y1.2.2),(5,vS E y1.1 G)] (cD (vI y1.2.1) g.f2 fun w5 g=>(cD (vI y1.2.2) g.f2 fun w6 g=>(aS rfl (LC (LN (aC (bO 13 (vI y1.2.2) g.h (aG 1 [(14,vB (y1.2.2 !=0))] (aF i ?_ ?_)))))))))
 .intro A i;refine aE (eI [(6,fun w'=>Inv k w'/\True),(5,fun w'=>Inv k w'/\Piece.holds k w' (kB f #[vI y1.2.2] 31)/\True),(4,fun w'=>Inv k w'/\Piece.holds k w' (kB c #[vI y1.2.1] 3)/\True)] kr g fun x _ g=> ?_);have a:=k.le_refl;refine⟨⟨iA g a,⟨.inr ⟨Inv.anti g.inv a,Piece.holds_anti g.h a,trivial⟩,⟨.inr ⟨Inv.anti g.inv a,Piece.holds_anti g.t.h a,trivial⟩,trivial⟩⟩⟩,?_⟩;refine aO 0 15 (.agg #[vT eB,va,vb]) (.head _) (dI 3 3 1 16 0 (vI y1.2.1) (.tail _ (.tail _ (.head _))) (fun _ h=>h.2.1) (dI 31 4 2 17 0 (vI y1.2.2) (.tail _ (.head _)) (fun _ h=>h.2.1) (cA 3 kr (vG 29 2 15 (.agg #[vT eB,va,vb]) g.f3 fun y g=>(⟨⟨iA g a,⟨.inr ⟨Inv.anti g.inv a,Piece.holds_anti g.t.h a,trivial⟩,⟨.inr ⟨Inv.anti g.inv a,Piece.holds_anti g.t.t.h a,trivial⟩,trivial⟩⟩⟩,?_⟩)))));refine cA 4 kr (vG 3 3 16 (vI y1.2.1) g.f2 fun z g=>(⟨⟨iA g a,⟨.inr ⟨Inv.anti g.inv a,Piece.holds_anti g.t.t.h a,trivial⟩,⟨.inl rfl,trivial⟩⟩⟩,?_⟩));refine cA 5 kr (vG 31 4 17 (vI y1.2.2) g.f2 fun b g=>(⟨⟨iA g a,⟨.inl rfl,⟨.inl rfl,trivial⟩⟩⟩,?_⟩));refine dU kr ?_;have g:=g.f3.t;refine aD (aM (aK (qIf ?_)));cases i
  refine qNs [.cell 2 29,.cell 3 3,.cell 4 31] [.agg #[vT eB,va,vb],vI y1.2.1,vI y1.2.2] rfl (ResAll.cons (ResAt.blk (v:= .agg #[vT eB,va,vb]) (o:=0) kr g.t.t.h kr) (ResAll.cons (ResAt.blk (v:=vI y1.2.1) (o:=0) kr g.t.h kr) (ResAll.cons (ResAt.blk (v:=vI y1.2.2) (o:=0) kr g.h kr) ResAll.nil))) ?_;have g:=(g.nilroom 9 1).nilroom 38 4;exact⟨none,0,none,0,k,rfl,q,g.f2.t.f2.t.f2.t.f1,(RepS.nil _ _),(RepS.nil _ _)⟩
 intro A i;refine aN (LC (LN (aX (aA 1 [(18,.func (.func 71) #[] #[vP l 0,vP c 0,vP f 0])] (qKf ({target:= .fn (.func 71) #[vP l 0,vP c 0,vP f 0],args:= #[]}) kr kr (aS rfl (LC (aU 2 [(20,.agg #[vS E y1.1 G,vI 0,va,v6])] (bB rfl (LR 21 115 20 (.agg #[vS E y1.1 G,vI 0,va,v6]) g fun S a0 g=>(aG 1 [(6,vP S 0)] (aC (aA 1 [(22,vP S 0)] ?_)))))))))))));have g:=(g.nilroom 49 5).front1;refine dL 23 i (qCy (p0:=(y1.1,0,([]:Te),([]:Tg))) g V (RepS.nil _ _) (RepS.nil _ _)) ?_;rintro y2 i _ a7 (⟨b,D,rfl,rfl,M,g⟩|⟨R,rfl,a2,c2,a3,c3,a4,c4,x,z,y,B,U,rfl,K,g,r2,r3,r4,Y,Z⟩)
 .refine bY ?_;refine qOl [.cell 2 29,.cell 3 3,.cell 4 31] rfl (VK func71 kr) ?_;refine UL (.panicking [{v:= .iface 111 (.agg (Vf b)),recovered:=false}]) func71 rfl ntmps71 [(0,vP l 0),(1,vP c 0),(2,vP f 0)] kr rfl (d:=6) kr kr [(3,.iface 111 (.agg (Vf b))),(6,.iface 111 (.agg (Vf b))),(0,vP l 0),(1,vP c 0),(2,vP f 0)] (.iface 111 (.agg (Vf b))) (.panicking [{v:= .iface 111 (.agg (Vf b)),recovered:=true}]) rfl kr ?_;refine aU 2 [(8,vB true)] ?_;refine aS rfl ?_;have g:=g.f2.t;refine aD (sW true kr ?_ (fun h=>Bool.noConfusion h));intro _;refine aU 5 [(12,.agg (Vf b)),(13,vB true)] ?_;refine cY 4 111 (.agg #[vI 0,vI 0]) g fun F a8 g=> ?_;refine cD (.agg (Vf b)) g fun a9 g=> ?_;refine aG 1 [(5,vB true)] (aE (aB 2 [(15,vB false)] (sW false kr (fun h=>Bool.noConfusion h) ?_)));intro _;refine aN (aD (eI [(8,fun w'=>Inv D w'/\Piece.holds D w' (kB F (Vf b) 111)/\True)] kr g fun b0 _ g=> ?_));have a:=D.le_refl;refine⟨⟨.inr ⟨Inv.anti g.inv a,Piece.holds_anti g.h a,trivial⟩,trivial⟩,?_⟩
  refine aO 0 17 (.agg #[vT eB,va,vb]) (.head _) (aO 1 18 (vP F 0) (.head _) (dI 3 18 2 19 0 (vI b.1) (.head _) (fun _ h=>h.2.1) (aO 3 20 (vP F 1) (.head _) (dI 31 20 4 21 1 (vI b.2) (.head _) (fun _ h=>h.2.1) (cA 5 kr (vG 29 0 17 (.agg #[vT eB,va,vb]) g.f3 fun b6 g=>(⟨⟨.inr ⟨Inv.anti g.inv a,Piece.holds_anti g.t.h a,trivial⟩,trivial⟩,?_⟩)))))));refine cA 6 kr (vG 3 1 19 (vI b.1) g.f3 fun b7 g=>(⟨⟨.inr ⟨Inv.anti g.inv a,Piece.holds_anti g.t.t.h a,trivial⟩,trivial⟩,?_⟩));refine cA 7 kr (vG 31 2 21 (vI b.2) g.f3 fun b8 g=>(⟨⟨.inr ⟨Inv.anti g.inv a,Piece.holds_anti g.t.t.t.h a,trivial⟩,trivial⟩,?_⟩));refine dU kr ?_;obtain rfl:=sI i;refine oV [] [] rfl ResAll.nil (⟨_,rfl,?_⟩);refine⟨[.agg #[vT eB,va,vb],vI b.1,vI b.2],(ResAll.cons (ResAt.blk (v:= .agg #[vT eB,va,vb]) (o:=0) kr g.t.t.h kr) (ResAll.cons (ResAt.blk (v:=vI b.1) (o:=0) kr g.t.h kr) (ResAll.cons (ResAt.blk (v:=vI b.2) (o:=0) kr g.h kr) ResAll.nil))),?_⟩;have g:=(g.nilroom 9 1).nilroom 38 4;exact⟨none,0,none,0,D,rfl,q.t M,g.f2.t.f2.t.f2.t.f2.t.f1,(RepS.nil _ _),(RepS.nil _ _)⟩
 refine cD (.agg (V2 R.2 x z y B)) g.f7 fun a g=> ?_;refine cD (vI 0) g.f6 fun F g=> ?_;refine cD (vI 0) g.f6 fun a8 g=> ?_;refine aS rfl ?_;have g:=g.f7.t;refine aD (aM (qOa [.cell 2 29,.cell 3 3,.cell 4 31] rfl (VK func71 kr) (UL .returning func71 rfl ntmps71 [(0,vP l 0),(1,vP c 0),(2,vP f 0)] kr rfl (d:=6) kr kr [(3,.nilIface),(6,.nilIface),(0,vP l 0),(1,vP c 0),(2,vP f 0)] (.nilIface) .returning rfl kr (aB 2 [(8,vB false)] (sW false kr (fun h=>Bool.noConfusion h) ?_)))));intro _;refine aN ?_;cases i;refine oV [] [] rfl ResAll.nil (⟨_,rfl,?_⟩);refine⟨[.agg (V2 R.2 x z y B),vI 0,vI 0],(ResAll.cons (ResAt.blk (v:= .agg (V2 R.2 x z y B)) (o:=0) kr g.t.t.h kr) (ResAll.cons (ResAt.blk (v:=vI 0) (o:=0) kr g.t.h kr) (ResAll.cons (ResAt.blk (v:=vI 0) (o:=0) kr g.h kr) ResAll.nil))),?_⟩;exact⟨x,z,y,B,U,rfl,q.t K,g.t.t.t.f2.t.f2.t.f1.f1,Y,Z⟩
def BP(N:Nat):Tj:=
 (CK N (⟨#[112,97,99,107,97,103,101,32,112,59,32,102,117,110,99,32,102,40,120,41,32,61,32,120,32,43,32,50,32,42,32,51,59]⟩:BA)).bind fun y1=>(tM N y1.1).bind fun a=>(if(y1.2.2==0)=true then(if(a.2==0)=true then(if(y1.2.1==0)=true then(if((List.length y1.1.2.2:Int)==1)=true then((idx y1.1.2.2 0).bind fun x1=>if((List.length x1.2.2.2:Int)==5)=true then((idx y1.1.2.2 0).bind fun b=>(idx b.2.2.2 4).bind fun b=>if(b.2.2.1==1)=true then(if(a.1.toList==(⟨#[112,97,99,107,97,103,101,32,112,59,10,102,117,110,99,32,102,40,120,41,32,61,32,120,32,43,32,50,32,42,32,51,59,10]⟩:BA).toList)=true then((qM N y1.1).bind fun a=>some (a==0)) else(some false)) else(some false)) else(some false)) else(some false)) else(some false)) else(some false)) else(some false):Tj).bind fun a=>some a
theorem qCt{r:Bool}(g:St m (O) w)(i:BP N=some r):Calls prog 13 #[] w fun e w'=>∃m',e= .returned (vB r)/\m.le m'/\St m' (O) w':=by
 unfold BP at i;have q:=m.le_refl;refine bI func13 rfl ntmps13 ?_;refine aB 1 [] (aC ?_);refine aL 7 i (qDw g) ?_;rintro y1 i _ w1 ⟨f,k,c,d,m1,rfl,v,g,b,a⟩;refine aA 4 [(8,.agg (V2 y1.1 f k c d)),(9,vI y1.2.1),(10,vI y1.2.2)] (cY 1 29 (.agg #[vT eB,v8,v8]) g fun F w2 g=>(cD (.agg (V2 y1.1 f k c d)) g fun w3 g=>(aG 2 [(2,vI y1.2.1),(3,vI y1.2.2)] (aC (bO 12 (.agg (V2 y1.1 f k c d)) g.h (aL 13 i (SZ (p0:=y1.1) g b a) ?_))))));rintro u i _ w4 ⟨o,rfl,l,g⟩;have q:=(q.t v).t l;have b:=b.mono l;have a:=a.mono l;refine aG 5 [(4,vT u.1),(5,vI u.2)] (aC (dK 46 i (fun s L' w'=>∃p,L'=[(0,vB s)]/\m.le p/\St p (kB F (V2 y1.1 f k c d) 29::kR f y1.1.2.1 k 9 1::kR c y1.1.2.2 d 38 4::O) w'/\P2 p f k c d y1.1.2) ?_ ?_))
 .rintro s i _ n ⟨p,rfl,q,g,b,a⟩;refine aQ (aM ?_);obtain rfl:=sI i;exact aR [0] [vB s] ⟨p,rfl,q,g.t.t.t⟩
 intro s i K;refine aA 3 [(18,vB (y1.2.2==0))] (bD 18 i ?_ ?_)
 .intro A i;refine aA 4 [(22,vB (u.2==0))] (bD 22 i ?_ ?_)
  .intro A i;refine aA 4 [(26,vB (y1.2.1==0))] (bD 26 i ?_ ?_)
   .intro A i;refine bH 1 28 27 27 2 (vS c y1.1.2.2 d) g.h (aA 4 [(32,vB ((y1.1.2.2.length:Int)==1))] (bD 32 i ?_ ?_))
    .intro A i;refine bH 1 34 27 33 2 (vS c y1.1.2.2 d) g.h (dQ 35 a i ?_);rintro x1 i G U a0 ⟨_,_,rfl,rfl,⟨_,_,rfl,rfl,⟨_,_,rfl,⟨a3,c3,rfl,r3⟩,⟨D,R,rfl,r4⟩⟩⟩⟩ x;refine aA 1 [(36,.pointer (some ⟨G,U+3,none⟩))] (bE 37 (vS D x1.2.2.2 R) g (x.drop 3) (aA 4 [(41,vB ((x1.2.2.2.length:Int)==5))] (bD 41 i ?_ ?_)))
     .intro A i;refine bH 1 43 27 42 2 (vS c y1.1.2.2 d) g.h (dQ 44 a i ?_);rintro x2 i H V a8 ⟨_,_,rfl,rfl,⟨_,_,rfl,rfl,⟨_,_,rfl,⟨a5,c5,rfl,r5⟩,⟨E,S,rfl,r6⟩⟩⟩⟩ y;refine aA 1 [(45,.pointer (some ⟨H,V+3,none⟩))] (bE 46 (vS E x2.2.2.2 S) g (y.drop 3) (dQ 47 r6 i ?_));rintro B i M Y a9 ⟨_,_,rfl,rfl,⟨_,_,rfl,rfl,⟨_,_,rfl,rfl,⟨_,_,rfl,rfl,⟨a7,c7,rfl,r7⟩⟩⟩⟩⟩ z;refine aA 1 [(48,.pointer (some ⟨M,Y+2,none⟩))] (bE 49 (vI B.2.2.1) g (z.drop 2) (aA 3 [(52,vB (B.2.2.1==1))] (bD 52 i ?_ ?_)))
      .intro A i;refine aA 4 [(56,vB (u.1.toList==(⟨#[112,97,99,107,97,103,101,32,112,59,10,102,117,110,99,32,102,40,120,41,32,61,32,120,32,43,32,50,32,42,32,51,59,10]⟩:BA).toList))] (bD 56 i ?_ ?_)
       .intro A i;refine bO 57 (.agg (V2 y1.1 f k c d)) g.h ?_;refine aL 58 i (JW (p0:=y1.1) g b a) ?_;rintro y3 i _ w6 ⟨Z,rfl,n,g⟩;refine aA 3 [(0,vB (y3==0))] ?_;cases i;exact aT _ kr (K _ _ ⟨Z,rfl,q.t n,g.f2.f2.f2,b.mono n,a.mono n⟩)
       intro A i;refine aA 5 [(0,vB false)] ?_;cases i;exact aT _ kr (K _ _ ⟨o,rfl,q,g.f2.f2.f2,b,a⟩)
      intro A i;refine aA 9 [(0,vB false)] ?_;cases i;exact aT _ kr (K _ _ ⟨o,rfl,q,g.f2.f2.f2,b,a⟩)
     intro A i;refine aA 20 [(0,vB false)] ?_;cases i;exact aT _ kr (K _ _ ⟨o,rfl,q,g.f2.f2.f2,b,a⟩)
    intro A i;refine aA 29 [(0,vB false)] ?_;cases i;exact aT _ kr (K _ _ ⟨o,rfl,q,g.f2.f2.f2,b,a⟩)
   intro A i;refine aA 35 [(0,vB false)] ?_;cases i;exact aT _ kr (K _ _ ⟨o,rfl,q,g.f2.f2.f2,b,a⟩)
  intro A i;refine aA 39 [(0,vB false)] ?_;cases i;exact aT _ kr (K _ _ ⟨o,rfl,q,g.f2.f2.f2,b,a⟩)
 intro A i;refine aA 43 [(0,vB false)] ?_;cases i;exact aT _ kr (K _ _ ⟨o,rfl,q,g.f2.f2.f2,b,a⟩)
def EL(N:Nat)(y1:Tq)(c:Int):Tx:=
 if(decide (c<(List.length y1.2.2.2:Int)))=true then((idx y1.2.2.2 c).bind fun x1=>(GO N x1.2.2.2 x1.2.2.1).bind fun a=>(FZ N x1.2.2.2 x1.2.2.1).bind fun b=>(if(!(a.1.toList==b.1.toList))=true then(some true) else(some (a.2 !=b.2)):Tj).bind fun a=>if a=true then(some (.inr (.inr (false)))) else(some (.inl (IntKind.wrap .i64 (c+1))))) else(some (.inr (.inl ())))
def EP(N:Nat)(p0:Tb):Tj:=
 (BT N (p0,0)).bind fun y1=>(BT N y1.1).bind fun a=>((qM N y1.2).bind fun b=>(tK N y1.2).bind fun c=>if(b !=c)=true then(some true) else((wN N y1.2 a.2).bind fun y5=>(BU N y1.2 a.2).bind fun a=>if(!(y5==a))=true then(some true) else((wN N y1.2 y1.2).bind fun a=>some (!a))):Tj).bind fun a=>if a=true then(some false) else((tM N y1.2).bind fun a=>(BN N y1.2).bind fun b=>(if(!(a.1.toList==b.1.toList))=true then(some true) else(some (a.2 !=b.2)):Tj).bind fun o2=>if o2=true then(some false) else((aI (EL N y1) N 0).bind fun a=>(match a with| .inl a=>(BP N).bind fun a=>some a| .inr (z)=>some z)))
theorem qBr{p0:Tb}{r:Bool}(g:St m (O) w)(r1:RepS (aV .i64) m a1 c1 p0)(i:EP N p0=some r):Calls prog 3 #[vS a1 p0 c1] w fun e w'=>∃m',e= .returned (vB r)/\m.le m'/\St m' (O) w':=by
 unfold EP at i;have q:=m.le_refl;refine bI func3 rfl ntmps3 ?_;refine aB 1 [] (aC ?_);refine aA 2 [(17,.agg #[vS a1 p0 c1,vI 0])] (bB rfl (LR 18 25 17 (.agg #[vS a1 p0 c1,vI 0]) g fun Z w1 g=>(aG 1 [(3,vP Z 0)] (aC (aA 1 [(19,vP Z 0)] (aL 20 i (SU (p0:=(p0,0)) g r1) ?_))))));rintro y1 i _ w2 ⟨a2,c2,n,o,k,l,m2,rfl,d3,g,r2,f,d⟩;refine aA 1 [(21,vP Z 0)] (aL 22 i (SU (p0:=y1.1) g.f2 r2) ?_);rintro c i _ w3 ⟨R,S,y,B,z,D,m3,rfl,a0,g,x,p,s⟩;have f:=f.mono a0;have d:=d.mono a0;refine cY 4 29 (.agg #[vT eB,v8,v8]) g fun b2 w4 g=> ?_;refine cY 5 29 (.agg #[vT eB,v8,v8]) g fun b3 w5 g=> ?_;refine cD (.agg (V2 y1.2 n o k l)) g.f1 fun w6 g=> ?_;refine cD (.agg (V2 c.2 y B z D)) g.f1 fun w7 g=> ?_;refine aQ (aE (aE ?_));have⟨o1,i,J⟩:=aW i;refine cR .normal (fun L' w'=>∃U,L'=[(4,vP b2 0),(42,vB o1)]/\m.le U/\St U (kB b3 (V2 c.2 y B z D) 29::kB b2 (V2 y1.2 n o k l) 29::kB Z (V1 c.1 R S) 25::kR y c.2.2.1 B 9 1::kR z c.2.2.2 D 38 4::kR n y1.2.2.1 o 9 1::kR k y1.2.2.2 l 38 4::O) w'/\RepS aH U y B c.2.2.1/\RepS C3 U z D c.2.2.2/\RepS aH U n o y1.2.2.1/\RepS C3 U k l y1.2.2.2/\RepS (aV .i64) U R S c.1.1) ?_ ?_
 .have i:=J;rintro _ w8 ⟨U,rfl,q,g,p,s,f,d,x⟩;refine aD (aF i ?_ ?_)
  .intro A i;refine aB 1 [(2,vB false)] (aM ?_);refine aK ?_;cases i;exact aR [2] [vB false] ⟨U,rfl,q,g.t.t.t.t.t.t.t⟩
  intro A i;refine aN (aD (aC (bO 44 (.agg (V2 y1.2 n o k l)) g.t.h (aL 45 i (SZ (p0:=y1.2) g f d) ?_))));rintro y8 i _ d9 ⟨d6,rfl,E,g⟩;refine aG 5 [(6,vT y8.1),(7,vI y8.2)] (aC (bO 49 (.agg (V2 y1.2 n o k l)) g.t.h (aL 50 i (qCn (p0:=y1.2) g (f.mono E) (d.mono E)) ?_)));rintro y9 i _ e0 ⟨d0,rfl,v,g⟩;have f:=(f.mono E).mono v;have d:=(d.mono E).mono v;have p:=(p.mono E).mono v;have s:=(s.mono E).mono v;have x:=(x.mono E).mono v;refine aG 5 [(8,vT y9.1),(9,vI y9.2)] (aE (aC ?_));have⟨o2,i,J⟩:=aW i;refine sH (j:=8) (fun L' w'=>∃G,L'=[(4,vP b2 0),(60,vB o2)]/\m.le G/\St G (kB b3 (V2 c.2 y B z D) 29::kB b2 (V2 y1.2 n o k l) 29::kB Z (V1 c.1 R S) 25::kR y c.2.2.1 B 9 1::kR z c.2.2.2 D 38 4::kR n y1.2.2.1 o 9 1::kR k y1.2.2.2 l 38 4::O) w'/\RepS aH G y B c.2.2.1/\RepS C3 G z D c.2.2.2/\RepS aH G n o y1.2.2.1/\RepS C3 G k l y1.2.2.2/\RepS (aV .i64) G R S c.1.1) ?_ ?_
  .have i:=J;rintro _ e1 ⟨G,rfl,q,g,p,s,f,d,x⟩;refine aQ (aF i ?_ ?_)
   .intro A i;refine aB 1 [(2,vB false)] (aM ?_);refine aK ?_;cases i;exact aR [2] [vB false] ⟨G,rfl,q,g.t.t.t.t.t.t.t⟩
   intro A i;refine aN (aD (aE (aC (bH 1 62 27 61 2 (vS k y1.2.2.2 l) g.t.h (aG 2 [(63,vI (y1.2.2.2.length:Int)),(64,vI 0)] (aZ ?_))))));have⟨b8,i,j1⟩:=aW i;refine cR (.exit 0) (fun L' w'=>∃(o3:Unit),∃M,(.inl o3)=b8/\L'=[]/\m.le M/\St M (kB b3 (V2 c.2 y B z D) 29::kB b2 (V2 y1.2 n o k l) 29::kB Z (V1 c.1 R S) 25::kR y c.2.2.1 B 9 1::kR z c.2.2.2 D 38 4::kR n y1.2.2.1 o 9 1::kR k y1.2.2.2 l 38 4::O) w'/\RepS aH M y B c.2.2.1/\RepS C3 M z D c.2.2.2/\RepS aH M n o y1.2.2.1/\RepS C3 M k l y1.2.2.2/\RepS (aV .i64) M R S c.1.1) ?_ ?_
   .rintro _ H ⟨o3,M,rfl,rfl,q,g,p,s,f,d,x⟩;have i:=j1;refine cM (aD (aC (aL 93 i (qCt g) ?_)));rintro u i _ V ⟨F,rfl,a,g⟩;refine aG 1 [(2,vB u)] (aM ?_);obtain rfl:=sI i;exact aR [2] [vB u] ⟨F,rfl,q.t a,g.t.t.t.t.t.t.t⟩
   intro b9;refine cK _ kr (cJ (fun k1 L' w'=>∃(s1:Int),∃H,aI (EL N y1) k1 s1=some b8/\L'=[(62,vS k y1.2.2.2 l),(63,vI (y1.2.2.2.length:Int)),(64,vI s1)]/\m.le H/\St H (kB b3 (V2 c.2 y B z D) 29::kB b2 (V2 y1.2 n o k l) 29::kB Z (V1 c.1 R S) 25::kR y c.2.2.1 B 9 1::kR z c.2.2.2 D 38 4::kR n y1.2.2.1 o 9 1::kR k y1.2.2.2 l 38 4::O) w'/\RepS C3 H k l y1.2.2.2/\RepS aH H y B c.2.2.1/\RepS C3 H z D c.2.2.2/\RepS aH H n o y1.2.2.1/\RepS (aV .i64) H R S c.1.1) N ⟨0,G,i,rfl,q,g.f6.f6.f6.f6.f6.f6.f6,d,p,s,f,x⟩ ?_);rintro k1 _ e2 ⟨s1,H,hL,rfl,q,g,d,p,s,f,x⟩;rcases k1 with _|k1
   .exact cN hL
   obtain⟨d8,i,d2,b7⟩:=cO hL;clear hL;unfold EL at i;refine aB 1 [(65,vB (decide (s1<(y1.2.2.2.length:Int))))] (aE ?_);refine aF i ?_ ?_
   .intro A i;refine aN (aD (aE (aZ (aC (dQ 66 d i ?_)))));rintro x1 i b4 f1 d5 ⟨_,_,rfl,rfl,⟨_,_,rfl,rfl,⟨_,_,rfl,⟨a8,c8,rfl,V⟩,⟨a9,c9,rfl,Y⟩⟩⟩⟩ d4;refine dY 67 38 66 f1 (.agg (V6 x1 a8 c8 a9 c9)) g d4 (cY 11 38 (.agg #[vI 0,vT eB,v8,v8]) g fun b5 e4 g=>(cD (.agg (V6 x1 a8 c8 a9 c9)) g fun e5 g=>(aQ (aC (bH 1 70 36 69 3 (vS a9 x1.2.2.2 c9) g.h (bH 1 72 26 71 2 (vS a8 x1.2.2.1 c8) g.h (aL 73 i (qEf g Y V) ?_)))))));rintro b0 i _ e6 ⟨d7,rfl,a,g⟩;have Y:=Y.mono a;have V:=V.mono a;refine aG 5 [(12,vT b0.1),(13,vI b0.2)] (aC (bH 1 78 36 77 3 (vS a9 x1.2.2.2 c9) g.h (bH 1 80 26 79 2 (vS a8 x1.2.2.1 c8) g.h (aL 81 i (qDh g Y V) ?_))));rintro b6 i _ e7 ⟨d1,rfl,u,g⟩;have d:=(d.mono a).mono u;have Y:=Y.mono u;have V:=V.mono u;have p:=(p.mono a).mono u;have s:=(s.mono a).mono u;have f:=(f.mono a).mono u;have x:=(x.mono a).mono u
    refine aG 5 [(14,vT b6.1),(15,vI b6.2)] (aC (dK 8 i (fun o4 L' w'=>∃F,L'=[(62,vS k y1.2.2.2 l),(63,vI (y1.2.2.2.length:Int)),(64,vI s1),(91,vB o4)]/\m.le F/\St F (kB b5 (V6 x1 a8 c8 a9 c9) 38::kB b3 (V2 c.2 y B z D) 29::kB b2 (V2 y1.2 n o k l) 29::kB Z (V1 c.1 R S) 25::kR y c.2.2.1 B 9 1::kR z c.2.2.2 D 38 4::kR n y1.2.2.1 o 9 1::kR k y1.2.2.2 l 38 4::O) w'/\RepS C3 F k l y1.2.2.2/\RepS aH F a8 c8 x1.2.2.1/\RepS C2 F a9 c9 x1.2.2.2/\RepS aH F y B c.2.2.1/\RepS C3 F z D c.2.2.2/\RepS aH F n o y1.2.2.1/\RepS (aV .i64) F R S c.1.1) ?_ ?_))
    .rintro o4 i _ e8 ⟨F,rfl,q,g,d,V,Y,p,s,f,x⟩;refine aQ (aF i ?_ ?_)
     .intro A i;refine aB 1 [(2,vB false)] (aM ?_);refine bA (aK ?_);have ho:=b7 _ (sI i);subst ho;have i:=j1;refine aK (bA (aK ?_));cases i;exact aR [2] [vB false] ⟨F,rfl,q,g.t.t.t.t.t.t.t.t⟩
     intro A i;refine aN (bG (aD (aX (aA 2 [(64,vI (wr (s1+1)))] (aS rfl ?_)))));have hL:=d2 _ (sI i);exact xE (cF ⟨wr (s1+1),F,hL,rfl,q,g.t.f6.f6.f6.f6.f6.f6.f6,d,p,s,f,x⟩)
    intro o4 i K;refine aA 4 [(87,vB (!(b0.1.toList==b6.1.toList)))] (bD 87 i ?_ ?_)
    .intro A i;refine aA 4 [(91,vB true)] ?_;cases i;exact aT _ kr (K _ _ ⟨d1,rfl,(q.t a).t u,g.f7.f7.f7.f7.f7.f7.f7.f7,d,V,Y,p,s,f,x⟩)
    intro A i;refine aA 4 [(91,vB (b0.2 !=b6.2))] ?_;cases i;exact aT _ kr (K _ _ ⟨d1,rfl,(q.t a).t u,g.f7.f7.f7.f7.f7.f7.f7.f7,d,V,Y,p,s,f,x⟩)
   intro A i;refine cG (bF ?_);have ho:=b7 _ (sI i);have g:=g.f6.f6.f6.f6.f6.f6.f6;refine bF ?_;exact xE (b9 _ _ ⟨(),H,ho,rfl,q,g,p,s,f,d,x⟩)
  intro K;refine aA 4 [(56,vB (!(y8.1.toList==y9.1.toList)))] (bD 56 i ?_ ?_)
  .intro A i;refine aA 4 [(60,vB true)] ?_;cases i;exact aT _ kr (K _ _ ⟨d0,rfl,(q.t E).t v,g.f6.f6.f6.f6.f6.f6.f6,p,s,f,d,x⟩)
  intro A i;refine aA 4 [(60,vB (y8.2 !=y9.2))] ?_;cases i;exact aT _ kr (K _ _ ⟨d0,rfl,(q.t E).t v,g.f6.f6.f6.f6.f6.f6.f6,p,s,f,d,x⟩)
 intro K;refine eI [(20,fun w'=>Inv m3 w'/\Piece.holds m3 w' (kB b3 (V2 c.2 y B z D) 29)/\Piece.holds m3 w' (kB b2 (V2 y1.2 n o k l) 29)/\True)] kr g fun w9 _ g=> ?_;have a:=m3.le_refl;refine⟨⟨.inr ⟨Inv.anti g.inv a,Piece.holds_anti g.h a,Piece.holds_anti g.t.h a,trivial⟩,trivial⟩,?_⟩;refine dI 29 4 0 23 0 (.agg (V2 y1.2 n o k l)) (.head _) (fun _ h=>h.2.2.1) (dI 29 4 2 25 0 (.agg (V2 y1.2 n o k l)) (.head _) (fun _ h=>h.2.2.1) (cA 1 kr (iC 24 i (fun _ h=>JW (p0:=y1.2) g f d h) ?_)));rintro M i _ b0 ⟨m5,rfl,E,g⟩;refine⟨_,rfl,?_⟩;have a:=Mem.le_trans a E;refine⟨⟨.inr ⟨Inv.anti g.inv a,Piece.holds_anti g.h a,Piece.holds_anti g.t.h a,trivial⟩,trivial⟩,?_⟩;refine cA 3 kr (iC 26 i (fun _ h=>MS (p0:=y1.2) g (f.mono E) (d.mono E) h) ?_);rintro V i _ b6 ⟨m6,rfl,F,g⟩;refine⟨_,rfl,?_⟩;have q:=(((q.t d3).t a0).t E).t F;have f:=(f.mono E).mono F;have d:=(d.mono E).mono F;have p:=(p.mono E).mono F;have s:=(s.mono E).mono F;have x:=(x.mono E).mono F;have a:=Mem.le_trans a F;refine⟨⟨.inr ⟨Inv.anti g.inv a,Piece.holds_anti g.h a,Piece.holds_anti g.t.h a,trivial⟩,trivial⟩,?_⟩;refine aO 4 27 (vB (M !=V)) (.head _) (aO 5 28 (vB (M !=V)) (.head _) ?_);rcases eN (M !=V) with A|A
 .rw[if_pos A] at i;refine DJ (t:=28) (b:=true) (M !=V) kr A ?_;refine nD 6 29 (.head _) (nD 7 30 (.head _) (nD 8 31 (.head _) (nD 9 32 (.head _) (nD 10 33 (.head _) (nD 11 34 (.head _) (nD 12 35 (.head _) (aO 13 36 (vB true) (.head _) (aO 14 37 (vB true) (.head _) (nD 15 38 (.head _) (nD 16 39 (.head _) (nD 17 40 (.head _) (nD 18 41 (.head _) (aO 19 42 (vB true) (.head _) ?_)))))))))))));cases i;exact dU kr (qZ _ kr (K _ _ ⟨m6,rfl,q,g.f6.f6.f5.f5.f6.f6.f6,p,s,f,d,x⟩))
 rw[if_neg (not_true A)] at i;refine DJ (t:=28) (b:=false) (M !=V) kr A ?_;refine dI 29 4 6 29 0 (.agg (V2 y1.2 n o k l)) (.head _) (fun _ h=>h.2.2.1) (dI 29 5 7 30 0 (.agg (V2 c.2 y B z D)) (.head _) (fun _ h=>h.2.1) (dI 29 4 9 32 0 (.agg (V2 y1.2 n o k l)) (.head _) (fun _ h=>h.2.2.1) (dI 29 5 10 33 0 (.agg (V2 c.2 y B z D)) (.head _) (fun _ h=>h.2.1) (cA 8 kr (iC 31 i (fun _ h=>TI (p0:=y1.2) (p1:=c.2) g f d p s h) ?_)))));rintro y5 i _ b7 ⟨m7,rfl,u,g⟩;refine⟨_,rfl,?_⟩;have p:=p.mono u;have s:=s.mono u;have a:=Mem.le_trans a u;refine⟨⟨.inr ⟨Inv.anti g.inv a,Piece.holds_anti g.h a,Piece.holds_anti g.t.h a,trivial⟩,trivial⟩,?_⟩;refine cA 11 kr (iC 34 i (fun _ h=>qCz (p0:=y1.2) (p1:=c.2) g (f.mono u) (d.mono u) p s h) ?_);rintro H i _ b8 ⟨m8,rfl,v,g⟩;refine⟨_,rfl,?_⟩;have f:=(f.mono u).mono v;have d:=(d.mono u).mono v;have a:=Mem.le_trans a v;refine⟨⟨.inr ⟨Inv.anti g.inv a,Piece.holds_anti g.h a,Piece.holds_anti g.t.h a,trivial⟩,trivial⟩,?_⟩;refine aO 12 35 (vB (!(y5==H))) (.head _) (aO 13 36 (vB (!(y5==H))) (.head _) (aO 14 37 (vB (!(y5==H))) (.head _) ?_));rcases eN (!(y5==H)) with A|A
 .rw[if_pos A] at i;refine DJ (t:=37) (b:=true) (!(y5==H)) kr A ?_;refine nD 15 38 (.head _) (nD 16 39 (.head _) (nD 17 40 (.head _) (nD 18 41 (.head _) (aO 19 42 (vB true) (.head _) ?_))));cases i;exact dU kr (qZ _ kr (K _ _ ⟨m8,rfl,(q.t u).t v,g.f6.f6.f5.f5.f6.f6.f6,p.mono v,s.mono v,f,d,(x.mono u).mono v⟩))
 rw[if_neg (not_true A)] at i;refine DJ (t:=37) (b:=false) (!(y5==H)) kr A ?_;refine dI 29 4 15 38 0 (.agg (V2 y1.2 n o k l)) (.head _) (fun _ h=>h.2.2.1) (dI 29 4 16 39 0 (.agg (V2 y1.2 n o k l)) (.head _) (fun _ h=>h.2.2.1) (cA 17 kr (iC 40 i (fun _ h=>TI (p0:=y1.2) (p1:=y1.2) g f d f d h) ?_)));rintro Y i _ b9 ⟨m9,rfl,G,g⟩;refine⟨_,rfl,?_⟩;have a:=Mem.le_trans a G;refine⟨⟨.inr ⟨Inv.anti g.inv a,Piece.holds_anti g.h a,Piece.holds_anti g.t.h a,trivial⟩,trivial⟩,?_⟩;refine aO 18 41 (vB (!Y)) (.head _) (aO 19 42 (vB (!Y)) (.head _) ?_);cases i;exact dU kr (qZ _ kr (K _ _ ⟨m9,rfl,((q.t u).t v).t G,g.f6.f6.f5.f5.f6.f6.f6,(p.mono v).mono G,(s.mono v).mono G,f.mono G,d.mono G,((x.mono u).mono v).mono G⟩))
end
end Go.Proofs.YthbfjomffkpjdaaGreatDoor
section
namespace Go.Dc
theorem XM{σ β:Type}{f:σ->Option (σ⊕β)}(st:Nat->σ)(k:Nat)(res:β)(step:∀i,i<k->f (st i)=some (.inl (st (i+1))))(stop:f (st k)=some (.inr res)){N:Nat}(b:k<N):aI f N (st 0)=some res:=by
 have key:∀d i M,i+d=k->d<M->aI f M (st i)=some res:=by
  intro d
  induction d with
  |zero=>intro i M h a;obtain⟨M',rfl⟩:∃M',M=M'+1:=⟨M-1,by omega⟩;simp only[fA] at h;subst h;simp[aI,stop]
  |succ d c=>
   intro i M h a
   obtain⟨M',rfl⟩:∃M',M=M'+1:=⟨M-1,by omega⟩
   have:=c (i+1) M' (by omega) (by omega)
   simp[aI,step i (by omega),this]
 exact key k 0 N (by omega) b
section
variable {ν:Type}
theorem qFw{l:List (Int×ν)}{k c:Int}{v:ν}(h:c≠k):dR (l.map fun p=>if k=p.1 then(k,v) else p) c=dR l c:=by
 induction l with
 |nil=>rfl
 |cons p l a=>
  simp only[kG,dR]
  by_cases hk:k=p.1
  .subst hk;rw[if_pos rfl,if_neg h,if_neg h,a]
  rw[if_neg hk,a]
theorem qFj{l:List (Int×ν)}{k:Int}{v:ν}(h:(dR l k).isSome=true):dR (l.map fun p=>if k=p.1 then(k,v) else p) k=some v:=by
 induction l with
 |nil=>cases h
 |cons p l a=>
  simp only[kG,dR] at h ⊢
  by_cases hk:k=p.1
  .subst hk;simp
  rw[if_neg hk] at h ⊢
  rw[if_neg hk]
  exact a h
theorem qIq{l:List (Int×ν)}{k:Int}{v:ν}(h:dR l k=none)(c:Int):dR (mins l k v) c=if c=k then some v else dR l c:=by
 induction l with
 |nil=>rfl
 |cons p l a=>
  simp only[dR] at h
  split at h
  .cases h
  rename_i hk
  simp only[mins]
  split
  .simp only[dR]
  simp only[dR,a h]
  by_cases hc:c=k
  .subst hc;simp[hk]
  simp[hc]
theorem qHu(l:List (Int×ν))(k:Int)(v:ν)(c:Int):dR (mset l k v) c=if c=k then some v else dR l c:=by
 unfold mset
 split
 .rename_i h
  split
  .rename_i hc;subst hc;exact qFj h
  rename_i hc;exact qFw hc
 rename_i h
 exact qIq (by simpa using h) c
def Srt(l:List (Int×ν)):Prop:=(l.map (·.1)).Pairwise (· < ·)
theorem Srt.nil:Srt ([]:List (Int×ν)):=List.Pairwise.nil
theorem Srt.mins{l:List (Int×ν)}{k:Int}{v:ν}(d:Srt l)(h:dR l k=none):Srt (mins l k v):=by
 induction l with
 |nil=>simp[Srt,Go.Dc.mins]
 |cons p l f=>
  have hs':=d
  simp only[Srt,kG,fW] at d
  simp only[dR] at h
  split at h
  .cases h
  rename_i hk
  simp only[Go.Dc.mins]
  split
  .rename_i b
   have b:k<p.1:=by simpa[KOrd.lt] using b
   refine fW.2 ⟨fun a c=> ?_,hs'⟩
   simp only[kG,jR] at c
   rcases c with rfl|c
   .exact b
   exact Int.lt_trans b (d.1 a c)
  rename_i b
  have b:¬k<p.1:=by simpa[KOrd.lt] using b
  refine fW.2 ⟨fun a c=> ?_,f d.2 h⟩
  obtain⟨q,e,rfl⟩:=fT.1 c
  rcases jR.1 ((WJ l k v).mem_iff.1 e) with rfl|e
  .show p.1<k;omega
  exact d.1 _ (gY e)
theorem Srt.mset{l:List (Int×ν)}(a:Srt l)(k:Int)(v:ν):Srt (mset l k v):=by
 unfold Go.Dc.mset
 split
 .unfold Srt
  have:(l.map fun p=>if k=p.1 then(k,v) else p).map (·.1)=l.map (·.1):=by
   rw[List.map_map]
   refine List.map_congr_left fun p _=> ?_
   simp only[Function.comp_apply]
   split
   .rename_i h;exact h
   rfl
  rw[this];exact a
 rename_i h
 exact a.mins (by simpa using h)
theorem Srt.out{l:List (Int×ν)}{c:Int}(h:∀a∈l.map (·.1),c<a):dR l c=none:=by
 rw[OY];intro b;exact Int.lt_irrefl _ (h c b)
theorem Srt.ext:∀{l k:List (Int×ν)},Srt l->Srt k->(∀c,dR l c=dR k c)->l=k
 |[],[],_,_,_=>rfl
 |[],q::k,_,_,h=>by have:=h q.1;simp[dR] at this
 |p::l,[],_,_,h=>by have:=h p.1;simp[dR] at this
 |p::l,q::k,n,g,h=>by
  have hl':(∀a∈l.map (·.1),p.1<a)/\Srt l:=fW.1 n
  have hk':(∀a∈k.map (·.1),q.1<a)/\Srt k:=fW.1 g
  have e:p.1=q.1:=by
   rcases Int.lt_trichotomy p.1 q.1 with d|f|d
   .have:=h p.1
    rw[Srt.out (l:=q::k) (c:=p.1)] at this
    .simp[dR] at this
    intro a b
    rcases jR.1 b with rfl|b
    .exact d
    exact Int.lt_trans d (hk'.1 a b)
   .exact f
   have:=h q.1
   rw[Srt.out (l:=p::l) (c:=q.1)] at this
   .simp[dR] at this
   intro a b
   rcases jR.1 b with rfl|b
   .exact d
   exact Int.lt_trans d (hl'.1 a b)
  have d:p.2=q.2:=by have:=h p.1;simpa[dR,e] using this
  have f:l=k:=by
   refine Srt.ext hl'.2 hk'.2 fun c=> ?_
   by_cases hc:c=p.1
   .rw[Srt.out (l:=l) (fun a b=>hc▸hl'.1 a b),Srt.out (l:=k) (fun a b=>by rw[hc,e];exact hk'.1 a b)]
   have:=h c
   simpa[dR,hc,e▸hc] using this
  rw[f,Prod.ext e d]
def qU(v:ν)(m:List (Int×ν))(xs:List UInt8):List (Int×ν):=xs.foldl (fun m x=>mset m (x.toNat:Int) v) m
theorem VC{v:ν}:∀{xs:List UInt8} {m:List (Int×ν)},Srt m->Srt (qU v m xs)
 |[],_,h=>h
 |_::xs,_,h=>VC (xs:=xs) (h.mset _ _)
theorem VD{v:ν}(c:Int):∀(xs:List UInt8) (m:List (Int×ν)),dR (qU v m xs) c=if xs.any (fun x=>decide ((x.toNat:Int)=c))=true then some v else dR m c
 |[],m=>by simp[qU]
 |x::xs,m=>by
  have:=VD (v:=v) c xs (mset m (x.toNat:Int) v)
  rw[show qU v m (x::xs)=qU v (mset m (x.toNat:Int) v) xs from rfl,this,qHu]
  by_cases h1:xs.any (fun x=>decide ((x.toNat:Int)=c))=true
  .simp[h1]
  by_cases h2:(x.toNat:Int)=c
  .subst h2;simp[h1]
  have a:¬c=(x.toNat:Int):=fun e=>h2 e.symm
  simp[h1,h2,a]
end
end Go.Dc
namespace Go.Proofs.YthbfjomffkpjdaaGreatDoor
open Go Go.Dc
def allK:List (Int×BA):=[(1,⟨#[97,98,99,100,101,102,103,104,105,106,107,108,109,110,111,112,113,114,115,116,117,118,119,120,121,122]⟩),(2,⟨#[48,49,50,51,52,53,54,55,56,57]⟩),(3,⟨#[95]⟩),(4,⟨#[46]⟩),(5,⟨#[9,10,13,32]⟩),(6,⟨#[35]⟩),(7,⟨#[34]⟩),(8,⟨#[59,44,40,41,43,45,42,47,37,60,61]⟩)]
def kdL:List (Int×Int):=[(9,5),(10,5),(13,5),(32,5),(34,7),(35,6),(37,8),(40,8),(41,8),(42,8),(43,8),(44,8),(45,8),(46,4),(47,8),(48,2),(49,2),(50,2),(51,2),(52,2),(53,2),(54,2),(55,2),(56,2),(57,2),(59,8),(60,8),(61,8),(95,3),(97,1),(98,1),(99,1),(100,1),(101,1),(102,1),(103,1),(104,1),(105,1),(106,1),(107,1),(108,1),(109,1),(110,1),(111,1),(112,1),(113,1),(114,1),(115,1),(116,1),(117,1),(118,1),(119,1),(120,1),(121,1),(122,1)]
def tG(c:Int):Int:=(dR kdL c).getD 0
def uI(e:Int×BA)(c:Int):Bool:=e.2.data.toList.any fun x=>decide ((x.toNat:Int)=c)
def xB(m:List (Int×Int))(k:List (Int×BA)):List (Int×Int):=k.foldl (fun m e=>qU e.1 m e.2.data.toList) m
theorem XD:∀{k:List (Int×BA)} {m:List (Int×Int)},Srt m->Srt (xB m k)
 |[],_,h=>h
 |_::k,_,h=>XD (k:=k) (VC h)
theorem XV(c:Int):∀(k:List (Int×BA)) (m:List (Int×Int)),(∀e∈k,uI e c=true->e.1=tG c)->(∀v,dR m c=some v->v=tG c)->
  dR (xB m k) c=if(k.any fun e=>uI e c)=true then some (tG c) else dR m c
 |[],m,_,_=>by simp[xB]
 |e::k,m,h,f=>by
  have b:=VD (v:=e.1) c e.2.data.toList m
  have:=XV c k (qU e.1 m e.2.data.toList) (fun e' d=>h e' (jK _ d)) (fun v a=>by
   rw[b] at a
   split at a
   .rename_i hi
    rw[<-jG a]
    exact h e (jH ..) hi
   exact f v a)
  rw[show xB m (e::k)=xB (qU e.1 m e.2.data.toList) k from rfl,this,b]
  by_cases h1:(k.any fun e=>uI e c)=true
  .simp[h1]
  by_cases h2:uI e c=true
  .have:=h e (jH ..) h2
   have h2':(e.2.data.toList.any fun x=>decide ((x.toNat:Int)=c))=true:=h2
   simp only[fI,h2,Bool.true_or,jJ,h1,h2',this]
   simp
  have h2':(e.2.data.toList.any fun x=>decide ((x.toNat:Int)=c))=false:=by simpa[uI] using h2
  simp only[fI,h1,h2',Bool.or_false,jB,jI]
  simp[h2]
theorem XL:(allK.all fun e=>e.2.data.toList.all fun x=>decide (e.1=tG (x.toNat:Int)))=true/\(kdL.all fun p=>allK.any fun e=>uI e p.1)=true:=⟨by kernel_rfl,by kernel_rfl⟩
theorem qAq{e:Int×BA}{c:Int}(d:e∈allK)(h:uI e c=true):e.1=tG c:=by
 have:=kE.1 XL.1 e d
 obtain⟨x,f,a⟩:=fD.1 h
 have b:=kE.1 this x f
 have a:(x.toNat:Int)=c:=by simpa using a
 subst a
 simpa using b
theorem qLs(c:Int):dR kdL c=if(allK.any fun e=>uI e c)=true then some (tG c) else none:=by
 cases h:dR kdL c with
 |none=>
  rw[if_neg]
  intro f
  obtain⟨e,a,hi⟩:=fD.1 f
  have d:=qAq a hi
  have b:tG c=0:=by simp[tG,h]
  have:(allK.all fun e=>decide (e.1≠0))=true:=by kernel_rfl
  have:=kE.1 this e a
  simp[d,b] at this
 |some v=>
  have a:(c,v)∈kdL:=(PN (l:=kdL) (by
   have:decide ((kdL.map (·.1)).Nodup)=true:=by kernel_rfl
   simpa using this)).1 h
  have:=kE.1 XL.2 _ a
  rw[if_pos this]
  simp[tG,h]
theorem qMm:Srt kdL:=by
 have:decide ((kdL.map (·.1)).Pairwise (· < ·))=true:=by kernel_rfl
 simpa[Srt] using this
theorem qIn{k:List (Int×BA)}(h:k.Perm allK):xB [] k=kdL:=by
 refine Srt.ext (XD Srt.nil) qMm fun c=> ?_
 rw[XV c k [] (fun e a hi=>qAq (h.mem_iff.1 a) hi) (fun v b=>by cases b),qLs]
 have:(k.any fun e=>uI e c)=(allK.any fun e=>uI e c):=by
  rw[kK,fD,fD]
  exact⟨fun⟨e,a,hi⟩=>⟨e,h.mem_iff.1 a,hi⟩,fun⟨e,a,hi⟩=>⟨e,h.mem_iff.2 a,hi⟩⟩
 rw[this]
 rfl
theorem qKo{N:Nat}{e:Int×BA}(m:List (Int×Int))(d:e.2.size<=26)(c:30<N):tL N (some e) (some m)=some (.inl (some (qU e.1 m e.2.data.toList))):=by
 have b:e.2.data.toList.length=e.2.size:=by simp
 have a:bytesOf e.2=some e.2.data.toList:=by unfold bytesOf;rw[if_pos (by simp only[maxLen];omega)]
 simp only[tL,a,j0]
 have key:=XM (f:=CD N e e.2.data.toList) (fun i=>((i:Int),some (qU e.1 m (e.2.data.toList.take i)))) e.2.data.toList.length (some (qU e.1 m e.2.data.toList)) (fun i hi=> ?_) ?_ (N:=N) (by omega)
 .simp only[Int.natCast_zero,List.take_zero] at key
  rw[show qU e.1 m []=m from rfl] at key
  rw[key];rfl
 .simp only[CD]
  rw[if_pos (by simpa using hi),dM hi]
  simp only[j0,iM,gO]
  rw[bX (by omega) (by omega),gH hi]
  simp[qU]
 simp only[CD]
 rw[if_neg (by simp),gT]
theorem UQ{N:Nat}(a:30<N):∀(k:List (Int×BA)) (m:List (Int×Int)),(∀e∈k,e.2.size<=26)->iU (tL N) k (some m)=some (some (xB m k))
 |[],m,_=>by simp[iU,tL,xB]
 |e::k,m,h=>by
  have:=UQ a k (qU e.1 m e.2.data.toList) (fun e' b=>h e' (jK _ b))
  simp only[iU,qKo m (h e (jH ..)) a,j0,this]
  rfl
theorem PU{N:Nat}(d:30<N):yS N=some (some kdL):=by
 have c:∀e∈allK,e.2.size<=26:=by
  have:(allK.all fun e=>decide (e.2.size<=26))=true:=by kernel_rfl
  intro e a
  simpa using kE.1 this e a
 have key:vF (tL N) allK (some [])=some (some kdL):=qHw fun k b=>by
  rw[UQ d k [] (fun e a=>c e (b.mem_iff.1 a)),qIn b]
 have a:yS N=(vF (tL N) allK (some [])).bind fun f=>some f:=by kernel_rfl
 rw[a,key];rfl
end Go.Proofs.YthbfjomffkpjdaaGreatDoor
end
namespace Go.Proofs.YthbfjomffkpjdaaGreatDoor
section
open Go Go.Dc
theorem lE(s:BA):s.data.toList.length=s.size:=by simp
theorem oC{s:BA}{i:Nat}(h:i<s.data.toList.length):eK s (i:Int)=some (s.data.toList[i]):=by
 have h':i<s.size:=by simpa using h
 rw[qIv h']
 simp[ByteArray.getElem_eq_getElem_data]
def tw(p:UInt8->Bool)(l:List UInt8)(a:Nat):Nat:=a+((l.drop a).takeWhile p).length
section
variable {p:UInt8->Bool} {l:List UInt8} {a:Nat}
theorem rS(h:a<=l.length):a<=tw p l a/\tw p l a<=l.length:=by
 have:=(List.takeWhile_sublist p (l:=l.drop a)).length_le
 simp only[kW] at this
 unfold tw;omega
theorem HP(h:a<l.length)(b:p l[a]=true):tw p l (a+1)=tw p l a:=by
 unfold tw
 rw[kH h,gN b]
 simp only[jD];omega
theorem HO(h:a<l.length)(b:p l[a]=false):tw p l a=a:=by
 unfold tw
 rw[kH h,gV (by simp[b])]
 simp
theorem RP(h:l.length<=a):tw p l a=a:=by
 unfold tw
 rw[jW h];rfl
theorem DE{β:Type}{f:Int->Option (Int⊕β)}(out:Nat->β)(go:∀i:Nat,∀h:i<l.length,p l[i]=true->f (i:Int)=some (.inl ((i:Int)+1)))
  (no:∀i:Nat,∀h:i<l.length,p l[i]=false->f (i:Int)=some (.inr (out i))) (en:f (l.length:Int)=some (.inr (out l.length))):
  ∀(d a N:Nat),a+d=l.length->d<N->aI f N (a:Int)=some (out (tw p l a))
 |d,a,0,_,h=>by omega
 |0,a,N+1,c,h=>by
  have:a=l.length:=by omega
  subst this
  rw[RP (jT _)];simp[aI,en]
 |d+1,a,N+1,c,h=>by
  have b:a<l.length:=by omega
  cases hb:p l[a] with
  |true=>
   have:=DE out go no en d (a+1) N (by omega) (by omega)
   rw[HP b hb] at this
   simpa[aI,go a b hb] using this
  |false=>
   rw[HO b hb];simp[aI,no a b hb]
end
def kd(c:UInt8):Int:=tG (c.toNat:Int)
def bT(ks:List Int)(c:UInt8):Bool:=ks.any fun k=>kd c==k
theorem UM{N:Nat}{s:BA}{ks:List Int}{i:Nat}(h:i<s.data.toList.length)(c:ks.length<=10)(b:10<N):aI (yN N s (some kdL) ks (i:Int)) N (false,0)=some (bT ks (s.data.toList[i])):=by
 have key:=XM (f:=yN N s (some kdL) ks (i:Int)) (fun j=>((ks.take j).any (fun k=>kd (s.data.toList[i])==k),(j:Int))) ks.length (bT ks (s.data.toList[i])) (fun j a=> ?_) ?_ (N:=N) (by omega)
 .simpa using key
 .simp only[yN]
  rw[if_pos (by simpa using a),dM a,oC h]
  simp only[j0]
  rw[bX (by omega) (by omega),gH a,List.any_append]
  cases(ks.take j).any (fun k=>kd (s.data.toList[i])==k)
  .simp[kd,tG,dJ]
  simp
 simp only[yN]
 rw[if_neg (by simp),gT]
 rfl
theorem ZK{N:Nat}{s:BA}{ks:List Int}{i:Nat}(hi:i<=s.data.toList.length)(e:s.data.toList.length<1000000)(c:ks.length<=10)(d:s.data.toList.length+10<N):
  tP N s (i:Int) (some kdL) ks=some ((tw (bT ks) s.data.toList i:Nat):Int):=by
 have g:=lE s
 have key:=DE (f:=yP N s (some kdL) ks) (l:=s.data.toList) (p:=bT ks) (fun n=>(n:Int)) (fun j b a=>by
   simp only[yP]
   rw[if_pos (by simp only[jA];omega),UM b c (by omega),a]
   simp only[j0]
   rw[bX (by omega) (by omega)]
   rfl) (fun j b a=>by
   simp only[yP]
   rw[if_pos (by simp only[jA];omega),UM b c (by omega),a]
   rfl) (by
   simp only[yP]
   rw[if_neg (by simp only[jA];omega)]) (s.data.toList.length-i) i N (by omega) (by omega)
 unfold tP
 rw[key]
 rfl
theorem qNr(c:UInt8):(dJ (some kdL) (c.toNat:Int)).getD 0=kd c:=rfl
theorem pE{l:List UInt8}{i:Nat}(h:i<l.length):l.getD i 0=l[i]:=by simp[kA,h]
def AI(n:Int)(c:UInt8):Int:=if 9007199254740993<10*n+((c.toNat:Int)-48) then 9007199254740993 else 10*n+((c.toNat:Int)-48)
def sL(ds:List UInt8):Int:=ds.foldl AI 0
def nC(c:UInt8):Bool:=decide (32<=c.toNat)&&decide (c.toNat<=126)&&c !=34
def AG:Int×BA×Int×Int:=(0,⟨#[]⟩,0,0)
def tB(l:List UInt8)(i:Nat):Nat:=if l.getD i 0=61/\l.getD (i+1) 0=61 then i+2 else i+1
def eP(s:BA)(i:Nat):(Int×BA×Int×Int)×Int×Int:=
 if kd (s.data.toList.getD i 0)=1 then
  if tw (bT [1,2,3]) s.data.toList i-i>24 then(AG,0,2) else((1,s.extract i (tw (bT [1,2,3]) s.data.toList i),0,0),((tw (bT [1,2,3]) s.data.toList i:Nat):Int),0)
 else if kd (s.data.toList.getD i 0)=2 then
  if sL ((s.data.toList.drop i).takeWhile (bT [2]))>9007199254740992 then(AG,0,3) else((2,⟨#[]⟩,sL ((s.data.toList.drop i).takeWhile (bT [2])),0),((tw (bT [2]) s.data.toList i:Nat):Int),0)
 else if kd (s.data.toList.getD i 0)=7 then
  if s.data.toList.getD (tw nC s.data.toList (i+1)) 0=34 then((3,s.extract (i+1) (tw nC s.data.toList (i+1)),0,0),((tw nC s.data.toList (i+1)+1:Nat):Int),0) else(AG,0,9)
 else if kd (s.data.toList.getD i 0)=8 then
  ((4,s.extract i (tB s.data.toList i),0,0),((tB s.data.toList i:Nat):Int),0)
 else(AG,0,9)
theorem qJw:∀c:UInt8,kd c=2->48<=c.toNat/\c.toNat<=57:=by
 have h:((List.range 256).all fun n=> !(decide (kd (UInt8.ofNat n)=2))||(decide (48<=n)&&decide (n<=57)))=true:=by kernel_rfl
 intro c a
 have:=kE.1 h c.toNat (hB.2 c.toNat_lt)
 simpa[a] using this
theorem WK(l:List UInt8)(c:UInt8):sL (l++[c])=AI (sL l) c:=by simp[sL]
theorem RM{p:UInt8->Bool}:∀{l:List UInt8} {c:UInt8},c∈l.takeWhile p->p c=true
 |[],_,h=>by simp at h
 |x::l,c,h=>by
  cases hx:p x with
  |true=>
   rw[gN hx] at h
   rcases jR.1 h with rfl|h
   .exact hx
   exact RM h
  |false=>rw[gV (by simp[hx])] at h;cases h
theorem HF{s:BA}{i e:Nat}(a:i<=e)(b:e<=s.data.toList.length):mT s (i:Int) (e:Int)=some (s.extract i e):=by
 have:=lE s
 rw[WM (by omega) (by omega) (by omega)]
 simp
theorem qHi{s:BA}{i:Nat}(a:i<=s.data.toList.length):mT s (i:Int) (s.size:Int)=some (s.extract i s.data.toList.length):=by
 have b:=lE s
 rw[<-HF a (jT _),b]
theorem iY(x y:BA):(x.toList==y.toList)=decide (x=y):=by
 rw[kK]
 simp only[kN,jA]
 constructor
 .intro h
  rw[ByteArray.toList_eq,ByteArray.toList_eq] at h
  exact Go.WideShapes.bytes_inj h
 rintro rfl;rfl
theorem qAe{p:UInt8->Bool}{l:List UInt8}(h:∀c∈l,p c=true):tw p l 0=l.length:=by
 unfold tw
 have:l.takeWhile p=l:=by
  induction l with
  |nil=>rfl
  |cons c l b=>rw[gN (h c (jH ..)),b fun d a=>h d (jK _ a)]
 simp[this]
abbrev bQ:=Int×BA×Int×Int
theorem XK{ks:List Int}{k:Int}{c:UInt8}(a:k∈ks)(h:kd c=k):bT ks c=true:=by
 unfold bT;exact fD.2 ⟨k,a,by simp[h]⟩
theorem DK{p:UInt8->Bool}{l:List UInt8}{a:Nat}(h:a<l.length)(b:p l[a]=true):a<tw p l a:=by
 rw[<-HP h b];have:=(rS (p:=p) (l:=l) (a:=a+1) (by omega)).1;omega
theorem HI{l:List UInt8}{i:Nat}(h:l.getD i 0≠0):i<l.length:=by
 rcases fR i l.length with h'|h'
 .exact h'
 exfalso;apply h;rw[kA,List.getElem?_eq_none h'];rfl
theorem QG{s:BA}{i:Nat}(hi:i<s.data.toList.length)(h:(eP s i).2.2=0):∃e:Nat,(eP s i).2.1=(e:Int)/\i<e/\e<=s.data.toList.length/\
  (((eP s i).1.1=1\/(eP s i).1.1=4)/\(eP s i).1.2.1=s.extract i e\/(eP s i).1.1=2/\(eP s i).1.2.1=⟨#[]⟩\/(eP s i).1.1=3/\(eP s i).1.2.1.size+i<e):=by
 have d:=lE s
 unfold eP at h ⊢
 rw[pE hi] at h ⊢
 by_cases h1:kd (s.data.toList[i])=1
 .rw[if_pos h1] at h ⊢
  split at h
  .cases h
  rename_i h24
  rw[if_neg h24]
  have b:=rS (p:=bT [1,2,3]) (l:=s.data.toList) (a:=i) (by omega)
  exact⟨_,rfl,DK hi (XK (by simp) h1),b.2,.inl ⟨.inl rfl,rfl⟩⟩
 rw[if_neg h1] at h ⊢
 by_cases h2:kd (s.data.toList[i])=2
 .rw[if_pos h2] at h ⊢
  split at h
  .cases h
  rename_i h24
  rw[if_neg h24]
  have b:=rS (p:=bT [2]) (l:=s.data.toList) (a:=i) (by omega)
  exact⟨_,rfl,DK hi (XK (by simp) h2),b.2,.inr (.inl ⟨rfl,rfl⟩)⟩
 rw[if_neg h2] at h ⊢
 by_cases h7:kd (s.data.toList[i])=7
 .rw[if_pos h7] at h ⊢
  split at h
  .rename_i h24
   rw[if_pos h24]
   have b:=rS (p:=nC) (l:=s.data.toList) (a:=i+1) (by omega)
   have c:tw nC s.data.toList (i+1)<s.data.toList.length:=HI (by rw[h24];decide)
   refine⟨_,rfl,by omega,by omega,.inr (.inr ⟨rfl,?_⟩)⟩
   simp only[ByteArray.size_extract]
   omega
  cases h
 rw[if_neg h7] at h ⊢
 by_cases h8:kd (s.data.toList[i])=8
 .rw[if_pos h8] at h ⊢
  refine⟨_,rfl,?_,?_,.inl ⟨.inr rfl,rfl⟩⟩
  .unfold tB;split<;>omega
  unfold tB
  split
  .rename_i hh
   have:i+1<s.data.toList.length:=HI (by rw[hh.2];decide)
   omega
  omega
 rw[if_neg h8] at h
 cases h
def mQ(c:UInt8):Bool:=c !=10
def mE:Nat->BA->Nat->(Int×Int)⊕List bQ
 |0,_,_=> .inr []
 |k+1,s,i=>
  if tw (bT [5]) s.data.toList i=s.data.toList.length then .inr [(5,⟨#[]⟩,0,(s.data.toList.length:Int))]
  else if kd (s.data.toList.getD (tw (bT [5]) s.data.toList i) 0)=6 then mE k s (tw mQ s.data.toList (tw (bT [5]) s.data.toList i))
  else if(eP s (tw (bT [5]) s.data.toList i)).2.2≠0 then .inl ((tw (bT [5]) s.data.toList i:Nat),(eP s (tw (bT [5]) s.data.toList i)).2.2)
  else match mE k s (eP s (tw (bT [5]) s.data.toList i)).2.1.toNat with
   | .inl x=> .inl x
   | .inr r=> .inr (((eP s (tw (bT [5]) s.data.toList i)).1.1,(eP s (tw (bT [5]) s.data.toList i)).1.2.1,(eP s (tw (bT [5]) s.data.toList i)).1.2.2.1,((tw (bT [5]) s.data.toList i:Nat):Int))::r)
def wY(acc:List bQ):(Int×Int)⊕List bQ->List bQ×Int×Int
 | .inl x=>([],x.1,x.2)
 | .inr r=>(acc++r,0,0)
def oU(s:BA):List bQ×Int×Int:=if s.data.toList.length>16384 then([],0,2) else wY [] (mE (s.data.toList.length+1) s 0)
def xC(t:bQ):Int:=t.2.2.2+(t.2.1.size:Int)+(if t.1=2 then 1 else 0)
def RQ(s:BA):Int->List bQ->Prop
 |_,[]=>True
 |e,t::r=>e<=t.2.2.2/\t.2.2.2+(t.2.1.size:Int)<=s.size/\(t.1=5↔r=[])/\(t.1=1\/t.1=4->s.extract t.2.2.2.toNat (t.2.2.2+(t.2.1.size:Int)).toNat=t.2.1/\0<t.2.1.size)/\RQ s (xC t) r
theorem OE{s:BA}:∀(k i:Nat) (e:Int) (r:List bQ),i<=s.data.toList.length->s.data.toList.length<i+k->e<=i->mE k s i= .inr r->RQ s e r/\r≠[]/\r.length<=s.data.toList.length+1-i
 |0,i,e,r,A,G,H,c=>by omega
 |k+1,i,e,r,A,G,H,c=>by
  have M:=lE s
  have K:=rS (p:=bT [5]) (l:=s.data.toList) (a:=i) A
  simp only[mE] at c
  generalize hE:tw (bT [5]) s.data.toList i=a at K c
  split at c
  .obtain rfl:=(Sum.inr.inj c).symm
   refine⟨⟨by show e<=(s.data.toList.length:Int);omega,by show(s.data.toList.length:Int)+((0:Nat):Int)<=_;omega,by simp,fun h=>by simp at h,trivial⟩,by simp,by simp;omega⟩
  rename_i he
  have o:a<s.data.toList.length:=by omega
  split at c
  .rename_i h6
   have u:=rS (p:=mQ) (l:=s.data.toList) (a:=a) (by omega)
   have d:=DK (p:=mQ) o (by
    rw[pE o] at h6
    simp only[mQ,fY,ne_eq]
    intro e;rw[e] at h6;exact absurd h6 (by decide))
   obtain⟨v,y,F⟩:=OE k _ e r u.2 (by omega) (by omega) c
   exact⟨v,y,by omega⟩
  split at c
  .cases c
  rename_i h0
  obtain⟨b,B,u,D,E⟩:=QG o (by simpa using h0)
  rw[B,jS] at c
  generalize (eP s a).1=t at c E
  cases z:mE k s b with
  |inl x=>rw[z] at c;cases c
  |inr q=>
   rw[z] at c
   obtain rfl:=(Sum.inr.inj c).symm
   have g:(s.extract a b).size=b-a:=by rw[ByteArray.size_extract];omega
   have f:xC (t.1,t.2.1,t.2.2.1,(a:Int))<=b/\(a:Int)+(t.2.1.size:Int)<=b/\t.1≠5/\(t.1=1\/t.1=4->t.2.1=s.extract a b):=by
    rcases E with ⟨n,d⟩|⟨n,d⟩|⟨n,d⟩
    .refine⟨?_,?_,by omega,fun _=>d⟩
     .simp only[xC,d,g];rw[if_neg (by omega)];omega
     rw[d,g];omega
    .have:(⟨#[]⟩:BA).size=0:=rfl
     refine⟨?_,?_,by omega,fun h=>by omega⟩
     .simp only[xC,d,this];rw[if_pos n];omega
     rw[d,this];omega
    refine⟨?_,by omega,by omega,fun h=>by omega⟩
    simp only[xC];rw[if_neg (by omega)];omega
   obtain⟨v,y,F⟩:=OE k b (xC (t.1,t.2.1,t.2.2.1,(a:Int))) q D (by omega) f.1 z
   refine⟨⟨by show e<=(a:Int);omega,?_,?_,?_,v⟩,by simp,by simp only[jD];omega⟩
   .show(a:Int)+(t.2.1.size:Int)<=_;omega
   .exact⟨fun h=>absurd h f.2.2.1,fun h=>absurd h y⟩
   intro h
   have:=f.2.2.2 h
   show s.extract (Int.toNat (a:Int)) ((a:Int)+(t.2.1.size:Int)).toNat=t.2.1/\0<t.2.1.size
   rw[this,g,jS,show((a:Int)+((b-a:Nat):Int)).toNat=b by omega]
   exact⟨rfl,by omega⟩
theorem PE{s:BA}:∀(k i:Nat) (x:Int×Int),i<=s.data.toList.length->s.data.toList.length<i+k->mE k s i= .inl x->0<=x.1/\x.1<=s.size/\x.2≠0
 |0,i,x,h,r,c=>by omega
 |k+1,i,x,h,r,c=>by
  have v:=lE s
  have t:=rS (p:=bT [5]) (l:=s.data.toList) (a:=i) h
  simp only[mE] at c
  generalize hE:tw (bT [5]) s.data.toList i=a at t c
  split at c
  .cases c
  rename_i he
  have d:a<s.data.toList.length:=by omega
  split at c
  .rename_i h6
   have f:=rS (p:=mQ) (l:=s.data.toList) (a:=a) (by omega)
   have g:=DK (p:=mQ) d (by
    rw[pE d] at h6
    simp only[mQ,fY,ne_eq]
    intro e;rw[e] at h6;exact absurd h6 (by decide))
   exact PE k _ x f.2 (by omega) c
  split at c
  .rename_i h0
   obtain rfl:=Sum.inl.inj c
   exact⟨by simp only;omega,by simp only;omega,h0⟩
  rename_i h0
  obtain⟨b,n,f,o,u⟩:=QG d (by simpa using h0)
  rw[n,jS] at c
  cases g:mE k s b with
  |inl y=>rw[g] at c;obtain rfl:=Sum.inl.inj c;exact PE k b y o (by omega) g
  |inr q=>rw[g] at c;cases c
theorem wX{p:UInt8->Bool}(h:((List.range 256).all fun n=>p (UInt8.ofNat n))=true)(c:UInt8):p c=true:=by
 have:=kE.1 h c.toNat (hB.2 c.toNat_lt)
 simpa using this
theorem PC{N:Nat}(c:UInt8):yE N (c.toNat:Int)=some (kd c==1):=by
 have h:=wX (p:=fun c=>(decide (97<=c.toNat)&&decide (c.toNat<=122))==(kd c==1)) (by kernel_rfl) c
 rw[kN] at h
 rw[<-h]
 unfold yE
 by_cases h1:97<=c.toNat
 .rw[if_pos (by simp only[jA];omega)]
  simp only[h1,decide_true,gF,j0]
  congr 1
  exact decide_eq_decide.2 (by omega)
 rw[if_neg (by simp only[jA];omega)]
 simp[h1]
theorem HH{N:Nat}(c:UInt8):wG N (c.toNat:Int)=some (bT [1,2,3] c):=by
 have h:=wX (p:=fun c=>(kd c==1||(decide (48<=c.toNat)&&decide (c.toNat<=57)||decide (c.toNat=95)))==bT [1,2,3] c) (by kernel_rfl) c
 rw[kN] at h
 rw[<-h]
 unfold wG
 rw[PC]
 simp only[j0]
 cases kd c==1
 .have a:((c.toNat:Int)==95)=decide (c.toNat=95):=by rw[kK,kN,jA];omega
  simp only[jB,jI,kX,a]
  by_cases h1:48<=c.toNat
  .by_cases h2:c.toNat<=57
   .rw[if_pos (by simp only[jA];omega),if_pos (by simp only[jA];omega)];simp[h1,h2]
   rw[if_pos (by simp only[jA];omega),if_neg (by simp only[jA];omega)];simp[h2]
  rw[if_neg (by simp only[jA];omega)];simp[h1]
 rfl
theorem OP(c:UInt8):kd c=2↔48<=c.toNat/\c.toNat<=57:=by
 have h:=wX (p:=fun c=>(kd c==2)==(decide (48<=c.toNat)&&decide (c.toNat<=57))) (by kernel_rfl) c
 rw[kN,kK] at h
 simpa using h
theorem VU(c:UInt8):kd c=7↔c=34:=by
 have h:=wX (p:=fun c=>(kd c==7)==(c==34)) (by kernel_rfl) c
 rw[kN,kK] at h
 simpa using h
def signs:List UInt8:=[59,44,40,41,43,45,42,47,37,60,61]
theorem XG(c:UInt8):kd c=8↔signs.contains c=true:=by
 have h:=wX (p:=fun c=>(kd c==8)==signs.contains c) (by kernel_rfl) c
 rw[kN,kK] at h
 simpa using h
theorem qHs(c:UInt8):bT [5] c=true↔c.toNat=32\/c.toNat=9\/c.toNat=10\/c.toNat=13:=by
 have h:=wX (p:=fun c=>bT [5] c==(decide (c.toNat=32)||(decide (c.toNat=9)||(decide (c.toNat=10)||decide (c.toNat=13))))) (by kernel_rfl) c
 rw[kN,kK] at h
 simpa using h
theorem qFy(c:UInt8):kd c=6↔c.toNat=35:=by
 have h:=wX (p:=fun c=>(kd c==6)==decide (c.toNat=35)) (by kernel_rfl) c
 rw[kN,kK] at h
 simpa using h
def oX(n:Int)(c:UInt8):Int:=if n<=9007199254740992 then n*10+((c.toNat:Int)-48) else n
theorem qHq(l:List UInt8)(c:UInt8):(l++[c]).foldl oX 0=oX (l.foldl oX 0) c:=by simp
theorem YK:∀(n:Nat) (ds:List UInt8),ds.length=n->(∀c∈ds,kd c=2)->0<=ds.foldl oX 0/\ds.foldl oX 0<=90071992547409930/\sL ds=if ds.foldl oX 0>9007199254740992 then 9007199254740993 else ds.foldl oX 0
 |0,ds,h,_=>by obtain rfl:=gB.1 h;simp[sL]
 |n+1,ds,h,k=>by
  obtain⟨l,c,rfl⟩:∃l c,ds=l++[c]:=by
   rcases fX ds with e|⟨l,c,e⟩
   .rw[e] at h;cases h
   exact⟨l,c,by simpa using e⟩
  obtain⟨d,f,a⟩:=YK n l (by simpa using h) (fun c g=>k c (kD _ g))
  have g:=qJw c (k c (by simp))
  rw[qHq,WK]
  by_cases hu:l.foldl oX 0<=9007199254740992
  .rw[if_neg (by omega)] at a
   rw[a]
   generalize l.foldl oX 0=u at d f hu
   have b:oX u c=u*10+((c.toNat:Int)-48):=if_pos hu
   rw[b]
   unfold AI
   refine⟨by omega,by omega,?_⟩
   by_cases h4:9007199254740993<10*u+((c.toNat:Int)-48)
   .rw[if_pos h4,if_pos (by omega)]
   rw[if_neg h4]
   by_cases h5:u*10+((c.toNat:Int)-48)>9007199254740992
   .rw[if_pos h5];omega
   rw[if_neg h5];omega
  rw[if_pos (by omega)] at a
  rw[a]
  generalize l.foldl oX 0=u at d f hu
  have b:oX u c=u:=if_neg hu
  have o:AI 9007199254740993 c=9007199254740993:=if_pos (by omega)
  rw[b,o,if_pos (by omega)]
  exact⟨d,f,rfl⟩
theorem qBg(c:UInt8):bT [2] c=decide (48<=c.toNat/\c.toNat<=57):=by
 rw[kK,jA,<-OP];simp[bT]
theorem UF{N:Nat}{s:BA}:∀(d i M:Nat) (n:Int),i+d=s.data.toList.length->s.data.toList.length<1000000->d<M->0<=n->n<=90071992547409930->
  aI (BH N s) M ((i:Int),n)=some (((tw (bT [2]) s.data.toList i:Nat):Int),((s.data.toList.drop i).takeWhile (bT [2])).foldl oX n)
 |d,i,0,n,_,_,h,_,_=>by omega
 |0,i,M+1,n,c,b,e,f,g=>by
  have l:=lE s
  rw[RP (by omega),jW (by omega)]
  simp only[aI,BH]
  rw[if_neg (by simp only[jA];omega)]
  rfl
 |d+1,i,M+1,n,c,b,e,f,g=>by
  have l:=lE s
  have hi:i<s.data.toList.length:=by omega
  simp only[aI,BH]
  rw[if_pos (by simp only[jA];omega),oC hi]
  simp only[j0]
  have k:(if decide (((s.data.toList[i]).toNat:Int)>=48)=true then some (decide (((s.data.toList[i]).toNat:Int)<=57)) else some false)=some (bT [2] (s.data.toList[i])):=by
   rw[qBg]
   by_cases h48:48<=(s.data.toList[i]).toNat
   .rw[if_pos (by simp only[jA];omega)];congr 1;exact decide_eq_decide.2 (by omega)
   rw[if_neg (by simp only[jA];omega)];congr 1;exact(jX (by omega)).symm
  rw[k]
  simp only[j0]
  rw[kH hi]
  cases hb:bT [2] (s.data.toList[i]) with
  |false=>
   rw[HO hi hb,gV (by rw[hb];exact kJ)]
   rfl
  |true=>
   have o:48<=(s.data.toList[i]).toNat/\(s.data.toList[i]).toNat<=57:=by rw[qBg] at hb;simpa using hb
   rw[<-HP hi hb,gN hb,List.foldl_cons,if_pos rfl]
   have a:(if decide (n<=9007199254740992)=true then some (IntKind.wrap .i64 (IntKind.wrap .i64 (n*10)+IntKind.wrap .i64 (IntKind.wrap .u8 (((s.data.toList[i]).toNat:Int)-48)))) else some n)=some (oX n (s.data.toList[i])):=by
    unfold oX
    by_cases a:n<=9007199254740992
    .rw[if_pos (by simpa using a),if_pos a,wu8 (by omega) (by omega),bX (x:=n*10) (by omega) (by omega),bX (x:=((s.data.toList[i]).toNat:Int)-48) (by omega) (by omega),bX (by omega) (by omega)]
    rw[if_neg (by simpa using a),if_neg a]
   rw[a]
   simp only[j0]
   rw[bX (by omega) (by omega),<-fF]
   exact UF d (i+1) M _ (by omega) b (by omega) (by unfold oX;split<;>omega) (by unfold oX;split<;>omega)
theorem YB(c:UInt8):(if decide ((c.toNat:Int)>=32)=true then(if decide ((c.toNat:Int)<=126)=true then some ((c.toNat:Int) !=34) else some false) else some false)=some (nC c):=by
 unfold nC
 by_cases h1:32<=c.toNat
 .rw[if_pos (by simp only[jA];omega)]
  by_cases h2:c.toNat<=126
  .rw[if_pos (by simp only[jA];omega)]
   simp only[h1,h2,decide_true,gF]
   congr 1
   rw[kK,fY,fY]
   exact⟨fun h e=>h (by rw[e];rfl),fun h e=>h (UInt8.toNat_inj.1 (by show _=34;omega))⟩
  rw[if_neg (by simp only[jA];omega)];simp[h2]
 rw[if_neg (by simp only[jA];omega)];simp[h1]
theorem qFc{N:Nat}{s:BA}(d i M:Nat)(c:i+d=s.data.toList.length)(h:s.data.toList.length<1000000)(g:d<M):aI (wA N s) M (i:Int)=some ((tw nC s.data.toList i:Nat):Int):=by
 have k:=lE s
 refine DE (f:=wA N s) (l:=s.data.toList) (p:=nC) (fun e=>(e:Int)) (fun j b a=> ?_) (fun j b a=> ?_) ?_ d i M c g
 .simp only[wA]
  rw[if_pos (by simp only[jA];omega),oC b]
  simp only[j0,YB,a]
  rw[if_pos trivial,bX (by omega) (by omega)]
 .simp only[wA]
  rw[if_pos (by simp only[jA];omega),oC b]
  simp only[j0,YB,a]
  rfl
 simp only[wA]
 rw[if_neg (by simp only[jA];omega)]
 rfl
theorem qAh{N:Nat}{s:BA}{p1 a:Int}:FG N s p1 a=if(decide (a<(signs.length:Int)))=true then((idx signs a).bind fun b=>(eK s p1).bind fun c=>if((c.toNat:Int)==(b.toNat:Int))=true then((mT s p1 (IntKind.wrap .i64 (p1+1))).bind fun d=>some (.inr (.inr (((4,d,0,p1),IntKind.wrap .i64 (p1+1),0))))) else(some (.inl (IntKind.wrap .i64 (a+1))))) else(some (.inr (.inl ()))):=rfl
theorem TY{N:Nat}{s:BA}{i:Nat}(hi:i<s.data.toList.length)(g:s.data.toList.length<1000000):∀(d j M:Nat),j+d=signs.length->d<M->
  aI (FG N s (i:Int)) M (j:Int)=some (if(signs.drop j).contains (s.data.toList[i])=true then .inr ((4,s.extract i (i+1),0,(i:Int)),((i+1:Nat):Int),0) else .inl ())
 |d,j,0,_,h=>by omega
 |0,j,M+1,e,f=>by
  simp only[aI,qAh]
  rw[if_neg (by simp only[jA];omega),jW (by omega)]
  rfl
 |d+1,j,M+1,e,f=>by
  have b:j<signs.length:=by omega
  have k:signs.length=11:=rfl
  simp only[aI,qAh]
  rw[if_pos (by simp only[jA];omega),dM b,oC hi,kH b]
  simp only[j0,List.contains_cons]
  by_cases he:s.data.toList[i]=signs[j]
  .rw[if_pos (by rw[he];exact gQ _),bX (x:=(i:Int)+1) (by omega) (by omega),<-fF,HF (by omega) (by omega)]
   simp only[j0]
   rw[if_pos (by rw[he];simp)]
  have c:¬((s.data.toList[i]).toNat:Int)=((signs[j]).toNat:Int):=fun h=>he (UInt8.toNat_inj.1 (by omega))
  have a:(s.data.toList[i]==signs[j])=false:=beq_eq_false_iff_ne.2 he
  rw[if_neg (by simpa using c),bX (by omega) (by omega),<-fF]
  simp only[j0,a,kX]
  exact TY hi g d (j+1) M (by omega) (by omega)
def SB(s:BA)(i:Nat):(Int×BA×Int×Int)×Int×Int:=
 if(eP s i).2.2=0 then(((eP s i).1.1,(eP s i).1.2.1,(eP s i).1.2.2.1,(i:Int)),(eP s i).2.1,0) else eP s i
theorem qFf{N:Nat}{s:BA}{i:Nat}(hi:i<s.data.toList.length)(n:s.data.toList.length<1000000)(v:s.data.toList.length+20<N):FW N s (i:Int)=some (SB s i):=by
 have y:=lE s
 simp only[FW,oC hi,j0,PC,SB,eP,pE hi,kN]
 by_cases h1:kd (s.data.toList[i])=1
 .simp only[h1,jJ]
  have d:=rS (p:=bT [1,2,3]) (l:=s.data.toList) (a:=i) (by omega)
  have key:=DE (f:=xQ N s) (l:=s.data.toList) (p:=bT [1,2,3]) (fun e=>(e:Int)) (fun j b d=>by
   simp only[xQ]
   rw[if_pos (by simp only[jA];omega),oC b]
   simp only[j0,HH,d]
   rw[if_pos trivial,bX (by omega) (by omega)]) (fun j b d=>by
   simp only[xQ]
   rw[if_pos (by simp only[jA];omega),oC b]
   simp only[j0,HH,d]
   rfl) (by
   simp only[xQ]
   rw[if_neg (by simp only[jA];omega)]
   rfl) (s.data.toList.length-i) i N (by omega) (by omega)
  rw[key]
  simp only[j0]
  rw[bX (by omega) (by omega),HF d.1 d.2]
  by_cases h:tw (bT [1,2,3]) s.data.toList i-i>24
  .rw[if_pos (by simp only[jA];omega),if_pos h];rfl
  rw[if_neg (by simp only[jA];omega),if_neg h];rfl
 simp only[h1,jI]
 by_cases h2:kd (s.data.toList[i])=2
 .simp only[h2,jJ]
  have q:=(OP _).1 h2
  rw[if_pos (by simp only[jA];omega)]
  simp only[j0]
  obtain⟨b,k,o⟩:=YK _ _ rfl (fun c (g:c∈(s.data.toList.drop i).takeWhile (bT [2]))=>by simpa[bT] using RM g)
  rw[if_pos (by simp only[jA];omega),UF (s.data.toList.length-i) i N 0 (by omega) n (by omega) (by omega) (by omega),o]
  simp only[j0,jA]
  generalize ((s.data.toList.drop i).takeWhile (bT [2])).foldl oX 0=u at b k
  by_cases h4:u>9007199254740992
  .simp[h4,AG]
  simp[h4]
 simp only[h2,jI]
 have t:¬(48<=(s.data.toList[i]).toNat/\(s.data.toList[i]).toNat<=57):=fun h=>h2 ((OP _).2 h)
 have k:(if decide (((s.data.toList[i]).toNat:Int)>=48)=true then some (decide (((s.data.toList[i]).toNat:Int)<=57)) else some false)=some false:=by
  by_cases h48:48<=(s.data.toList[i]).toNat
  .rw[if_pos (by simp only[jA];omega)];congr 1;rw[decide_eq_false_iff_not];omega
  rw[if_neg (by simp only[jA];omega)]
 rw[k]
 simp only[j0,jB,jI]
 by_cases h7:kd (s.data.toList[i])=7
 .have g:s.data.toList[i]=34:=(VU _).1 h7
  simp only[h7,jJ]
  rw[if_pos (by rw[g];rfl),bX (x:=(i:Int)+1) (by omega) (by omega),<-fF]
  have d:=rS (p:=nC) (l:=s.data.toList) (a:=i+1) (by omega)
  rw[qFc (s.data.toList.length-(i+1)) (i+1) N (by omega) n (by omega)]
  simp only[j0]
  generalize tw nC s.data.toList (i+1)=e at d
  by_cases he:e=s.data.toList.length
  .rw[if_pos (by omega)]
   have:¬s.data.toList.getD e 0=34:=fun h=>by have:=HI (l:=s.data.toList) (i:=e) (by rw[h];decide);omega
   rw[if_neg this]
   rfl
  have b:e<s.data.toList.length:=by omega
  rw[if_neg (by omega),oC b,pE b]
  simp only[j0]
  by_cases h34:s.data.toList[e]=34
  .rw[if_pos h34,if_neg (by rw[h34];decide),HF d.1 d.2]
   simp only[j0,jJ]
   rw[bX (by omega) (by omega),<-fF]
  have h34':¬((s.data.toList[e]).toNat:Int)=34:=fun h=>h34 (UInt8.toNat_inj.1 (by show _=34;omega))
  rw[if_neg h34,if_pos (by simpa using h34')]
  simp[AG]
 have h34':¬((s.data.toList[i]).toNat:Int)=34:=fun h=>h7 ((VU _).2 (UInt8.toNat_inj.1 (by show _=34;omega)))
 simp only[h7,jI,h34']
 have q:(if((s.data.toList[i]).toNat:Int)=61 then(if decide (IntKind.wrap .i64 ((i:Int)+1)<(s.size:Int))=true then((eK s (IntKind.wrap .i64 ((i:Int)+1))).bind fun o=>some ((o.toNat:Int)==61)) else some false) else some false)=some (decide (s.data.toList.getD i 0=61/\s.data.toList.getD (i+1) 0=61)):=by
  rw[pE hi]
  by_cases h61:s.data.toList[i]=61
  .rw[if_pos (by rw[h61];rfl),bX (by omega) (by omega),<-fF]
   by_cases b:i+1<s.data.toList.length
   .rw[if_pos (by simp only[jA];omega),oC b,pE b]
    simp only[j0]
    congr 1
    rw[kK,kN,jA]
    exact⟨fun h=>⟨h61,UInt8.toNat_inj.1 (by show _=61;omega)⟩,fun h=>by rw[h.2];rfl⟩
   rw[if_neg (by simp only[jA];omega)]
   congr 1
   refine(jX fun h=> ?_).symm
   have:=HI (l:=s.data.toList) (i:=i+1) (by rw[h.2];decide)
   omega
  rw[if_neg (fun h=>h61 (UInt8.toNat_inj.1 (by show _=61;omega)))]
  congr 1
  exact(jX fun h=>h61 h.1).symm
 rw[q]
 simp only[j0,jA]
 by_cases h61:s.data.toList.getD i 0=61/\s.data.toList.getD (i+1) 0=61
 .have b:i+1<s.data.toList.length:=HI (by rw[h61.2];decide)
  have d:kd (s.data.toList[i])=8:=by rw[<-pE hi,h61.1];kernel_rfl
  have g:tB s.data.toList i=i+2:=by rw[tB,if_pos h61]
  have r:s.extract i (i+2)=(⟨#[61,61]⟩:BA):=by
   apply Go.WideShapes.bytes_inj
   simp only[ByteArray.data_extract,fZ,fJ]
   rw[kH hi,kH b,<-pE hi,<-pE b,h61.1,h61.2,show i+2-i=2 by omega]
   rfl
  simp only[h61,and_self,jJ,d,g,r]
  rw[bX (by omega) (by omega)]
  simp
 have g:tB s.data.toList i=i+1:=by rw[tB,if_neg h61]
 have key:=TY (N:=N) hi n 11 0 N rfl (by omega)
 rw[show((0:Nat):Int)=0 from rfl] at key
 rw[if_neg h61,key]
 by_cases d:kd (s.data.toList[i])=8
 .have:=(XG _).1 d
  simp only[d,jJ,jZ,this,j0,g]
 have:¬signs.contains (s.data.toList[i])=true:=fun h=>d ((XG _).2 h)
 simp only[d,jI,jZ,this,j0]
 simp[AG]
def lN:Nat->List UInt8->Nat->Nat
 |0,_,i=>i
 |k+1,l,i=>
  if tw (bT [5]) l i=l.length then l.length
  else if kd (l.getD (tw (bT [5]) l i) 0)=6 then lN k l (tw mQ l (tw (bT [5]) l i))
  else tw (bT [5]) l i
theorem qHa{N:Nat}{s:BA}{i:Nat}(hi:i<=s.data.toList.length)(k:s.data.toList.length<1000000)(g:s.data.toList.length+10<N):aI (wC N s) N (i:Int)=some ((tw mQ s.data.toList i:Nat):Int):=by
 have n:=lE s
 have d:∀c:UInt8,((c.toNat:Int) !=10)=mQ c:=fun c=>by
  rw[kK,fY,mQ,fY]
  exact⟨fun h e=>h (by rw[e];rfl),fun h e=>h (UInt8.toNat_inj.1 (by show _=10;omega))⟩
 refine DE (f:=wC N s) (l:=s.data.toList) (p:=mQ) (fun e=>(e:Int)) (fun j b a=> ?_) (fun j b a=> ?_) ?_ (s.data.toList.length-i) i N (by omega) (by omega)
 .simp only[wC]
  rw[if_pos (by simp only[jA];omega),oC b]
  simp only[j0,d,a]
  rw[if_pos trivial,bX (by omega) (by omega)]
 .simp only[wC]
  rw[if_pos (by simp only[jA];omega),oC b]
  simp only[j0,d,a]
  rfl
 simp only[wC]
 rw[if_neg (by simp only[jA];omega)]
 rfl
theorem qHd{s:BA}{i:Nat}(hi:i<s.data.toList.length):((eK s (i:Int)).bind fun x1=>if((x1.toNat:Int)==32)=true then(some true) else((eK s (i:Int)).bind fun b=>if((b.toNat:Int)==9)=true then(some true) else((eK s (i:Int)).bind fun d=>if((d.toNat:Int)==10)=true then(some true) else((eK s (i:Int)).bind fun e=>some ((e.toNat:Int)==13)))))=some (bT [5] (s.data.toList[i])):=by
 simp only[oC hi,j0,kN]
 generalize s.data.toList[i]=c
 have a:=qHs c
 by_cases h1:(c.toNat:Int)=32
 .rw[if_pos h1,a.2 (by omega)]
 rw[if_neg h1]
 by_cases h2:(c.toNat:Int)=9
 .rw[if_pos h2,a.2 (by omega)]
 rw[if_neg h2]
 by_cases h3:(c.toNat:Int)=10
 .rw[if_pos h3,a.2 (by omega)]
 rw[if_neg h3]
 congr 1
 rw[kK,kN,a]
 omega
theorem qGm{N:Nat}{s:BA}{i:Nat}(hi:i<s.data.toList.length)(c:s.data.toList.length<1000000)(b:s.data.toList.length+10<N):
  yB N s (i:Int)=some (if bT [5] (s.data.toList[i])=true then .inl (((i+1:Nat)):Int) else if kd (s.data.toList[i])=6 then .inl ((tw mQ s.data.toList i:Nat):Int) else .inr (.inr (i:Int))):=by
 have d:=lE s
 simp only[yB]
 rw[if_pos (by simp only[jA];omega),qHd hi]
 simp only[j0]
 by_cases h5:bT [5] (s.data.toList[i])=true
 .rw[if_pos h5,if_pos h5,bX (by omega) (by omega),<-fF]
 rw[if_neg h5,if_neg h5,oC hi]
 simp only[j0,kN]
 have a:=qFy (s.data.toList[i])
 by_cases h6:kd (s.data.toList[i])=6
 .rw[if_pos (by have:=a.1 h6;omega),if_pos h6,qHa (by omega) c b]
  rfl
 rw[if_neg (fun h=>h6 (a.2 (by omega))),if_neg h6]
theorem OQ{N:Nat}{s:BA}(f:s.data.toList.length<1000000)(c:s.data.toList.length+10<N):∀(d i k M:Nat),i+d=s.data.toList.length->d<k->d<M->∃z,aI (yB N s) M (i:Int)=some z/\(z= .inl ((lN k s.data.toList i:Nat):Int)\/z= .inr ((lN k s.data.toList i:Nat):Int))
 |d,i,k,0,_,_,h=>by omega
 |d,i,0,M,_,h,_=>by omega
 |0,i,k+1,M+1,g,n,o=>by
  have r:=lE s
  refine⟨.inl ((s.data.toList.length:Nat):Int),?_,.inl ?_⟩
  .simp only[aI,yB]
   rw[if_neg (by simp only[jA];omega)]
   simp only[j0]
   congr 2;omega
  simp only[lN]
  rw[RP (by omega),if_pos (by omega)]
 |d+1,i,k+1,M+1,g,n,o=>by
  have r:=lE s
  have hi:i<s.data.toList.length:=by omega
  simp only[aI]
  rw[qGm hi f c]
  simp only[j0]
  cases h5:bT [5] (s.data.toList[i]) with
  |true=>
   rw[if_pos rfl]
   have:=OQ f c d (i+1) (k+1) M (by omega) (by omega) (by omega)
   simp only[lN,HP hi h5] at this ⊢
   exact this
  |false=>
   rw[if_neg kJ]
   by_cases h6:kd (s.data.toList[i])=6
   .have b:lN (k+1) s.data.toList i=lN k s.data.toList (tw mQ s.data.toList i):=by
     simp only[lN,HO hi h5,pE hi,h6,jJ]
     rw[if_neg (by omega)]
    rw[b,if_pos h6]
    have t:=rS (p:=mQ) (l:=s.data.toList) (a:=i) (by omega)
    have q:=DK (p:=mQ) hi (by
     simp only[mQ,fY,ne_eq]
     intro e;rw[e] at h6;exact absurd h6 (by decide))
    exact OQ f c (s.data.toList.length-tw mQ s.data.toList i) _ k M (by omega) (by omega) (by omega)
   have b:lN (k+1) s.data.toList i=i:=by
    simp only[lN,HO hi h5,pE hi,h6,jI]
    rw[if_neg (by omega)]
   rw[b,if_neg h6]
   exact⟨_,rfl,.inr rfl⟩
theorem ZG{N:Nat}{s:BA}{i k:Nat}(hi:i<=s.data.toList.length)(d:s.data.toList.length<1000000)(c:s.data.toList.length+10<N)(e:s.data.toList.length<i+k):BS N s (i:Int)=some ((lN k s.data.toList i:Nat):Int):=by
 obtain⟨z,a,b⟩:=OQ d c (s.data.toList.length-i) i k N (by omega) (by omega) (by omega)
 unfold BS
 rw[a]
 rcases b with rfl|rfl<;>rfl
theorem WX{s:BA}:∀(k i:Nat),i<=s.data.toList.length->s.data.toList.length<i+k->i<=lN k s.data.toList i/\lN k s.data.toList i<=s.data.toList.length/\
  (lN k s.data.toList i=s.data.toList.length->mE k s i= .inr [(5,⟨#[]⟩,0,(s.data.toList.length:Int))])/\
  (lN k s.data.toList i<s.data.toList.length->∃k',(∀b,lN k s.data.toList i<b->s.data.toList.length<b+k')/\mE k s i=
   if(eP s (lN k s.data.toList i)).2.2≠0 then .inl ((lN k s.data.toList i:Nat),(eP s (lN k s.data.toList i)).2.2)
   else match mE k' s (eP s (lN k s.data.toList i)).2.1.toNat with
    | .inl x=> .inl x
    | .inr r=> .inr (((eP s (lN k s.data.toList i)).1.1,(eP s (lN k s.data.toList i)).1.2.1,(eP s (lN k s.data.toList i)).1.2.2.1,((lN k s.data.toList i:Nat):Int))::r))
 |0,i,d,t=>by omega
 |k+1,i,d,t=>by
  have f:=rS (p:=bT [5]) (l:=s.data.toList) (a:=i) d
  simp only[lN,mE]
  by_cases he:tw (bT [5]) s.data.toList i=s.data.toList.length
  .simp only[he,jJ]
   exact⟨d,jT _,fun _=>trivial,fun h=>absurd h (Nat.lt_irrefl _)⟩
  simp only[he,jI]
  have c:tw (bT [5]) s.data.toList i<s.data.toList.length:=by omega
  by_cases h6:kd (s.data.toList.getD (tw (bT [5]) s.data.toList i) 0)=6
  .simp only[h6,jJ]
   have g:=rS (p:=mQ) (l:=s.data.toList) (a:=tw (bT [5]) s.data.toList i) (by omega)
   have u:=DK (p:=mQ) c (by
    rw[pE c] at h6
    simp only[mQ,fY,ne_eq]
    intro e;rw[e] at h6;exact absurd h6 (by decide))
   obtain⟨v,n,o,q⟩:=WX k (tw mQ s.data.toList (tw (bT [5]) s.data.toList i)) g.2 (by omega)
   exact⟨by omega,n,o,q⟩
  simp only[h6,jI]
  exact⟨f.1,f.2,fun h=>absurd h he,fun _=>⟨k,fun b hb'=>by omega,rfl⟩⟩
theorem TH{N:Nat}{s:BA}(E:s.data.toList.length<=16384)(B:s.data.toList.length+40<N):∀(d i k M:Nat) (acc:List bQ),i+d=s.data.toList.length->d<M->s.data.toList.length<i+k->acc.length<=i->
  ∃z,aI (FC N s) M (acc,((lN k s.data.toList i:Nat):Int))=some z/\((∃o,z= .inl o/\o.length<=s.data.toList.length/\wY acc (mE k s i)=(o++[(5,⟨#[]⟩,0,(s.size:Int))],0,0))\/z= .inr (wY acc (mE k s i)))
 |d,i,k,0,acc,_,h,_,_=>by omega
 |d,i,k,M+1,acc,G,H,A,K=>by
  have F:=lE s
  obtain⟨v,y,g,l⟩:=WX (s:=s) k i (by omega) A
  generalize hA:lN k s.data.toList i=a at v y g l
  simp only[aI,FC]
  by_cases he:a=s.data.toList.length
  .refine⟨.inl acc,?_,.inl ⟨acc,rfl,by omega,?_⟩⟩
   .rw[if_neg (by simp only[jA];omega)]
    rfl
   rw[g he,<-F];rfl
  have b:a<s.data.toList.length:=by omega
  obtain⟨k',n,p⟩:=l b
  rw[if_pos (by simp only[jA];omega),qFf b (by omega) (by omega)]
  simp only[j0,SB]
  by_cases h0:(eP s a).2.2=0
  .obtain⟨e,c,f,q,_⟩:=QG b h0
   rw[if_pos h0]
   simp only[dA,jB,jI]
   rw[pP (by simp only[jD,jF];omega) (by omega),c]
   simp only[j0]
   rw[ZG (k:=k') q (by omega) (by omega) (n e f)]
   simp only[j0]
   obtain⟨z,t,u⟩:=TH E B (s.data.toList.length-e) e k' M (acc++[((eP s a).1.1,(eP s a).1.2.1,(eP s a).1.2.2.1,(a:Int))]) (by omega) (by omega) (n e f) (by simp;omega)
   have D:wY acc (mE k s i)=wY (acc++[((eP s a).1.1,(eP s a).1.2.1,(eP s a).1.2.2.1,(a:Int))]) (mE k' s e):=by
    rw[p,if_neg (by simp[h0]),c,jS]
    cases mE k' s e with
    |inl x=>rfl
    |inr r=>simp[wY]
   rw[D]
   exact⟨z,t,u⟩
  rw[if_neg h0]
  have c:((eP s a).2.2 !=0)=true:=by simpa using h0
  simp only[c,jJ,j0]
  refine⟨_,rfl,.inr ?_⟩
  rw[p,if_pos h0]
  rfl
theorem qEs{N:Nat}{s:BA}(e:20000<N):FR N s=some (oU s):=by
 have g:=lE s
 unfold FR oU
 by_cases h:s.data.toList.length>16384
 .rw[if_pos (by simp only[jA];omega),if_pos h]
 rw[if_neg (by simp only[jA];omega),if_neg h]
 have a:=ZG (N:=N) (s:=s) (i:=0) (k:=s.data.toList.length+1) (by omega) (by omega) (by omega) (by omega)
 rw[show((0:Nat):Int)=0 from rfl] at a
 rw[a]
 simp only[j0]
 obtain⟨z,b,c⟩:=TH (N:=N) (s:=s) (by omega) (by omega) s.data.toList.length 0 (s.data.toList.length+1) N [] (by omega) (by omega) (by omega) (by simp)
 rw[b]
 rcases c with ⟨o,rfl,f,d⟩|rfl
 .simp only[j0]
  rw[pP (by simp only[jD,jF];omega) (by omega),d]
  rfl
 rfl
def lR(s:BA):Bool:=decide (1<=s.data.toList.length/\s.data.toList.length<=24/\kd (s.data.toList.getD 0 0)=1/\tw (bT [1,2,3]) s.data.toList 0=s.data.toList.length)
theorem zH{s:BA}(h:¬(1<=s.data.toList.length/\s.data.toList.length<=24/\kd (s.data.toList.getD 0 0)=1/\tw (bT [1,2,3]) s.data.toList 0=s.data.toList.length)):false=lR s:=(jX h).symm
theorem qIb{s:BA}(h:1<=s.data.toList.length/\s.data.toList.length<=24/\kd (s.data.toList.getD 0 0)=1/\tw (bT [1,2,3]) s.data.toList 0=s.data.toList.length):true=lR s:=(kC h).symm
theorem ZN{N:Nat}{s:BA}(b:100<N):yV N s=some (lR s):=by
 have c:=lE s
 simp only[yV,PU (show 30<N by omega),j0]
 by_cases h1:1<=s.data.toList.length
 .by_cases h2:s.data.toList.length<=24
  .rw[if_pos (by simp only[jA];omega),if_pos (by simp only[jA];omega)]
   have hi:=oC (s:=s) (i:=0) (by omega)
   rw[show((0:Nat):Int)=0 from rfl] at hi
   rw[hi]
   simp only[j0,qNr,kN]
   have a:=ZK (N:=N) (s:=s) (ks:=[1,2,3]) (i:=0) (by omega) (by omega) (by simp) (by omega)
   rw[show((0:Nat):Int)=0 from rfl] at a
   by_cases h3:kd (s.data.toList[0])=1
   .rw[if_pos h3,a]
    simp only[j0]
    congr 1
    rw[kK,kN,lR,jA,pE (by omega)]
    exact⟨fun h=>⟨h1,h2,h3,by omega⟩,fun h=>by have:=h.2.2.2;omega⟩
   rw[if_neg h3]
   refine congrArg some (zH fun h=> ?_)
   rw[pE (by omega)] at h
   exact h3 h.2.2.1
  rw[if_pos (by simp only[jA];omega),if_neg (by simp only[jA];omega)]
  exact congrArg some (zH fun h=>h2 h.2.1)
 rw[if_neg (by simp only[jA];omega)]
 exact congrArg some (zH fun h=>h1 h.1)
theorem OB{N:Nat}{s:BA}(c:100<N):wI N s=some (lR s):=by
 have d:=lE s
 simp only[wI]
 by_cases h1:1<=s.data.toList.length
 .by_cases h2:s.data.toList.length<=24
  .rw[if_neg (by simp only[jA];omega),if_neg (by simp only[jA];omega)]
   have hi:=oC (s:=s) (i:=0) (by omega)
   rw[show((0:Nat):Int)=0 from rfl] at hi
   rw[hi]
   simp only[j0,PC]
   by_cases h3:kd (s.data.toList[0])=1
   .rw[h3,if_neg (by simp)]
    have key:=DE (f:=xZ N s) (l:=s.data.toList) (p:=bT [1,2,3]) (fun e=>if e=s.data.toList.length then .inl () else .inr false) (fun j b a=>by
     simp only[xZ]
     rw[if_pos (by simp only[jA];omega),oC b]
     simp only[j0,HH,a]
     rw[bX (by omega) (by omega)]
     rfl) (fun j b a=>by
     simp only[xZ]
     rw[if_pos (by simp only[jA];omega),oC b]
     simp only[j0,HH,a]
     rw[if_neg (show ¬j=s.data.toList.length by omega)]
     rfl) (by
     simp only[xZ]
     rw[if_neg (by simp only[jA];omega)]
     simp) s.data.toList.length 0 N (by omega) (by omega)
    rw[show((0:Nat):Int)=0 from rfl] at key
    rw[key]
    simp only[j0]
    by_cases h4:tw (bT [1,2,3]) s.data.toList 0=s.data.toList.length
    .rw[if_pos h4]
     exact congrArg some (qIb ⟨h1,h2,by rw[pE (by omega)];exact h3,h4⟩)
    rw[if_neg h4]
    exact congrArg some (zH fun h=>h4 h.2.2.2)
   rw[if_pos (by rw[dC,beq_eq_false_iff_ne];exact h3)]
   refine congrArg some (zH fun h=> ?_)
   rw[pE (by omega)] at h
   exact h3 h.2.2.1
  rw[if_neg (by simp only[jA];omega),if_pos (by simp only[jA];omega)]
  simp only[j0,jJ]
  exact congrArg some (zH fun h=>h2 h.2.1)
 rw[if_pos (by simp only[jA];omega)]
 simp only[j0,jJ]
 exact congrArg some (zH fun h=>h1 h.1)
def sp:List UInt8->List (List UInt8)
 |[]=>[[]]
 |c::l=>if c=47 then[]::sp l else match sp l with
  |[]=>[[c]]
  |p::q=>(c::p)::q
theorem zX:∀l:List UInt8,sp l≠[]
 |[]=>by simp[sp]
 |c::l=>by
  simp only[sp]
  split
  .simp
  split<;>simp
theorem RI:∀l:List UInt8,(sp l).length=l.count 47+1
 |[]=>rfl
 |c::l=>by
  simp only[sp]
  split
  .rename_i h;subst h;simp[RI l]
  rename_i h
  have:=RI l
  split
  .rename_i e;exact absurd e (zX l)
  rename_i e
  rw[e] at this
  simp only[jD] at this ⊢
  rw[List.count_cons_of_ne h,<-this]
def lX(c:UInt8):Bool:=c !=47
theorem YX:∀l:List UInt8,sp l=if(l.takeWhile lX).length=l.length then[l] else l.takeWhile lX::sp (l.drop ((l.takeWhile lX).length+1))
 |[]=>rfl
 |c::l=>by
  have b:=YX l
  by_cases h:c=47
  .subst h
   rw[gV (by decide)]
   simp[sp]
  have a:lX c=true:=by simpa[lX] using h
  rw[gN a]
  simp only[sp,h,jI,b,jD,Nat.add_right_cancel_iff,List.drop_succ_cons]
  by_cases he:(l.takeWhile lX).length=l.length
  .simp[he]
  simp[he]
def tZ:Nat->Nat->List UInt8->Option (Nat×Nat)
 |a,b,[]=>some (a,b)
 |a,b,c::l=>if c=47 then(if b=0 then none else tZ (a+1) 0 l) else if bT [1,2,3,4] c=true then(if b+1>24 then none else tZ a (b+1) l) else none
def qOb(p:List UInt8):Prop:=1<=p.length/\p.length<=24/\∀c∈p,bT [1,2,3,4] c=true
theorem OM:∀(l:List UInt8) (a b:Nat),b<=24->((∃x y,tZ a b l=some (x,y)/\0<y/\x<=8)↔
  ∃p q,sp l=p::q/\1<=b+p.length/\b+p.length<=24/\(∀c∈p,bT [1,2,3,4] c=true)/\(∀r∈q,qOb r)/\a+q.length<=8)
 |[],a,b,v=>by
  constructor
  .rintro⟨x,y,h,e,g⟩
   simp only[tZ,jL,Prod.mk.injEq] at h
   exact⟨[],[],rfl,by simp;omega,by simpa using v,by simp,by simp,by simp;omega⟩
  rintro⟨p,q,h,e,g,_,_,f⟩
  simp only[sp,kV] at h
  obtain⟨rfl,rfl⟩:=h
  simp only[jF] at e f
  exact⟨a,b,rfl,by omega,by omega⟩
 |c::l,a,b,v=>by
  by_cases hc:c=47
  .have t:sp (c::l)=[]::sp l:=by simp[sp,hc]
   rw[t]
   simp only[tZ,hc,jJ]
   by_cases h0:b=0
   .subst h0
    simp only[jJ]
    constructor
    .rintro⟨x,y,h,_⟩;cases h
    rintro⟨p,q,h,e,_⟩
    simp only[kV] at h
    rw[<-h.1] at e;simp at e
   rw[if_neg h0]
   rw[OM l (a+1) 0 (by omega)]
   constructor
   .rintro⟨p,q,h,e,g,f,n,o⟩
    refine⟨[],sp l,rfl,by simp;omega,by simpa using v,by simp,?_,by rw[h];simp only[jD];omega⟩
    intro r s
    rw[h] at s
    rcases jR.1 s with rfl|s
    .exact⟨by omega,by omega,f⟩
    exact n r s
   rintro⟨p,q,h,e,g,f,n,o⟩
   simp only[kV] at h
   obtain⟨rfl,rfl⟩:=h
   obtain⟨p,q,k⟩:∃p q,sp l=p::q:=by
    cases u:sp l with
    |nil=>exact absurd u (zX l)
    |cons p q=>exact⟨p,q,rfl⟩
   rw[k] at n o
   obtain⟨A,B,z⟩:=n p (jH ..)
   exact⟨p,q,k,by omega,by omega,z,fun r s=>n r (jK _ s),by simp only[jD] at o;omega⟩
  obtain⟨p0,z,k⟩:∃p q,sp l=p::q:=by
   cases u:sp l with
   |nil=>exact absurd u (zX l)
   |cons p q=>exact⟨p,q,rfl⟩
  have t:sp (c::l)=(c::p0)::z:=by simp only[sp,hc,jI,k]
  rw[t]
  simp only[tZ,hc,jI]
  by_cases u:bT [1,2,3,4] c=true
  .rw[if_pos u]
   by_cases h24:b+1>24
   .rw[if_pos h24]
    constructor
    .rintro⟨x,y,h,_⟩;cases h
    rintro⟨p,q,h,e,g,_⟩
    simp only[kV] at h
    rw[<-h.1] at g
    simp only[jD] at g
    omega
   rw[if_neg h24,OM l a (b+1) (by omega)]
   constructor
   .rintro⟨p,q,h,e,g,f,n,o⟩
    rw[k] at h
    simp only[kV] at h
    obtain⟨rfl,rfl⟩:=h
    refine⟨_,_,rfl,by simp only[jD];omega,by simp only[jD];omega,?_,n,o⟩
    intro d s
    rcases jR.1 s with rfl|s
    .exact u
    exact f d s
   rintro⟨p,q,h,e,g,f,n,o⟩
   simp only[kV] at h
   obtain⟨rfl,rfl⟩:=h
   simp only[jD] at e g
   exact⟨p0,z,k,by omega,by omega,fun d s=>f d (jK _ s),n,o⟩
  rw[if_neg u]
  constructor
  .rintro⟨x,y,h,_⟩;cases h
  rintro⟨p,q,h,e,g,f,_⟩
  simp only[kV] at h
  rw[<-h.1] at f
  exact absurd (f c (jH ..)) u
theorem inK4{N:Nat}(c:UInt8):((wG N (c.toNat:Int)).bind fun y1=>if y1=true then(some true) else(some ((c.toNat:Int)==46)))=some (bT [1,2,3,4] c):=by
 have h:=wX (p:=fun c=>(bT [1,2,3] c||decide (c.toNat=46))==bT [1,2,3,4] c) (by kernel_rfl) c
 rw[kN] at h
 rw[<-h,HH]
 simp only[j0]
 have e:((c.toNat:Int)==46)=decide (c.toNat=46):=by rw[kK,kN,jA];omega
 rw[e]
 cases bT [1,2,3] c<;>simp
theorem NO{N:Nat}{s:BA}(c:s.data.toList.length<1000000):∀(d i M a b:Nat),i+d=s.data.toList.length->d<M->a<=i+1->b<=24->
  aI (BL N s) M ((a:Int),(b:Int),(i:Int))=some (match tZ a b (s.data.toList.drop i) with|some z=> .inl ((z.1:Int),(z.2:Int))|none=> .inr false)
 |d,i,0,_,_,_,h,_,_=>by omega
 |0,i,M+1,a,b,e,f,g,k=>by
  have l:=lE s
  simp only[aI,BL]
  rw[if_neg (by simp only[jA];omega),jW (by omega)]
  rfl
 |d+1,i,M+1,a,b,e,f,g,k=>by
  have l:=lE s
  have hi:i<s.data.toList.length:=by omega
  simp only[aI,BL]
  rw[if_pos (by simp only[jA];omega),kH hi,oC hi]
  simp only[j0,inK4,kN,tZ]
  by_cases hc:s.data.toList[i]=47
  .rw[if_pos (show((s.data.toList[i]).toNat:Int)=47 by rw[hc];rfl),if_pos hc]
   by_cases hb:b=0
   .rw[if_pos (show(b:Int)=0 by omega),if_pos hb]
    rfl
   rw[if_neg (show ¬(b:Int)=0 by omega),if_neg hb,bX (x:=(a:Int)+1) (by omega) (by omega)]
   simp only[j0]
   rw[if_neg (by simp),bX (by omega) (by omega)]
   have:=NO (N:=N) c d (i+1) M (a+1) 0 (by omega) (by omega) (by omega) (by omega)
   exact this
  have hc':¬((s.data.toList[i]).toNat:Int)=47:=fun h=>hc (UInt8.toNat_inj.1 (by show _=47;omega))
  rw[if_neg hc',if_neg hc]
  by_cases hk:bT [1,2,3,4] (s.data.toList[i])=true
  .rw[if_pos hk,if_pos hk,bX (x:=(b:Int)+1) (by omega) (by omega)]
   simp only[j0]
   by_cases h24:b+1>24
   .rw[if_pos (by simp only[jA];omega),if_pos h24]
    rfl
   rw[if_neg (by simp only[jA];omega),if_neg h24,bX (by omega) (by omega)]
   have:=NO (N:=N) c d (i+1) M a (b+1) (by omega) (by omega) (by omega) (by omega)
   exact this
  rw[if_neg hk,if_neg hk]
  rfl
def iN(l:List UInt8):Bool:=decide (l.length<=80/\(sp l).length<=8/\∀p∈sp l,1<=p.length/\p.length<=24/\∀c∈p,bT [1,2,3,4] c=true)
theorem WW(l:List UInt8):iN l=true↔l.length<=80/\∃x y,tZ 1 0 l=some (x,y)/\0<y/\x<=8:=by
 rw[OM l 1 0 (by omega)]
 simp only[iN,jA]
 obtain⟨p,q,hpq⟩:∃p q,sp l=p::q:=by
  cases a:sp l with
  |nil=>exact absurd a (zX l)
  |cons p q=>exact⟨p,q,rfl⟩
 constructor
 .rintro⟨c,d,b⟩
  rw[hpq] at d b
  obtain⟨f,g,e⟩:=b p (jH ..)
  exact⟨c,p,q,hpq,by omega,by omega,e,fun r a=>b r (jK _ a),by simp only[jD] at d;omega⟩
 rintro⟨c,p',q',h,d,b,e,f,g⟩
 refine⟨c,by rw[h];simp only[jD];omega,?_⟩
 intro r a
 rw[h] at a
 rcases jR.1 a with rfl|a
 .exact⟨by omega,by omega,e⟩
 exact f r a
theorem NX{N:Nat}{s:BA}(c:100<N):wH N s=some (iN s.data.toList):=by
 have d:=lE s
 simp only[wH]
 by_cases h80:s.data.toList.length<=80
 .rw[if_neg (by simp only[jA];omega)]
  have key:=NO (N:=N) (s:=s) (by omega) s.data.toList.length 0 N 1 0 (by omega) (by omega) (by omega) (by omega)
  rw[show((0:Nat):Int)=0 from rfl,show((1:Nat):Int)=1 from rfl,jZ] at key
  rw[key]
  have a:=WW s.data.toList
  cases hR:tZ 1 0 s.data.toList with
  |none=>
   simp only[j0]
   refine congrArg some ?_
   rw[kK,a]
   constructor
   .intro h;cases h
   rintro⟨_,x,y,h,_⟩;rw[hR] at h;cases h
  |some z=>
   obtain⟨x,y⟩:=z
   simp only[j0]
   by_cases hy:0<y
   .rw[if_pos (by simp only[jA];omega)]
    simp only[j0]
    refine congrArg some ?_
    rw[kK,a,jA]
    constructor
    .intro h;exact⟨h80,x,y,hR,hy,by omega⟩
    rintro⟨_,x',y',h,_,b⟩;rw[hR] at h;simp only[jL,Prod.mk.injEq] at h;omega
   rw[if_neg (by simp only[jA];omega)]
   simp only[j0]
   refine congrArg some ?_
   rw[kK,a]
   constructor
   .intro h;cases h
   rintro⟨_,x',y',h,b,_⟩;rw[hR] at h;simp only[jL,Prod.mk.injEq] at h;omega
 rw[if_pos (by simp only[jA];omega)]
 refine congrArg some ?_
 rw[kK,WW]
 exact⟨fun h=>(by cases h),fun h=>absurd h.1 h80⟩
theorem qOy{p:UInt8->Bool}{l:List UInt8}{k:Nat}(c:k<l.length)(a:∀j,∀h:j<l.length,j<k->p l[j]=true)(b:p l[k]=false):tw p l 0=k:=by
 have key:∀d j,j+d=k->tw p l j=k:=by
  intro d
  induction d with
  |zero=>
   intro j h
   have:j=k:=by omega
   subst this
   exact HO c b
  |succ d e=>intro j h;rw[<-HP (by omega) (a j (by omega) (by omega))];exact e (j+1) (by omega)
 exact key k 0 (by omega)
theorem qPu(x:BA):vU x 47=if(x.data.toList.takeWhile lX).length=x.data.toList.length then-1 else((x.data.toList.takeWhile lX).length:Int):=by
 have n:=lE x
 have l:tw lX x.data.toList 0=(x.data.toList.takeWhile lX).length:=by simp[tw]
 have a:∀j,∀h:j<x.data.toList.length,x[j]! =x.data.toList[j]:=by
  intro j b
  rw[getElem!_pos x j (by omega)]
  simp[ByteArray.getElem_eq_getElem_data]
 have f:(47:Int).toNat.toUInt8=47:=rfl
 rw[<-l]
 unfold vU
 rw[f,<-n]
 cases hf:(List.range x.data.toList.length).find? (fun j=>x[j]! ==47) with
 |none=>
  rw[List.find?_eq_none] at hf
  simp only
  rw[if_pos]
  refine qAe fun c d=> ?_
  obtain⟨j,b,rfl⟩:=List.getElem_of_mem d
  have:=hf j (hB.2 b)
  rw[a j b] at this
  simpa[lX] using this
 |some k=>
  have d:=List.find?_some hf
  have g:k<x.data.toList.length:=hB.1 (List.mem_of_find?_eq_some hf)
  rw[a k g] at d
  have e:tw lX x.data.toList 0=k:=by
   refine qOy g (fun j h b=> ?_) (by simpa[lX] using d)
   have:=(List.find?_range_eq_some.1 hf).2.2 j b
   rw[a j h] at this
   simpa[lX] using this
  simp only
  rw[e,if_neg (by omega)]
theorem qJq{N:Nat}(x:BA):CG N x (⟨#[47]⟩:BA)=some (vU x 47):=by
 have b:eK (⟨#[47]⟩:BA) 0=some 47:=by kernel_rfl
 simp only[CG,JL,EM,show(⟨#[47]⟩:BA).size=1 from rfl,iY]
 rw[if_neg (by decide)]
 simp only[j0,jA]
 by_cases h:(⟨#[47]⟩:BA)=x
 .have a:vU (⟨#[47]⟩:BA) 47=0:=by kernel_rfl
  rw[if_pos h,<-h,a]
  rfl
 rw[if_neg h,if_pos (by decide),b]
 rfl
theorem qOc(x:BA):AJ x 47=((x.data.toList.count 47:Nat):Int):=by
 unfold AJ
 rw[Go.Lib.foldl_data]
 have key:∀(l:List UInt8) (n:Int),l.foldl (fun n x=>if x==(47:Int).toNat.toUInt8 then n+1 else n) n=n+((l.count 47:Nat):Int):=by
  intro l
  induction l with
  |nil=>intro n;simp
  |cons c l b=>
   intro n
   rw[List.foldl_cons,b,List.count_cons]
   have a:(47:Int).toNat.toUInt8=47:=rfl
   rw[a]
   by_cases h:(c==47)=true
   .simp only[h,jJ];omega
   simp only[h,jB,jI];omega
 rw[key]
 omega
theorem qLe{α:Type}(l:List α)(k:Nat)(a b:α):(l++List.replicate (k+1) a).set l.length b=(l++[b])++List.replicate k a:=by
 rw[List.set_append_right _ _ (jT _)]
 simp[List.replicate_succ]
theorem UY{N n:Nat}{s:BA}(v:n<1000000000)(l:n<=s.size+1)(A:s.size<1000000000):∀(r M:Nat) (x:BA) (done:List BA),(sp x.data.toList).length=r->done.length+r=n->r<M->x.size<1000000000->
  ∃y D,aI (FX N s (⟨#[47]⟩:BA) 0 (n:Int)) M (x,(done.length:Int),done++List.replicate r (⟨#[]⟩:BA))=some (y,((n-1:Nat):Int),D++[(⟨#[]⟩:BA)])/\D.length=n-1/\D++[y]=done++(sp x.data.toList).map cQ
 |_,0,_,_,_,_,h,_=>by omega
 |0,_,x,_,h,_,_,_=>by exact absurd (gB.1 h) (zX _)
 |r+1,M+1,x,done,c,F,G,H=>by
  have E:=lE x
  have f:(if IntKind.wrap .i64 ((s.size:Int)+1)<(n:Int) then IntKind.wrap .i64 ((s.size:Int)+1) else(n:Int))=(n:Int):=by
   rw[bX (by omega) (by omega)];split<;>omega
  have a:=YX x.data.toList
  simp only[aI,FX]
  rw[f,bX (x:=(n:Int)-1) (by omega) (by omega)]
  by_cases hlast:(x.data.toList.takeWhile lX).length=x.data.toList.length
  .rw[if_pos hlast] at a
   rw[a] at c
   simp only[jD,jF] at c
   have b:r=0:=by omega
   subst b
   rw[if_neg (by simp only[jA];omega)]
   refine⟨x,done,?_,by omega,?_⟩
   .simp only[j0]
    rw[show(n-1:Nat)=done.length by omega]
    rfl
   rw[a];simp[cQ]
  rw[if_neg hlast] at a
  rw[a] at c
  simp only[jD] at c
  have z:0<(sp (x.data.toList.drop ((x.data.toList.takeWhile lX).length+1))).length:=fU.2 (zX _)
  have B:(x.data.toList.takeWhile lX).length<=x.data.toList.length:=(List.takeWhile_sublist _).length_le
  have hix:=qPu x
  rw[if_neg hlast] at hix
  rw[if_pos (by simp only[jA];omega),qJq,hix]
  simp only[j0,show(⟨#[47]⟩:BA).size=1 from rfl]
  have u:(x.data.toList.takeWhile lX)=x.data.toList.take (x.data.toList.takeWhile lX).length:=List.prefix_iff_eq_take.1 (List.takeWhile_prefix _)
  have o:x.extract 0 (x.data.toList.takeWhile lX).length=cQ (x.data.toList.takeWhile lX):=by
   apply Go.WideShapes.bytes_inj
   simp only[ByteArray.data_extract,fZ,fJ,cQ,jZ,Nat.sub_zero]
   exact u.symm
  have b:(x.extract ((x.data.toList.takeWhile lX).length+1) x.data.toList.length).data.toList=x.data.toList.drop ((x.data.toList.takeWhile lX).length+1):=by
   simp only[ByteArray.data_extract,fZ,fJ]
   exact gW (by simp only[kW];omega)
  generalize hk:(x.data.toList.takeWhile lX).length=k at*
  rw[if_neg (by simp only[jA];omega),bX (x:=(k:Int)+0) (by omega) (by omega),Int.add_zero]
  have d:mT x 0 (k:Int)=some (x.extract 0 k):=by
   have:=HF (s:=x) (i:=0) (e:=k) (by omega) (by omega)
   simpa only[Int.natCast_zero] using this
  rw[d]
  simp only[j0]
  rw[dM (by simp),bX (x:=(k:Int)+((1:Nat):Int)) (by omega) (by omega),show((k:Int)+((1:Nat):Int))=((k+1:Nat):Int) by omega,qHi (by omega)]
  simp only[j0,jS]
  rw[qLe,o,bX (by omega) (by omega)]
  have g:=lE (x.extract (k+1) x.data.toList.length)
  rw[b,kW] at g
  obtain⟨y,D,p,q,t⟩:=UY (N:=N) v l A r M (x.extract (k+1) x.data.toList.length) (done++[cQ (x.data.toList.takeWhile lX)]) (by rw[b];omega) (by simp;omega) (by omega) (by omega)
  refine⟨y,D,?_,q,?_⟩
  .rw[<-p];simp
  rw[t,b,a];simp
termination_by r=>r
theorem qJy{N:Nat}{s:BA}(p:s.size<100000000)(l:2*s.size+1000<N):GL N s (⟨#[47]⟩:BA)=some ((sp s.data.toList).map cQ):=by
 have q:=lE s
 have h:=RI s.data.toList
 have o:s.data.toList.count 47<=s.data.toList.length:=List.count_le_length
 have g:eK (⟨#[47]⟩:BA) 0=some 47:=by kernel_rfl
 have a:GJ N s (⟨#[47]⟩:BA)=some ((s.data.toList.count 47:Nat):Int):=by
  simp only[GJ,show(⟨#[47]⟩:BA).size=1 from rfl]
  rw[if_neg (by decide),if_pos (by decide),g]
  simp only[j0]
  rw[<-qOc];rfl
 simp only[GL,JV,iY,a,j0]
 rw[if_neg (by decide),if_neg (by decide),if_pos (by decide)]
 simp only[j0]
 rw[bX (x:=((s.data.toList.count 47:Nat):Int)+1) (by omega) (by omega),show((s.data.toList.count 47:Nat):Int)+1=(((sp s.data.toList).length:Nat):Int) by omega]
 generalize hn:(sp s.data.toList).length=n at*
 have c:(if IntKind.wrap .i64 ((s.size:Int)+1)<(n:Int) then IntKind.wrap .i64 ((s.size:Int)+1) else(n:Int))=(n:Int):=by
  rw[bX (by omega) (by omega)];split<;>omega
 rw[c]
 have k:rR 16 (⟨#[]⟩:BA) (n:Int)=some (List.replicate n (⟨#[]⟩:BA)):=by
  unfold rR
  rw[if_pos (by simp only[maxLen];omega),jS]
 rw[k]
 simp only[j0]
 obtain⟨y,D,b,f,e⟩:=UY (N:=N) (n:=n) (s:=s) (by omega) (by omega) (by omega) n N s [] hn (by simp) (by omega) (by omega)
 simp only[jF,jQ] at b e
 rw[show((0:Nat):Int)=0 from rfl] at b
 rw[b]
 simp only[j0]
 rw[dM (by simp;omega)]
 simp only[j0,jS]
 have d:(D++[(⟨#[]⟩:BA)]).set (n-1) y=D++[y]:=by
  rw[<-f,List.set_append_right _ _ (jT _)];simp
 rw[d,e,bX (by omega) (by omega),show((n-1:Nat):Int)+1=(n:Int) by omega,wP (by omega) (by omega) (by rw[gJ,hn];omega)]
 simp only[j0,jS,gZ,jZ]
 rw[gW (by rw[gJ,hn];exact jT _)]
theorem qAa{p:UInt8->Bool}{l:List UInt8}:tw p l 0=l.length↔∀c∈l,p c=true:=by
 constructor
 .intro h c a
  have b:(l.takeWhile p).length=l.length:=by simpa[tw] using h
  have d:=(List.takeWhile_prefix p (l:=l)).eq_of_length b
  rw[<-d] at a
  exact RM a
 exact qAe
def AB(x:BA):Bool:=decide (1<=x.data.toList.length/\x.data.toList.length<=24/\∀c∈x.data.toList,bT [1,2,3,4] c=true)
theorem WT(x:BA):AB x=true↔1<=x.data.toList.length/\x.data.toList.length<=24/\∀c∈x.data.toList,bT [1,2,3,4] c=true:=decide_eq_true_iff
theorem qMo{N:Nat}{x:BA}(f:100<N):(if(decide ((x.size:Int)<1))=true then(some true) else(if(decide ((x.size:Int)>24))=true then(some true) else((tP N x 0 (some kdL) ([1,2,3,4])).bind fun e=>some (e !=(x.size:Int)))))=some (!AB x):=by
 have d:=lE x
 have a:∀h:¬(1<=x.data.toList.length/\x.data.toList.length<=24/\∀c∈x.data.toList,bT [1,2,3,4] c=true),AB x=false:=fun h=>jX h
 by_cases h1:1<=x.data.toList.length
 .rw[if_neg (by simp only[jA];omega)]
  by_cases h2:x.data.toList.length<=24
  .rw[if_neg (by simp only[jA];omega)]
   have b:=ZK (N:=N) (s:=x) (ks:=[1,2,3,4]) (i:=0) (by omega) (by omega) (by simp) (by omega)
   rw[show((0:Nat):Int)=0 from rfl] at b
   rw[b]
   simp only[j0]
   refine congrArg some ?_
   by_cases h3:tw (bT [1,2,3,4]) x.data.toList 0=x.data.toList.length
   .have:AB x=true:=kC ⟨h1,h2,qAa.1 h3⟩
    rw[this,h3,d]
    simp
   rw[a fun h=>h3 (qAa.2 h.2.2)]
   simp only[kQ,fY,ne_eq]
   omega
  rw[if_pos (by simp only[jA];omega),a fun h=>h2 h.2.1]
  rfl
 rw[if_pos (by simp only[jA];omega),a fun h=>h1 h.1]
 rfl
theorem WU{N:Nat}{L:List BA}(f:L.length<1000)(a:100<N):∀(d j M:Nat),j+d=L.length->d<M->aI (CI N L (some kdL)) M (j:Int)=some (if(L.drop j).all AB=true then .inl () else .inr false)
 |d,j,0,_,h=>by omega
 |0,j,M+1,c,e=>by
  simp only[aI,CI]
  rw[if_neg (by simp only[jA];omega),jW (by omega)]
  rfl
 |d+1,j,M+1,c,e=>by
  have b:j<L.length:=by omega
  simp only[aI,CI]
  rw[if_pos (by simp only[jA];omega),dM b]
  simp only[j0,qMo a]
  rw[kH b,List.all_cons]
  cases hp:AB L[j] with
  |true=>
   rw[if_neg (by simp),bX (by omega) (by omega)]
   simp only[j0,gF]
   exact WU f a d (j+1) M (by omega) (by omega)
  |false=>simp
theorem YL{N:Nat}{s:BA}(e:s.size<100000000)(d:2*s.size+1000<N):uT N s=some (iN s.data.toList):=by
 have g:=lE s
 have a:∀h:¬(s.data.toList.length<=80/\(sp s.data.toList).length<=8/\∀p∈sp s.data.toList,1<=p.length/\p.length<=24/\∀c∈p,bT [1,2,3,4] c=true),iN s.data.toList=false:=fun h=>jX h
 simp only[uT,qJy e d,j0,gJ]
 by_cases h80:s.data.toList.length<=80
 .rw[if_neg (by simp only[jA];omega)]
  by_cases h8:(sp s.data.toList).length<=8
  .have b:decide (((sp s.data.toList).length:Int)>8)=false:=jX (by omega)
   simp only[j0,b,jB,jI,PU (show 30<N by omega)]
   have key:=WU (N:=N) (L:=(sp s.data.toList).map cQ) (by rw[gJ];omega) (by omega) _ 0 N (kO _) (by rw[gJ];omega)
   rw[show((0:Nat):Int)=0 from rfl,jZ] at key
   rw[key]
   simp only[j0]
   by_cases hp:((sp s.data.toList).map cQ).all AB=true
   .have:iN s.data.toList=true:=kC ⟨h80,h8,fun p hp'=>by
     have:=(WT _).1 (kE.1 hp (cQ p) (gY hp'))
     simpa[cQ] using this⟩
    rw[if_pos hp,this]
   rw[if_neg hp,a fun h=>hp (kE.2 fun x f=>by
    obtain⟨p,hp',rfl⟩:=fT.1 f
    exact(WT _).2 (by simpa[cQ] using h.2.2 p hp'))]
  have b:decide (((sp s.data.toList).length:Int)>8)=true:=kC (by omega)
  simp only[j0,b,jJ]
  rw[a fun h=>h8 h.2.1]
 rw[if_pos (by simp only[jA];omega)]
 simp only[j0,jJ]
 rw[a fun h=>h80 h.1]
def run{α τ β:Type}(step:τ->α->τ⊕β)(fin:τ->β):List α->τ->β
 |[],t=>fin t
 |x::l,t=>match step t x with
  | .inl t'=>run step fin l t'
  | .inr b=>b
theorem PD{α τ σ β:Type}{L:List α}(enc:τ->Nat->σ){f:σ->Option (σ⊕β)}(step:τ->α->τ⊕β)(fin:τ->β)(I:Nat->τ->Prop)
  (a:∀t i,∀hi:i<L.length,I i t->f (enc t i)=some (match step t L[i] with| .inl t'=> .inl (enc t' (i+1))| .inr b=> .inr b))
  (e:∀t i,∀hi:i<L.length,∀t',I i t->step t L[i]= .inl t'->I (i+1) t')
  (c:∀t,I L.length t->f (enc t L.length)=some (.inr (fin t))):∀(d i M:Nat) (t:τ),i+d=L.length->d<M->I i t->aI f M (enc t i)=some (run step fin (L.drop i) t)
 |_,_,0,_,_,h,_=>absurd h (kP _)
 |d,i,M+1,t,l,n,g=>by
  cases d with
  |zero=>
   have hi:i=L.length:=by omega
   subst hi
   simp only[aI,c t g,j0,hD,run]
  |succ d=>
   have hi:i<L.length:=by omega
   have k:L.drop i=L[i]::L.drop (i+1):=(hZ hi).symm
   simp only[aI,a t i hi g,j0]
   rw[k]
   simp only[run]
   cases hs:step t L[i] with
   |inl t'=>
    simp only
    exact PD enc step fin I a e c d (i+1) M t' (by omega) (by omega) (e t i hi t' g hs)
   |inr b=>rfl
theorem oR{α τ σ β:Type}{L:List α}(enc:τ->Nat->σ){f:σ->Option (σ⊕β)}(step:τ->α->τ⊕β)(fin:τ->β)(I:Nat->τ->Prop)
  (a:∀t i,∀hi:i<L.length,I i t->f (enc t i)=some (match step t L[i] with| .inl t'=> .inl (enc t' (i+1))| .inr b=> .inr b))
  (d:∀t i,∀hi:i<L.length,∀t',I i t->step t L[i]= .inl t'->I (i+1) t')
  (c:∀t,I L.length t->f (enc t L.length)=some (.inr (fin t))) {M:Nat} {t:τ} (g:L.length<M) (e:I 0 t):aI f M (enc t 0)=some (run step fin L t):=by
 have:=PD enc step fin I a d c L.length 0 M t (by omega) g e
 rw[jZ] at this;exact this
theorem KS{α τ β:Type}{step:τ->α->τ⊕β}{fin:τ->β}(g:τ->α->τ)(h:∀t x,step t x= .inl (g t x)):∀(l:List α) (t:τ),run step fin l t=fin (l.foldl g t)
 |[],_=>rfl
 |x::l,t=>by simp only[run,h,List.foldl_cons];exact KS g h l _
theorem tR{α β:Type}{step:Unit->α->Unit⊕β}{fin:Unit->β}{b:β}(p:α->Bool)(h:∀x,step () x=if p x=true then .inr b else .inl ()):∀l:List α,run step fin l ()=if l.any p=true then b else fin ()
 |[]=>rfl
 |x::l=>by
  have a:=tR (fin:=fin) p h l
  rw[fI]
  by_cases hp:p x=true
  .have e:step () x= .inr b:=by rw[h,if_pos hp]
   simp only[run,e]
   rw[hp,Bool.true_or,if_pos rfl]
  have e:step () x= .inl ():=by rw[h,if_neg hp]
  simp only[run,e]
  rw[a,show p x=false by simpa using hp,kX]
theorem uU{α:Type}{l:List α}{i:Nat}(h:i<l.length):l.drop i=l[i]::l.drop (i+1):=(hZ h).symm
theorem CT{α:Type}{l:List α}{i:Nat}(h:i<l.length):l.take (i+1)=l.take i++[l[i]]:=gH h
end
end Go.Proofs.YthbfjomffkpjdaaGreatDoor
