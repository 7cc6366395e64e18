/- No condition but those of each theorem. -/
import Derived.Test.YthiiggmmmoolbaaGreatDoorProg
import Derived.WalkKit
import Derived.Deep.LoopGhost
import Derived.KernelRfl
import Derived.OrdersHeld
import Derived.OrdersIn
import Derived.LoopNIn
import Derived.Sort.LoopGhostIn
import Derived.Laws.AppendOwn
import Derived.RangeFuncLeaves
import Derived.RangeFuncRecord
import Derived.MapKept
import Derived.Maps.RangeRun
import Derived.ChangeKeysEq
import Derived.HandedShaped
import Derived.ChangeStays
import Derived.ChangeSame
import Derived.OpenShut
import Derived.WideShapes
import Derived.JoinedOf
import Derived.ReadAgain
import Derived.ChangeAt
import Derived.RowKit
import Derived.Lib.Overlaps
import Derived.Shelf.Sort.Plain
import Derived.Shelf.Slices.In.SortNone
import Derived.WalkSmall
import Derived.Recover
import Derived.Lib.Builder
import Derived.Lib.UnsafeStr
import Derived.Shelf.Strconv.Itoa3
import Derived.Room.Shelf.Join48
import Derived.Test.YthiiggmmmoolbaaGreatDoorRows
import Derived.Lib.Bytealg
import Derived.Test.YthiiggmmmoolbaaGreatDoorK3t1
namespace Go.Proofs.YthiiggmmmoolbaaGreatDoor
section
open Go Go.Dc Go.Proofs.Tryz
set_option maxHeartbeats 4000000
set_option maxRecDepth 100000
variable {N bp0 c1 c2 c3 c4:Nat} {m:Mem} {O:List Piece} {w:World} {a1 a2 a3 a4:Option Addr}
def DR(N:Nat)(a:sX):Option (sX⊕sX⊕T1y):=
 (tN N a.2).bind fun b=>(match b with| .inl b=>some (.inr (.inr (.inl b)))| .inr y5=>(if((List.length a.1:Int)==8)=true then((iK N y5.2 2).bind fun b=>(match b with| .inl b=>some (.inr (.inr (.inr (.inl b))))| .inr b=>some (.inl ()))) else(some (.inl ())):Option T1z).bind fun b=>(match b with| .inl o2=>(sB N a.1 y5.2.2.1).bind fun b=>(if b=true then((iK N y5.2 10).bind fun b=>(match b with| .inl b=>some (.inr (.inr (.inr (.inl b))))| .inr b=>some (.inl ()))) else(some (.inl ())):Option T1z).bind fun b=>(match b with| .inl b=>(cW 16 a.1 ([y5.2.2.1])).bind fun b=>(sF N y5.1 (⟨#[44]⟩:BA)).bind fun a=>if(!a.2)=true then(some (.inr (.inl (b,a.1.1,a.1.2.1,a.1.2.2.1,a.1.2.2.2)))) else(some (.inl (b,a.1.1,a.1.2.1,a.1.2.2.1,a.1.2.2.2)))| .inr z=>some z)| .inr z=>some z))
def zW(N:Nat)(p0:bN):Option T1y:=
 (mY N p0 (⟨#[40]⟩:BA)).bind fun y1=>(match y1 with| .inl a=>some (.inl a)| .inr a=>(sF N a (⟨#[41]⟩:BA)).bind fun a=>if a.2=true then(some (.inr (a.1,([]:T6)))) else((aI (DR N) N (([]:T6),a.1.1,a.1.2.1,a.1.2.2.1,a.1.2.2.2)).bind fun a=>(match a with| .inl a=>(mY N a.2 (⟨#[41]⟩:BA)).bind fun b=>(match b with| .inl b=>some (.inl b)| .inr b=>some (.inr (b,a.1)))| .inr (z)=>some z)))
theorem qAx{p0:bN}{r:T1y}(g:St m (kB bp0 (Vd p0 a1 c1 a2 c2 a3 c3) 84::kR a3 p0.2.2.2 c3 61 5::O) w)(r1:RepS C2 m a1 c1 p0.1)(r2:RepS aH m a2 c2 p0.2.2.1)(r3:RepS C3 m a3 c3 p0.2.2.2)(i:zW N p0=some r):Calls prog 127 #[vP bp0 0] w fun e w'=>(∃(z0:Tl),∃m',r= .inl z0/\e= .panicked [{v:= .iface 80 (.agg (Ve z0)),recovered:=false}]/\m.le m'/\St m' (O) w')\/(∃(D:bN×T6),r= .inr D/\∃g3 g5 g4 g6 d4 d6 d5 d7 m',e= .returned (vS d5 D.2 d7)/\m.le m'/\St m' (kR d5 D.2 d7 9 1::kB bp0 (Vd D.1 g3 g5 g4 g6 d4 d6) 84::kR d4 D.1.2.2.2 d6 61 5::O) w'/\RepS C2 m' g3 g5 D.1.1/\RepS aH m' g4 g6 D.1.2.2.1/\RepS C3 m' d4 d6 D.1.2.2.2/\RepS aH m' d5 d7 D.2):=by
 unfold zW at i;have q:=m.le_refl;refine bF func127 rfl ntmps127 ?_;refine aB 1 [] (aC ?_);refine aF 1 [(3,v1)] (aC (aA 1 [(5,vP bp0 0)] (cY 6 i (qS (p0:=p0) g.f1.f1 r1 r2 r3) ?_)));rintro y1 i _ w1 (⟨z1,m2,rfl,rfl,e2,g⟩|⟨y2,rfl,a4,c4,a5,c5,a6,c6,m1,rfl,e1,g,r4,r5,r6⟩)
 .refine bW ?_;obtain rfl:=sI i;exact cT (.inl ⟨z1,m2,rfl,rfl,q.t e2,g⟩)
 refine aQ (aE (aT 1 [(7,vP bp0 0)] (aK 8 i (zY (p0:=y2) g.f1.f1 r4 r5 r6) ?_)));rintro y3 i _ w3 ⟨a7,c7,a8,c8,a9,c9,m3,rfl,e3,g,r7,r8,r9⟩;refine aQ (aG i ?_ ?_)
 .intro A i;refine aB 1 [(2,v1)] (aJ ?_);refine aL ?_;cases i;refine aO [2] [v1] ?_;have g:=(g.nilroom 9 1).front2.front2.front2;exact .inr ⟨_,rfl,a7,c7,a8,c8,a9,c9,none,0,m3,rfl,(q.t e1).t e3,g,r7,r8,r9,(RepS.nil _ _)⟩
 intro A i;refine aM (aD (aE (bA ?_)));have⟨d3,i,j1⟩:=aW i;refine cO (.exit 0) (fun L' w'=>∃(f:sX),∃l n b3 b8 b4 b9 K U G,(.inl f)=d3/\L'=[(0,vP bp0 0),(3,vS l f.1 n)]/\m.le G/\St G (kB bp0 (Vd f.2 b3 b8 b4 b9 K U) 84::kR l f.1 n 9 1::kR K f.2.2.2.2 U 61 5::O) w'/\RepS aH G l n f.1/\RepS C2 G b3 b8 f.2.1/\RepS aH G b4 b9 f.2.2.2.1/\RepS C3 G K U f.2.2.2.2) ?_ ?_
 .rintro _ Z ⟨f,l,n,b3,b8,b4,b9,K,U,G,rfl,rfl,q,g,y,z,B,E⟩;have i:=j1;refine cK (aD (aT 1 [(30,vP bp0 0)] (cY 31 i (qS (p0:=f.2) g.f2.f1 z B E) ?_)));rintro V i _ S (⟨R,x,rfl,rfl,s,g⟩|⟨Y,rfl,b,k,c,o,d,p,u,rfl,a,g,F,H,M⟩)
  .refine bW ?_;obtain rfl:=sI i;have g:=g.t;exact cT (.inl ⟨R,x,rfl,rfl,q.t s,g⟩)
  refine aQ (aC (aF 2 [(2,vS l f.1 n)] (aJ ?_)));cases i;exact aO [2] [vS l f.1 n] (.inr ⟨_,rfl,b,k,c,o,d,p,l,n,u,rfl,q.t a,g.f1.f1.f2,F,H,M,y.mono a⟩)
 intro d8;have g:=(g.nilroom 9 1).front2.front1.front2;refine cH _ kr (cG (fun k1 L' w'=>∃(a:sX),∃b c b5 d0 b6 d1 M V H,aI (DR N) k1 a=some d3/\L'=[(0,vP bp0 0),(3,vS b a.1 c)]/\m.le H/\St H (kB bp0 (Vd a.2 b5 d0 b6 d1 M V) 84::kR b a.1 c 9 1::kR M a.2.2.2.2 V 61 5::O) w'/\RepS aH H b c a.1/\RepS C2 H b5 d0 a.2.1/\RepS aH H b6 d1 a.2.2.2.1/\RepS C3 H M V a.2.2.2.2) N ⟨(([]:T6),y3.1.1,y3.1.2.1,y3.1.2.2.1,y3.1.2.2.2),none,0,a7,c7,a8,c8,a9,c9,m3,i,rfl,(q.t e1).t e3,g,(RepS.nil _ _),r7,r8,r9⟩ ?_);rintro k1 _ w5 ⟨a,b,c,b5,d0,b6,d1,M,V,H,hL,rfl,q,g,k,h1,h2,h3⟩;rcases k1 with _|k1
 .exact cJ hL
 obtain⟨h7,i,g7,B⟩:=cL hL;clear hL;unfold DR at i;refine bA (aT 1 [(9,vP bp0 0)] (cY 10 i (JA (p0:=a.2) g.f2.f1 h1 h2 h3) ?_));rintro y4 i _ w6 (⟨z2,m7,rfl,rfl,e5,g⟩|⟨y5,rfl,R,Y,S,Z,u,x,m6,rfl,e4,g,o,p,s⟩)
 .refine bW ?_;refine eZ ?_;have ho:=B _ (sI i);subst ho;have i:=j1;refine bW ?_;refine eZ ?_;refine bW ?_;obtain rfl:=sI i;have g:=g.t;exact cT (.inl ⟨z2,m7,rfl,rfl,q.t e5,g⟩)
 have q:=q.t e4;refine cZ 4 109 (.agg (V3 0 eB 0 0)) g fun b1 w8 g=> ?_;refine cA (.agg (V2 y5.2)) g fun w9 g=> ?_;refine aQ (aE (aB 3 [(13,vB ((a.1.length:Int)==8))] ?_));have⟨g9,i,j2⟩:=aW i;refine cO .normal (fun L' w'=>∃(o2:Unit),∃m8,(.inl o2:T1z)=g9/\L'=[(0,vP bp0 0),(3,vS b a.1 c),(4,vP b1 0)]/\m.le m8/\St m8 (kB b1 (V2 y5.2) 109::kB bp0 (Vd y5.1 R Y S Z u x) 84::kR u y5.1.2.2.2 x 61 5::kR b a.1 c 9 1::O) w'/\RepS aH m8 b c a.1/\P7 m8 R Y S Z u x y5.1) ?_ ?_
 .rintro _ h8 ⟨o2,m8,rfl,rfl,q,g,k,o,p,s⟩;have i:=j2;refine aD (aE (aT 2 [(16,vS b a.1 c),(17,vP b1 1)] (bE 18 (vT y5.2.2.1) g.h (aK 19 i (IM g k) ?_))));rintro y8 i _ h9 ⟨g8,rfl,z,g⟩;have q:=q.t z;refine aQ ?_;have⟨h0,i,j3⟩:=aW i;refine cO .normal (fun L' w'=>∃(o3:Unit),∃F,(.inl o3:T1z)=h0/\L'=[(0,vP bp0 0),(3,vS b a.1 c),(4,vP b1 0)]/\m.le F/\St F (kB b1 (V2 y5.2) 109::kB bp0 (Vd y5.1 R Y S Z u x) 84::kR u y5.1.2.2.2 x 61 5::kR b a.1 c 9 1::O) w'/\RepS aH F b c a.1/\P7 F R Y S Z u x y5.1) ?_ ?_
  .rintro _ k0 ⟨o3,F,rfl,rfl,q,g,k,o,p,s⟩;have i:=j3;refine aD (aT 2 [(22,vS b a.1 c),(23,vP b1 1)] (bE 24 (vT y5.2.2.1) g.h (eR 25 9 1 aH [y5.2.2.1] g fun b2 h5 k2 y g h4=>(iN 26 26 26 9 16 22 25 g.f4 (.inl kr) (k.mono y) h4.src i fun l1 i b7 d2 h6 k3 E g f9=>(aA 1 [(3,vS b7 l1 d2)] (aS rfl ?_))))));have g:=g.f1.t;refine aD (aT 1 [(27,vP bp0 0)] (aK 28 i (zY (p0:=y5.1) g.f3.f3 ((o.mono y).mono E) ((p.mono y).mono E) ((s.mono y).mono E)) ?_));rintro d i _ k4 ⟨d9,f5,e0,f6,f0,f7,f8,rfl,b0,g,g0,g1,g2⟩;refine aF 1 [(29,vB (!d.2))] (aG i ?_ ?_)
   .intro A i;refine cD (vN rfl ?_);have ho:=B _ (sI i);have g:=g.f3.t.f1.f2.f2;refine bD ?_;exact xE (d8 _ _ ⟨(l1,d.1.1,d.1.2.1,d.1.2.2.1,d.1.2.2.2),b7,d2,d9,f5,e0,f6,f0,f7,f8,ho,rfl,((q.t y).t E).t b0,g,f9.mono b0,g0,g1,g2⟩)
   intro A i;refine aM (bI ?_);have hL:=g7 _ (sI i);exact xE (cE ⟨(l1,d.1.1,d.1.2.1,d.1.2.2.1,d.1.2.2.2),b7,d2,d9,f5,e0,f6,f0,f7,f8,hL,rfl,((q.t y).t E).t b0,g.f3.t.f1.f2.f2,f9.mono b0,g0,g1,g2⟩)
  intro y;refine aG i ?_ ?_
  .intro A i;refine aX (bE 20 (.agg (V2 y5.2)) g.h (cY 21 i (mZ (p0:=y5.2) g) ?_));rintro y9 i _ d9 (⟨z4,d2,rfl,rfl,b0,g⟩|⟨e0,rfl,b7,rfl,d,g⟩)
   .obtain rfl:=sI i;have i:=j3;refine bW ?_;refine eZ ?_;have ho:=B _ (sI i);subst ho;have i:=j1;refine bW ?_;refine eZ ?_;refine bW ?_;obtain rfl:=sI i;have g:=g.t.t.t.t;exact cT (.inl ⟨z4,d2,rfl,rfl,q.t b0,g⟩)
   refine aS rfl ?_;have E:=jG i;exact xE (y _ _ ⟨(),b7,E,rfl,q.t d,g.f3.f3.f3.f3,(k.mono z).mono d,(o.mono z).mono d,(p.mono z).mono d,(s.mono z).mono d⟩)
  intro A i;refine aM ?_;have E:=jG i;exact xE (y _ _ ⟨(),g8,E,rfl,q,g.f3.f3.f3.f3,k.mono z,o.mono z,p.mono z,s.mono z⟩)
 intro y;refine aG i ?_ ?_
 .intro A i;refine aX (bE 14 (.agg (V2 y5.2)) g.h (cY 15 i (mZ (p0:=y5.2) g) ?_));rintro y6 i _ b0 (⟨z3,E,rfl,rfl,F,g⟩|⟨y7,rfl,m9,rfl,d,g⟩)
  .obtain rfl:=sI i;have i:=j2;refine bW ?_;refine eZ ?_;have ho:=B _ (sI i);subst ho;have i:=j1;refine bW ?_;refine eZ ?_;refine bW ?_;obtain rfl:=sI i;have g:=g.t.t.t.t;exact cT (.inl ⟨z3,E,rfl,rfl,q.t F,g⟩)
  refine aS rfl ?_;have z:=jG i;exact xE (y _ _ ⟨(),m9,z,rfl,q.t d,g.f3.f3.f3.f3,(k.mono e4).mono d,o.mono d,p.mono d,s.mono d⟩)
 intro A i;refine aM ?_;have z:=jG i;exact xE (y _ _ ⟨(),m6,z,rfl,q,g.f3.f3.f3.f3,k.mono e4,o,p,s⟩)
def qU(N:Nat)(p0:bN)(p1:Tm)(p2:Tr):dW:=
 (if((List.length p0.2.2.2:Int)==256)=true then((iK N p1 2).bind fun y1=>(match y1 with| .inl a=>some (.inr (.inl a))| .inr a=>some (.inl ()))) else(some (.inl ())):Option wQ).bind fun a=>(match a with| .inl a=>(cW 64 p0.2.2.2 ([p2])).bind fun a=>some (.inr ((p0.1,p0.2.1,p0.2.2.1,a),IntKind.wrap .i64 ((List.length a:Int)-1)))| .inr z=>some z)
theorem xL{p0:bN}{p1:Tm}{p2:Tr}{r:mT}(g:St m (kB bp0 (Vd p0 a1 c1 a2 c2 a3 c3) 84::kR a3 p0.2.2.2 c3 61 5::O) w)(z:RepS C2 m a1 c1 p0.1)(B:RepS aH m a2 c2 p0.2.2.1)(D:RepS C3 m a3 c3 p0.2.2.2)(E:RepS (aV .i64) m a4 c4 p2.2.2.2.2)(i:qU N p0 p1 p2=some r):Calls prog 152 #[vP bp0 0,.agg (V2 p1),.agg (V8 p2 a4 c4)] w fun e w'=>(∃(z0:Tl),∃m',r= .inl z0/\e= .panicked [{v:= .iface 80 (.agg (Ve z0)),recovered:=false}]/\m.le m'/\St m' (O) w')\/(∃(s:nL),r= .inr s/\∃F H G K o p m',e= .returned (vI s.2)/\m.le m'/\St m' (kB bp0 (Vd s.1 F H G K o p) 84::kR o s.1.2.2.2 p 61 5::O) w'/\P7 m' F H G K o p s.1):=by
 unfold qU at i;have q:=m.le_refl;refine bF func152 rfl ntmps152 ?_;refine aC (iE 4 109 (.agg (V2 p1)) g fun b1 m1 w1 f g R=>(iE 5 61 (.agg (V8 p2 a4 c4)) g fun M Y w2 b g k=> ?_));have q:=(q.t f).t b;refine aF 1 [] (aE (aC (bL 3 10 41 9 3 (vS a3 p0.2.2.2 c3) g.h (aF 2 [(12,vB ((p0.2.2.2.length:Int)==256))] ?_))));have⟨V,i,S⟩:=aW i;refine cO .normal (fun L' w'=>∃(U:Unit),∃c,(.inl U:wQ)=V/\L'=[(0,vP bp0 0),(5,vP M 0)]/\m.le c/\St c (kB bp0 (Vd p0 a1 c1 a2 c2 a3 c3) 84::kR a3 p0.2.2.2 c3 61 5::O) w'/\MRow c M 0 (V9 p2 a4 c4)/\RepS (aV .i64) c a4 c4 p2.2.2.2.2/\P7 c a1 c1 a2 c2 a3 c3 p0) ?_ ?_
 .rintro _ w3 ⟨U,c,rfl,rfl,q,g,k,E,z,B,D⟩;have i:=S;refine aD (aE (eC [(11,fun w'=>Inv c w'/\True),(10,fun w'=>Inv c w'/\Piece.holds c w' (kB bp0 (Vd p0 a1 c1 a2 c2 a3 c3) 84)/\True)] kr g fun w6 _ g=> ?_));have a:=c.le_refl;refine⟨⟨iA g a,⟨.inr ⟨Inv.anti g.inv a,Piece.holds_anti g.h a,trivial⟩,trivial⟩⟩,?_⟩;refine aR 0 15 (vP bp0 0) (.head _) (aR 1 16 (vP bp0 0) (.head _) (aR 2 17 (vP bp0 0) (.head _) (aR 3 18 (vP bp0 3) (.head _) (dM 41 18 4 19 3 (vS a3 p0.2.2.2 c3) (.tail _ (.head _)) (fun _ h=>h.2.1) (eP 61 5 5 20 0 (.agg (V8 p2 a4 c4)) (.head _) (fun _ h=>h.1) k (cB 6 kr (nN (d:=21) (t:=41) (e:=61) (len:=1) (parts:= #[(0,(.tmp 20))]) C3 (xs:=[p2]) (V9 p2 a4 c4) kr rfl (fun _=>nO kr _) rfl rfl g ⟨(V9 p2 a4 c4),_,rfl,⟨_,_,rfl,rfl,⟨_,_,rfl,rfl,⟨_,_,rfl,rfl,⟨_,_,rfl,rfl,(rA E)⟩⟩⟩⟩,rfl⟩ fun b3 m6 w7 l g r5=> ?_)))))));have a:=Mem.le_trans a l;refine⟨⟨iA g a,⟨.inr ⟨Inv.anti g.inv a,Piece.holds_anti g.t.h a,trivial⟩,trivial⟩⟩,?_⟩;refine cB 7 kr (CH 22 41 41 61 64 19 21 g.f2 (.inl kr) (D.mono l) r5.src i fun n i u x Z w8 y g r6=> ?_);have a:=Mem.le_trans a y;refine⟨⟨iA g a,⟨.inr ⟨Inv.anti g.inv a,Piece.holds_anti g.t.t.h a,trivial⟩,trivial⟩⟩,?_⟩
  refine aR 8 23 (vP bp0 0) (.head _) (aR 9 24 (vP bp0 3) (.head _) (cB 10 kr (GU 41 24 22 3 (vS u n x) #[vS a1 p0.1 c1,vI p0.2.1,vS a2 p0.2.2.1 c2,vS u n x] g.f2 fun w9 g=>(⟨⟨iA g a,⟨.inl rfl,trivial⟩⟩,?_⟩))));refine dU kr ?_;have g:=g.f2.t;refine aD (aC (bL 3 28 41 27 3 (vS u n x) g.h (aF 3 [(6,vI (wr ((n.length:Int)-1)))] (aJ ?_))));obtain rfl:=sI i;exact aO [6] [vI (wr ((n.length:Int)-1))] (.inr ⟨_,rfl,a1,c1,a2,c2,u,x,Z,rfl,(q.t l).t y,g.f1.f1,(z.mono l).mono y,(B.mono l).mono y,r6⟩)
 intro l;refine aG i ?_ ?_
 .intro A i;refine aX (bJ 13 (.agg (V2 p1)) g (R.mono b) (cY 14 i (mZ (p0:=p1) g) ?_));rintro y1 i _ w4 (⟨Z,y,rfl,rfl,u,g⟩|⟨y2,rfl,x,rfl,a,g⟩)
  .obtain rfl:=sI i;have i:=S;refine bW ?_;obtain rfl:=sI i;have g:=g.t.t;exact cT (.inl ⟨Z,y,rfl,rfl,q.t u,g⟩)
  refine aS rfl ?_;have n:=jG i;exact xE (l _ _ ⟨(),x,n,rfl,q.t a,g.f1.f1,k.mono a,((E.mono f).mono b).mono a,((z.mono f).mono b).mono a,((B.mono f).mono b).mono a,((D.mono f).mono b).mono a⟩)
 intro A i;refine aM ?_;have n:=jG i;exact xE (l _ _ ⟨(),Y,n,rfl,q,g.f1.f1,k,(E.mono f).mono b,(z.mono f).mono b,(B.mono f).mono b,(D.mono f).mono b⟩)
def uX(N:Nat)(p1:Int)(y1:uU)(a:Option uS)(b:Unit):Option (Unit⊕Unit⊕nL):=
 (match a with|none=>some (.inr (.inl ()))|some a=>(if(y1.2.1==4)=true then(if(y1.2.2.1.toList==a.2.toList)=true then((yB N a.1).bind fun b=>some (b==p1)) else(some false)) else(some false):Te).bind fun o2=>if o2=true then(some (.inr (.inr ((y1.1,a.1))))) else(some (.inl ())))
instance dec_source_parser_operator_L1:DecidableEq (Unit⊕nL):=(@instDecidableEqSum _ _ inferInstance (@instDecidableEqProd _ _ (@instDecidableEqProd _ _ (@instDecidableEqList _ (@instDecidableEqProd _ _ inferInstance (@instDecidableEqProd _ _ inferInstance (@instDecidableEqProd _ _ inferInstance inferInstance)))) (@instDecidableEqProd _ _ inferInstance (@instDecidableEqProd _ _ (@instDecidableEqList _ inferInstance) (@instDecidableEqList _ (@instDecidableEqProd _ _ inferInstance (@instDecidableEqProd _ _ inferInstance (@instDecidableEqProd _ _ inferInstance (@instDecidableEqProd _ _ inferInstance (@instDecidableEqList _ inferInstance))))))))) inferInstance))
def EN(N:Nat)(p0:bN)(p1:Int):Option nL:=
 (oQ N p0).bind fun y1=>(BN N).bind fun a=>(isQ a).bind fun b=>(uF (uX N p1 y1) (Option.getD a []) ()).bind fun a=>(match a with| .inl a=>some (y1.1,0)| .inr (z)=>some z)
theorem qBd{p0:bN}{p1:Int}{r:nL}(g:St m (kB bp0 (Vd p0 a1 c1 a2 c2 a3 c3) 84::kR a3 p0.2.2.2 c3 61 5::O) w)(r1:RepS C2 m a1 c1 p0.1)(r2:RepS aH m a2 c2 p0.2.2.1)(r3:RepS C3 m a3 c3 p0.2.2.2)(i:EN N p0 p1=some r):Calls prog 161 #[vP bp0 0,vI p1] w fun e w'=>∃c7 c9 c8 d0 a9 b0 m',e= .returned (vI r.2)/\m.le m'/\St m' (kB bp0 (Vd r.1 c7 c9 c8 d0 a9 b0) 84::kR a9 r.1.2.2.2 b0 61 5::O) w'/\P7 m' c7 c9 c8 d0 a9 b0 r.1:=by
 unfold EN at i;have q:=m.le_refl;refine bF func161 rfl ntmps161 ?_;refine aB 1 [] (aC ?_);refine aA 1 [(8,vP bp0 0)] (aK 9 i (rK (p0:=p0) g.f1.f1 r1 r2 r3) ?_);rintro y1 i _ w1 ⟨E,G,F,H,l,o,m1,rfl,e1,g,s,u,v⟩;refine cZ 5 109 (.agg (V3 0 eB 0 0)) g fun Z w2 g=> ?_;refine cA (.agg (V2 y1.2)) g fun w3 g=> ?_;refine aQ (aE (aC (aK 10 i (RX g) ?_)));rintro y2 i _ w4 ⟨q1,b,a,m2,rfl,e2,g,k⟩;have⟨u1,d3,i⟩:=aW i;obtain⟨y,rfl⟩:=MapQ.at k d3;refine bB rfl (UU (ek:=(fun n:Int=>Value.int .i64 n)) (c:=aH) (agg:=false) (d:=11) (t:=146) (kt:=3) (et:=9) (x:=(.tmp 10)) kr rfl (ev (.map (some y))) kr g k fun R w5 g d2=>(aQ (bA ?_)));have⟨a8,i,j2⟩:=aW i;refine cO (.exit 0) (fun L' w'=>∃(o1:Unit) (b6:Array Nat) (b4:lR),∃B,(.inl o1)=a8/\L'=[]/\m.le B/\St B (kB Z (V2 y1.2) 109::kB bp0 (Vd y1.1 E G F H l o) 84::dS (some y) b a::pK R (some y) a b6::kR l y1.1.2.2.2 o 61 5::O) w'/\RepS C2 B E G y1.1.1/\RepS aH B F H y1.1.2.2.1/\RepS C3 B l o y1.1.2.2.2/\MapQ (fun n:Int=>Value.int .i64 n) aH false B (some y) b a y2/\ItR (fun n:Int=>Value.int .i64 n) aH false B b b6 b4) ?_ ?_
 .rintro _ p ⟨o1,b6,b4,B,rfl,rfl,q,g,s,u,v,k,f⟩;have i:=j2;refine cK (aD (aT 1 [(4,vI 0)] (aS rfl ?_)));have g:=g.f3.t;refine aD (aJ ?_);cases i;exact aO [4] [vI 0] ⟨E,G,F,H,l,o,B,rfl,q,g.t.f1.t.f1.f1,s,u,v⟩
 intro b8;refine cH _ kr (cG (fun k1 L' w'=>∃(s1:Unit) (U:Array Nat) (D:lR),∃p,LoopE (uX N p1 y1) D s1 a8 k1/\L'=[(1,vI p1),(5,vP Z 0),(11,vP R 0)]/\m.le p/\St p (kB Z (V2 y1.2) 109::kB bp0 (Vd y1.1 E G F H l o) 84::dS (some y) b a::pK R (some y) a U::kR l y1.1.2.2.2 o 61 5::O) w'/\RepS C2 p E G y1.1.1/\RepS aH p F H y1.1.2.2.1/\RepS C3 p l o y1.1.2.2.2/\MapQ (fun n:Int=>Value.int .i64 n) aH false p (some y) b a y2/\ItR (fun n:Int=>Value.int .i64 n) aH false p b U D) (List.length (Option.getD y2 [])+1) ⟨(),#[],(Option.getD y2 []),m2,LoopE.start i,rfl,(q.t e1).t e2,g.f4.f1.f2.f4.f4,s.mono e2,u.mono e2,v.mono e2,k,d2⟩ ?_);rintro k1 _ w7 ⟨s1,U,D,p,hL,rfl,q,g,s,u,v,k,b9⟩;rcases k1 with _|k1
 .exact LoopE.zero hL
 refine aC ?_;have g:=g.f2.f3;refine bB rfl (WN (ek:=(fun n:Int=>Value.int .i64 n)) (c:=aH) (agg:=false) (d:=12) (x:=(.tmp 11)) kr rfl (ev (vP R 0)) g k b9 ?_ ?_)
 .intro f z g;obtain⟨d6,i,a7,S⟩:=hL.nil f;clear hL;unfold uX at i;refine aF 1 [(13,vB false)] (aE (rQ false kr (fun h=>Bool.noConfusion h) ?_));intro _;refine cD (bD ?_);cases i;have ho:=S _ rfl;have g:=g.f4.f1.f2.f4.f4;refine bD ?_;exact xE (b8 _ _ ⟨(),U,D,p,ho,rfl,q,g,s,u,v,k,b9⟩)
 rintro f b5 b7 d7 w9 d5 rfl g M d1;obtain⟨d6,i,a7,S⟩:=hL.cons d5;clear hL;unfold uX at i;refine aF 1 [(13,vB true)] (aE (rQ true kr ?_ (fun h=>Bool.noConfusion h)));intro _;refine aM (aD (bA (aC ?_)));have g:=g.f1.f1;refine bB rfl (UX (ek:=(fun n:Int=>Value.int .i64 n)) (c:=aH) (agg:=false) (d:=14) (x:=(.tmp 11)) (K:=vI f.1) (V:=vT f.2) kr rfl (ev (vP R 0)) g k d1 (aF 4 [(6,vI f.1),(7,vT f.2)] (aC (cU 15 i (fun o2 L' w'=>∃z,L'=[(1,vI p1),(5,vP Z 0),(6,vI f.1),(11,vP R 0),(31,vB o2)]/\m.le z/\St z (kB Z (V2 y1.2) 109::kB bp0 (Vd y1.1 E G F H l o) 84::dS (some y) b a::pK R (some y) a b7::kR l y1.1.2.2.2 o 61 5::O) w'/\RepS C2 z E G y1.1.1/\RepS aH z F H y1.1.2.2.1/\RepS C3 z l o y1.1.2.2.2/\MapQ (fun n:Int=>Value.int .i64 n) aH false z (some y) b a y2/\ItR (fun n:Int=>Value.int .i64 n) aH false z b b7 b5) ?_ ?_))))
 .rintro o2 i _ Y ⟨z,rfl,q,g,s,u,v,k,M⟩;refine aQ (aG i ?_ ?_)
  .intro A i;refine aT 2 [(4,vI f.1)] ?_;refine aS rfl ?_;have g:=g.f3.t;refine aD (aJ (aZ ?_));cases i;have ho:=S _ rfl;subst ho;have i:=j2;refine aL (aZ (aL ?_));cases i;exact aO [4] [vI f.1] ⟨E,G,F,H,l,o,z,rfl,q,g.t.f1.t.f1.f1,s,u,v⟩
  intro A i;refine aM (bI ?_);obtain rfl:=sI i;have hL:=a7 _ rfl;exact xE (cE ⟨(),b7,b5,z,hL,rfl,q,g.f4.f4.f4.f4.f4,s,u,v,k,M⟩)
 intro o2 i K;refine bL 1 18 3 17 0 (vI y1.2.1) g.t.t.h (aA 2 [(20,vB (y1.2.1==4))] (bC 20 i ?_ ?_))
 .intro A i;refine bL 1 22 9 21 1 (vT y1.2.2.1) g.t.t.h (aA 4 [(26,vB (y1.2.2.1.toList==f.2.toList))] (bC 26 i ?_ ?_))
  .intro A i;refine aA 1 [(27,vI f.1)] (aK 28 i (RQ g) ?_);rintro y3 i _ d8 ⟨m6,rfl,Y,g⟩;refine aA 3 [(31,vB (y3==p1))] ?_;cases i;exact aU _ kr (K _ _ ⟨m6,rfl,q.t Y,g.f4.f1.f2.f4.f4,s.mono Y,u.mono Y,v.mono Y,k.mono Y,M.mono Y⟩)
  intro A i;refine aA 5 [(31,vB false)] ?_;cases i;exact aU _ kr (K _ _ ⟨p,rfl,q,g.f4.f1.f2.f4.f4,s,u,v,k,M⟩)
 intro A i;refine aA 11 [(31,vB false)] ?_;cases i;exact aU _ kr (K _ _ ⟨p,rfl,q,g.f4.f1.f2.f4.f4,s,u,v,k,M⟩)
end
section
open Go Go.Dc Go.Proofs.Tryz
set_option maxHeartbeats 4000000
set_option maxRecDepth 100000
variable {N bp0 c1 c2 c3:Nat} {m:Mem} {O:List Piece} {w:World} {a1 a2 a3:Option Addr}
def EE(N:Nat)(Rb:bN->Tm->(Int)->dW)(Rc:bN->(Int)->qP)(Rd:bN->(Int)->dW)(Re:bN->(Int)->(Int)->dW)(Rf:bN->(Int)->dW)(p0:bN)(p1:Tm)(p2:Int):dW:=
 (mY N p0 (⟨#[40]⟩:BA)).bind fun y1=>(match y1 with| .inl a=>some (.inl a)| .inr b=>(if(p1.2.1.toList==(⟨#[114,101,97,100]⟩:BA).toList)=true then((tL N b).bind fun a=>(match a with| .inl a=>some (.inr (.inl a))| .inr c=>(mY N c.1 (⟨#[44]⟩:BA)).bind fun y5=>(match y5 with| .inl a=>some (.inr (.inl a))| .inr a=>(Rf a (IntKind.wrap .i64 (p2+1))).bind fun a=>(match a with| .inl a=>some (.inr (.inl a))| .inr a=>some (.inl (6,0,c.2.2.1,[a.2],a.1.1,a.1.2.1,a.1.2.2.1,a.1.2.2.2)))))) else(if(p1.2.1.toList==(⟨#[115,105,122,101]⟩:BA).toList)=true then((tL N b).bind fun a=>(match a with| .inl a=>some (.inr (.inl a))| .inr a=>some (.inl (7,0,a.2.2.1,([]:T9),a.1.1,a.1.2.1,a.1.2.2.1,a.1.2.2.2)))) else(if(p1.2.1.toList==(⟨#[104,97,115]⟩:BA).toList)=true then((tL N b).bind fun a=>(match a with| .inl a=>some (.inr (.inl a))| .inr a=>some (.inl (8,0,a.2.2.1,([]:T9),a.1.1,a.1.2.1,a.1.2.2.1,a.1.2.2.2)))) else(if(p1.2.1.toList==(⟨#[101,110,118]⟩:BA).toList)=true then((tO N b 3).bind fun a=>(match a with| .inl a=>some (.inr (.inl a))| .inr a=>(yK N a.2.2.1).bind fun c=>(if(!c)=true then((iK N a.2 9).bind fun c=>(match c with| .inl c=>some (.inr (.inr (.inl c)))| .inr c=>some (.inl ()))) else(some (.inl ())):Option T29).bind fun c=>(match c with| .inl o2=>some (.inl (9,0,a.2.2.1,([]:T9),a.1.1,a.1.2.1,a.1.2.2.1,a.1.2.2.2))| .inr z=>some z))) else((tO N b 2).bind fun a=>(match a with| .inl a=>some (.inr (.inl a))| .inr a=>(if(decide (a.2.2.2.1>=64))=true then((iK N a.2 9).bind fun b=>(match b with| .inl b=>some (.inr (.inr (.inl b)))| .inr b=>some (.inl ()))) else(some (.inl ())):Option T29).bind fun b=>(match b with| .inl b=>some (.inl (10,a.2.2.2.1,(⟨#[]⟩:BA),([]:T9),a.1.1,a.1.2.1,a.1.2.2.1,a.1.2.2.2))| .inr z=>some z)))))):Option T28).bind fun a=>(match a with| .inl a=>(mY N a.2.2.2.2 (⟨#[41]⟩:BA)).bind fun b=>(match b with| .inl b=>some (.inl b)| .inr b=>(qU N b p1 (a.1,a.2.1,0,a.2.2.1,a.2.2.2.1)).bind fun a=>(match a with| .inl a=>some (.inl a)| .inr a=>some (.inr (a.1,a.2))))| .inr z=>some z))
def DT(N:Nat)(Rf:bN->(Int)->dW)(p1:Int)(a:zM):Option (zM⊕zM⊕HS):=
 (Rf a.2 (IntKind.wrap .i64 (p1+1))).bind fun b=>(match b with| .inl b=>some (.inr (.inr (.inl b)))| .inr y5=>(cW 8 a.1 ([y5.2])).bind fun b=>(sF N y5.1 (⟨#[44]⟩:BA)).bind fun a=>if(!a.2)=true then(some (.inr (.inl (b,a.1.1,a.1.2.1,a.1.2.2.1,a.1.2.2.2)))) else(some (.inl (b,a.1.1,a.1.2.1,a.1.2.2.1,a.1.2.2.2))))
def DW(N:Nat)(Rb:bN->Tm->(Int)->dW)(Rc:bN->(Int)->qP)(Rd:bN->(Int)->dW)(Re:bN->(Int)->(Int)->dW)(Rf:bN->(Int)->dW)(p0:bN)(p1:Int):qP:=
 (mY N p0 (⟨#[40]⟩:BA)).bind fun y1=>(match y1 with| .inl a=>some (.inl a)| .inr a=>(sF N a (⟨#[41]⟩:BA)).bind fun a=>if a.2=true then(some (.inr (a.1,([]:T9)))) else((aI (DT N Rf p1) N (([]:T9),a.1.1,a.1.2.1,a.1.2.2.1,a.1.2.2.2)).bind fun a=>(match a with| .inl a=>(mY N a.2 (⟨#[41]⟩:BA)).bind fun b=>(match b with| .inl b=>some (.inl b)| .inr b=>some (.inr (b,a.1)))| .inr (z)=>some z)))
def EM(N:Nat)(Rb:bN->Tm->(Int)->dW)(Rc:bN->(Int)->qP)(Rd:bN->(Int)->dW)(Re:bN->(Int)->(Int)->dW)(Rf:bN->(Int)->dW)(p0:bN)(p1:Int):dW:=
 (oQ N p0).bind fun y1=>(if(y1.2.1==2)=true then((qU N (y1.1.1,IntKind.wrap .i64 (y1.1.2.1+1),y1.1.2.2.1,y1.1.2.2.2) y1.2 (1,y1.2.2.2.1,0,(⟨#[]⟩:BA),([]:T9))).bind fun a=>(match a with| .inl a=>some (.inr (.inl a))| .inr a=>some (.inr (.inr (a.1,a.2))))) else((sF N y1.1 (⟨#[45]⟩:BA)).bind fun a=>if a.2=true then((tO N a.1 2).bind fun y5=>(match y5 with| .inl b=>some (.inr (.inl b))| .inr b=>(qU N b.1 y1.2 (1,IntKind.wrap .i64 (0-b.2.2.2.1),0,(⟨#[]⟩:BA),([]:T9))).bind fun b=>(match b with| .inl b=>some (.inr (.inl b))| .inr b=>some (.inr (.inr (b.1,b.2)))))) else((sF N a.1 (⟨#[40]⟩:BA)).bind fun a=>if a.2=true then((Rf a.1 (IntKind.wrap .i64 (p1+1))).bind fun b=>(match b with| .inl b=>some (.inr (.inl b))| .inr b=>(mY N b.1 (⟨#[41]⟩:BA)).bind fun c=>(match c with| .inl c=>some (.inr (.inl c))| .inr c=>some (.inr (.inr (c,b.2)))))) else(if(y1.2.1 !=1)=true then((iK N y1.2 9).bind fun b=>(match b with| .inl b=>some (.inr (.inl b))| .inr b=>some (.inl a.1))) else(some (.inl a.1))))):Option (bN⊕mT)).bind fun a=>(match a with| .inl a=>(if(y1.2.2.1.toList==(⟨#[114,101,97,100]⟩:BA).toList)=true then(some (y1.2.2.1.toList==(⟨#[114,101,97,100]⟩:BA).toList)) else(if(y1.2.2.1.toList==(⟨#[115,105,122,101]⟩:BA).toList)=true then(some (y1.2.2.1.toList==(⟨#[115,105,122,101]⟩:BA).toList)) else(if(y1.2.2.1.toList==(⟨#[104,97,115]⟩:BA).toList)=true then(some (y1.2.2.1.toList==(⟨#[104,97,115]⟩:BA).toList)) else(if(y1.2.2.1.toList==(⟨#[101,110,118]⟩:BA).toList)=true then(some (y1.2.2.1.toList==(⟨#[101,110,118]⟩:BA).toList)) else(some (y1.2.2.1.toList==(⟨#[102,108,105,112]⟩:BA).toList))))):Te).bind fun o2=>if o2=true then((Rb (a.1,IntKind.wrap .i64 (a.2.1+1),a.2.2.1,a.2.2.2) y1.2 p1).bind fun b=>(match b with| .inl b=>some (.inl b)| .inr b=>some (.inr (b.1,b.2)))) else((xX N y1.2.2.1).bind fun b=>(if b=true then((iK N y1.2 9).bind fun b=>(match b with| .inl b=>some (.inr (.inl b))| .inr b=>some (.inl ()))) else(some (.inl ())):Option wQ).bind fun b=>(match b with| .inl b=>(sG N (a.1,IntKind.wrap .i64 (a.2.1+1),a.2.2.1,a.2.2.2) 4 (⟨#[40]⟩:BA)).bind fun a=>if a.2=true then((Rc a.1 p1).bind fun b=>(match b with| .inl b=>some (.inl b)| .inr b=>(qU N b.1 y1.2 (3,0,0,y1.2.2.1,b.2)).bind fun b=>(match b with| .inl b=>some (.inl b)| .inr b=>some (.inr (b.1,b.2))))) else((wU N a.1.2.2.1 y1.2.2.1).bind fun b=>(if(decide (b<0))=true then((iK N y1.2 9).bind fun c=>(match c with| .inl c=>some (.inr (.inl c))| .inr c=>some (.inl ()))) else(some (.inl ())):Option wQ).bind fun c=>(match c with| .inl o4=>(qU N a.1 y1.2 (2,b,0,(⟨#[]⟩:BA),([]:T9))).bind fun a=>(match a with| .inl a=>some (.inl a)| .inr a=>some (.inr (a.1,a.2)))| .inr z=>some z))| .inr z=>some z))| .inr z=>some z)
def EA(N:Nat)(Re:bN->(Int)->(Int)->dW)(p1:Int)(p2:Int)(b:Int×bN):Option (Int×bN⊕mT):=
 (EN N b.2 p1).bind fun y5=>if(y5.2==0)=true then(some (.inr (.inr (y5.1,b.1)))) else((oQ N y5.1).bind fun a=>(Re (a.1.1,IntKind.wrap .i64 (a.1.2.1+1),a.1.2.2.1,a.1.2.2.2) (IntKind.wrap .i64 (p1+1)) p2).bind fun c=>(match c with| .inl c=>some (.inr (.inl c))| .inr c=>(qU N c.1 a.2 (4,0,y5.2,(⟨#[]⟩:BA),[b.1,c.2])).bind fun a=>(match a with| .inl a=>some (.inr (.inl a))| .inr a=>if(p1==1)=true then(some (.inr (.inr (a.1,a.2)))) else(some (.inl (a.2,a.1.1,a.1.2.1,a.1.2.2.1,a.1.2.2.2))))))
def xF(N:Nat)(Rb:bN->Tm->(Int)->dW)(Rc:bN->(Int)->qP)(Rd:bN->(Int)->dW)(Re:bN->(Int)->(Int)->dW)(Rf:bN->(Int)->dW)(p0:bN)(p1:Int)(p2:Int):dW:=
 if(p1==4)=true then((Rd p0 p2).bind fun y1=>(match y1 with| .inl a=>some (.inl a)| .inr a=>some (.inr (a.1,a.2)))) else((Re p0 (IntKind.wrap .i64 (p1+1)) p2).bind fun a=>(match a with| .inl a=>some (.inl a)| .inr a=>(aI (EA N Re p1 p2) N (a.2,a.1.1,a.1.2.1,a.1.2.2.1,a.1.2.2.2)).bind fun z=>some z))
def xQ(N:Nat)(Rb:bN->Tm->(Int)->dW)(Rc:bN->(Int)->qP)(Rd:bN->(Int)->dW)(Re:bN->(Int)->(Int)->dW)(Rf:bN->(Int)->dW)(p0:bN)(p1:Int):dW:=
 (oQ N p0).bind fun y1=>(if(decide (p1>32))=true then((iK N y1.2 2).bind fun a=>(match a with| .inl a=>some (.inr (.inl a))| .inr a=>some (.inl ()))) else(some (.inl ())):Option wQ).bind fun a=>(match a with| .inl a=>(sG N y1.1 1 (⟨#[105,102]⟩:BA)).bind fun a=>if(!a.2)=true then((Re a.1 1 p1).bind fun y5=>(match y5 with| .inl b=>some (.inl b)| .inr b=>some (.inr (b.1,b.2)))) else((Rf (a.1.1,IntKind.wrap .i64 (a.1.2.1+1),a.1.2.2.1,a.1.2.2.2) (IntKind.wrap .i64 (p1+1))).bind fun a=>(match a with| .inl a=>some (.inl a)| .inr c=>(xU N c.1 (⟨#[116,104,101,110]⟩:BA)).bind fun a=>(match a with| .inl a=>some (.inl a)| .inr a=>(Rf a (IntKind.wrap .i64 (p1+1))).bind fun a=>(match a with| .inl a=>some (.inl a)| .inr a=>(xU N a.1 (⟨#[101,108,115,101]⟩:BA)).bind fun b=>(match b with| .inl b=>some (.inl b)| .inr b=>(Rf b (IntKind.wrap .i64 (p1+1))).bind fun b=>(match b with| .inl b=>some (.inl b)| .inr b=>(qU N b.1 y1.2 (5,0,0,(⟨#[]⟩:BA),[c.2,a.2,b.2])).bind fun a=>(match a with| .inl a=>some (.inl a)| .inr a=>some (.inr (a.1,a.2)))))))))| .inr z=>some z)
def eH(N:Nat):Nat->(bN->Tm->(Int)->dW)×(((List (Int×BA×Int×Int))×Int×List BA×(List (Int×Int×Int×BA×List Int)))->(Int)->qP)×(((List (Int×BA×Int×Int))×Int×List BA×(List (Int×Int×Int×BA×List Int)))->(Int)->dW)×(((List (Int×BA×Int×Int))×Int×List BA×(List (Int×Int×Int×BA×List Int)))->(Int)->(Int)->dW)×(((List (Int×BA×Int×Int))×Int×List BA×(List (Int×Int×Int×BA×List Int)))->(Int)->dW)
 |0=>((fun _ _ _=>none),(fun _ _=>none),(fun _ _=>none),(fun _ _ _=>none),(fun _ _=>none))
 |D+1=>(EE N (eH N D).1 (eH N D).2.1 (eH N D).2.2.1 (eH N D).2.2.2.1 (eH N D).2.2.2.2,DW N (eH N D).1 (eH N D).2.1 (eH N D).2.2.1 (eH N D).2.2.2.1 (eH N D).2.2.2.2,EM N (eH N D).1 (eH N D).2.1 (eH N D).2.2.1 (eH N D).2.2.2.1 (eH N D).2.2.2.2,xF N (eH N D).1 (eH N D).2.1 (eH N D).2.2.1 (eH N D).2.2.2.1 (eH N D).2.2.2.2,xQ N (eH N D).1 (eH N D).2.1 (eH N D).2.2.1 (eH N D).2.2.2.1 (eH N D).2.2.2.2)
def MB(N:Nat)(p0:bN)(p1:Int):dW:=(eH N N).2.2.2.2 p0 p1
abbrev DZ(F:bN->Tm->(Int)->dW):Prop:=∀{m:Mem} {O:List Piece} {w:World} {p0:bN} {p1:Tm} {p2:Int} {a:Nat} {d:Option Addr} {h:Nat} {f:Option Addr} {k:Nat} {b:Option Addr} {c:Nat} {r:mT} (g:St m (kB a (Vd p0 d h f k b c) 84::kR b p0.2.2.2 c 61 5::O) w) (l:RepS C2 m d h p0.1) (d:RepS aH m f k p0.2.2.1) (d:RepS C3 m b c p0.2.2.2) (i:F p0 p1 p2=some r),Calls prog 170 #[vP a 0,.agg (V2 p1),vI p2] w fun e w'=>(∃(z0:Tl),∃m',r= .inl z0/\e= .panicked [{v:= .iface 80 (.agg (Ve z0)),recovered:=false}]/\m.le m'/\St m' (O) w')\/(∃(d:nL),r= .inr d/\∃f k h l b c m',e= .returned (vI d.2)/\m.le m'/\St m' (kB a (Vd d.1 f k h l b c) 84::kR b d.1.2.2.2 c 61 5::O) w'/\P7 m' f k h l b c d.1)
abbrev DV(F:bN->(Int)->qP):Prop:=∀{m:Mem} {O:List Piece} {w:World} {p0:bN} {p1:Int} {b:Nat} {d:Option Addr} {h:Nat} {f:Option Addr} {k:Nat} {a:Option Addr} {c:Nat} {r:HS} (g:St m (kB b (Vd p0 d h f k a c) 84::kR a p0.2.2.2 c 61 5::O) w) (l:RepS C2 m d h p0.1) (d:RepS aH m f k p0.2.2.1) (d:RepS C3 m a c p0.2.2.2) (i:F p0 p1=some r),Calls prog 171 #[vP b 0,vI p1] w fun e w'=>(∃(z0:Tl),∃m',r= .inl z0/\e= .panicked [{v:= .iface 80 (.agg (Ve z0)),recovered:=false}]/\m.le m'/\St m' (O) w')\/(∃(a:T24),r= .inr a/\∃k n l o c f d h m',e= .returned (vS d a.2 h)/\m.le m'/\St m' (kR d a.2 h 3 1::kB b (Vd a.1 k n l o c f) 84::kR c a.1.2.2.2 f 61 5::O) w'/\P8 m' k n l o c f d h a)
abbrev EB(F:bN->(Int)->dW):Prop:=∀{m:Mem} {O:List Piece} {w:World} {p0:bN} {p1:Int} {a:Nat} {d:Option Addr} {h:Nat} {f:Option Addr} {k:Nat} {b:Option Addr} {c:Nat} {r:mT} (g:St m (kB a (Vd p0 d h f k b c) 84::kR b p0.2.2.2 c 61 5::O) w) (l:RepS C2 m d h p0.1) (d:RepS aH m f k p0.2.2.1) (d:RepS C3 m b c p0.2.2.2) (i:F p0 p1=some r),Calls prog 160 #[vP a 0,vI p1] w fun e w'=>(∃(z0:Tl),∃m',r= .inl z0/\e= .panicked [{v:= .iface 80 (.agg (Ve z0)),recovered:=false}]/\m.le m'/\St m' (O) w')\/(∃(d:nL),r= .inr d/\∃f k h l b c m',e= .returned (vI d.2)/\m.le m'/\St m' (kB a (Vd d.1 f k h l b c) 84::kR b d.1.2.2.2 c 61 5::O) w'/\P7 m' f k h l b c d.1)
abbrev EC(F:bN->(Int)->(Int)->dW):Prop:=∀{m:Mem} {O:List Piece} {w:World} {p0:bN} {p1:Int} {p2:Int} {a:Nat} {d:Option Addr} {h:Nat} {f:Option Addr} {k:Nat} {b:Option Addr} {c:Nat} {r:mT} (g:St m (kB a (Vd p0 d h f k b c) 84::kR b p0.2.2.2 c 61 5::O) w) (l:RepS C2 m d h p0.1) (d:RepS aH m f k p0.2.2.1) (d:RepS C3 m b c p0.2.2.2) (i:F p0 p1 p2=some r),Calls prog 151 #[vP a 0,vI p1,vI p2] w fun e w'=>(∃(z0:Tl),∃m',r= .inl z0/\e= .panicked [{v:= .iface 80 (.agg (Ve z0)),recovered:=false}]/\m.le m'/\St m' (O) w')\/(∃(d:nL),r= .inr d/\∃f k h l b c m',e= .returned (vI d.2)/\m.le m'/\St m' (kB a (Vd d.1 f k h l b c) 84::kR b d.1.2.2.2 c 61 5::O) w'/\P7 m' f k h l b c d.1)
abbrev EP(F:bN->(Int)->dW):Prop:=∀{m:Mem} {O:List Piece} {w:World} {p0:bN} {p1:Int} {a:Nat} {d:Option Addr} {h:Nat} {f:Option Addr} {k:Nat} {b:Option Addr} {c:Nat} {r:mT} (g:St m (kB a (Vd p0 d h f k b c) 84::kR b p0.2.2.2 c 61 5::O) w) (l:RepS C2 m d h p0.1) (d:RepS aH m f k p0.2.2.1) (d:RepS C3 m b c p0.2.2.2) (i:F p0 p1=some r),Calls prog 128 #[vP a 0,vI p1] w fun e w'=>(∃(z0:Tl),∃m',r= .inl z0/\e= .panicked [{v:= .iface 80 (.agg (Ve z0)),recovered:=false}]/\m.le m'/\St m' (O) w')\/(∃(d:nL),r= .inr d/\∃f k h l b c m',e= .returned (vI d.2)/\m.le m'/\St m' (kB a (Vd d.1 f k h l b c) 84::kR b d.1.2.2.2 c 61 5::O) w'/\P7 m' f k h l b c d.1)
theorem qAy{Rb:bN->Tm->(Int)->dW}{Rc:bN->(Int)->qP}{Rd:bN->(Int)->dW}{Re:bN->(Int)->(Int)->dW}{Rf:bN->(Int)->dW}(l:DZ Rb)(k:DV Rc)(o:EB Rd)(n:EC Re)(c:EP Rf){p0:bN}{p1:Tm}{p2:Int}{r:mT}(g:St m (kB bp0 (Vd p0 a1 c1 a2 c2 a3 c3) 84::kR a3 p0.2.2.2 c3 61 5::O) w)(r1:RepS C2 m a1 c1 p0.1)(r2:RepS aH m a2 c2 p0.2.2.1)(r3:RepS C3 m a3 c3 p0.2.2.2)(i:EE N Rb Rc Rd Re Rf p0 p1 p2=some r):Calls prog 170 #[vP bp0 0,.agg (V2 p1),vI p2] w fun e w'=>(∃(z0:Tl),∃m',r= .inl z0/\e= .panicked [{v:= .iface 80 (.agg (Ve z0)),recovered:=false}]/\m.le m'/\St m' (O) w')\/(∃(y0:nL),r= .inr y0/\∃b9 d1 d0 d2 b6 b7 m',e= .returned (vI y0.2)/\m.le m'/\St m' (kB bp0 (Vd y0.1 b9 d1 d0 d2 b6 b7) 84::kR b6 y0.1.2.2.2 b7 61 5::O) w'/\P7 m' b9 d1 d0 d2 b6 b7 y0.1):=by
 unfold EE at i;have q:=m.le_refl;refine bF func170 rfl ntmps170 ?_;refine aC (iE 4 109 (.agg (V2 p1)) g fun z m1 w1 e1 g b=>(aF 1 [] (aC (aA 1 [(10,vP bp0 0)] (cY 11 i (qS (p0:=p0) g.f1.f1 (r1.mono e1) (r2.mono e1) (r3.mono e1)) ?_)))));rintro y1 i _ w2 (⟨z1,m3,rfl,rfl,e3,g⟩|⟨y2,rfl,a4,c4,a5,c5,a6,c6,m2,rfl,e2,g,r4,r5,r6⟩)
 .refine bW ?_;obtain rfl:=sI i;exact cT (.inl ⟨z1,m3,rfl,rfl,(q.t e1).t e3,g⟩)
 have q:=(q.t e1).t e2;have b:=b.mono e2;refine aQ (aC (cZ 7 61 (.agg #[vI 0,vI 0,vI 0,vT eB,v7]) g fun B w4 g=>(aQ (aE (aT 1 [(12,vP z 1)] (bJ 13 (vT p1.2.1) g (b.drop 1) (aQ ?_)))))));have⟨d9,i,p⟩:=aW i;refine cO .normal (fun L' w'=>∃(d:Int×Int×T5×zM),∃U Z a8 c8 a9 c9 D F m4,(.inl d:T28)=d9/\L'=[(0,vP bp0 0),(4,vP z 0),(7,vP B 0)]/\m.le m4/\St m4 (kB B #[vI d.1,vI d.2.1,vI 0,vT d.2.2.1,vS U d.2.2.2.1 Z] 61::kB bp0 (Vd d.2.2.2.2 a8 c8 a9 c9 D F) 84::kR U d.2.2.2.1 Z 3 1::kR D d.2.2.2.2.2.2.2 F 61 5::O) w'/\MRow m4 z 0 [vI p1.1,vT p1.2.1,vI p1.2.2.1,vI p1.2.2.2]/\P9 m4 U Z a8 c8 a9 c9 D F d.2.2.2) ?_ ?_
 .rintro _ w5 ⟨d,U,Z,a8,c8,a9,c9,D,F,m4,rfl,rfl,q,g,b,r7,r8,r9,Y⟩;have i:=p;refine aD (aT 1 [(63,vP bp0 0)] (cY 64 i (qS (p0:=d.2.2.2.2) g.f3.f2 r8 r9 Y) ?_));rintro g2 i _ g0 (⟨d8,R,rfl,rfl,H,g⟩|⟨d7,rfl,f0,f6,f4,f7,f5,f8,f9,rfl,a,g,b0,b8,d3⟩)
  .refine bW ?_;obtain rfl:=sI i;have g:=g.t.t;exact cT (.inl ⟨d8,R,rfl,rfl,q.t H,g⟩)
  refine aQ (aC (aA 1 [(65,vP bp0 0)] (bJ 66 (.agg (V2 p1)) g (b.mono a) (bE 67 (.agg #[vI d.1,vI d.2.1,vI 0,vT d.2.2.1,vS U d.2.2.2.1 Z]) g.t.t.h (cY 68 i (xL (p0:=d7) (p1:=p1) (p2:=(d.1,d.2.1,0,d.2.2.1,d.2.2.2.1)) g.f1.f1 b0 b8 d3 (r7.mono a)) ?_)))));rintro g3 i _ g1 (⟨e0,V,rfl,rfl,M,g⟩|⟨f,rfl,s,y,u,E,x,G,S,rfl,K,g,d4,d5,d6⟩)
  .refine bW ?_;obtain rfl:=sI i;have g:=g.t.t;exact cT (.inl ⟨e0,V,rfl,rfl,(q.t a).t M,g⟩)
  refine aF 1 [(6,vI f.2)] (aJ ?_);cases i;exact aO [6] [vI f.2] (.inr ⟨_,rfl,s,y,u,E,x,G,S,rfl,(q.t a).t K,g.f2.t.f2.t.f1.f1,d4,d5,d6⟩)
 intro x;refine bA (aB 2 [(24,vB (p1.2.1.toList==b19.toList))] (aG i ?_ ?_))
 .intro A i;refine aT 1 [(26,vP bp0 0)] ?_;refine cY 27 i (IW (p0:=y2) g.f2.f2 r4 r5 r6) ?_;rintro y3 i _ w6 (⟨z2,m6,rfl,rfl,e5,g⟩|⟨s,rfl,f6,g2,f7,g3,f8,g4,m5,rfl,V,g,d3,d4,d5⟩)
  .refine bW ?_;refine eZ ?_;obtain rfl:=sI i;have i:=p;refine bW ?_;obtain rfl:=sI i;have g:=g.t;exact cT (.inl ⟨z2,m6,rfl,rfl,q.t e5,g⟩)
  have q:=q.t V;refine aA 2 [(29,.agg #[vI 6,vI 0,vI 0,vT s.2.2.1,v8])] (cA (.agg #[vI 6,vI 0,vI 0,vT s.2.2.1,v8]) g.f2 fun w8 g=>(aQ (aC (aA 1 [(30,vP bp0 0)] (cY 31 i (qS (p0:=s.1) g.f2.f2 d3 d4 d5) ?_)))));rintro y5 i _ w9 (⟨z3,m8,rfl,rfl,e7,g⟩|⟨y6,rfl,f9,g5,g0,g6,g1,g7,m7,rfl,y,g,d6,d7,d8⟩)
  .refine bW ?_;refine eZ ?_;obtain rfl:=sI i;have i:=p;refine bW ?_;obtain rfl:=sI i;have g:=g.t;exact cT (.inl ⟨z3,m8,rfl,rfl,q.t e7,g⟩)
  refine aQ (aX (aA 3 [(32,vP bp0 0),(34,vI (wr (p2+1)))] (cY 35 i (c (p0:=y6) g.f1.f1 d6 d7 d8) ?_)));rintro y7 i _ g8 (⟨z4,b0,rfl,rfl,e9,g⟩|⟨f,rfl,E,M,G,R,H,S,m9,rfl,Y,g,e0,f0,f4⟩)
  .refine eZ ?_;obtain rfl:=sI i;have i:=p;refine bW ?_;obtain rfl:=sI i;have g:=g.t;exact cT (.inl ⟨z4,b0,rfl,rfl,(q.t y).t e9,g⟩)
  refine eR 36 3 1 (aV .i64) [f.2] g fun K b8 g9 a g f5=> ?_;refine aA 1 [(37,vP B 4)] (dR #[vI 6,vI 0,vI 0,vT s.2.2.1,vS (aP K) ([f.2]) 1] g.f3 fun h0 g=>(aS rfl (bI ?_)));have u:=jG i;exact xE (x _ _ ⟨(6,0,s.2.2.1,[f.2],f.1.1,f.1.2.1,f.1.2.2.1,f.1.2.2.2),(aP K),1,E,M,G,R,H,S,b8,u,rfl,((q.t y).t Y).t a,g.f3.f2.f3.f3,(((b.mono V).mono y).mono Y).mono a,f5,e0.mono a,f0.mono a,f4.mono a⟩)
 intro A i;refine aB 2 [(38,vB (p1.2.1.toList==b1a.toList))] (aG i ?_ ?_)
 .intro A i;refine aX (aA 1 [(40,vP bp0 0)] (cY 41 i (IW (p0:=y2) g.f2.f2 r4 r5 r6) ?_));rintro y9 i _ b8 (⟨z5,S,rfl,rfl,M,g⟩|⟨a,rfl,s,G,y,H,E,K,R,rfl,f,g,V,Y,b0⟩)
  .refine eZ ?_;obtain rfl:=sI i;have i:=p;refine bW ?_;obtain rfl:=sI i;have g:=g.t;exact cT (.inl ⟨z5,S,rfl,rfl,q.t M,g⟩)
  refine aA 2 [(43,.agg #[vI 7,vI 0,vI 0,vT a.2.2.1,v8])] (cA (.agg #[vI 7,vI 0,vI 0,vT a.2.2.1,v8]) g.f2 fun d3 g=>(aS rfl (bI ?_)));have u:=jG i;have g:=(g.nilroom 3 1).front3.front1.front3.front3;exact xE (x _ _ ⟨(7,0,a.2.2.1,([]:T9),a.1.1,a.1.2.1,a.1.2.2.1,a.1.2.2.2),none,0,s,G,y,H,E,K,R,u,rfl,q.t f,g,b.mono f,(RepS.nil _ _),V,Y,b0⟩)
 intro A i;refine aB 2 [(44,vB (p1.2.1.toList==b1b.toList))] (aG i ?_ ?_)
 .intro A i;refine aX (aA 1 [(46,vP bp0 0)] (cY 47 i (IW (p0:=y2) g.f2.f2 r4 r5 r6) ?_));rintro d4 i _ b8 (⟨z6,S,rfl,rfl,M,g⟩|⟨a,rfl,s,G,y,H,E,K,R,rfl,f,g,V,Y,b0⟩)
  .refine eZ ?_;obtain rfl:=sI i;have i:=p;refine bW ?_;obtain rfl:=sI i;have g:=g.t;exact cT (.inl ⟨z6,S,rfl,rfl,q.t M,g⟩)
  refine aA 2 [(49,.agg #[vI 8,vI 0,vI 0,vT a.2.2.1,v8])] (cA (.agg #[vI 8,vI 0,vI 0,vT a.2.2.1,v8]) g.f2 fun d3 g=>(aS rfl (bI ?_)));have u:=jG i;have g:=(g.nilroom 3 1).front3.front1.front3.front3;exact xE (x _ _ ⟨(8,0,a.2.2.1,([]:T9),a.1.1,a.1.2.1,a.1.2.2.1,a.1.2.2.2),none,0,s,G,y,H,E,K,R,u,rfl,q.t f,g,b.mono f,(RepS.nil _ _),V,Y,b0⟩)
 intro A i;refine aB 2 [(50,vB (p1.2.1.toList==b1c.toList))] (aG i ?_ ?_)
 .intro A i;refine aT 1 [(52,vP bp0 0)] ?_;refine cY 53 i (EQ (p0:=y2) g.f2.f2 r4 r5 r6) ?_;rintro g0 i _ f5 (⟨z7,d5,rfl,rfl,d3,g⟩|⟨a,rfl,R,V,S,Y,E,G,f4,rfl,b0,g,H,K,M⟩)
  .refine bW ?_;refine eZ ?_;obtain rfl:=sI i;have i:=p;refine bW ?_;obtain rfl:=sI i;have g:=g.t;exact cT (.inl ⟨z7,d5,rfl,rfl,q.t d3,g⟩)
  refine cZ 8 109 (.agg (V3 0 eB 0 0)) g fun b4 f6 g=> ?_;refine cA (.agg (V2 a.2)) g fun f7 g=> ?_;refine aQ (aE (aC (bL 1 55 9 54 1 (vT a.2.2.1) g.h (aK 56 i (MM g) ?_))));rintro f0 i _ f8 ⟨d6,rfl,f,g⟩;have q:=(q.t b0).t f;refine aF 1 [(57,vB (!f0))] ?_;have⟨e0,i,j2⟩:=aW i;refine cO .normal (fun L' w'=>∃(o2:Unit),∃s,(.inl o2:T29)=e0/\L'=[(0,vP bp0 0),(4,vP z 0),(7,vP B 0),(8,vP b4 0)]/\m.le s/\St s (kB b4 (V2 a.2) 109::kB bp0 (Vd a.1 R V S Y E G) 84::kB B #[vI 0,vI 0,vI 0,vT eB,v8] 61::kR E a.1.2.2.2 G 61 5::O) w'/\MRow s z 0 [vI p1.1,vT p1.2.1,vI p1.2.2.1,vI p1.2.2.2]/\P7 s R V S Y E G a.1) ?_ ?_
  .rintro _ y ⟨o2,s,rfl,rfl,q,g,b,H,K,M⟩;have i:=j2;refine aD (aX (bL 1 61 9 60 1 (vT a.2.2.1) g.h (aA 1 [(62,.agg #[vI 9,vI 0,vI 0,vT a.2.2.1,v8])] (cA (.agg #[vI 9,vI 0,vI 0,vT a.2.2.1,v8]) g.f2 fun b8 g=>(aS rfl (bI ?_))))));have u:=jG i;have g:=(g.nilroom 3 1).front2;exact xE (x _ _ ⟨(9,0,a.2.2.1,([]:T9),a.1.1,a.1.2.1,a.1.2.2.1,a.1.2.2.2),none,0,R,V,S,Y,E,G,s,u,rfl,q,g.t.f3.f1.f3.f3,b,(RepS.nil _ _),H,K,M⟩)
  intro b8;refine aG i ?_ ?_
  .intro A i;refine aX (bE 58 (.agg (V2 a.2)) g.h (cY 59 i (mZ (p0:=a.2) g) ?_));rintro g1 i _ f9 (⟨z8,d8,rfl,rfl,d4,g⟩|⟨g2,rfl,d7,rfl,y,g⟩)
   .obtain rfl:=sI i;have i:=j2;refine bW ?_;refine eZ ?_;obtain rfl:=sI i;have i:=p;refine bW ?_;obtain rfl:=sI i;have g:=g.t.t.t.t;exact cT (.inl ⟨z8,d8,rfl,rfl,q.t d4,g⟩)
   refine aS rfl ?_;have n2:=jG i;exact xE (b8 _ _ ⟨(),d7,n2,rfl,q.t y,g.f2.f3.f3.f3,((b.mono b0).mono f).mono y,(H.mono f).mono y,(K.mono f).mono y,(M.mono f).mono y⟩)
  intro A i;refine aM ?_;have n2:=jG i;exact xE (b8 _ _ ⟨(),d6,n2,rfl,q,g.f2.f3.f3.f3,(b.mono b0).mono f,H.mono f,K.mono f,M.mono f⟩)
 intro A i;refine aT 1 [(14,vP bp0 0)] ?_;refine cY 15 i (EQ (p0:=y2) g.f2.f2 r4 r5 r6) ?_;rintro f6 i _ e0 (⟨z9,d4,rfl,rfl,b0,g⟩|⟨a,rfl,M,S,R,V,y,E,d3,rfl,Y,g,G,H,K⟩)
 .refine bW ?_;refine eZ ?_;obtain rfl:=sI i;have i:=p;refine bW ?_;obtain rfl:=sI i;have g:=g.t;exact cT (.inl ⟨z9,d4,rfl,rfl,q.t b0,g⟩)
 have q:=q.t Y;refine cZ 9 109 (.agg (V3 0 eB 0 0)) g fun b5 f0 g=> ?_;refine cA (.agg (V2 a.2)) g fun f4 g=> ?_;refine aQ (aE (aC (bL 1 17 3 16 2 (vI a.2.2.2.1) g.h (aF 1 [(18,vB (decide (a.2.2.2.1>=64)))] ?_))));have⟨d7,i,j3⟩:=aW i;refine cO .normal (fun L' w'=>∃(o3:Unit),∃f,(.inl o3:T29)=d7/\L'=[(0,vP bp0 0),(4,vP z 0),(7,vP B 0),(9,vP b5 0)]/\m.le f/\St f (kB b5 (V2 a.2) 109::kB bp0 (Vd a.1 M S R V y E) 84::kB B #[vI 0,vI 0,vI 0,vT eB,v8] 61::kR y a.1.2.2.2 E 61 5::O) w'/\MRow f z 0 [vI p1.1,vT p1.2.1,vI p1.2.2.1,vI p1.2.2.2]/\P7 f M S R V y E a.1) ?_ ?_
 .rintro _ s ⟨o3,f,rfl,rfl,q,g,b,G,H,K⟩;have i:=j3;refine aD (aX (bL 1 22 3 21 2 (vI a.2.2.2.1) g.h (aA 1 [(23,.agg #[vI 10,vI a.2.2.2.1,vI 0,vT eB,v8])] (cA (.agg #[vI 10,vI a.2.2.2.1,vI 0,vT eB,v8]) g.f2 fun b8 g=>(aS rfl (bI ?_))))));have u:=jG i;have g:=(g.nilroom 3 1).front2;exact xE (x _ _ ⟨(10,a.2.2.2.1,eB,([]:T9),a.1.1,a.1.2.1,a.1.2.2.1,a.1.2.2.2),none,0,M,S,R,V,y,E,f,u,rfl,q,g.t.f3.f1.f3.f3,b,(RepS.nil _ _),G,H,K⟩)
 intro u;refine aG i ?_ ?_
 .intro A i;refine aX (bE 19 (.agg (V2 a.2)) g.h (cY 20 i (mZ (p0:=a.2) g) ?_));rintro f7 i _ f5 (⟨d8,d6,rfl,rfl,b8,g⟩|⟨f8,rfl,d5,rfl,s,g⟩)
  .obtain rfl:=sI i;have i:=j3;refine bW ?_;refine eZ ?_;obtain rfl:=sI i;have i:=p;refine bW ?_;obtain rfl:=sI i;have g:=g.t.t.t.t;exact cT (.inl ⟨d8,d6,rfl,rfl,q.t b8,g⟩)
  refine aS rfl ?_;have n3:=jG i;exact xE (u _ _ ⟨(),d5,n3,rfl,q.t s,g.f2.f3.f3.f3,(b.mono Y).mono s,G.mono s,H.mono s,K.mono s⟩)
 intro A i;refine aM ?_;have n3:=jG i;exact xE (u _ _ ⟨(),d3,n3,rfl,q,g.f2.f3.f3.f3,b.mono Y,G,H,K⟩)
theorem qAt{Rb:bN->Tm->(Int)->dW}{Rc:bN->(Int)->qP}{Rd:bN->(Int)->dW}{Re:bN->(Int)->(Int)->dW}{Rf:bN->(Int)->dW}(f:DZ Rb)(b:DV Rc)(k:EB Rd)(h:EC Re)(a:EP Rf){p0:bN}{p1:Int}{r:HS}(g:St m (kB bp0 (Vd p0 a1 c1 a2 c2 a3 c3) 84::kR a3 p0.2.2.2 c3 61 5::O) w)(r1:RepS C2 m a1 c1 p0.1)(r2:RepS aH m a2 c2 p0.2.2.1)(r3:RepS C3 m a3 c3 p0.2.2.2)(i:DW N Rb Rc Rd Re Rf p0 p1=some r):Calls prog 171 #[vP bp0 0,vI p1] w fun e w'=>(∃(z0:Tl),∃m',r= .inl z0/\e= .panicked [{v:= .iface 80 (.agg (Ve z0)),recovered:=false}]/\m.le m'/\St m' (O) w')\/(∃(D:T24),r= .inr D/\∃d8 e0 d9 f0 b2 b4 b3 b5 m',e= .returned (vS b3 D.2 b5)/\m.le m'/\St m' (kR b3 D.2 b5 3 1::kB bp0 (Vd D.1 d8 e0 d9 f0 b2 b4) 84::kR b2 D.1.2.2.2 b4 61 5::O) w'/\P8 m' d8 e0 d9 f0 b2 b4 b3 b5 D):=by
 unfold DW at i;have q:=m.le_refl;refine bF func171 rfl ntmps171 ?_;refine aB 1 [] (aC ?_);refine aF 1 [(5,v8)] (aC (aA 1 [(6,vP bp0 0)] (cY 7 i (qS (p0:=p0) g.f1.f1 r1 r2 r3) ?_)));rintro y1 i _ w1 (⟨z1,m2,rfl,rfl,e2,g⟩|⟨y2,rfl,a4,c4,a5,c5,a6,c6,m1,rfl,e1,g,r4,r5,r6⟩)
 .refine bW ?_;obtain rfl:=sI i;exact cT (.inl ⟨z1,m2,rfl,rfl,q.t e2,g⟩)
 refine aQ (aE (aT 1 [(8,vP bp0 0)] (aK 9 i (zY (p0:=y2) g.f1.f1 r4 r5 r6) ?_)));rintro y3 i _ w3 ⟨a7,c7,a8,c8,a9,c9,m3,rfl,e3,g,r7,r8,r9⟩;refine aQ (aG i ?_ ?_)
 .intro A i;refine aB 1 [(4,v8)] (aJ ?_);refine aL ?_;cases i;refine aO [4] [v8] ?_;have g:=(g.nilroom 3 1).front2.front2.front2;exact .inr ⟨_,rfl,a7,c7,a8,c8,a9,c9,none,0,m3,rfl,(q.t e1).t e3,g,r7,r8,r9,(RepS.nil _ _)⟩
 intro A i;refine aM (aD (aE (bA ?_)));have⟨b0,i,j1⟩:=aW i;refine cO (.exit 0) (fun L' w'=>∃(l:zM),∃c d E M F R u y m4,(.inl l)=b0/\L'=[(0,vP bp0 0),(5,vS c l.1 d)]/\m.le m4/\St m4 (kB bp0 (Vd l.2 E M F R u y) 84::kR c l.1 d 3 1::kR u l.2.2.2.2 y 61 5::O) w'/\P9 m4 c d E M F R u y l) ?_ ?_
 .rintro _ w4 ⟨l,c,d,E,M,F,R,u,y,m4,rfl,rfl,q,g,S,U,V,Y⟩;have i:=j1;refine cK (aD (aT 1 [(20,vP bp0 0)] (cY 21 i (qS (p0:=l.2) g.f2.f1 U V Y) ?_)));rintro y7 i _ b8 (⟨z3,K,rfl,rfl,B,g⟩|⟨y8,rfl,n,s,o,x,p,z,H,rfl,G,g,Z,b6,b7⟩)
  .refine bW ?_;obtain rfl:=sI i;have g:=g.t;exact cT (.inl ⟨z3,K,rfl,rfl,q.t B,g⟩)
  refine aQ (aC (aF 2 [(4,vS c l.1 d)] (aJ ?_)));cases i;exact aO [4] [vS c l.1 d] (.inr ⟨_,rfl,n,s,o,x,p,z,c,d,H,rfl,q.t G,g.f1.f1.f2,Z,b6,b7,S.mono G⟩)
 intro b6;have g:=(g.nilroom 3 1).front2.front1.front2;refine cH _ kr (cG (fun k1 L' w'=>∃(n:zM),∃p s G S H U x z m5,aI (DT N Rf p1) k1 n=some b0/\L'=[(0,vP bp0 0),(1,vI p1),(5,vS p n.1 s)]/\m.le m5/\St m5 (kB bp0 (Vd n.2 G S H U x z) 84::kR p n.1 s 3 1::kR x n.2.2.2.2 z 61 5::O) w'/\P9 m5 p s G S H U x z n) N ⟨(([]:T9),y3.1.1,y3.1.2.1,y3.1.2.2.1,y3.1.2.2.2),none,0,a7,c7,a8,c8,a9,c9,m3,i,rfl,(q.t e1).t e3,g,(RepS.nil _ _),r7,r8,r9⟩ ?_);rintro k1 _ w5 ⟨n,p,s,G,S,H,U,x,z,m5,hL,rfl,q,g,f5,f6,f7,f8⟩;rcases k1 with _|k1
 .exact cJ hL
 obtain⟨g9,i,f4,Z⟩:=cL hL;clear hL;unfold DT at i;refine bA (aT 4 [(10,vS p n.1 s),(11,vP bp0 0),(13,vI (wr (p1+1)))] (cY 14 i (a (p0:=n.2) g.f2.f1 f6 f7 f8) ?_));rintro y4 i _ w6 (⟨z2,m7,rfl,rfl,e5,g⟩|⟨y5,rfl,g3,g6,g4,g7,g5,g8,m6,rfl,e4,g,f9,g0,g1⟩)
 .refine bW ?_;refine eZ ?_;have ho:=Z _ (sI i);subst ho;have i:=j1;refine bW ?_;refine eZ ?_;refine bW ?_;obtain rfl:=sI i;have g:=g.t;exact cT (.inl ⟨z2,m7,rfl,rfl,q.t e5,g⟩)
 refine eR 15 3 1 (aV .i64) [y5.2] g fun b1 m8 w8 B g g2=> ?_;refine iN 16 22 22 3 8 10 15 g.f3 (.inl kr) ((f5.mono e4).mono B) g2.src i fun l1 i K V m9 w9 Y g d4=> ?_;refine aA 1 [(5,vS K l1 V)] (aS rfl ?_);have g:=g.f1.t;refine aD (aT 1 [(17,vP bp0 0)] (aK 18 i (zY (p0:=y5.1) g.f2.f2 ((f9.mono B).mono Y) ((g0.mono B).mono Y) ((g1.mono B).mono Y)) ?_));rintro o i _ h0 ⟨b7,d0,b8,d1,b9,d2,d3,rfl,e8,g,d5,d6,d7⟩;refine aF 1 [(19,vB (!o.2))] (aG i ?_ ?_)
 .intro A i;refine cD (vN rfl ?_);have ho:=Z _ (sI i);have g:=g.f1.f2.f2;refine bD ?_;exact xE (b6 _ _ ⟨(l1,o.1.1,o.1.2.1,o.1.2.2.1,o.1.2.2.2),K,V,b7,d0,b8,d1,b9,d2,d3,ho,rfl,(((q.t e4).t B).t Y).t e8,g,d4.mono e8,d5,d6,d7⟩)
 intro A i;refine aM (bI ?_);have hL:=f4 _ (sI i);exact xE (cE ⟨(l1,o.1.1,o.1.2.1,o.1.2.2.1,o.1.2.2.2),K,V,b7,d0,b8,d1,b9,d2,d3,hL,rfl,(((q.t e4).t B).t Y).t e8,g.f1.f2.f2,d4.mono e8,d5,d6,d7⟩)
theorem qBg{Rb:bN->Tm->(Int)->dW}{Rc:bN->(Int)->qP}{Rd:bN->(Int)->dW}{Re:bN->(Int)->(Int)->dW}{Rf:bN->(Int)->dW}(d:DZ Rb)(c:DV Rc)(B:EB Rd)(z:EC Re)(f:EP Rf){p0:bN}{p1:Int}{r:mT}(g:St m (kB bp0 (Vd p0 a1 c1 a2 c2 a3 c3) 84::kR a3 p0.2.2.2 c3 61 5::O) w)(r1:RepS C2 m a1 c1 p0.1)(r2:RepS aH m a2 c2 p0.2.2.1)(r3:RepS C3 m a3 c3 p0.2.2.2)(i:EM N Rb Rc Rd Re Rf p0 p1=some r):Calls prog 160 #[vP bp0 0,vI p1] w fun e w'=>(∃(z0:Tl),∃m',r= .inl z0/\e= .panicked [{v:= .iface 80 (.agg (Ve z0)),recovered:=false}]/\m.le m'/\St m' (O) w')\/(∃(y0:nL),r= .inr y0/\∃d6 d8 d7 d9 b9 d0 m',e= .returned (vI y0.2)/\m.le m'/\St m' (kB bp0 (Vd y0.1 d6 d8 d7 d9 b9 d0) 84::kR b9 y0.1.2.2.2 d0 61 5::O) w'/\P7 m' d6 d8 d7 d9 b9 d0 y0.1):=by
 unfold EM at i;have q:=m.le_refl;refine bF func160 rfl ntmps160 ?_;refine aB 1 [] (aC ?_);refine aA 1 [(8,vP bp0 0)] (aK 9 i (rK (p0:=p0) g.f1.f1 r1 r2 r3) ?_);rintro y1 i _ w1 ⟨a4,c4,a5,c5,a6,c6,m1,rfl,e1,g,r4,r5,r6⟩;have q:=q.t e1;refine cZ 5 109 (.agg (V3 0 eB 0 0)) g fun k w2 g=> ?_;refine cA (.agg (V2 y1.2)) g fun w3 g=> ?_;refine aQ (aE ?_);have⟨g5,i,D⟩:=aW i;refine cO .normal (fun L' w'=>∃(a:bN),∃G K H M s u F,(.inl a:bN⊕mT)=g5/\L'=[(0,vP bp0 0),(1,vI p1),(5,vP k 0)]/\m.le F/\St F (kB k (V2 y1.2) 109::kB bp0 (Vd a G K H M s u) 84::kR s a.2.2.2 u 61 5::O) w'/\P7 F G K H M s u a) ?_ ?_
 .rintro _ w4 ⟨a,G,K,H,M,s,u,F,rfl,rfl,q,g,l,n,o⟩;have i:=D;refine aD (aT 3 [(54,vP bp0 0),(56,vP bp0 1)] (bE 57 (vI a.2.1) g.t.h (aA 3 [(58,vI (wr (a.2.1+1))),(60,vP bp0 1)] (dR #[vS G a.1 K,vI (wr (a.2.1+1)),vS H a.2.2.1 M,vS s a.2.2.2 u] g.f1 fun k2 g=>(aQ (aE (aC (bL 1 62 9 61 1 (vT y1.2.2.1) g.t.h (aQ (bA (aE (aB 2 [(63,vB (y1.2.2.1.toList==b19.toList))] (cC .normal i (fun o2 L' w'=>∃b4,L'=[(0,vP bp0 0),(1,vI p1),(5,vP k 0),(63,vB o2)]/\m.le b4/\St b4 (kB bp0 #[vS G a.1 K,vI (wr (a.2.1+1)),vS H a.2.2.1 M,vS s a.2.2.2 u] 84::kB k (V2 y1.2) 109::kR s a.2.2.2 u 61 5::O) w'/\P7 b4 G K H M s u a) ?_ ?_)))))))))))))
  .rintro o2 i _ k3 ⟨b4,rfl,q,g,l,n,o⟩;refine aD (aG i ?_ ?_)
   .intro A i;refine aT 1 [(69,vP bp0 0)] ?_;refine bE 70 (.agg (V2 y1.2)) g.t.h ?_;refine aA 1 [(71,vI p1)] (cY 72 i (d (p0:=(a.1,wr (a.2.1+1),a.2.2.1,a.2.2.2)) (p1:=y1.2) g.f2.f1 l n o) ?_);rintro b6 i _ b5 (⟨z7,Z,rfl,rfl,V,g⟩|⟨b,rfl,p,E,x,R,y,S,Y,rfl,U,g,b0,b2,b3⟩)
    .refine bW ?_;refine eZ ?_;refine bW ?_;obtain rfl:=sI i;have g:=g.t;exact cT (.inl ⟨z7,Z,rfl,rfl,q.t V,g⟩)
    refine aF 1 [(4,vI b.2)] (aJ (aZ (aL ?_)));cases i;exact aO [4] [vI b.2] (.inr ⟨_,rfl,p,E,x,R,y,S,Y,rfl,q.t U,g.f2.t.f1.f1,b0,b2,b3⟩)
   intro A i;refine aM (bI (aD (aE (aC (bL 1 74 9 73 1 (vT y1.2.2.1) g.t.h (aK 75 i (MC g) ?_))))));rintro l0 i _ k4 ⟨g1,rfl,b2,g⟩;have q:=q.t b2;have l:=l.mono b2;have n:=n.mono b2;have o:=o.mono b2;refine aQ ?_;have⟨g6,i,j3⟩:=aW i;refine cO .normal (fun L' w'=>∃(o3:Unit),∃b5,(.inl o3:wQ)=g6/\L'=[(0,vP bp0 0),(1,vI p1),(5,vP k 0)]/\m.le b5/\St b5 (kB bp0 #[vS G a.1 K,vI (wr (a.2.1+1)),vS H a.2.2.1 M,vS s a.2.2.2 u] 84::kB k (V2 y1.2) 109::kR s a.2.2.2 u 61 5::O) w'/\P7 b5 G K H M s u a) ?_ ?_
   .rintro _ k5 ⟨o3,b5,rfl,rfl,q,g,l,n,o⟩;have i:=j3;refine aD (aE (aT 1 [(78,vP bp0 0)] (aK 79 i (AP (p0:=(a.1,wr (a.2.1+1),a.2.2.1,a.2.2.2)) g.f2.f1 l n o) ?_)));rintro y i _ k6 ⟨b7,b8,V,Z,Y,b0,x,rfl,g0,g,R,E,S⟩;have q:=q.t g0;refine aQ (aG i ?_ ?_)
    .intro A i;refine aE (eC [(10,fun w'=>Inv x w'/\Piece.holds x w' (kB k (V2 y1.2) 109)/\True)] kr g fun k7 _ g=> ?_);have b:=x.le_refl;refine⟨⟨.inr ⟨Inv.anti g.inv b,Piece.holds_anti g.t.t.h b,trivial⟩,trivial⟩,?_⟩;refine aR 0 80 (vP bp0 0) (.head _) (dM 109 5 1 81 0 (.agg (V2 y1.2)) (.head _) (fun _ h=>h.2.1) (aR 2 82 (vP k 1) (.head _) (dM 9 82 3 83 1 (vT y1.2.2.1) (.head _) (fun _ h=>h.2.1) (aR 4 84 (vP bp0 0) (.head _) (aR 5 85 (vI p1) (.head _) ?_)))));have g:=g.f1.f1;have⟨l1,f8,i⟩:=aW i;refine cB 6 kr (CJ 86 171 #[vP bp0 0,vI p1] kr rfl ((c (p0:=y.1) g R E S f8).mono ?_));rintro _ k8 (⟨z9,g2,rfl,rfl,d1,g⟩|⟨p,rfl,h5,h8,h6,h9,h7,k0,b3,b6,k1,rfl,U,g,g7,g8,g9,h0⟩)
     .refine .inr ⟨_,rfl,?_⟩;have b:=Mem.le_trans b d1;refine bW ?_;refine bW ?_;obtain rfl:=sI i;have g:=g.t;exact cT (.inl ⟨z9,g2,rfl,rfl,q.t d1,g⟩)
     refine .inl ⟨_,rfl,?_⟩;have b:=Mem.le_trans b U;refine⟨⟨.inr ⟨Inv.anti g.inv b,Piece.holds_anti g.t.t.t.h b,trivial⟩,trivial⟩,?_⟩;refine aR 7 87 (.agg #[vI 3,vI 0,vI 0,vT y1.2.2.1,vS b3 p.2 b6]) (.head _) ?_;have g:=g.f2.f2;have⟨l2,f9,i⟩:=aW i;refine cB 8 kr (CJ 88 152 #[vP bp0 0,.agg (V2 y1.2),.agg #[vI 3,vI 0,vI 0,vT y1.2.2.1,vS b3 p.2 b6]] kr rfl ((xL (p0:=p.1) (p1:=y1.2) (p2:=(3,0,0,y1.2.2.1,p.2)) g g7 g8 g9 h0 f9).mono ?_));rintro _ k9 (⟨h4,g4,rfl,rfl,d3,g⟩|⟨e0,rfl,f0,f5,f3,f6,f4,f7,g3,rfl,d2,g,h1,h2,h3⟩)
     .refine .inr ⟨_,rfl,?_⟩;have b:=Mem.le_trans b d3;refine bW ?_;refine bW ?_;obtain rfl:=sI i;have g:=g.t.t;exact cT (.inl ⟨h4,g4,rfl,rfl,(q.t U).t d3,g⟩)
     refine .inl ⟨_,rfl,?_⟩;have b:=Mem.le_trans b d2;refine⟨⟨.inr ⟨Inv.anti g.inv b,Piece.holds_anti g.t.t.t.h b,trivial⟩,trivial⟩,?_⟩;refine aR 9 4 (vI e0.2) (.head _) (dU kr ?_);have g:=g.f2.t;refine aD (aJ (aL ?_));cases i;exact aO [4] [vI e0.2] (.inr ⟨_,rfl,f0,f5,f3,f6,f4,f7,g3,rfl,(q.t U).t d2,g.f2.t.f1.f1,h1,h2,h3⟩)
    intro A i;refine aM (aD (aE (eC [(8,fun w'=>Inv x w'/\Piece.holds x w' (kB bp0 (Vd y.1 b7 b8 V Z Y b0) 84)/\Piece.holds x w' (kB k (V2 y1.2) 109)/\True)] kr g fun g8 _ g=> ?_)));have b:=x.le_refl;refine⟨⟨.inr ⟨Inv.anti g.inv b,Piece.holds_anti g.h b,Piece.holds_anti g.t.t.h b,trivial⟩,trivial⟩,?_⟩;refine aR 0 89 (vP bp0 0) (.head _) (aR 1 90 (vP bp0 0) (.head _) (aR 2 91 (vP bp0 2) (.head _) (dM 26 91 3 92 2 (vS V y.1.2.2.1 Z) (.head _) (fun _ h=>h.2.1) (aR 4 93 (vP k 1) (.head _) (dM 9 93 5 94 1 (vT y1.2.2.1) (.head _) (fun _ h=>h.2.2.1) (cB 6 kr (eS 95 i (fun _ h=>QT g E h) ?_)))))));rintro U i _ g9 ⟨f6,rfl,p,g⟩;refine⟨_,rfl,?_⟩;have q:=q.t p;have b:=Mem.le_trans b p;refine⟨⟨.inr ⟨Inv.anti g.inv b,Piece.holds_anti g.h b,Piece.holds_anti g.t.t.h b,trivial⟩,trivial⟩,?_⟩;refine aR 7 7 (vI U) (.head _) (dU kr (aD (aE (aB 2 [(97,vB (decide (U<0)))] ?_))));have⟨f9,i,j4⟩:=aW i;refine cO .normal (fun L' w'=>∃(o4:Unit),∃b6,(.inl o4:wQ)=f9/\L'=[(0,vP bp0 0),(5,vP k 0),(7,vI U)]/\m.le b6/\St b6 (kB bp0 (Vd y.1 b7 b8 V Z Y b0) 84::kB k (V2 y1.2) 109::kR Y y.1.2.2.2 b0 61 5::O) w'/\P7 b6 b7 b8 V Z Y b0 y.1) ?_ ?_
    .rintro _ h0 ⟨o4,b6,rfl,rfl,q,g,R,E,S⟩;have i:=j4;refine aD (aT 1 [(100,vP bp0 0)] (bE 101 (.agg (V2 y1.2)) g.t.h (aA 2 [(103,.agg #[vI 2,vI U,vI 0,vT eB,v8])] (cY 104 i (xL (p0:=y.1) (p1:=y1.2) (p2:=(2,U,0,eB,([]:T9))) g.f2.f1 R E S (RepS.nil _ _)) ?_))));rintro h2 i _ h1 (⟨g7,f8,rfl,rfl,f5,g⟩|⟨b3,rfl,d1,e0,d2,f0,d3,f3,f7,rfl,f4,g,g2,g3,g4⟩)
     .refine bW ?_;obtain rfl:=sI i;have g:=g.t;exact cT (.inl ⟨g7,f8,rfl,rfl,q.t f5,g⟩)
     refine aF 1 [(4,vI b3.2)] (aJ ?_);cases i;exact aO [4] [vI b3.2] (.inr ⟨_,rfl,d1,e0,d2,f0,d3,f3,f7,rfl,q.t f4,g.f2.t.f1.f1,g2,g3,g4⟩)
    intro d1;refine aG i ?_ ?_
    .intro A i;refine aX (bE 98 (.agg (V2 y1.2)) g.t.t.h (cY 99 i (mZ (p0:=y1.2) g) ?_));rintro f4 i _ f3 (⟨f0,e0,rfl,rfl,d2,g⟩|⟨f5,rfl,d3,rfl,b3,g⟩)
     .obtain rfl:=sI i;have i:=j4;refine bW ?_;obtain rfl:=sI i;have g:=g.t.t.t;exact cT (.inl ⟨f0,e0,rfl,rfl,q.t d2,g⟩)
     refine aS rfl ?_;have n4:=jG i;exact xE (d1 _ _ ⟨(),d3,n4,rfl,q.t b3,g.f1.f2.f2,(R.mono p).mono b3,(E.mono p).mono b3,(S.mono p).mono b3⟩)
    intro A i;refine aM ?_;have n4:=jG i;exact xE (d1 _ _ ⟨(),f6,n4,rfl,q,g.f1.f2.f2,R.mono p,E.mono p,S.mono p⟩)
   intro p;refine aG i ?_ ?_
   .intro A i;refine aX (bE 76 (.agg (V2 y1.2)) g.t.h (cY 77 i (mZ (p0:=y1.2) g) ?_));rintro V i _ U (⟨S,R,rfl,rfl,y,g⟩|⟨Y,rfl,E,rfl,b,g⟩)
    .obtain rfl:=sI i;have i:=j3;refine bW ?_;obtain rfl:=sI i;have g:=g.t.t.t;exact cT (.inl ⟨S,R,rfl,rfl,q.t y,g⟩)
    refine aS rfl ?_;have x:=jG i;exact xE (p _ _ ⟨(),E,x,rfl,q.t b,g.f2.f2.f2,l.mono b,n.mono b,o.mono b⟩)
   intro A i;refine aM ?_;have x:=jG i;exact xE (p _ _ ⟨(),g1,x,rfl,q,g.f2.f2.f2,l,n,o⟩)
  intro o2 i b;refine aG i ?_ ?_
  .intro A i;refine aM ?_;cases i;exact xE (b _ _ ⟨F,rfl,q,g.f2.f2.f2,l,n,o⟩)
  intro A i;refine aB 2 [(63,vB (y1.2.2.1.toList==b1a.toList))] (aG i ?_ ?_)
  .intro A i;refine aM ?_;cases i;exact xE (b _ _ ⟨F,rfl,q,g.f2.f2.f2,l,n,o⟩)
  intro A i;refine aB 2 [(63,vB (y1.2.2.1.toList==b1b.toList))] (aG i ?_ ?_)
  .intro A i;refine aM ?_;cases i;exact xE (b _ _ ⟨F,rfl,q,g.f2.f2.f2,l,n,o⟩)
  intro A i;refine aB 2 [(63,vB (y1.2.2.1.toList==b1c.toList))] (aG i ?_ ?_)
  .intro A i;refine aM ?_;cases i;exact xE (b _ _ ⟨F,rfl,q,g.f2.f2.f2,l,n,o⟩)
  intro A i;refine aX (aA 2 [(63,vB (y1.2.2.1.toList==b1d.toList))] (aS rfl ?_));cases i;exact xE (b _ _ ⟨F,rfl,q,g.f2.f2.f2,l,n,o⟩)
 intro x;refine bA (aC (bL 1 12 3 11 0 (vI y1.2.1) g.h (aF 2 [(10,vB (y1.2.1==2))] (aG i ?_ ?_))))
 .intro A i;refine aT 3 [(14,vP bp0 0),(16,vP bp0 1)] ?_;refine bE 17 (vI y1.1.2.1) g.t.h ?_;refine aA 3 [(18,vI (wr (y1.1.2.1+1))),(20,vP bp0 1)] (dR #[vS a4 y1.1.1 c4,vI (wr (y1.1.2.1+1)),vS a5 y1.1.2.2.1 c5,vS a6 y1.1.2.2.2 c6] g.f1 fun w5 g=>(aQ (aC (aA 1 [(21,vP bp0 0)] (bE 22 (.agg (V2 y1.2)) g.t.h (bL 1 24 3 23 2 (vI y1.2.2.2.1) g.t.h (aA 1 [(25,.agg #[vI 1,vI y1.2.2.2.1,vI 0,vT eB,v8])] (cY 26 i (xL (p0:=(y1.1.1,wr (y1.1.2.1+1),y1.1.2.2.1,y1.1.2.2.2)) (p1:=y1.2) (p2:=(1,y1.2.2.2.1,0,eB,([]:T9))) g.f2.f1 r4 r5 r6 (RepS.nil _ _)) ?_))))))));rintro y2 i _ w6 (⟨z1,m4,rfl,rfl,Y,g⟩|⟨U,rfl,b,o,l,p,n,y,Z,rfl,V,g,E,R,S⟩)
  .refine bW ?_;refine eZ ?_;obtain rfl:=sI i;have i:=D;refine bW ?_;obtain rfl:=sI i;have g:=g.t;exact cT (.inl ⟨z1,m4,rfl,rfl,q.t Y,g⟩)
  refine aF 1 [(4,vI U.2)] (aJ (aZ ?_));cases i;have i:=D;refine aL ?_;cases i;exact aO [4] [vI U.2] (.inr ⟨_,rfl,b,o,l,p,n,y,Z,rfl,q.t V,g.f2.t.f1.f1,E,R,S⟩)
 intro A i;refine aT 1 [(28,vP bp0 0)] ?_;refine aK 29 i (zY (p0:=y1.1) g.f2.f2 r4 r5 r6) ?_;rintro y4 i _ w8 ⟨g1,g8,g2,g9,g3,h0,m5,rfl,e4,g,Z,b0,b2⟩;have q:=q.t e4;refine aF 1 [(27,vB y4.2)] (aG i ?_ ?_)
 .intro A i;refine aE (eC [(9,fun w'=>Inv m5 w'/\Piece.holds m5 w' (kB k (V2 y1.2) 109)/\True)] kr g fun w9 _ g=> ?_);have b:=m5.le_refl;refine⟨⟨.inr ⟨Inv.anti g.inv b,Piece.holds_anti g.t.t.h b,trivial⟩,trivial⟩,?_⟩;refine aR 0 30 (vP bp0 0) (.head _) (dM 109 5 1 31 0 (.agg (V2 y1.2)) (.head _) (fun _ h=>h.2.1) (aR 2 32 (vP bp0 0) (.head _) ?_));have g:=g.f1.f1;have⟨y5,d4,i⟩:=aW i;refine cB 3 kr (CJ 33 121 #[vP bp0 0,vI 2] kr rfl ((EQ (p0:=y4.1) g Z b0 b2 d4).mono ?_));rintro _ f4 (⟨z2,m7,rfl,rfl,U,g⟩|⟨l,rfl,d1,e0,d2,f0,d3,f3,m6,rfl,n,g,b3,b4,b5⟩)
  .refine .inr ⟨_,rfl,?_⟩;have b:=Mem.le_trans b U;refine bW ?_;refine eZ ?_;obtain rfl:=sI i;have i:=D;refine bW ?_;obtain rfl:=sI i;have g:=g.t;exact cT (.inl ⟨z2,m7,rfl,rfl,q.t U,g⟩)
  refine .inl ⟨_,rfl,?_⟩;have b:=Mem.le_trans b n;refine⟨⟨.inr ⟨Inv.anti g.inv b,Piece.holds_anti g.t.t.h b,trivial⟩,trivial⟩,?_⟩;refine aR 4 34 (vI l.2.2.2.1) (.head _) (aR 5 35 (vI (wr (0-l.2.2.2.1))) (.head _) (aR 6 36 (.agg #[vI 1,vI (wr (0-l.2.2.2.1)),vI 0,vT eB,v8]) (.head _) ?_));have g:=g.f1.f1;have⟨y7,d5,i⟩:=aW i;refine cB 7 kr (CJ 37 152 #[vP bp0 0,.agg (V2 y1.2),.agg #[vI 1,vI (wr (0-l.2.2.2.1)),vI 0,vT eB,v8]] kr rfl ((xL (p0:=l.1) (p1:=y1.2) (p2:=(1,wr (0-l.2.2.2.1),0,eB,([]:T9))) g b3 b4 b5 (RepS.nil _ _) d5).mono ?_));rintro _ f5 (⟨z3,m9,rfl,rfl,Y,g⟩|⟨y8,rfl,o,E,p,R,y,S,m8,rfl,V,g,b6,b7,b8⟩)
  .refine .inr ⟨_,rfl,?_⟩;have b:=Mem.le_trans b Y;refine bW ?_;refine eZ ?_;obtain rfl:=sI i;have i:=D;refine bW ?_;obtain rfl:=sI i;have g:=g.t;exact cT (.inl ⟨z3,m9,rfl,rfl,(q.t n).t Y,g⟩)
  refine .inl ⟨_,rfl,?_⟩;have b:=Mem.le_trans b V;refine⟨⟨.inr ⟨Inv.anti g.inv b,Piece.holds_anti g.t.t.h b,trivial⟩,trivial⟩,?_⟩;refine aR 8 4 (vI y8.2) (.head _) (dU kr (aD (aJ (aZ ?_))));cases i;have i:=D;refine aL ?_;cases i;exact aO [4] [vI y8.2] (.inr ⟨_,rfl,o,E,p,R,y,S,m8,rfl,(q.t n).t V,g.f2.t.f1.f1,b6,b7,b8⟩)
 intro A i;refine aT 1 [(39,vP bp0 0)] ?_;refine aK 40 i (zY (p0:=y4.1) g.f1.f1 Z b0 b2) ?_;rintro p i _ h5 ⟨y,S,E,U,R,V,e0,rfl,e9,g,l,n,o⟩;have q:=q.t e9;refine aF 1 [(38,vB p.2)] (aG i ?_ ?_)
 .intro A i;refine aT 3 [(41,vP bp0 0),(43,vI (wr (p1+1)))] ?_;refine cY 44 i (f (p0:=p.1) g.f1.f1 l n o) ?_;rintro h8 i _ h6 (⟨z4,f0,rfl,rfl,d1,g⟩|⟨b,rfl,g4,h1,g6,h2,g7,h3,h4,rfl,Y,g,f5,f6,f7⟩)
  .refine bW ?_;refine eZ ?_;obtain rfl:=sI i;have i:=D;refine bW ?_;obtain rfl:=sI i;have g:=g.t;exact cT (.inl ⟨z4,f0,rfl,rfl,q.t d1,g⟩)
  refine aF 1 [(6,vI b.2)] (aC (aA 1 [(45,vP bp0 0)] (cY 46 i (qS (p0:=b.1) g.f1.f1 f5 f6 f7) ?_)));rintro h9 i _ h7 (⟨z5,f4,rfl,rfl,d3,g⟩|⟨k0,rfl,b3,b6,b4,b7,b5,b8,f3,rfl,d2,g,f8,f9,g0⟩)
  .refine bW ?_;refine eZ ?_;obtain rfl:=sI i;have i:=D;refine bW ?_;obtain rfl:=sI i;have g:=g.t;exact cT (.inl ⟨z5,f4,rfl,rfl,(q.t Y).t d3,g⟩)
  refine aQ (aC (aF 2 [(4,vI b.2)] (aJ (aZ ?_))));cases i;have i:=D;refine aL ?_;cases i;exact aO [4] [vI b.2] (.inr ⟨_,rfl,b3,b6,b4,b7,b5,b8,f3,rfl,(q.t Y).t d2,g.f2.t.f1.f1,f8,f9,g0⟩)
 intro A i;refine aC (bL 1 50 3 49 0 (vI y1.2.1) g.t.t.h (aF 2 [(48,vB (y1.2.1 !=1))] (aG i ?_ ?_)))
 .intro A i;refine aX (bE 52 (.agg (V2 y1.2)) g.t.t.h (cY 53 i (mZ (p0:=y1.2) g) ?_));rintro b7 i _ b6 (⟨z6,b5,rfl,rfl,b3,g⟩|⟨b8,rfl,b4,rfl,b,g⟩)
  .refine eZ ?_;obtain rfl:=sI i;have i:=D;refine bW ?_;obtain rfl:=sI i;have g:=g.t.t.t;exact cT (.inl ⟨z6,b5,rfl,rfl,q.t b3,g⟩)
  refine aS rfl (bI ?_);have Y:=jG i;exact xE (x _ _ ⟨p.1,y,S,E,U,R,V,b4,Y,rfl,q.t b,g.f1.f1.f2,l.mono b,n.mono b,o.mono b⟩)
 intro A i;refine aM (bI ?_);have Y:=jG i;exact xE (x _ _ ⟨p.1,y,S,E,U,R,V,e0,Y,rfl,q,g.f1.f1.f2,l,n,o⟩)
theorem qBf{Rb:bN->Tm->(Int)->dW}{Rc:bN->(Int)->qP}{Rd:bN->(Int)->dW}{Re:bN->(Int)->(Int)->dW}{Rf:bN->(Int)->dW}(l:DZ Rb)(k:DV Rc)(b:EB Rd)(a:EC Re)(n:EP Rf){p0:bN}{p1:Int}{p2:Int}{r:mT}(g:St m (kB bp0 (Vd p0 a1 c1 a2 c2 a3 c3) 84::kR a3 p0.2.2.2 c3 61 5::O) w)(r1:RepS C2 m a1 c1 p0.1)(r2:RepS aH m a2 c2 p0.2.2.1)(r3:RepS C3 m a3 c3 p0.2.2.2)(i:xF N Rb Rc Rd Re Rf p0 p1 p2=some r):Calls prog 151 #[vP bp0 0,vI p1,vI p2] w fun e w'=>(∃(z0:Tl),∃m',r= .inl z0/\e= .panicked [{v:= .iface 80 (.agg (Ve z0)),recovered:=false}]/\m.le m'/\St m' (O) w')\/(∃(G:nL),r= .inr G/\∃d1 d3 d2 d4 E F m',e= .returned (vI G.2)/\m.le m'/\St m' (kB bp0 (Vd G.1 d1 d3 d2 d4 E F) 84::kR E G.1.2.2.2 F 61 5::O) w'/\P7 m' d1 d3 d2 d4 E F G.1):=by
 unfold xF at i;have q:=m.le_refl;refine bF func151 rfl ntmps151 ?_;refine aB 1 [] (aE ?_);refine aB 2 [(12,vB (p1==4))] (aG i ?_ ?_)
 .intro A i;refine aT 2 [(13,vP bp0 0),(14,vI p2)] ?_;refine cY 15 i (b (p0:=p0) g.f1.f1 r1 r2 r3) ?_;rintro y1 i _ R (⟨M,B,rfl,rfl,y,g⟩|⟨c,rfl,d,p,f,s,o,u,z,rfl,x,g,D,H,K⟩)
  .refine bW ?_;refine bW ?_;obtain rfl:=sI i;exact cT (.inl ⟨M,B,rfl,rfl,q.t y,g⟩)
  refine aF 1 [(6,vI c.2)] (aJ (aL ?_));cases i;exact aO [6] [vI c.2] (.inr ⟨_,rfl,d,p,f,s,o,u,z,rfl,q.t x,g.f1.f1,D,H,K⟩)
 intro A i;refine aM (aD (aT 4 [(16,vP bp0 0),(18,vI (wr (p1+1))),(19,vI p2)] (cY 20 i (a (p0:=p0) g.f1.f1 r1 r2 r3) ?_)));rintro y3 i _ w3 (⟨z2,m4,rfl,rfl,e4,g⟩|⟨u,rfl,a7,c7,a8,c8,a9,c9,m3,rfl,e3,g,r7,r8,r9⟩)
 .refine bW ?_;obtain rfl:=sI i;exact cT (.inl ⟨z2,m4,rfl,rfl,q.t e4,g⟩)
 refine aF 1 [(7,vI u.2)] (bA ?_);have⟨d6,i,K⟩:=aW i;refine cH _ kr (cG (fun M L' w'=>∃(c:Int×bN),∃y B z D p s R,aI (EA N Re p1 p2) M c=some d6/\L'=[(0,vP bp0 0),(1,vI p1),(2,vI p2),(7,vI c.1)]/\m.le R/\St R (kB bp0 (Vd c.2 y B z D p s) 84::kR p c.2.2.2.2 s 61 5::O) w'/\P7 R y B z D p s c.2) N ⟨(u.2,u.1.1,u.1.2.1,u.1.2.2.1,u.1.2.2.2),a7,c7,a8,c8,a9,c9,m3,i,rfl,q.t e3,g.f1.f1,r7,r8,r9⟩ ?_);rintro M _ w5 ⟨c,y,B,z,D,p,s,R,hL,rfl,q,g,g2,g3,g4⟩;rcases M with _|M
 .exact cJ hL
 obtain⟨h9,i,d5,o⟩:=cL hL;clear hL;unfold EA at i;refine bA (aT 2 [(21,vP bp0 0),(22,vI p1)] (aK 23 i (qBd (p0:=c.2) g.f1.f1 g2 g3 g4) ?_));rintro y5 i _ w6 ⟨d7,f4,d8,f5,d9,f6,m6,rfl,e5,g,b5,b6,b7⟩;have q:=q.t e5;refine aF 1 [(8,vI y5.2)] (aE (aB 2 [(25,vB (y5.2==0))] (aG i ?_ ?_)))
 .intro A i;refine aB 2 [(6,vI c.1)] (aJ ?_);refine aL (aZ ?_);have ho:=o _ (sI i);subst ho;have i:=K;refine aL (aZ ?_);cases i;exact aO [6] [vI c.1] (.inr ⟨_,rfl,d7,f4,d8,f5,d9,f6,m6,rfl,q,g.f1.f1,b5,b6,b7⟩)
 intro A i;refine aM (aD (aT 1 [(27,vP bp0 0)] (aK 28 i (rK (p0:=y5.1) g.f1.f1 b5 b6 b7) ?_)));rintro d i _ w7 ⟨e0,f7,f0,f8,f3,f9,m7,rfl,e6,g,g5,g6,g7⟩;refine cZ 9 109 (.agg (V3 0 eB 0 0)) g fun b1 w8 g=> ?_;refine cA (.agg (V2 d.2)) g fun w9 g=> ?_;refine aQ (aC (aA 3 [(29,vP bp0 0),(31,vP bp0 1)] (bE 32 (vI d.1.2.1) g.t.h (aA 3 [(33,vI (wr (d.1.2.1+1))),(35,vP bp0 1)] (dR #[vS e0 d.1.1 f7,vI (wr (d.1.2.1+1)),vS f0 d.1.2.2.1 f8,vS f3 d.1.2.2.2 f9] g.f1 fun k0 g=>(aQ (aC (aA 4 [(36,vP bp0 0),(38,vI (wr (p1+1))),(39,vI p2)] (cY 40 i (a (p0:=(d.1.1,wr (d.1.2.1+1),d.1.2.2.1,d.1.2.2.2)) g.f2.f1 g5 g6 g7) ?_)))))))));rintro y7 i _ k2 (⟨z3,m9,rfl,rfl,e8,g⟩|⟨x,rfl,h2,h5,h3,h6,h4,h7,m8,rfl,e7,g,g8,g9,h0⟩)
 .refine bW ?_;refine eZ ?_;have ho:=o _ (sI i);subst ho;have i:=K;refine bW ?_;refine eZ ?_;obtain rfl:=sI i;have g:=g.t;exact cT (.inl ⟨z3,m9,rfl,rfl,(q.t e6).t e8,g⟩)
 refine aF 1 [(10,vI x.2)] (aC (aA 1 [(41,vP bp0 0)] (bE 42 (.agg (V2 d.2)) g.t.t.h (aA 3 [(43,vI y5.2),(44,vI c.1),(45,vI x.2)] (eR 46 3 2 (aV .i64) [c.1,x.2] g fun b2 h8 k3 H g h1=> ?_)))));have q:=((q.t e6).t e7).t H;refine aA 1 [(47,.agg #[vI 4,vI 0,vI y5.2,vT eB,vS (aP b2) ([c.1,x.2]) 2])] (cY 48 i (xL (p0:=x.1) (p1:=d.2) (p2:=(4,0,y5.2,eB,[c.1,x.2])) g.f2.f2 (g8.mono H) (g9.mono H) (h0.mono H) h1) ?_);rintro y9 i _ k4 (⟨z4,g1,rfl,rfl,g0,g⟩|⟨f,rfl,S,Y,U,Z,V,b0,b4,rfl,b3,g,b8,b9,d0⟩)
 .refine bW ?_;refine eZ ?_;have ho:=o _ (sI i);subst ho;have i:=K;refine bW ?_;refine eZ ?_;obtain rfl:=sI i;have g:=g.t.t;exact cT (.inl ⟨z4,g1,rfl,rfl,q.t g0,g⟩)
 refine aA 1 [(7,vI f.2)] (aS rfl ?_);have g:=g.f2.t;refine aD (aB 2 [(50,vB (p1==1))] (aG i ?_ ?_))
 .intro A i;refine aB 2 [(6,vI f.2)] (aJ ?_);refine aZ ?_;have ho:=o _ (sI i);subst ho;have i:=K;refine aL (aZ ?_);cases i;exact aO [6] [vI f.2] (.inr ⟨_,rfl,S,Y,U,Z,V,b0,b4,rfl,q.t b3,g.f2.t.f1.f1,b8,b9,d0⟩)
 intro A i;refine aM (bI ?_);have hL:=d5 _ (sI i);exact xE (cE ⟨(f.2,f.1.1,f.1.2.1,f.1.2.2.1,f.1.2.2.2),S,Y,U,Z,V,b0,b4,hL,rfl,q.t b3,g.f2.t.f1.f1,b8,b9,d0⟩)
theorem qBq{Rb:bN->Tm->(Int)->dW}{Rc:bN->(Int)->qP}{Rd:bN->(Int)->dW}{Re:bN->(Int)->(Int)->dW}{Rf:bN->(Int)->dW}(f:DZ Rb)(c:DV Rc)(k:EB Rd)(b:EC Re)(a:EP Rf){p0:bN}{p1:Int}{r:mT}(g:St m (kB bp0 (Vd p0 a1 c1 a2 c2 a3 c3) 84::kR a3 p0.2.2.2 c3 61 5::O) w)(r1:RepS C2 m a1 c1 p0.1)(r2:RepS aH m a2 c2 p0.2.2.1)(r3:RepS C3 m a3 c3 p0.2.2.2)(i:xQ N Rb Rc Rd Re Rf p0 p1=some r):Calls prog 128 #[vP bp0 0,vI p1] w fun e w'=>(∃(z0:Tl),∃m',r= .inl z0/\e= .panicked [{v:= .iface 80 (.agg (Ve z0)),recovered:=false}]/\m.le m'/\St m' (O) w')\/(∃(x:nL),r= .inr x/\∃G K H M s u m',e= .returned (vI x.2)/\m.le m'/\St m' (kB bp0 (Vd x.1 G K H M s u) 84::kR s x.1.2.2.2 u 61 5::O) w'/\P7 m' G K H M s u x.1):=by
 unfold xQ at i;have q:=m.le_refl;refine bF func128 rfl ntmps128 ?_;refine aB 1 [] (aC ?_);refine aA 1 [(9,vP bp0 0)] (aK 10 i (rK (p0:=p0) g.f1.f1 r1 r2 r3) ?_);rintro y1 i _ w1 ⟨a4,c4,a5,c5,S,U,m1,rfl,e1,g,z,B,D⟩;have q:=q.t e1;refine cZ 5 109 (.agg (V3 0 eB 0 0)) g fun b1 w2 g=> ?_;refine cA (.agg (V2 y1.2)) g fun w3 g=> ?_;refine aQ (aE (aB 2 [(12,vB (decide (p1>32)))] ?_));have⟨d8,i,j1⟩:=aW i;refine cO .normal (fun L' w'=>∃(o1:Unit),∃y,(.inl o1:wQ)=d8/\L'=[(0,vP bp0 0),(1,vI p1),(5,vP b1 0)]/\m.le y/\St y (kB b1 (V2 y1.2) 109::kB bp0 (Vd y1.1 a4 c4 a5 c5 S U) 84::kR S y1.1.2.2.2 U 61 5::O) w'/\P7 y a4 c4 a5 c5 S U y1.1) ?_ ?_
 .rintro _ w4 ⟨o1,y,rfl,rfl,q,g,z,B,D⟩;have i:=j1;refine aD (aE (aT 1 [(15,vP bp0 0)] (aK 16 i (AP (p0:=y1.1) g.f2.f2 z B D) ?_)));rintro d i _ w7 ⟨a7,c7,a8,c8,a9,c9,m5,rfl,e4,g,r7,r8,r9⟩;have q:=q.t e4;refine aF 1 [(17,vB (!d.2))] (aG i ?_ ?_)
  .intro A i;refine aT 2 [(18,vP bp0 0),(19,vI p1)] ?_;refine cY 20 i (b (p0:=d.1) g.f1.f1 r7 r8 r9) ?_;rintro y5 i _ w8 (⟨z2,m7,rfl,rfl,e6,g⟩|⟨Z,rfl,l,p,n,E,o,F,m6,rfl,e5,g,R,V,Y⟩)
   .refine bW ?_;refine bW ?_;obtain rfl:=sI i;have g:=g.t;exact cT (.inl ⟨z2,m7,rfl,rfl,q.t e6,g⟩)
   refine aF 1 [(4,vI Z.2)] (aJ (aL ?_));cases i;exact aO [4] [vI Z.2] (.inr ⟨_,rfl,l,p,n,E,o,F,m6,rfl,q.t e5,g.f2.t.f1.f1,R,V,Y⟩)
  intro A i;refine aM (aD (aT 3 [(21,vP bp0 0),(23,vP bp0 1)] (bE 24 (vI d.1.2.1) g.h (aA 3 [(25,vI (wr (d.1.2.1+1))),(27,vP bp0 1)] (dR #[vS a7 d.1.1 c7,vI (wr (d.1.2.1+1)),vS a8 d.1.2.2.1 c8,vS a9 d.1.2.2.2 c9] g fun n7 g=>(aQ (aC (aA 3 [(28,vP bp0 0),(30,vI (wr (p1+1)))] (cY 31 i (a (p0:=(d.1.1,wr (d.1.2.1+1),d.1.2.2.1,d.1.2.2.2)) g.f1.f1 r7 r8 r9) ?_)))))))));rintro y7 i _ n8 (⟨z3,m9,rfl,rfl,e8,g⟩|⟨p,rfl,h1,k6,h2,k7,h3,k8,m8,rfl,e7,g,d9,e0,f0⟩)
  .refine bW ?_;obtain rfl:=sI i;have g:=g.t;exact cT (.inl ⟨z3,m9,rfl,rfl,q.t e8,g⟩)
  refine aF 1 [(6,vI p.2)] (aC (aA 1 [(32,vP bp0 0)] (cY 33 i (LW (p0:=p.1) g.f1.f1 d9 e0 f0) ?_)));rintro y9 i _ n9 (⟨z4,d2,rfl,rfl,b5,g⟩|⟨g9,rfl,h4,k9,h5,l0,h6,l1,n2,rfl,e9,g,f3,f4,f5⟩)
  .refine bW ?_;obtain rfl:=sI i;have g:=g.t;exact cT (.inl ⟨z4,d2,rfl,rfl,(q.t e7).t b5,g⟩)
  have q:=(q.t e7).t e9;refine aQ (aC (aA 3 [(34,vP bp0 0),(36,vI (wr (p1+1)))] (cY 37 i (a (p0:=g9) g.f1.f1 f3 f4 f5) ?_)));rintro o8 i _ o0 (⟨z5,d3,rfl,rfl,b6,g⟩|⟨l,rfl,h7,l2,h8,l3,h9,l4,n3,rfl,E,g,f6,f7,f8⟩)
  .refine bW ?_;obtain rfl:=sI i;have g:=g.t;exact cT (.inl ⟨z5,d3,rfl,rfl,q.t b6,g⟩)
  refine aF 1 [(7,vI l.2)] (aC (aA 1 [(38,vP bp0 0)] (cY 39 i (LW (p0:=l.1) g.f1.f1 f6 f7 f8) ?_)));rintro o9 i _ o3 (⟨z6,d4,rfl,rfl,b8,g⟩|⟨h0,rfl,k0,l5,k1,l6,k2,l7,n4,rfl,b7,g,f9,g0,g1⟩)
  .refine bW ?_;obtain rfl:=sI i;have g:=g.t;exact cT (.inl ⟨z6,d4,rfl,rfl,(q.t E).t b8,g⟩)
  have q:=(q.t E).t b7;refine aQ (aC (aA 3 [(40,vP bp0 0),(42,vI (wr (p1+1)))] (cY 43 i (a (p0:=h0) g.f1.f1 f9 g0 g1) ?_)));rintro q0 i _ o5 (⟨z7,d5,rfl,rfl,b9,g⟩|⟨n,rfl,k3,l8,k4,l9,k5,n0,n5,rfl,F,g,g2,g3,g4⟩)
  .refine bW ?_;obtain rfl:=sI i;have g:=g.t;exact cT (.inl ⟨z7,d5,rfl,rfl,q.t b9,g⟩)
  refine aF 1 [(8,vI n.2)] (aC (aA 1 [(44,vP bp0 0)] (bE 45 (.agg (V2 y1.2)) g.t.t.h (aA 3 [(46,vI p.2),(47,vI l.2),(48,vI n.2)] (eR 49 3 3 (aV .i64) [p.2,l.2,n.2] g fun b2 n6 o6 o g g5=>(aA 1 [(50,.agg #[vI 5,vI 0,vI 0,vT eB,vS (aP b2) ([p.2,l.2,n.2]) 3])] (cY 51 i (xL (p0:=n.1) (p1:=y1.2) (p2:=(5,0,0,eB,[p.2,l.2,n.2])) g.f2.f2 (g2.mono o) (g3.mono o) (g4.mono o) g5) ?_)))))));rintro q1 i _ o7 (⟨z8,d7,rfl,rfl,d1,g⟩|⟨R,rfl,V,b0,Y,b3,Z,b4,d6,rfl,d0,g,g6,g7,g8⟩)
  .refine bW ?_;obtain rfl:=sI i;have g:=g.t.t;exact cT (.inl ⟨z8,d7,rfl,rfl,((q.t F).t o).t d1,g⟩)
  refine aA 1 [(4,vI R.2)] (aS rfl ?_);have g:=g.f2.t;refine aD (aJ ?_);cases i;exact aO [4] [vI R.2] (.inr ⟨_,rfl,V,b0,Y,b3,Z,b4,d6,rfl,((q.t F).t o).t d0,g.f2.t.f1.f1,g6,g7,g8⟩)
 intro l;refine aG i ?_ ?_
 .intro A i;refine aX (bE 13 (.agg (V2 y1.2)) g.h (cY 14 i (mZ (p0:=y1.2) g) ?_));rintro V i _ R (⟨F,E,rfl,rfl,o,g⟩|⟨Y,rfl,p,rfl,d,g⟩)
  .obtain rfl:=sI i;have i:=j1;refine bW ?_;obtain rfl:=sI i;have g:=g.t.t.t;exact cT (.inl ⟨F,E,rfl,rfl,q.t o,g⟩)
  refine aS rfl ?_;have n:=jG i;exact xE (l _ _ ⟨(),p,n,rfl,q.t d,g.f2.f2.f2,z.mono d,B.mono d,D.mono d⟩)
 intro A i;refine aM ?_;have n:=jG i;exact xE (l _ _ ⟨(),m1,n,rfl,q,g.f2.f2.f2,z,B,D⟩)
theorem lL(N:Nat):∀D:Nat,(∀{m:Mem} {O:List Piece} {w:World} {p0:bN} {p1:Tm} {p2:Int} {b:Nat} {p:Option Addr} {s:Nat} {q:Option Addr} {t:Nat} {n:Option Addr} {o:Nat} {r:mT} (g:St m (kB b (Vd p0 p s q t n o) 84::kR n p0.2.2.2 o 61 5::O) w) (u:RepS C2 m p s p0.1) (x:RepS aH m q t p0.2.2.1) (y:RepS C3 m n o p0.2.2.2) (i:(eH N D).1 p0 p1 p2=some r),Calls prog 170 #[vP b 0,.agg (V2 p1),vI p2] w fun e w'=>(∃(z0:Tl),∃m',r= .inl z0/\e= .panicked [{v:= .iface 80 (.agg (Ve z0)),recovered:=false}]/\m.le m'/\St m' (O) w')\/(∃(a:nL),r= .inr a/\∃f k h l c d m',e= .returned (vI a.2)/\m.le m'/\St m' (kB b (Vd a.1 f k h l c d) 84::kR c a.1.2.2.2 d 61 5::O) w'/\P7 m' f k h l c d a.1))/\(∀{m:Mem} {O:List Piece} {w:World} {p0:bN} {p1:Int} {b:Nat} {p:Option Addr} {s:Nat} {q:Option Addr} {t:Nat} {n:Option Addr} {o:Nat} {r:HS} (g:St m (kB b (Vd p0 p s q t n o) 84::kR n p0.2.2.2 o 61 5::O) w) (u:RepS C2 m p s p0.1) (x:RepS aH m q t p0.2.2.1) (y:RepS C3 m n o p0.2.2.2) (i:(eH N D).2.1 p0 p1=some r),Calls prog 171 #[vP b 0,vI p1] w fun e w'=>(∃(z0:Tl),∃m',r= .inl z0/\e= .panicked [{v:= .iface 80 (.agg (Ve z0)),recovered:=false}]/\m.le m'/\St m' (O) w')\/(∃(a:T24),r= .inr a/\∃f k h l c d z A m',e= .returned (vS z a.2 A)/\m.le m'/\St m' (kR z a.2 A 3 1::kB b (Vd a.1 f k h l c d) 84::kR c a.1.2.2.2 d 61 5::O) w'/\P8 m' f k h l c d z A a))/\(∀{m:Mem} {O:List Piece} {w:World} {p0:bN} {p1:Int} {b:Nat} {p:Option Addr} {s:Nat} {q:Option Addr} {t:Nat} {n:Option Addr} {o:Nat} {r:mT} (g:St m (kB b (Vd p0 p s q t n o) 84::kR n p0.2.2.2 o 61 5::O) w) (u:RepS C2 m p s p0.1) (x:RepS aH m q t p0.2.2.1) (y:RepS C3 m n o p0.2.2.2) (i:(eH N D).2.2.1 p0 p1=some r),Calls prog 160 #[vP b 0,vI p1] w fun e w'=>(∃(z0:Tl),∃m',r= .inl z0/\e= .panicked [{v:= .iface 80 (.agg (Ve z0)),recovered:=false}]/\m.le m'/\St m' (O) w')\/(∃(a:nL),r= .inr a/\∃f k h l c d m',e= .returned (vI a.2)/\m.le m'/\St m' (kB b (Vd a.1 f k h l c d) 84::kR c a.1.2.2.2 d 61 5::O) w'/\P7 m' f k h l c d a.1))/\(∀{m:Mem} {O:List Piece} {w:World} {p0:bN} {p1:Int} {p2:Int} {b:Nat} {p:Option Addr} {s:Nat} {q:Option Addr} {t:Nat} {n:Option Addr} {o:Nat} {r:mT} (g:St m (kB b (Vd p0 p s q t n o) 84::kR n p0.2.2.2 o 61 5::O) w) (u:RepS C2 m p s p0.1) (x:RepS aH m q t p0.2.2.1) (y:RepS C3 m n o p0.2.2.2) (i:(eH N D).2.2.2.1 p0 p1 p2=some r),Calls prog 151 #[vP b 0,vI p1,vI p2] w fun e w'=>(∃(z0:Tl),∃m',r= .inl z0/\e= .panicked [{v:= .iface 80 (.agg (Ve z0)),recovered:=false}]/\m.le m'/\St m' (O) w')\/(∃(a:nL),r= .inr a/\∃f k h l c d m',e= .returned (vI a.2)/\m.le m'/\St m' (kB b (Vd a.1 f k h l c d) 84::kR c a.1.2.2.2 d 61 5::O) w'/\P7 m' f k h l c d a.1))/\(∀{m:Mem} {O:List Piece} {w:World} {p0:bN} {p1:Int} {b:Nat} {p:Option Addr} {s:Nat} {q:Option Addr} {t:Nat} {n:Option Addr} {o:Nat} {r:mT} (g:St m (kB b (Vd p0 p s q t n o) 84::kR n p0.2.2.2 o 61 5::O) w) (u:RepS C2 m p s p0.1) (x:RepS aH m q t p0.2.2.1) (y:RepS C3 m n o p0.2.2.2) (i:(eH N D).2.2.2.2 p0 p1=some r),Calls prog 128 #[vP b 0,vI p1] w fun e w'=>(∃(z0:Tl),∃m',r= .inl z0/\e= .panicked [{v:= .iface 80 (.agg (Ve z0)),recovered:=false}]/\m.le m'/\St m' (O) w')\/(∃(a:nL),r= .inr a/\∃f k h l c d m',e= .returned (vI a.2)/\m.le m'/\St m' (kB b (Vd a.1 f k h l c d) 84::kR c a.1.2.2.2 d 61 5::O) w'/\P7 m' f k h l c d a.1))
 |0=>⟨fun _ _ _ _ i=>(by cases i),fun _ _ _ _ i=>(by cases i),fun _ _ _ _ i=>(by cases i),fun _ _ _ _ i=>(by cases i),fun _ _ _ _ i=>(by cases i)⟩
 |D+1=>⟨fun g u x y i=>qAy (lL N D).1 (lL N D).2.1 (lL N D).2.2.1 (lL N D).2.2.2.1 (lL N D).2.2.2.2 g u x y i,fun g u x y i=>qAt (lL N D).1 (lL N D).2.1 (lL N D).2.2.1 (lL N D).2.2.2.1 (lL N D).2.2.2.2 g u x y i,fun g u x y i=>qBg (lL N D).1 (lL N D).2.1 (lL N D).2.2.1 (lL N D).2.2.2.1 (lL N D).2.2.2.2 g u x y i,fun g u x y i=>qBf (lL N D).1 (lL N D).2.1 (lL N D).2.2.1 (lL N D).2.2.2.1 (lL N D).2.2.2.2 g u x y i,fun g u x y i=>qBq (lL N D).1 (lL N D).2.1 (lL N D).2.2.1 (lL N D).2.2.2.1 (lL N D).2.2.2.2 g u x y i⟩
theorem qCi{p0:bN}{p1:Int}{r:mT}(g:St m (kB bp0 (Vd p0 a1 c1 a2 c2 a3 c3) 84::kR a3 p0.2.2.2 c3 61 5::O) w)(l:RepS C2 m a1 c1 p0.1)(n:RepS aH m a2 c2 p0.2.2.1)(o:RepS C3 m a3 c3 p0.2.2.2)(i:MB N p0 p1=some r):Calls prog 128 #[vP bp0 0,vI p1] w fun e w'=>(∃(z0:Tl),∃m',r= .inl z0/\e= .panicked [{v:= .iface 80 (.agg (Ve z0)),recovered:=false}]/\m.le m'/\St m' (O) w')\/(∃(c:nL),r= .inr c/\∃d h f k a b m',e= .returned (vI c.2)/\m.le m'/\St m' (kB bp0 (Vd c.1 d h f k a b) 84::kR a c.1.2.2.2 b 61 5::O) w'/\P7 m' d h f k a b c.1):=
 (lL N N).2.2.2.2 g l n o i
end
section
open Go Go.Dc Go.Proofs.Tryz
set_option maxHeartbeats 4000000
set_option maxRecDepth 100000
variable {N bp0 c1 c2 c3 c4:Nat} {m:Mem} {O:List Piece} {w:World} {a1 a2 a3 a4:Option Addr}
def AM(N:Nat)(p1:lX)(b:Option (List Tj))(y1:uU)(o4:T2a)(a:Int):qN:=
 if(decide (a<(List.length p1:Int)))=true then((idx p1 a).bind fun x1=>(if(x1.1==((cX b y1.2.2.1).getD 0))=true then(some (x1.2.1.toList==o4.2.2.2.2.2.1.toList)) else(some false):Te).bind fun b=>if b=true then(some (.inr (.inr (a)))) else(some (.inl (IntKind.wrap .i64 (a+1))))) else(some (.inr (.inl ())))
def FG(N:Nat)(p0:bN)(p1:lX):Option zL:=
 (iH (some []:Option (List Tj)) (⟨#[102,117,110,99]⟩:BA) 1).bind fun a=>(iH a (⟨#[116,101,115,116]⟩:BA) 2).bind fun a=>(iH a (⟨#[103,101,110]⟩:BA) 3).bind fun a=>(oQ N p0).bind fun y1=>(if(y1.2.1 !=1)=true then(some true) else(some (((cX a y1.2.2.1).getD 0)==0)):Te).bind fun b=>(if b=true then((iK N y1.2 9).bind fun b=>(match b with| .inl b=>some (.inr (.inl b))| .inr b=>some (.inl ()))) else(some (.inl ())):Option DN).bind fun b=>(match b with| .inl o2=>(if((List.length p1:Int)==64)=true then((iK N y1.2 2).bind fun b=>(match b with| .inl b=>some (.inr (.inl b))| .inr y5=>some (.inl ()))) else(some (.inl ())):Option DN).bind fun b=>(match b with| .inl b=>(if(((cX a y1.2.2.1).getD 0)==3)=true then((tL N (y1.1.1,IntKind.wrap .i64 (y1.1.2.1+1),y1.1.2.2.1,y1.1.2.2.2)).bind fun b=>(match b with| .inl b=>some (.inr (.inl b))| .inr b=>some (.inl (b.1.1,b.1.2.1,b.1.2.2.1,b.1.2.2.2,b.2.1,b.2.2.1,b.2.2.2.1,b.2.2.2.2)))) else((tN N (y1.1.1,IntKind.wrap .i64 (y1.1.2.1+1),y1.1.2.2.1,y1.1.2.2.2)).bind fun b=>(match b with| .inl b=>some (.inr (.inl b))| .inr b=>some (.inl (b.1.1,b.1.2.1,b.1.2.2.1,b.1.2.2.2,b.2.1,b.2.2.1,b.2.2.2.1,b.2.2.2.2)))):Option (T2a⊕zL)).bind fun b=>(match b with| .inl o4=>((aI (AM N p1 a y1 o4) N 0).bind fun b=>(match b with| .inl b=>some (-1)| .inr (z)=>some z):T8).bind fun b=>(if(decide (b>=0))=true then((iK N o4.2.2.2.2 10).bind fun b=>(match b with| .inl b=>some (.inr (.inl b))| .inr b=>some (.inl ()))) else(some (.inl ())):Option DN).bind fun b=>(match b with| .inl b=>(if(((cX a y1.2.2.1).getD 0)==1)=true then((zW N (o4.1,o4.2.1,o4.2.2.1,o4.2.2.2.1)).bind fun b=>(match b with| .inl b=>some (.inr (.inl b))| .inr b=>some (.inl (b.2,b.1.1,b.1.2.1,b.1.2.2.1,b.1.2.2.2)))) else(some (.inl (([]:T6),o4.1,o4.2.1,o4.2.2.1,o4.2.2.2.1))):Option (sX⊕zL)).bind fun b=>(match b with| .inl c=>(mY N c.2 (⟨#[61]⟩:BA)).bind fun b=>(match b with| .inl b=>some (.inl b)| .inr b=>(MB N (b.1,b.2.1,c.1,([]:Ts)) 1).bind fun b=>(match b with| .inl b=>some (.inl b)| .inr b=>(mY N b.1 (⟨#[59]⟩:BA)).bind fun d=>(match d with| .inl d=>some (.inl d)| .inr d=>some (.inr (d,(((cX a y1.2.2.1).getD 0),o4.2.2.2.2.2.1,c.1,b.1.2.2.2))))))| .inr z=>some z)| .inr z=>some z)| .inr z=>some z)| .inr z=>some z)| .inr z=>some z)
theorem qCj{p0:bN}{p1:lX}{r:zL}(g:St m (kB bp0 (Vd p0 a1 c1 a2 c2 a3 c3) 84::kR a3 p0.2.2.2 c3 61 5::O) w)(r1:RepS C2 m a1 c1 p0.1)(r2:RepS aH m a2 c2 p0.2.2.1)(r3:RepS C3 m a3 c3 p0.2.2.2)(B:RepS C4 m a4 c4 p1)(i:FG N p0 p1=some r):Calls prog 90 #[vP bp0 0,vS a4 p1 c4] w fun e w'=>(∃(z0:Tl),∃m',r= .inl z0/\e= .panicked [{v:= .iface 80 (.agg (Ve z0)),recovered:=false}]/\m.le m'/\St m' (O) w')\/(∃(y0:bN×Tz),r= .inr y0/\∃h0 h3 h1 h4 g2 g4 g3 g5 h2 h5 m',e= .returned (.agg (V7 y0.2 g3 g5 h2 h5))/\m.le m'/\St m' (kR g3 y0.2.2.2.1 g5 9 1::kB bp0 (Vd y0.1 h0 h3 h1 h4 g2 g4) 84::kR g2 y0.1.2.2.2 g4 61 5::O) w'/\RepS C2 m' h0 h3 y0.1.1/\RepS aH m' h1 h4 y0.1.2.2.1/\RepS C3 m' g2 g4 y0.1.2.2.2/\RepS aH m' g3 g5 y0.2.2.2.1/\RepS C3 m' h2 h5 y0.2.2.2.2):=by
 unfold FG at i;have q:=m.le_refl;refine bF func90 rfl ntmps90 ?_;refine aC (cZ 4 43 (.agg #[vI 0,vT eB,v7,v7]) g fun V w1 g=>(aQ (aC (bB rfl (FR (d:=9) (t:=151) kr rfl g fun p w2 g=> ?_)))));have⟨s3,d1,i⟩:=aW i;refine bB rfl (mL (ek:=(fun s:BA=>Value.string s)) (c:=(aV .i64)) (agg:=false) (k:=bt) (yv:=1) (cs:=[vI 1]) (z:=(vI 0)) (v:=(vI 1)) (kt:=9) (et:=3) (t:=151) (x:=(.tmp 9)) (y:=(.const (vT bt))) (u:=(.const (vI 1))) kr (ev (.map (some p))) (ev (vT bt)) (ev (vI 1)) kr (LF kr) g (MapQ.new (fun s:BA=>Value.string s) (aV .i64) false _ _) rfl rfl d1 fun q9 q6 w3 g r5=> ?_);have⟨s4,d2,i⟩:=aW i;refine bB rfl (mL (ek:=(fun s:BA=>Value.string s)) (c:=(aV .i64)) (agg:=false) (k:=bx) (yv:=2) (cs:=[vI 2]) (z:=(vI 0)) (v:=(vI 2)) (kt:=9) (et:=3) (t:=151) (x:=(.tmp 9)) (y:=(.const (vT bx))) (u:=(.const (vI 2))) kr (ev (.map (some p))) (ev (vT bx)) (ev (vI 2)) kr (LF kr) g r5 rfl rfl d2 fun r0 q7 w4 g r6=> ?_);have⟨a,d3,i⟩:=aW i
 refine bB rfl (mL (ek:=(fun s:BA=>Value.string s)) (c:=(aV .i64)) (agg:=false) (k:=bz) (yv:=3) (cs:=[vI 3]) (z:=(vI 0)) (v:=(vI 3)) (kt:=9) (et:=3) (t:=151) (x:=(.tmp 9)) (y:=(.const (vT bz))) (u:=(.const (vI 3))) kr (ev (.map (some p))) (ev (vT bz)) (ev (vI 3)) kr (LF kr) g r6 rfl rfl d3 fun o n w5 g b=>(aF 2 [(5,.map (some p))] (aC (aA 1 [(11,vP bp0 0)] (aK 12 i (rK (p0:=p0) g.f3.f3 r1 r2 r3) ?_)))));rintro y1 i _ w6 ⟨a5,c5,a6,c6,a7,c7,m1,rfl,e1,g,r8,r9,U⟩;have b:=b.mono e1;refine cZ 6 109 (.agg (V3 0 eB 0 0)) g fun H w7 g=> ?_;refine cA (.agg (V2 y1.2)) g fun w8 g=> ?_;refine aQ (aC (aA 2 [(13,.map (some p)),(14,vP H 1)] (bE 15 (vT y1.2.2.1) g.h (bB rfl (yL (ek:=(fun s:BA=>Value.string s)) (c:=(aV .i64)) (agg:=false) (k:=y1.2.2.1) (zx:=0) (zcs:=[vI 0]) (z:=(vI 0)) (kt:=9) (et:=3) (d:=16) (t:=151) (x:=(.tmp 13)) (y:=(.tmp 15)) (ok:=false) kr rfl (ev (.map (some p))) (ev (vT y1.2.2.1)) kr (LF kr) g.t.t.t.h b rfl rfl ?_)))));rintro q8 rfl;refine cZ 7 3 (vI 0) g fun M w9 g=> ?_;refine cA (vI ((cX a y1.2.2.1).getD 0)) g fun s7 g=> ?_;refine aQ (aE (aC ?_));have⟨o1,i,J⟩:=aW i
 refine rN (j:=7) (fun L' w'=>∃m2,L'=[(0,vP bp0 0),(1,vS a4 p1 c4),(4,vP V 0),(6,vP H 0),(7,vP M 0),(23,vB o1)]/\m.le m2/\St m2 (kB M #[vI ((cX a y1.2.2.1).getD 0)] 3::kB H (V2 y1.2) 109::kB bp0 (Vd y1.1 a5 c5 a6 c6 a7 c7) 84::kB V #[vI 0,vT eB,v1,va] 43::dS (some p) o n::kR a7 y1.1.2.2.2 c7 61 5::O) w'/\RepS C4 m2 a4 c4 p1/\RepS C2 m2 a5 c5 y1.1.1/\RepS aH m2 a6 c6 y1.1.2.2.1/\RepS C3 m2 a7 c7 y1.1.2.2.2/\MapQ (fun s:BA=>Value.string s) (aV .i64) false m2 (some p) o n a) ?_ ?_
 .have i:=J;rintro _ s8 ⟨m2,rfl,q,g,B,r8,r9,U,b⟩;refine aQ ?_;have⟨l2,i,j1⟩:=aW i;refine cO .normal (fun L' w'=>∃(o2:Unit),∃m3,(.inl o2:DN)=l2/\L'=[(0,vP bp0 0),(1,vS a4 p1 c4),(4,vP V 0),(6,vP H 0),(7,vP M 0)]/\m.le m3/\St m3 (kB M #[vI ((cX a y1.2.2.1).getD 0)] 3::kB H (V2 y1.2) 109::kB bp0 (Vd y1.1 a5 c5 a6 c6 a7 c7) 84::kB V #[vI 0,vT eB,v1,va] 43::dS (some p) o n::kR a7 y1.1.2.2.2 c7 61 5::O) w'/\RepS C4 m3 a4 c4 p1/\RepS C2 m3 a5 c5 y1.1.1/\RepS aH m3 a6 c6 y1.1.2.2.1/\RepS C3 m3 a7 c7 y1.1.2.2.2/\MapQ (fun s:BA=>Value.string s) (aV .i64) false m3 (some p) o n a) ?_ ?_
  .rintro _ s9 ⟨o2,m3,rfl,rfl,q,g,B,r8,r9,U,b⟩;have i:=j1;refine aD (aE (aB 3 [(28,vB ((p1.length:Int)==64))] ?_));have⟨l3,i,j2⟩:=aW i;refine cO .normal (fun L' w'=>∃(o3:Unit),∃m6,(.inl o3:DN)=l3/\L'=[(0,vP bp0 0),(1,vS a4 p1 c4),(4,vP V 0),(6,vP H 0),(7,vP M 0)]/\m.le m6/\St m6 (kB M #[vI ((cX a y1.2.2.1).getD 0)] 3::kB H (V2 y1.2) 109::kB bp0 (Vd y1.1 a5 c5 a6 c6 a7 c7) 84::kB V #[vI 0,vT eB,v1,va] 43::dS (some p) o n::kR a7 y1.1.2.2.2 c7 61 5::O) w'/\RepS C4 m6 a4 c4 p1/\RepS C2 m6 a5 c5 y1.1.1/\RepS aH m6 a6 c6 y1.1.2.2.1/\RepS C3 m6 a7 c7 y1.1.2.2.2/\MapQ (fun s:BA=>Value.string s) (aV .i64) false m6 (some p) o n a) ?_ ?_
   .rintro _ t3 ⟨o3,m6,rfl,rfl,q,g,B,r8,r9,U,b⟩;have i:=j2;refine aD (aT 3 [(31,vP bp0 0),(33,vP bp0 1)] (bE 34 (vI y1.1.2.1) g.t.t.h (aA 3 [(35,vI (wr (y1.1.2.1+1))),(37,vP bp0 1)] (dR #[vS a5 y1.1.1 c5,vI (wr (y1.1.2.1+1)),vS a6 y1.1.2.2.1 c6,vS a7 y1.1.2.2.2 c7] g.f2 fun t4 g=>(aQ (aE (aC (bE 38 (vI ((cX a y1.2.2.1).getD 0)) g.t.h (aF 1 [(39,vB (((cX a y1.2.2.1).getD 0)==3))] ?_)))))))));have⟨l4,i,j3⟩:=aW i;refine cO .normal (fun L' w'=>∃(o4:T2a),∃Y c8 Z c9 f l m9,(.inl o4:T2a⊕zL)=l4/\L'=[(0,vP bp0 0),(1,vS a4 p1 c4),(4,vP V 0),(6,vP H 0),(7,vP M 0)]/\m.le m9/\St m9 (kB bp0 #[vS Y o4.1 c8,vI o4.2.1,vS Z o4.2.2.1 c9,vS f o4.2.2.2.1 l] 84::kB M #[vI ((cX a y1.2.2.1).getD 0)] 3::kB H (V2 o4.2.2.2.2) 109::kB V #[vI 0,vT eB,v1,va] 43::dS (some p) o n::kR f o4.2.2.2.1 l 61 5::O) w'/\RepS C4 m9 a4 c4 p1/\RepS C2 m9 Y c8 o4.1/\RepS aH m9 Z c9 o4.2.2.1/\RepS C3 m9 f l o4.2.2.2.1/\MapQ (fun s:BA=>Value.string s) (aV .i64) false m9 (some p) o n a) ?_ ?_
    .rintro _ t5 ⟨o4,Y,c8,Z,c9,f,l,m9,rfl,rfl,q,g,B,E,F,G,b⟩;have i:=j3;refine aD (aE (aT 2 [(44,vS a4 p1 c4),(45,.func (.func 126) #[] #[vP M 0,vP H 0])] (bB rfl (dN 46 125 #[vS a4 p1 c4,.func (.func 126) #[] #[vP M 0,vP H 0]] kr rfl (bF func125 rfl ntmps125 (aB 1 [] (aC (aA 2 [(5,vS a4 p1 c4),(6,.func (.func 126) #[] #[vP M 0,vP H 0])] ?_))))))));have⟨o5,i,j4⟩:=aW i;refine bB rfl (dN 7 149 #[vS a4 p1 c4,.func (.func 126) #[] #[vP M 0,vP H 0]] kr rfl (JZ (fun v' w'=>∃b0,v'=(vI o5)/\m.le b0/\St b0 (kB bp0 #[vS Y o4.1 c8,vI o4.2.1,vS Z o4.2.2.1 c9,vS f o4.2.2.2.1 l] 84::kB M #[vI ((cX a y1.2.2.1).getD 0)] 3::kB H (V2 o4.2.2.2.2) 109::kB V #[vI 0,vT eB,v1,va] 43::dS (some p) o n::kR f o4.2.2.2.1 l 61 5::O) w'/\RepS C4 b0 a4 c4 p1/\RepS C2 b0 Y c8 o4.1/\RepS aH b0 Z c9 o4.2.2.1/\RepS C3 b0 f l o4.2.2.2.1/\MapQ (fun s:BA=>Value.string s) (aV .i64) false b0 (some p) o n a) ?_ ?_))
     .have i:=j4;rintro _ t6 ⟨b0,rfl,q,g,B,E,F,G,b⟩;refine⟨_,rfl,?_⟩;refine aF 2 [(4,vB (decide (o5>=0)))] (aJ (aO [4] [vB (decide (o5>=0))] (⟨_,rfl,?_⟩)));refine aQ ?_;have⟨l5,i,j7⟩:=aW i;refine cO .normal (fun L' w'=>∃(o8:Unit),∃b8,(.inl o8:DN)=l5/\L'=[(0,vP bp0 0),(4,vP V 0),(6,vP H 0),(7,vP M 0)]/\m.le b8/\St b8 (kB bp0 #[vS Y o4.1 c8,vI o4.2.1,vS Z o4.2.2.1 c9,vS f o4.2.2.2.1 l] 84::kB M #[vI ((cX a y1.2.2.1).getD 0)] 3::kB H (V2 o4.2.2.2.2) 109::kB V #[vI 0,vT eB,v1,va] 43::dS (some p) o n::kR f o4.2.2.2.1 l 61 5::O) w'/\RepS C2 b8 Y c8 o4.1/\RepS aH b8 Z c9 o4.2.2.1/\RepS C3 b8 f l o4.2.2.2.1/\MapQ (fun s:BA=>Value.string s) (aV .i64) false b8 (some p) o n a) ?_ ?_
      .rintro _ t7 ⟨o8,b8,rfl,rfl,q,g,E,F,G,b⟩;have i:=j7;refine aD (aC (bE 49 (vI ((cX a y1.2.2.1).getD 0)) g.t.h (bL 1 51 9 50 1 (vT o4.2.2.2.2.2.1) g.t.t.h (aA 1 [(52,.agg #[vI ((cX a y1.2.2.1).getD 0),vT o4.2.2.2.2.2.1,v1,va])] (cZ 8 43 (.agg #[vI 0,vT eB,v7,v7]) g fun b7 t8 g=>(cA (.agg #[vI ((cX a y1.2.2.1).getD 0),vT o4.2.2.2.2.2.1,v1,va]) g fun t9 g=>(aQ (aE (aC (bE 53 (vI ((cX a y1.2.2.1).getD 0)) g.t.t.h (aF 1 [(54,vB (((cX a y1.2.2.1).getD 0)==1))] ?_)))))))))));have⟨l6,i,j8⟩:=aW i;refine cO .normal (fun L' w'=>∃(D:sX),∃R S d9 f0 e0 f8 d7 d8 b9,(.inl D:sX⊕zL)=l6/\L'=[(0,vP bp0 0),(4,vP V 0),(8,vP b7 0)]/\m.le b9/\St b9 (kB b7 #[vI ((cX a y1.2.2.1).getD 0),vT o4.2.2.2.2.2.1,vS R D.1 S,va] 43::kB bp0 (Vd D.2 d9 f0 e0 f8 d7 d8) 84::kB M #[vI ((cX a y1.2.2.1).getD 0)] 3::kB H (V2 o4.2.2.2.2) 109::kB V #[vI 0,vT eB,v1,va] 43::dS (some p) o n::kR R D.1 S 9 1::kR d7 D.2.2.2.2 d8 61 5::O) w'/\RepS aH b9 R S D.1/\RepS C2 b9 d9 f0 D.2.1/\RepS aH b9 e0 f8 D.2.2.2.1/\RepS C3 b9 d7 d8 D.2.2.2.2/\MapQ (fun s:BA=>Value.string s) (aV .i64) false b9 (some p) o n a) ?_ ?_
       .rintro _ u0 ⟨D,R,S,d9,f0,e0,f8,d7,d8,b9,rfl,rfl,q,g,g8,l7,l8,l9,b⟩;have i:=j8;refine aD (aT 1 [(58,vP bp0 0)] (cY 59 i (qS (p0:=D.2) g.f7.f2 l7 l8 l9) ?_));rintro u9 i _ u1 (⟨z7,k8,rfl,rfl,k5,g⟩|⟨d0,rfl,g6,g7,q0,q3,h6,k0,s0,rfl,f9,g,n0,s5,s6⟩)
        .refine bW ?_;obtain rfl:=sI i;have g:=g.t.t.t.t.t.t;exact cT (.inl ⟨z7,k8,rfl,rfl,q.t k5,g⟩)
        have q:=q.t f9;refine aQ (aC (aA 3 [(60,vP bp0 0),(61,vP bp0 0),(62,vP b7 2)] (bE 63 (vS R D.1 S) g.t.t.h (aA 2 [(65,vP bp0 2)] (dR #[vS g6 d0.1 g7,vI d0.2.1,vS R D.1 S,vS h6 d0.2.2.2 k0] g fun u2 g=>(aA 2 [(67,vP bp0 3)] (dR #[vS g6 d0.1 g7,vI d0.2.1,vS R D.1 S,va] g fun u3 g=>(aS rfl ?_))))))));have g:=g.f1.t;refine aD (aT 1 [(68,vP bp0 0)] ?_);have g:=(g.nilroom 61 5).front1;refine cY 69 i (qCi (p0:=(d0.1,d0.2.1,D.1,([]:Ts))) g n0 (g8.mono f9) (RepS.nil _ _)) ?_;rintro v0 i _ u4 (⟨z8,k9,rfl,rfl,k6,g⟩|⟨d6,rfl,q1,q4,q2,q5,d4,d5,s2,rfl,g0,g,n4,n5,g9⟩)
        .refine bW ?_;obtain rfl:=sI i;have g:=g.t.t.t.t.t.t;exact cT (.inl ⟨z8,k9,rfl,rfl,q.t k6,g⟩)
        refine aQ (aC (bL 3 73 41 72 3 (vS d4 d6.1.2.2.2 d5) g.h (aA 1 [(74,vP b7 3)] (dR #[vI ((cX a y1.2.2.1).getD 0),vT o4.2.2.2.2.2.1,vS R D.1 S,vS d4 d6.1.2.2.2 d5] g.f2 fun u5 g=>(aQ (aC (aA 1 [(75,vP bp0 0)] (cY 76 i (qS (p0:=d6.1) g.f2.f2 n4 n5 g9) ?_))))))));rintro v2 i _ u6 (⟨z9,l1,rfl,rfl,k7,g⟩|⟨v3,rfl,h7,k2,h8,k3,h9,k4,l0,rfl,g1,g,n6,n9,o0⟩)
        .refine bW ?_;obtain rfl:=sI i;have g:=g.t.t.t.t.t.t;exact cT (.inl ⟨z9,l1,rfl,rfl,(q.t g0).t k7,g⟩)
        refine aQ (aC (bE 77 (.agg #[vI ((cX a y1.2.2.1).getD 0),vT o4.2.2.2.2.2.1,vS R D.1 S,vS d4 d6.1.2.2.2 d5]) g.t.t.h (cA (.agg #[vI ((cX a y1.2.2.1).getD 0),vT o4.2.2.2.2.2.1,vS R D.1 S,vS d4 d6.1.2.2.2 d5]) g.f5 fun u7 g=>(aQ (aJ ?_)))));obtain rfl:=sI i;refine iB 4 43 [] [] g.h ?_;exact .inr ⟨_,rfl,h7,k2,h8,k3,h9,k4,R,S,d4,d5,l0,rfl,(q.t g0).t g1,g.t.f2.t.f2.t.f2.t.f2.t.f1.f1.f2,n6,n9,o0,((g8.mono f9).mono g0).mono g1,g9.mono g1⟩
       intro d4;refine aG i ?_ ?_
       .intro A i;refine aX (aA 1 [(55,vP bp0 0)] (cY 56 i (qAx (p0:=(o4.1,o4.2.1,o4.2.2.1,o4.2.2.2.1)) g.f6.f2 E F G) ?_));rintro k6 i _ k4 (⟨z6,h8,rfl,rfl,h6,g⟩|⟨d0,rfl,g0,g7,g1,g8,g6,g9,d5,d6,h7,rfl,f9,g,h9,k0,k2,k3⟩)
        .obtain rfl:=sI i;have i:=j8;refine bW ?_;obtain rfl:=sI i;have g:=g.t.t.t.t.t;exact cT (.inl ⟨z6,h8,rfl,rfl,q.t h6,g⟩)
        refine aA 1 [(57,vP b7 2)] (dR #[vI ((cX a y1.2.2.1).getD 0),vT o4.2.2.2.2.2.1,vS d5 d0.2 d6,va] g.f3 fun k5 g=>(aS rfl ?_));have n8:=jG i;exact xE (d4 _ _ ⟨(d0.2,d0.1.1,d0.1.2.1,d0.1.2.2.1,d0.1.2.2.2),d5,d6,g0,g7,g1,g8,g6,g9,h7,n8,rfl,q.t f9,g.f3.f2.f7.f7.f7.f7.f7.f7,k3,h9,k0,k2,b.mono f9⟩)
       intro A i;refine aM ?_;have n8:=jG i;have g:=(g.nilroom 9 1).front7.front1.front7.front7.front7.front7.front7.front7;exact xE (d4 _ _ ⟨(([]:T6),o4.1,o4.2.1,o4.2.2.1,o4.2.2.2.1),none,0,Y,c8,Z,c9,f,l,b8,n8,rfl,q,g,(RepS.nil _ _),E,F,G,b⟩)
      intro R;refine aG i ?_ ?_
      .intro A i;refine aX (bE 47 (.agg (V2 o4.2.2.2.2)) g.t.t.h (cY 48 i (mZ (p0:=o4.2.2.2.2) g) ?_));rintro d6 i _ d5 (⟨z5,d4,rfl,rfl,b9,g⟩|⟨d7,rfl,d0,rfl,D,g⟩)
       .obtain rfl:=sI i;have i:=j7;refine bW ?_;obtain rfl:=sI i;have g:=g.t.t.t.t.t.t;exact cT (.inl ⟨z5,d4,rfl,rfl,q.t b9,g⟩)
       refine aS rfl ?_;have S:=jG i;exact xE (R _ _ ⟨(),d0,S,rfl,q.t D,g.f5.f5.f5.f5.f5.f5,E.mono D,F.mono D,G.mono D,b.mono D⟩)
      intro A i;refine aM ?_;have S:=jG i;exact xE (R _ _ ⟨(),b0,S,rfl,q,g.f5.f5.f5.f5.f5.f5,E,F,G,b⟩)
     refine bF func149 rfl ntmps149 ?_;refine aB 1 [] (aE ?_);refine aB 3 [(7,vI (p1.length:Int)),(8,vI 0)] (bA ?_);have⟨d8,i,j5⟩:=aW i;refine cO (.exit 0) (fun L' w'=>∃(o6:Unit),∃S,(.inl o6)=d8/\L'=[]/\m.le S/\St S (kB bp0 #[vS Y o4.1 c8,vI o4.2.1,vS Z o4.2.2.1 c9,vS f o4.2.2.2.1 l] 84::kB M #[vI ((cX a y1.2.2.1).getD 0)] 3::kB H (V2 o4.2.2.2.2) 109::kB V #[vI 0,vT eB,v1,va] 43::dS (some p) o n::kR f o4.2.2.2.1 l 61 5::O) w'/\RepS C4 S a4 c4 p1/\RepS C2 S Y c8 o4.1/\RepS aH S Z c9 o4.2.2.1/\RepS C3 S f l o4.2.2.2.1/\MapQ (fun s:BA=>Value.string s) (aV .i64) false S (some p) o n a) ?_ ?_
     .rintro _ D ⟨o6,S,rfl,rfl,q,g,B,E,F,G,b⟩;have i:=j5;refine cK (aD (aB 1 [(4,vI (-1))] (aJ ?_)));cases i;exact aO [4] [vI (-1)] ⟨_,rfl,⟨S,rfl,q,g.f5.f5.f5.f5.f5.f5,B,E,F,G,b⟩⟩
     intro f0;refine cH _ kr (cG (fun k1 L' w'=>∃(s1:Int),∃b8,aI (AM N p1 a y1 o4) k1 s1=some d8/\L'=[(0,vS a4 p1 c4),(1,.func (.func 126) #[] #[vP M 0,vP H 0]),(7,vI (p1.length:Int)),(8,vI s1)]/\m.le b8/\St b8 (kB bp0 #[vS Y o4.1 c8,vI o4.2.1,vS Z o4.2.2.1 c9,vS f o4.2.2.2.1 l] 84::kB M #[vI ((cX a y1.2.2.1).getD 0)] 3::kB H (V2 o4.2.2.2.2) 109::kB V #[vI 0,vT eB,v1,va] 43::dS (some p) o n::kR f o4.2.2.2.1 l 61 5::O) w'/\RepS C4 b8 a4 c4 p1/\RepS C2 b8 Y c8 o4.1/\RepS aH b8 Z c9 o4.2.2.1/\RepS C3 b8 f l o4.2.2.2.1/\MapQ (fun s:BA=>Value.string s) (aV .i64) false b8 (some p) o n a) N ⟨0,m9,i,rfl,q,g.f5.f5.f5.f5.f5.f5,B,E,F,G,b⟩ ?_);rintro k1 _ g7 ⟨s1,b8,hL,rfl,q,g,B,E,F,G,b⟩;rcases k1 with _|k1
     .exact cJ hL
     obtain⟨g6,i,g0,d7⟩:=cL hL;clear hL;unfold AM at i;refine aB 1 [(9,vB (decide (s1<(p1.length:Int))))] (aE ?_);refine aG i ?_ ?_
     .intro A i;refine aM (aD (aE (bA (aB 2 [(5,vI s1)] (aC (aA 3 [(11,.func (.func 126) #[] #[vP M 0,vP H 0]),(12,vS a4 p1 c4),(13,vI s1)] (dQ 14 B i ?_)))))));rintro x1 i b5 f1 g1 ⟨_,_,rfl,rfl,⟨_,_,rfl,rfl,⟨_,_,rfl,⟨b9,d4,rfl,d9⟩,⟨d0,d5,rfl,e0⟩⟩⟩⟩ d6;refine dV 15 43 14 f1 (.agg (V7 x1 b9 d4 d0 d5)) g d6 (bB rfl (dN 16 126 #[.agg (V7 x1 b9 d4 d0 d5),vP M 0,vP H 0] kr rfl (bF func126 rfl ntmps126 (aC (iE 3 43 (.agg (V7 x1 b9 d4 d0 d5)) g fun b6 f9 g8 D g f8=> ?_)))));have B:=B.mono D;have b:=b.mono D;refine aF 1 [] (aC (cU 12 i (fun o7 L' w'=>∃R,L'=[(4,vB o7)]/\m.le R/\St R (kB bp0 #[vS Y o4.1 c8,vI o4.2.1,vS Z o4.2.2.1 c9,vS f o4.2.2.2.1 l] 84::kB M #[vI ((cX a y1.2.2.1).getD 0)] 3::kB H (V2 o4.2.2.2.2) 109::kB V #[vI 0,vT eB,v1,va] 43::dS (some p) o n::kR f o4.2.2.2.1 l 61 5::O) w'/\RepS C4 R a4 c4 p1/\MRow R b5 f1 (Vb x1 b9 d4 d0 d5)/\RepS aH R b9 d4 x1.2.2.1/\RepS C3 R d0 d5 x1.2.2.2/\RepS C2 R Y c8 o4.1/\RepS aH R Z c9 o4.2.2.1/\RepS C3 R f l o4.2.2.2.1/\MapQ (fun s:BA=>Value.string s) (aV .i64) false R (some p) o n a) ?_ ?_))
      .rintro o7 i _ g9 ⟨R,rfl,q,g,B,d6,d9,e0,E,F,G,b⟩;refine aQ (aJ (aO [4] [vB o7] (⟨_,rfl,?_⟩)));refine aQ (aG i ?_ ?_)
       .intro A i;refine aB 2 [(4,vI s1)] (aJ ?_);refine aZ (aL ?_);have ho:=d7 _ (sI i);subst ho;have i:=j5;refine aL (aZ (aL ?_));obtain rfl:=sI i;exact aO [4] [vI s1] ⟨_,rfl,⟨R,rfl,q,g.f5.f5.f5.f5.f5.f5,B,E,F,G,b⟩⟩
       intro A i;refine aM (bI (aD (aX (aA 2 [(8,vI (wr (s1+1)))] (aS rfl ?_)))));have hL:=g0 _ (sI i);exact xE (cE ⟨wr (s1+1),R,hL,rfl,q,g.f5.f5.f5.f5.f5.f5,B,E,F,G,b⟩)
      intro o7 i K;refine aA 1 [(5,vP b6 0)] (bJ 6 (vI x1.1) g f8 (bE 7 (vI ((cX a y1.2.2.1).getD 0)) g.t.h (aA 2 [(9,vB (x1.1==((cX a y1.2.2.1).getD 0)))] (bC 9 i ?_ ?_))))
      .intro A i;refine aA 1 [(10,vP b6 1)] (bJ 11 (vT x1.2.1) g (f8.drop 1) (bL 1 13 9 12 1 (vT o4.2.2.2.2.2.1) g.t.t.h (aA 3 [(4,vB (x1.2.1.toList==o4.2.2.2.2.2.1.toList))] ?_)));cases i;exact aU _ kr (K _ _ ⟨f9,rfl,q.t D,g.f5.f5.f5.f5.f5.f5,B,d6.mono D,d9.mono D,e0.mono D,E.mono D,F.mono D,G.mono D,b⟩)
      intro A i;refine aA 7 [(4,vB false)] ?_;cases i;exact aU _ kr (K _ _ ⟨f9,rfl,q.t D,g.f5.f5.f5.f5.f5.f5,B,d6.mono D,d9.mono D,e0.mono D,E.mono D,F.mono D,G.mono D,b⟩)
     intro A i;refine cD (bD ?_);have ho:=d7 _ (sI i);have g:=g.f5.f5.f5.f5.f5.f5;refine bD ?_;exact xE (f0 _ _ ⟨(),b8,ho,rfl,q,g,B,E,F,G,b⟩)
    intro E;refine aG i ?_ ?_
    .intro A i;refine aX (aA 1 [(40,vP bp0 0)] (cY 41 i (IW (p0:=(y1.1.1,wr (y1.1.2.1+1),y1.1.2.2.1,y1.1.2.2.2)) g.f5.f1 r8 r9 U) ?_));rintro y6 i _ d9 (⟨z3,d5,rfl,rfl,e7,g⟩|⟨D,rfl,R,b8,S,b9,b0,d0,d4,rfl,F,g,d6,d7,d8⟩)
     .obtain rfl:=sI i;have i:=j3;refine bW ?_;obtain rfl:=sI i;have g:=g.t.t.t.t;exact cT (.inl ⟨z3,d5,rfl,rfl,q.t e7,g⟩)
     refine cA (.agg (V2 D.2)) g.f3 fun e0 g=> ?_;refine aS rfl ?_;have G:=jG i;exact xE (E _ _ ⟨(D.1.1,D.1.2.1,D.1.2.2.1,D.1.2.2.2,D.2.1,D.2.2.1,D.2.2.2.1,D.2.2.2.2),R,b8,S,b9,b0,d0,d4,G,rfl,q.t F,g.f2.f5.f5.f3.f5.f5,B.mono F,d6,d7,d8,b.mono F⟩)
    intro A i;refine aX (aA 1 [(42,vP bp0 0)] (cY 43 i (JA (p0:=(y1.1.1,wr (y1.1.2.1+1),y1.1.2.2.1,y1.1.2.2.2)) g.f5.f1 r8 r9 U) ?_));rintro y8 i _ d9 (⟨z4,d5,rfl,rfl,e9,g⟩|⟨D,rfl,R,b8,S,b9,b0,d0,d4,rfl,F,g,d6,d7,d8⟩)
    .obtain rfl:=sI i;have i:=j3;refine bW ?_;obtain rfl:=sI i;have g:=g.t.t.t.t;exact cT (.inl ⟨z4,d5,rfl,rfl,q.t e9,g⟩)
    refine cA (.agg (V2 D.2)) g.f3 fun e0 g=> ?_;refine aS rfl ?_;have G:=jG i;exact xE (E _ _ ⟨(D.1.1,D.1.2.1,D.1.2.2.1,D.1.2.2.2,D.2.1,D.2.2.1,D.2.2.2.1,D.2.2.2.2),R,b8,S,b9,b0,d0,d4,G,rfl,q.t F,g.f2.f5.f5.f3.f5.f5,B.mono F,d6,d7,d8,b.mono F⟩)
   intro l;refine aG i ?_ ?_
   .intro A i;refine aX (bE 29 (.agg (V2 y1.2)) g.t.h (cY 30 i (mZ (p0:=y1.2) g) ?_));rintro Y i _ S (⟨R,G,rfl,rfl,E,g⟩|⟨y5,rfl,F,rfl,f,g⟩)
    .obtain rfl:=sI i;have i:=j2;refine bW ?_;obtain rfl:=sI i;have g:=g.t.t.t.t.t.t;exact cT (.inl ⟨R,G,rfl,rfl,q.t E,g⟩)
    refine aS rfl ?_;have D:=jG i;exact xE (l _ _ ⟨(),F,D,rfl,q.t f,g.f5.f5.f5.f5.f5.f5,B.mono f,r8.mono f,r9.mono f,U.mono f,b.mono f⟩)
   intro A i;refine aM ?_;have D:=jG i;exact xE (l _ _ ⟨(),m3,D,rfl,q,g.f5.f5.f5.f5.f5.f5,B,r8,r9,U,b⟩)
  intro l;refine aG i ?_ ?_
  .intro A i;refine aX (bE 24 (.agg (V2 y1.2)) g.t.h (cY 25 i (mZ (p0:=y1.2) g) ?_));rintro Y i _ S (⟨R,G,rfl,rfl,E,g⟩|⟨Z,rfl,F,rfl,f,g⟩)
   .obtain rfl:=sI i;have i:=j1;refine bW ?_;obtain rfl:=sI i;have g:=g.t.t.t.t.t.t;exact cT (.inl ⟨R,G,rfl,rfl,q.t E,g⟩)
   refine aS rfl ?_;have D:=jG i;exact xE (l _ _ ⟨(),F,D,rfl,q.t f,g.f5.f5.f5.f5.f5.f5,B.mono f,r8.mono f,r9.mono f,U.mono f,b.mono f⟩)
  intro A i;refine aM ?_;have D:=jG i;exact xE (l _ _ ⟨(),m2,D,rfl,q,g.f5.f5.f5.f5.f5.f5,B,r8,r9,U,b⟩)
 intro K;refine bL 1 18 3 17 0 (vI y1.2.1) g.t.h (aA 2 [(20,vB (y1.2.1 !=1))] (bC 20 i ?_ ?_))
 .intro A i;refine aA 3 [(23,vB true)] ?_;cases i;exact aU _ kr (K _ _ ⟨m1,rfl,q.t e1,g.f3.f4.f5.f5.f5.f5,B.mono e1,r8,r9,U,b⟩)
 intro A i;refine bE 21 (vI ((cX a y1.2.2.1).getD 0)) g.h ?_;refine aA 2 [(23,vB (((cX a y1.2.2.1).getD 0)==0))] ?_;cases i;exact aU _ kr (K _ _ ⟨m1,rfl,q.t e1,g.f3.f4.f5.f5.f5.f5,B.mono e1,r8,r9,U,b⟩)
def EU(N:Nat)(d:uU)(a:IH):Option ID:=
 (sG N (a.1,a.2.1,a.2.2.1,a.2.2.2.1) 1 (⟨#[105,109,112,111,114,116]⟩:BA)).bind fun c=>if c.2=true then((if((List.length a.2.2.2.2:Int)==8)=true then((oQ N c.1).bind fun b=>(iK N b.2 2).bind fun e=>(match e with| .inl e=>some (.inr (.inr (.inr (.inl e))))| .inr e=>some (.inl b.1))) else(some (.inl c.1)):Option (bN⊕ID)).bind fun b=>(match b with| .inl o2=>(tN N (o2.1,IntKind.wrap .i64 (o2.2.1+1),o2.2.2.1,o2.2.2.2)).bind fun b=>(match b with| .inl b=>some (.inr (.inr (.inl b)))| .inr b=>(if(b.2.2.1.toList==d.2.2.1.toList)=true then(some true) else((sB N a.2.2.2.2 b.2.2.1).bind fun d=>some d):Te).bind fun d=>(if d=true then((iK N b.2 10).bind fun d=>(match d with| .inl d=>some (.inr (.inr (.inr (.inl d))))| .inr d=>some (.inl ()))) else(some (.inl ())):Option (Unit⊕ID)).bind fun d=>(match d with| .inl o4=>(cW 16 a.2.2.2.2 ([b.2.2.1])).bind fun d=>(mY N b.1 (⟨#[59]⟩:BA)).bind fun b=>(match b with| .inl b=>some (.inr (.inr (.inl b)))| .inr b=>some (.inl (b.1,b.2.1,b.2.2.1,b.2.2.2,d)))| .inr z=>some z))| .inr z=>some z)) else(some (.inr (.inl (c.1.1,c.1.2.1,c.1.2.2.1,c.1.2.2.2,a.2.2.2.2))))
def vA(N:Nat)(c:II):Option (II⊕II⊕T2e):=
 (oQ N (c.1,c.2.1,c.2.2.1,c.2.2.2.1)).bind fun a=>if(a.2.1 !=5)=true then((FG N a.1 c.2.2.2.2).bind fun b=>(match b with| .inl b=>some (.inr (.inr (.inl b)))| .inr b=>(cW 72 c.2.2.2.2 ([b.2])).bind fun d=>some (.inl (b.1.1,b.1.2.1,b.1.2.2.1,b.1.2.2.2,d)))) else(some (.inr (.inl (a.1.1,a.1.2.1,a.1.2.2.1,a.1.2.2.2,c.2.2.2.2))))
def AS(N:Nat)(p0:bN):Option T2e:=
 (xU N p0 (⟨#[112,97,99,107,97,103,101]⟩:BA)).bind fun y1=>(match y1 with| .inl a=>some (.inl a)| .inr a=>(tN N a).bind fun a=>(match a with| .inl a=>some (.inl a)| .inr c=>(mY N c.1 (⟨#[59]⟩:BA)).bind fun y5=>(match y5 with| .inl a=>some (.inl a)| .inr a=>(aI (EU N c) N (a.1,a.2.1,a.2.2.1,a.2.2.2,([]:T6))).bind fun a=>(match a with| .inl a=>(aI (vA N) N (a.1,a.2.1,a.2.2.1,a.2.2.2.1,([]:lX))).bind fun b=>(match b with| .inl b=>some (.inr ((b.1,b.2.1,b.2.2.1,b.2.2.2.1),(c.2.2.1,a.2.2.2.2,b.2.2.2.2)))| .inr (z)=>some z)| .inr (z)=>some z))))
theorem qCb{p0:bN}{r:T2e}(g:St m (kB bp0 (Vd p0 a1 c1 a2 c2 a3 c3) 84::kR a3 p0.2.2.2 c3 61 5::O) w)(r1:RepS C2 m a1 c1 p0.1)(r2:RepS aH m a2 c2 p0.2.2.1)(r3:RepS C3 m a3 c3 p0.2.2.2)(i:AS N p0=some r):Calls prog 40 #[vP bp0 0] w fun e w'=>(∃(z0:Tl),∃m',r= .inl z0/\e= .panicked [{v:= .iface 80 (.agg (Ve z0)),recovered:=false}]/\m.le m'/\St m' (O) w')\/(∃(G:bN×eF),r= .inr G/\∃k3 k5 k4 k6 g5 g8 g6 g9 g7 h0 m',e= .returned (.agg (V6 G.2 g6 g9 g7 h0))/\m.le m'/\St m' (kR g6 G.2.2.1 g9 9 1::kR g7 G.2.2.2 h0 43 4::kB bp0 (Vd G.1 k3 k5 k4 k6 g5 g8) 84::kR g5 G.1.2.2.2 g8 61 5::O) w'/\RepS C2 m' k3 k5 G.1.1/\RepS aH m' k4 k6 G.1.2.2.1/\RepS C3 m' g5 g8 G.1.2.2.2/\RepS aH m' g6 g9 G.2.2.1/\RepS C4 m' g7 h0 G.2.2.2):=by
 unfold AS at i;have q:=m.le_refl;refine bF func40 rfl ntmps40 ?_;refine aC (cZ 2 29 (.agg #[vT eB,v7,v7]) g fun u w1 g=>(aQ (aC (aA 1 [(5,vP bp0 0)] (cY 6 i (LW (p0:=p0) g.f2.f2 r1 r2 r3) ?_)))));rintro y1 i _ w2 (⟨z1,m2,rfl,rfl,e2,g⟩|⟨y2,rfl,a4,c4,a5,c5,a6,c6,m1,rfl,e1,g,r4,r5,r6⟩)
 .refine bW ?_;obtain rfl:=sI i;have g:=g.t;exact cT (.inl ⟨z1,m2,rfl,rfl,q.t e2,g⟩)
 have q:=q.t e1;refine aQ (aC (aA 1 [(7,vP bp0 0)] (cY 8 i (JA (p0:=y2) g.f1.f1 r4 r5 r6) ?_)));rintro y3 i _ w4 (⟨z2,m4,rfl,rfl,e4,g⟩|⟨s,rfl,a7,c7,a8,c8,a9,c9,m3,rfl,e3,g,r7,r8,r9⟩)
 .refine bW ?_;obtain rfl:=sI i;have g:=g.t;exact cT (.inl ⟨z2,m4,rfl,rfl,q.t e4,g⟩)
 refine aA 2 [(10,.agg #[vT s.2.2.1,v1,vb])] (cZ 3 29 (.agg #[vT eB,v7,v7]) g fun p w6 g=>(cA (.agg #[vT s.2.2.1,v1,vb]) g fun w7 g=>(aQ (aC (aA 1 [(11,vP bp0 0)] (cY 12 i (qS (p0:=s.1) g.f2.f2 r7 r8 r9) ?_))))));rintro y5 i _ w8 (⟨z3,m6,rfl,rfl,e6,g⟩|⟨y6,rfl,k8,l6,k9,l7,l0,l8,m5,rfl,e5,g,o7,o8,o9⟩)
 .refine bW ?_;obtain rfl:=sI i;have g:=g.t.t;exact cT (.inl ⟨z3,m6,rfl,rfl,(q.t e3).t e6,g⟩)
 refine aQ (aE (bA ?_));have⟨g1,i,j1⟩:=aW i;refine cO (.exit 0) (fun L' w'=>∃(c:IH),∃b0 d2 b6 d3 S V n o m7,(.inl c)=g1/\L'=[(0,vP bp0 0),(2,vP u 0),(3,vP p 0)]/\m.le m7/\St m7 (kB bp0 #[vS b0 c.1 d2,vI c.2.1,vS b6 c.2.2.1 d3,vS S c.2.2.2.1 V] 84::kB p #[vT s.2.2.1,vS n c.2.2.2.2 o,vb] 29::kB u #[vT eB,v1,vb] 29::kR S c.2.2.2.1 V 61 5::kR n c.2.2.2.2 o 9 1::O) w'/\RepS C2 m7 b0 d2 c.1/\RepS aH m7 b6 d3 c.2.2.1/\RepS C3 m7 S V c.2.2.2.1/\RepS aH m7 n o c.2.2.2.2) ?_ ?_
 .rintro _ s4 ⟨c,b0,d2,b6,d3,S,V,n,o,m7,rfl,rfl,q,g,n9,o0,o6,H⟩;have i:=j1;refine cK (aD (aE (bA ?_)));have⟨g0,i,j5⟩:=aW i;refine cO (.exit 2) (fun L' w'=>∃(f:II),∃b7 d0 b8 d1 R U z B x,(.inl f)=g0/\L'=[(2,vP u 0),(3,vP p 0)]/\m.le x/\St x (kB bp0 #[vS b7 f.1 d0,vI f.2.1,vS b8 f.2.2.1 d1,vS R f.2.2.2.1 U] 84::kB p #[vT s.2.2.1,vS n c.2.2.2.2 o,vS z f.2.2.2.2 B] 29::kB u #[vT eB,v1,vb] 29::kR n c.2.2.2.2 o 9 1::kR R f.2.2.2.1 U 61 5::kR z f.2.2.2.2 B 43 4::O) w'/\RepS C2 x b7 d0 f.1/\RepS aH x b8 d1 f.2.2.1/\RepS C3 x R U f.2.2.2.1/\RepS aH x n o c.2.2.2.2/\RepS C4 x z B f.2.2.2.2) ?_ ?_
  .rintro _ y ⟨f,b7,d0,b8,d1,R,U,z,B,x,rfl,rfl,q,g,a,b,k,H,l⟩;have i:=j5;refine cK (aD (aC (bE 67 (.agg #[vT s.2.2.1,vS n c.2.2.2.2 o,vS z f.2.2.2.2 B]) g.t.h (cA (.agg #[vT s.2.2.1,vS n c.2.2.2.2 o,vS z f.2.2.2.2 B]) g.f2 fun D g=>(aQ (aJ ?_))))));cases i;refine iB 2 29 [] [] g.h ?_;exact .inr ⟨_,rfl,b7,d0,b8,d1,R,U,n,o,z,B,x,rfl,q,g.t.f1.t.f2.f1.f3.f3,a,b,k,H,l⟩
  intro g2;have g:=(g.nilroom 43 4).front4.front5.front5.front5.front5;refine cH _ kr (cG (fun k2 L' w'=>∃(b:II),∃d7 e0 d8 f0 b9 d4 k l y,aI (vA N) k2 b=some g0/\L'=[(0,vP bp0 0),(2,vP u 0),(3,vP p 0)]/\m.le y/\St y (kB bp0 #[vS d7 b.1 e0,vI b.2.1,vS d8 b.2.2.1 f0,vS b9 b.2.2.2.1 d4] 84::kB p #[vT s.2.2.1,vS n c.2.2.2.2 o,vS k b.2.2.2.2 l] 29::kB u #[vT eB,v1,vb] 29::kR n c.2.2.2.2 o 9 1::kR b9 b.2.2.2.1 d4 61 5::kR k b.2.2.2.2 l 43 4::O) w'/\RepS C2 y d7 e0 b.1/\RepS aH y d8 f0 b.2.2.1/\RepS C3 y b9 d4 b.2.2.2.1/\RepS aH y n o c.2.2.2.2/\RepS C4 y k l b.2.2.2.2) N ⟨(c.1,c.2.1,c.2.2.1,c.2.2.2.1,([]:lX)),b0,d2,b6,d3,S,V,none,0,m7,i,rfl,q,g,n9,o0,o6,H,(RepS.nil _ _)⟩ ?_);rintro k2 _ s5 ⟨b,d7,e0,d8,f0,b9,d4,k,l,y,hL,rfl,q,g,q0,q1,q2,H,Z⟩;rcases k2 with _|k2
  .exact cJ hL
  obtain⟨s3,i,h7,f9⟩:=cL hL;clear hL;unfold vA at i;refine aE (aT 1 [(54,vP bp0 0)] (aK 55 i (rK (p0:=(b.1,b.2.1,b.2.2.1,b.2.2.2.1)) g.f4.f1 q0 q1 q2) ?_));rintro M i _ s6 ⟨h8,l5,h9,l9,k0,n0,Y,rfl,d5,g,h4,h5,h6⟩;have q:=q.t d5;have Z:=Z.mono d5;refine aF 2 [(57,vB (M.2.1 !=5))] (aG i ?_ ?_)
  .intro A i;refine aM (aD (bA (eC [(10,fun w'=>Inv Y w'/\True),(9,fun w'=>Inv Y w'/\Piece.holds Y w' (kB p #[vT s.2.2.1,vS n c.2.2.2.2 o,vS k b.2.2.2.2 l] 29)/\True)] kr g fun s7 _ g=> ?_)));have a:=Y.le_refl;refine⟨⟨iA g a,⟨.inr ⟨Inv.anti g.inv a,Piece.holds_anti g.t.t.h a,trivial⟩,trivial⟩⟩,?_⟩;refine aR 0 58 (vP p 2) (.head _) (dM 27 58 1 59 2 (vS k b.2.2.2.2 l) (.tail _ (.head _)) (fun _ h=>h.2.1) (aR 2 60 (vP bp0 0) (.head _) (aR 3 61 (vP p 2) (.head _) (dM 27 61 4 62 2 (vS k b.2.2.2.2 l) (.tail _ (.head _)) (fun _ h=>h.2.1) ?_))));have g:=g.f1.f1;have⟨t5,n6,i⟩:=aW i;refine cB 5 kr (CJ 63 90 #[vP bp0 0,vS k b.2.2.2.2 l] kr rfl ((qCj (p0:=M.1) g h4 h5 h6 Z n6).mono ?_));rintro _ s8 (⟨z8,n7,rfl,rfl,h3,g⟩|⟨E,rfl,k7,n1,l3,n4,l4,n5,g3,h1,g4,h2,r0,rfl,d6,g,q3,q4,q5,q6,q7⟩)
   .refine .inr ⟨_,rfl,?_⟩;have a:=Mem.le_trans a h3;refine eZ ?_;have ho:=f9 _ (sI i);subst ho;have i:=j5;refine bW ?_;refine eZ ?_;refine bW ?_;obtain rfl:=sI i;have g:=g.t.t.t.t;exact cT (.inl ⟨z8,n7,rfl,rfl,q.t h3,g⟩)
   refine .inl ⟨_,rfl,?_⟩;have a:=Mem.le_trans a d6;refine⟨⟨iA g a,⟨.inr ⟨Inv.anti g.inv a,Piece.holds_anti g.t.t.t.h a,trivial⟩,trivial⟩⟩,?_⟩;refine cB 6 kr (nN (d:=64) (t:=27) (e:=43) (len:=1) (parts:= #[(0,(.tmp 63))]) C4 (xs:=[E.2]) (Vb E.2 g3 h1 g4 h2) kr rfl (fun _=>nO kr _) rfl rfl g ⟨(Vb E.2 g3 h1 g4 h2),_,rfl,⟨_,_,rfl,rfl,⟨_,_,rfl,rfl,⟨_,_,rfl,(rA q6),(rA q7)⟩⟩⟩,rfl⟩ fun b5 s0 s9 D g q8=> ?_);have a:=Mem.le_trans a D;refine⟨⟨iA g a,⟨.inr ⟨Inv.anti g.inv a,Piece.holds_anti g.t.t.t.t.h a,trivial⟩,trivial⟩⟩,?_⟩;refine cB 7 kr (CH 65 27 27 43 72 59 64 g.f7 (.inl kr) ((Z.mono d6).mono D) q8.src i fun l2 i d9 f8 n8 t3 F g q9=> ?_);have a:=Mem.le_trans a F;refine⟨⟨iA g a,⟨.inr ⟨Inv.anti g.inv a,Piece.holds_anti g.t.t.t.t.t.h a,trivial⟩,trivial⟩⟩,?_⟩;refine aR 8 66 (vP p 2) (.head _) (cB 9 kr (GU 27 66 65 2 (vS d9 l2 f8) #[vT s.2.2.1,vS n c.2.2.2.2 o,vS d9 l2 f8] g.f5 fun t4 g=>(⟨⟨iA g a,⟨.inl rfl,trivial⟩⟩,?_⟩)));refine dU kr ?_;have g:=g.f2.t.f2.t;refine bI ?_;have hL:=h7 _ (sI i);exact xE (cE ⟨(E.1.1,E.1.2.1,E.1.2.2.1,E.1.2.2.2,l2),k7,n1,l3,n4,l4,n5,d9,f8,n8,hL,rfl,((q.t d6).t D).t F,g.f1.f3.f5.f5.f4.f5,(q3.mono D).mono F,(q4.mono D).mono F,(q5.mono D).mono F,(((H.mono d5).mono d6).mono D).mono F,q9⟩)
  intro A i;refine cD (bD ?_);have ho:=f9 _ (sI i);have g:=g.f5.f2.f5.f5.f5.f5;refine bD ?_;exact xE (g2 _ _ ⟨(M.1.1,M.1.2.1,M.1.2.2.1,M.1.2.2.2,b.2.2.2.2),h8,l5,h9,l9,k0,n0,k,l,Y,ho,rfl,q,g,h4,h5,h6,H.mono d5,Z⟩)
 intro h1;have g:=(g.nilroom 9 1).front2.front4.front4.front4;refine cH _ kr (cG (fun k1 L' w'=>∃(b:IH),∃e0 f8 f0 f9 b7 d4 f k m8,aI (EU N s) k1 b=some g1/\L'=[(0,vP bp0 0),(2,vP u 0),(3,vP p 0)]/\m.le m8/\St m8 (kB bp0 #[vS e0 b.1 f8,vI b.2.1,vS f0 b.2.2.1 f9,vS b7 b.2.2.2.1 d4] 84::kB p #[vT s.2.2.1,vS f b.2.2.2.2 k,vb] 29::kB u #[vT eB,v1,vb] 29::kR b7 b.2.2.2.1 d4 61 5::kR f b.2.2.2.2 k 9 1::O) w'/\RepS C2 m8 e0 f8 b.1/\RepS aH m8 f0 f9 b.2.2.1/\RepS C3 m8 b7 d4 b.2.2.2.1/\RepS aH m8 f k b.2.2.2.2) N ⟨(y6.1,y6.2.1,y6.2.2.1,y6.2.2.2,([]:T6)),k8,l6,k9,l7,l0,l8,none,0,m5,i,rfl,(q.t e3).t e5,g,o7,o8,o9,(RepS.nil _ _)⟩ ?_);rintro k1 _ s5 ⟨b,e0,f8,f0,f9,b7,d4,f,k,m8,hL,rfl,q,g,q0,q1,q2,l⟩;rcases k1 with _|k1
 .exact cJ hL
 obtain⟨s4,i,k7,y⟩:=cL hL;clear hL;unfold EU at i;refine aE (aT 1 [(13,vP bp0 0)] (aK 14 i (AP (p0:=(b.1,b.2.1,b.2.2.1,b.2.2.2.1)) g.f3.f1 q0 q1 q2) ?_));rintro y7 i _ s6 ⟨h2,h6,h3,h7,h4,h8,m9,rfl,e7,g,g2,g3,g4⟩;have q:=q.t e7;have l:=l.mono e7;refine aQ (aG i ?_ ?_)
 .intro A i;refine aM (aD (bA (aE (aC (bL 1 16 26 15 1 (vS f b.2.2.2.2 k) g.t.t.h (aF 2 [(18,vB ((b.2.2.2.2.length:Int)==8))] ?_))))));have⟨o0,i,j2⟩:=aW i;refine cO .normal (fun L' w'=>∃(o2:bN),∃b8 d5 b9 d6 U Y z,(.inl o2:bN⊕ID)=o0/\L'=[(0,vP bp0 0),(2,vP u 0),(3,vP p 0)]/\m.le z/\St z (kB bp0 (Vd o2 b8 d5 b9 d6 U Y) 84::kB p #[vT s.2.2.1,vS f b.2.2.2.2 k,vb] 29::kB u #[vT eB,v1,vb] 29::kR f b.2.2.2.2 k 9 1::kR U o2.2.2.2 Y 61 5::O) w'/\RepS C2 z b8 d5 o2.1/\RepS aH z b9 d6 o2.2.2.1/\RepS C3 z U Y o2.2.2.2/\RepS aH z f k b.2.2.2.2) ?_ ?_
  .rintro _ s7 ⟨o2,b8,d5,b9,d6,U,Y,z,rfl,rfl,q,g,q3,q4,q5,l⟩;have i:=j2;refine aD (aT 3 [(22,vP bp0 0),(24,vP bp0 1)] (bE 25 (vI o2.2.1) g.h (aA 3 [(26,vI (wr (o2.2.1+1))),(28,vP bp0 1)] (dR #[vS b8 o2.1 d5,vI (wr (o2.2.1+1)),vS b9 o2.2.2.1 d6,vS U o2.2.2.2 Y] g fun s8 g=>(aQ (aC (aA 1 [(29,vP bp0 0)] (cY 30 i (JA (p0:=(o2.1,wr (o2.2.1+1),o2.2.2.1,o2.2.2.2)) g.f4.f1 q3 q4 q5) ?_))))))));rintro u1 i _ s9 (⟨z5,n7,rfl,rfl,n4,g⟩|⟨a,rfl,d0,d7,d1,d8,H,M,n6,rfl,g0,g,D,E,F⟩)
   .refine bW ?_;refine eZ ?_;have ho:=y _ (sI i);subst ho;have i:=j1;refine bW ?_;refine eZ ?_;refine bW ?_;obtain rfl:=sI i;have g:=g.t.t.t;exact cT (.inl ⟨z5,n7,rfl,rfl,q.t n4,g⟩)
   have l:=l.mono g0;refine cZ 4 109 (.agg (V3 0 eB 0 0)) g fun b3 t3 g=> ?_;refine cA (.agg (V2 a.2)) g fun t4 g=> ?_;refine aQ (aE (aC (cU 12 i (fun o3 L' w'=>∃x,L'=[(0,vP bp0 0),(2,vP u 0),(3,vP p 0),(4,vP b3 0),(42,vB o3)]/\m.le x/\St x (kB b3 (V2 a.2) 109::kB bp0 (Vd a.1 d0 d7 d1 d8 H M) 84::kB p #[vT s.2.2.1,vS f b.2.2.2.2 k,vb] 29::kB u #[vT eB,v1,vb] 29::kR H a.1.2.2.2 M 61 5::kR f b.2.2.2.2 k 9 1::O) w'/\RepS C2 x d0 d7 a.1.1/\RepS aH x d1 d8 a.1.2.2.1/\RepS C3 x H M a.1.2.2.2/\RepS aH x f k b.2.2.2.2) ?_ ?_)))
   .rintro o3 i _ t5 ⟨x,rfl,q,g,D,E,F,l⟩;refine aQ ?_;have⟨o6,i,j3⟩:=aW i;refine cO .normal (fun L' w'=>∃(o4:Unit),∃B,(.inl o4:Unit⊕ID)=o6/\L'=[(0,vP bp0 0),(2,vP u 0),(3,vP p 0),(4,vP b3 0)]/\m.le B/\St B (kB b3 (V2 a.2) 109::kB bp0 (Vd a.1 d0 d7 d1 d8 H M) 84::kB p #[vT s.2.2.1,vS f b.2.2.2.2 k,vb] 29::kB u #[vT eB,v1,vb] 29::kR H a.1.2.2.2 M 61 5::kR f b.2.2.2.2 k 9 1::O) w'/\RepS C2 B d0 d7 a.1.1/\RepS aH B d1 d8 a.1.2.2.1/\RepS C3 B H M a.1.2.2.2/\RepS aH B f k b.2.2.2.2) ?_ ?_
    .rintro _ t6 ⟨o4,B,rfl,rfl,q,g,D,E,F,l⟩;have i:=j3;refine aD (aC (bL 1 46 26 45 1 (vS f b.2.2.2.2 k) g.t.t.h (bL 1 48 9 47 1 (vT a.2.2.1) g.h (eR 49 9 1 aH [a.2.2.1] g fun b4 s0 t7 R g q6=>(iN 50 26 26 9 16 46 49 g.f6 (.inl kr) (l.mono R) q6.src i fun l1 i h5 h9 s3 t8 Z g q7=>(aA 1 [(51,vP p 1)] (dR #[vT s.2.2.1,vS h5 l1 h9,vb] g.f4 fun t9 g=>(aS rfl ?_))))))));have g:=g.f2.t;refine aD (aX (aA 1 [(52,vP bp0 0)] (cY 53 i (qS (p0:=a.1) g.f5.f4 ((D.mono R).mono Z) ((E.mono R).mono Z) ((F.mono R).mono Z)) ?_)));rintro u2 i _ u0 (⟨z7,n9,rfl,rfl,n5,g⟩|⟨d9,rfl,l3,l9,l4,n0,l5,n1,n8,rfl,k0,g,q8,q9,r0⟩)
     .refine eZ ?_;have ho:=y _ (sI i);subst ho;have i:=j1;refine bW ?_;refine eZ ?_;refine bW ?_;obtain rfl:=sI i;have g:=g.t.t.t.t;exact cT (.inl ⟨z7,n9,rfl,rfl,((q.t R).t Z).t n5,g⟩)
     refine aS rfl (bI ?_);have hL:=k7 _ (sI i);exact xE (cE ⟨(d9.1,d9.2.1,d9.2.2.1,d9.2.2.2,l1),l3,l9,l4,n0,l5,n1,h5,h9,n8,hL,rfl,((q.t R).t Z).t k0,g.f4.t.f3.f2.f4.f4.f4,q8,q9,r0,q7.mono k0⟩)
    intro Z;refine aG i ?_ ?_
    .intro A i;refine aX (bE 43 (.agg (V2 a.2)) g.h (cY 44 i (mZ (p0:=a.2) g) ?_));rintro l3 i _ k0 (⟨z6,h9,rfl,rfl,d9,g⟩|⟨l4,rfl,h5,rfl,R,g⟩)
     .obtain rfl:=sI i;have i:=j3;refine bW ?_;refine eZ ?_;have ho:=y _ (sI i);subst ho;have i:=j1;refine bW ?_;refine eZ ?_;refine bW ?_;obtain rfl:=sI i;have g:=g.t.t.t.t.t.t;exact cT (.inl ⟨z6,h9,rfl,rfl,q.t d9,g⟩)
     refine aS rfl ?_;have n3:=jG i;exact xE (Z _ _ ⟨(),h5,n3,rfl,q.t R,g.f5.f5.f5.f5.f5.f5,D.mono R,E.mono R,F.mono R,l.mono R⟩)
    intro A i;refine aM ?_;have n3:=jG i;exact xE (Z _ _ ⟨(),x,n3,rfl,q,g.f5.f5.f5.f5.f5.f5,D,E,F,l⟩)
   intro o3 i K;refine bL 1 32 9 31 1 (vT a.2.2.1) g.h (bL 1 34 9 33 0 (vT s.2.2.1) g.t.t.t.h (aA 2 [(36,vB (a.2.2.1.toList==s.2.2.1.toList))] (bC 36 i ?_ ?_)))
   .intro A i;refine aA 6 [(42,vB true)] ?_;cases i;exact aU _ kr (K _ _ ⟨n6,rfl,q.t g0,g.f5.f3.f5.f5.f5.f5,D,E,F,l⟩)
   intro A i;refine bL 1 38 26 37 1 (vS f b.2.2.2.2 k) g.t.t.t.h (bL 1 40 9 39 1 (vT a.2.2.1) g.h (aK 41 i (IM g l) ?_));rintro Z i _ d9 ⟨R,rfl,B,g⟩;refine aA 1 [(42,vB Z)] ?_;cases i;exact aU _ kr (K _ _ ⟨R,rfl,(q.t g0).t B,g.f5.f3.f5.f5.f5.f5,D.mono B,E.mono B,F.mono B,l.mono B⟩)
  intro x;refine aG i ?_ ?_
  .intro A i;refine aX (aA 1 [(19,vP bp0 0)] (aK 20 i (rK (p0:=y7.1) g.f1.f1 g2 g3 g4) ?_));rintro y8 i _ h9 ⟨E,M,F,R,H,Z,h5,rfl,B,g,d8,d9,g0⟩;refine cY 21 i (mZ (p0:=y8.2) g) ?_;rintro y9 i _ k0 (⟨z4,d7,rfl,rfl,d0,g⟩|⟨l3,rfl,d1,rfl,a,g⟩)
   .obtain rfl:=sI i;have i:=j2;refine bW ?_;refine eZ ?_;have ho:=y _ (sI i);subst ho;have i:=j1;refine bW ?_;refine eZ ?_;refine bW ?_;obtain rfl:=sI i;have g:=g.t.t.t.t.t;exact cT (.inl ⟨z4,d7,rfl,rfl,(q.t B).t d0,g⟩)
   refine aS rfl ?_;have D:=jG i;exact xE (x _ _ ⟨y8.1,E,M,F,R,H,Z,d1,D,rfl,(q.t B).t a,g.f1.f4.f4.f4.f4,d8.mono a,d9.mono a,g0.mono a,(l.mono B).mono a⟩)
  intro A i;refine aM ?_;have D:=jG i;exact xE (x _ _ ⟨y7.1,h2,h6,h3,h7,h4,h8,m9,D,rfl,q,g.f1.f4.f4.f4.f4,g2,g3,g4,l⟩)
 intro A i;refine cD (bD ?_);have ho:=y _ (sI i);have g:=g.f4.f2.f4.f4.f4;refine bD ?_;exact xE (h1 _ _ ⟨(y7.1.1,y7.1.2.1,y7.1.2.2.1,y7.1.2.2.2,b.2.2.2.2),h2,h6,h3,h7,h4,h8,f,k,m9,ho,rfl,q,g,g2,g3,g4,l⟩)
def FO(N:Nat)(p0:BA):Option T1c:=
 (FQ N p0).bind fun y1=>if(y1.2.2 !=0)=true then(some (((⟨#[]⟩:BA),([]:T6),([]:lX)),y1.2.1,y1.2.2)) else((AS N (y1.1,0,([]:T6),([]:Ts))).bind fun a=>(match a with| .inl a=>some (((⟨#[]⟩:BA),([]:T6),([]:lX)),a.1,a.2)| .inr a=>some (a.2,0,0)))
theorem qDg{p0:BA}{r:T1c}(g:St m (O) w)(i:FO N p0=some r):Calls prog 9 #[vT p0] w fun e w'=>∃n s p u m',e= .returned (.tuple #[.agg (V6 r.1 n s p u),vI r.2.1,vI r.2.2])/\m.le m'/\St m' (kR n r.1.2.1 s 9 1::kR p r.1.2.2 u 43 4::O) w'/\P5 m' n s p u r.1.2:=by
 unfold FO at i;have q:=m.le_refl;refine qJo func9 rfl ntmps9 [(0,vT p0)] kr rfl ?_;refine LA ?_;refine aX (cZ 2 29 (.agg #[vT eB,v7,v7]) g fun l w1 g=>(cZ 3 3 (vI 0) g fun c w2 g=>(cZ 4 31 (vI 0) g fun f w3 g=>(aS rfl (KV (LA (aX (aA 1 [(8,vT p0)] (aK 9 i (qDd g) ?_)))))))));rintro y1 i _ w4 ⟨E,G,k,rfl,M,g,V⟩;have q:=q.t M;refine aA 5 [(11,vI y1.2.1),(12,vI y1.2.2),(5,vS E y1.1 G)] (cA (vI y1.2.1) g.f2 fun w5 g=>(cA (vI y1.2.2) g.f2 fun w6 g=>(aS rfl (KV (LA (aC (bE 13 (vI y1.2.2) g.h (aF 1 [(14,vB (y1.2.2 !=0))] (aG i ?_ ?_)))))))))
 .intro A i;refine aE (eC [(6,fun w'=>Inv k w'/\True),(5,fun w'=>Inv k w'/\Piece.holds k w' (kB f #[vI y1.2.2] 31)/\True),(4,fun w'=>Inv k w'/\Piece.holds k w' (kB c #[vI y1.2.1] 3)/\True)] kr g fun x _ g=> ?_);have a:=k.le_refl;refine⟨⟨iA g a,⟨.inr ⟨Inv.anti g.inv a,Piece.holds_anti g.h a,trivial⟩,⟨.inr ⟨Inv.anti g.inv a,Piece.holds_anti g.t.h a,trivial⟩,trivial⟩⟩⟩,?_⟩;refine aR 0 15 (.agg #[vT eB,v1,vb]) (.head _) (dM 3 3 1 16 0 (vI y1.2.1) (.tail _ (.tail _ (.head _))) (fun _ h=>h.2.1) (dM 31 4 2 17 0 (vI y1.2.2) (.tail _ (.head _)) (fun _ h=>h.2.1) (cB 3 kr (uG 29 2 15 (.agg #[vT eB,v1,vb]) g.f3 fun y g=>(⟨⟨iA g a,⟨.inr ⟨Inv.anti g.inv a,Piece.holds_anti g.t.h a,trivial⟩,⟨.inr ⟨Inv.anti g.inv a,Piece.holds_anti g.t.t.h a,trivial⟩,trivial⟩⟩⟩,?_⟩)))));refine cB 4 kr (uG 3 3 16 (vI y1.2.1) g.f2 fun z g=>(⟨⟨iA g a,⟨.inr ⟨Inv.anti g.inv a,Piece.holds_anti g.t.t.h a,trivial⟩,⟨.inl rfl,trivial⟩⟩⟩,?_⟩));refine cB 5 kr (uG 31 4 17 (vI y1.2.2) g.f2 fun b g=>(⟨⟨iA g a,⟨.inl rfl,⟨.inl rfl,trivial⟩⟩⟩,?_⟩));refine dU kr ?_;have g:=g.f3.t;refine aD (aJ (aL (qHy ?_)));cases i
  refine qNg [.cell 2 29,.cell 3 3,.cell 4 31] [.agg #[vT eB,v1,vb],vI y1.2.1,vI y1.2.2] rfl (ResAll.cons (ResAt.blk (v:= .agg #[vT eB,v1,vb]) (o:=0) kr g.t.t.h kr) (ResAll.cons (ResAt.blk (v:=vI y1.2.1) (o:=0) kr g.t.h kr) (ResAll.cons (ResAt.blk (v:=vI y1.2.2) (o:=0) kr g.h kr) ResAll.nil))) ?_;have g:=(g.nilroom 9 1).nilroom 43 4;exact⟨none,0,none,0,k,rfl,q,g.f2.t.f2.t.f2.t.f1,(RepS.nil _ _),(RepS.nil _ _)⟩
 intro A i;refine aM (KV (LA (aX (aA 1 [(18,.func (.func 39) #[] #[vP l 0,vP c 0,vP f 0])] (qIi ({target:= .fn (.func 39) #[vP l 0,vP c 0,vP f 0],args:= #[]}) kr kr (aS rfl (KV (aT 2 [(20,.agg #[vS E y1.1 G,vI 0,v1,va])] (bB rfl (uE 21 84 20 (.agg #[vS E y1.1 G,vI 0,v1,va]) g fun K a7 g=>(aF 1 [(6,vP K 0)] (aC (aA 1 [(22,vP K 0)] ?_)))))))))))));have g:=(g.nilroom 61 5).front1;refine cY 23 i (qCb (p0:=(y1.1,0,([]:T6),([]:Ts))) g V (RepS.nil _ _) (RepS.nil _ _)) ?_;rintro y2 i _ a8 (⟨b,D,rfl,rfl,S,g⟩|⟨H,rfl,a2,c2,a3,c3,a4,c4,x,z,y,B,U,rfl,R,g,r2,r3,r4,Y,Z⟩)
 .refine bW ?_;refine qMr [.cell 2 29,.cell 3 3,.cell 4 31] rfl (VD func39 kr) ?_;refine UB (.panicking [{v:= .iface 80 (.agg (Ve b)),recovered:=false}]) func39 rfl ntmps39 [(0,vP l 0),(1,vP c 0),(2,vP f 0)] kr rfl (d:=6) kr kr [(3,.iface 80 (.agg (Ve b))),(6,.iface 80 (.agg (Ve b))),(0,vP l 0),(1,vP c 0),(2,vP f 0)] (.iface 80 (.agg (Ve b))) (.panicking [{v:= .iface 80 (.agg (Ve b)),recovered:=true}]) rfl kr ?_;refine aT 2 [(8,vB true)] ?_;refine aS rfl ?_;have g:=g.f2.t;refine aD (rQ true kr ?_ (fun h=>Bool.noConfusion h));intro _;refine aT 5 [(12,.agg (Ve b)),(13,vB true)] ?_;refine cZ 4 80 (.agg #[vI 0,vI 0]) g fun F a9 g=> ?_;refine cA (.agg (Ve b)) g fun b0 g=> ?_;refine aF 1 [(5,vB true)] (aE (aB 2 [(15,vB false)] (rQ false kr (fun h=>Bool.noConfusion h) ?_)));intro _;refine aM (aD (eC [(8,fun w'=>Inv D w'/\Piece.holds D w' (kB F (Ve b) 80)/\True)] kr g fun b6 _ g=> ?_));have a:=D.le_refl;refine⟨⟨.inr ⟨Inv.anti g.inv a,Piece.holds_anti g.h a,trivial⟩,trivial⟩,?_⟩
  refine aR 0 17 (.agg #[vT eB,v1,vb]) (.head _) (aR 1 18 (vP F 0) (.head _) (dM 3 18 2 19 0 (vI b.1) (.head _) (fun _ h=>h.2.1) (aR 3 20 (vP F 1) (.head _) (dM 31 20 4 21 1 (vI b.2) (.head _) (fun _ h=>h.2.1) (cB 5 kr (uG 29 0 17 (.agg #[vT eB,v1,vb]) g.f3 fun b7 g=>(⟨⟨.inr ⟨Inv.anti g.inv a,Piece.holds_anti g.t.h a,trivial⟩,trivial⟩,?_⟩)))))));refine cB 6 kr (uG 3 1 19 (vI b.1) g.f3 fun b8 g=>(⟨⟨.inr ⟨Inv.anti g.inv a,Piece.holds_anti g.t.t.h a,trivial⟩,trivial⟩,?_⟩));refine cB 7 kr (uG 31 2 21 (vI b.2) g.f3 fun b9 g=>(⟨⟨.inr ⟨Inv.anti g.inv a,Piece.holds_anti g.t.t.t.h a,trivial⟩,trivial⟩,?_⟩));refine dU kr ?_;obtain rfl:=sI i;refine nS [] [] rfl ResAll.nil (⟨_,rfl,?_⟩);refine⟨[.agg #[vT eB,v1,vb],vI b.1,vI b.2],(ResAll.cons (ResAt.blk (v:= .agg #[vT eB,v1,vb]) (o:=0) kr g.t.t.h kr) (ResAll.cons (ResAt.blk (v:=vI b.1) (o:=0) kr g.t.h kr) (ResAll.cons (ResAt.blk (v:=vI b.2) (o:=0) kr g.h kr) ResAll.nil))),?_⟩;have g:=(g.nilroom 9 1).nilroom 43 4;exact⟨none,0,none,0,D,rfl,q.t S,g.f2.t.f2.t.f2.t.f2.t.f1,(RepS.nil _ _),(RepS.nil _ _)⟩
 refine cA (.agg (V6 H.2 x z y B)) g.f7 fun a g=> ?_;refine cA (vI 0) g.f6 fun F g=> ?_;refine cA (vI 0) g.f6 fun a9 g=> ?_;refine aS rfl ?_;have g:=g.f7.t;refine aD (aJ (qMv [.cell 2 29,.cell 3 3,.cell 4 31] rfl (VD func39 kr) (UB .returning func39 rfl ntmps39 [(0,vP l 0),(1,vP c 0),(2,vP f 0)] kr rfl (d:=6) kr kr [(3,.nilIface),(6,.nilIface),(0,vP l 0),(1,vP c 0),(2,vP f 0)] (.nilIface) .returning rfl kr (aB 2 [(8,vB false)] (rQ false kr (fun h=>Bool.noConfusion h) ?_)))));intro _;refine aM ?_;cases i;refine nS [] [] rfl ResAll.nil (⟨_,rfl,?_⟩);refine⟨[.agg (V6 H.2 x z y B),vI 0,vI 0],(ResAll.cons (ResAt.blk (v:= .agg (V6 H.2 x z y B)) (o:=0) kr g.t.t.h kr) (ResAll.cons (ResAt.blk (v:=vI 0) (o:=0) kr g.t.h kr) (ResAll.cons (ResAt.blk (v:=vI 0) (o:=0) kr g.h kr) ResAll.nil))),?_⟩;exact⟨x,z,y,B,U,rfl,q.t R,g.t.t.t.f2.t.f2.t.f1.f1,Y,Z⟩
def FP(N:Nat)(p0:BA):Option (eF×Int):=
 (FO N p0).bind fun y1=>if(y1.2.2 !=0)=true then(some (((⟨#[]⟩:BA),([]:T6),([]:lX)),y1.2.2)) else(if((List.length y1.1.2.2:Int) !=1)=true then(some (((⟨#[]⟩:BA),([]:T6),([]:lX)),6)) else((oJ N y1.1 0).bind fun a=>if(!(a.1.toList==p0.toList))=true then(some (((⟨#[]⟩:BA),([]:T6),([]:lX)),6)) else(some (y1.1,0))))
theorem qDc{p0:BA}{r:eF×Int}(g:St m (O) w)(i:FP N p0=some r):Calls prog 26 #[vT p0] w fun e w'=>∃f l k n m',e= .returned (.tuple #[.agg (V6 r.1 f l k n),vI r.2])/\m.le m'/\St m' (kR f r.1.2.1 l 9 1::kR k r.1.2.2 n 43 4::O) w'/\P5 m' f l k n r.1.2:=by
 unfold FP at i;have q:=m.le_refl;refine bF func26 rfl ntmps26 ?_;refine aC (cZ 2 29 (.agg #[vT eB,v7,v7]) g fun z B g=>(aF 1 [] (aC (aA 1 [(7,vT p0)] (aK 8 i (qDg g) ?_)))));rintro y1 i _ D ⟨c,d,a,b,p,rfl,y,g,u,v⟩;have q:=q.t y;refine aA 4 [(9,.agg (V6 y1.1 c d a b)),(11,vI y1.2.2)] (cA (.agg (V6 y1.1 c d a b)) g.f2 fun E g=>(aF 1 [(3,vI y1.2.2)] (aE (aB 2 [(13,vB (y1.2.2 !=0))] (aG i ?_ ?_)))))
 .intro A i;refine aT 2 [(14,.agg #[vT eB,v1,vb]),(15,vI y1.2.2)] ?_;refine cA (.agg #[vT eB,v1,vb]) g fun o g=> ?_;refine aA 1 [(3,vI y1.2.2)] (aS rfl ?_);have g:=g.f1.t.f1.t;refine aD (aJ (aL ?_));cases i;refine iB 2 29 [3] [vI y1.2.2] g.h ?_;have g:=(g.nilroom 9 1).nilroom 43 4;exact⟨none,0,none,0,p,rfl,q,g.f2.t.f1,(RepS.nil _ _),(RepS.nil _ _)⟩
 intro A i;refine aM (aD (aE (aC (bL 1 17 27 16 2 (vS a y1.1.2.2 b) g.h (aF 2 [(19,vB ((y1.1.2.2.length:Int) !=1))] (aG i ?_ ?_))))))
 .intro A i;refine aT 1 [(20,.agg #[vT eB,v1,vb])] ?_;refine cA (.agg #[vT eB,v1,vb]) g fun o g=> ?_;refine aA 1 [(3,vI 6)] (aS rfl ?_);have g:=g.f1.t.f1.t;refine aD (aJ (aL ?_));cases i;refine iB 2 29 [3] [vI 6] g.h ?_;have g:=(g.nilroom 9 1).nilroom 43 4;exact⟨none,0,none,0,p,rfl,q,g.f2.t.f1,(RepS.nil _ _),(RepS.nil _ _)⟩
 intro A i;refine aM (aD (aE (aC (bE 22 (.agg (V6 y1.1 c d a b)) g.h (aK 23 i (JK (p0:=y1.1) g u v) ?_)))));rintro x i _ F ⟨s,rfl,o,g⟩;refine aF 5 [(4,vT x.1)] (aC (aF 3 [(28,vB (!(x.1.toList==p0.toList)))] (aG i ?_ ?_)))
 .intro A i;refine aT 1 [(29,.agg #[vT eB,v1,vb])] ?_;refine cA (.agg #[vT eB,v1,vb]) g fun G g=> ?_;refine aA 1 [(3,vI 6)] (aS rfl ?_);have g:=g.f1.t.f1.t;refine aD (aJ (aL ?_));cases i;refine iB 2 29 [3] [vI 6] g.h ?_;have g:=(g.nilroom 9 1).nilroom 43 4;exact⟨none,0,none,0,s,rfl,q.t o,g.f2.t.f1,(RepS.nil _ _),(RepS.nil _ _)⟩
 intro A i;refine aM (aD (aC (bE 30 (.agg (V6 y1.1 c d a b)) g.h (cA (.agg (V6 y1.1 c d a b)) g fun G g=>(aF 1 [(3,vI 0)] (aJ ?_))))));cases i;refine iB 2 29 [3] [vI 0] g.h ?_;exact⟨c,d,a,b,s,rfl,q.t o,g.t.f1.f1,u.mono o,v.mono o⟩
def FH(N:Nat)(p0:BA):Option (eF×Int):=
 (vG N p0).bind fun y1=>if(y1.2.2 !=0)=true then(some (((⟨#[]⟩:BA),([]:T6),([]:lX)),y1.2.2)) else(if((List.length y1.1.2.2:Int) !=1)=true then(some (((⟨#[]⟩:BA),([]:T6),([]:lX)),6)) else((qB N y1.1 0).bind fun a=>if(!(a.1.toList==p0.toList))=true then(some (((⟨#[]⟩:BA),([]:T6),([]:lX)),6)) else(some (y1.1,0))))
theorem qCa{p0:BA}{r:eF×Int}(g:St m (O) w)(i:FH N p0=some r):Calls prog 64 #[vT p0] w fun e w'=>∃f l k n m',e= .returned (.tuple #[.agg (V6 r.1 f l k n),vI r.2])/\m.le m'/\St m' (kR f r.1.2.1 l 9 1::kR k r.1.2.2 n 43 4::O) w'/\P5 m' f l k n r.1.2:=by
 unfold FH at i;have q:=m.le_refl;refine bF func64 rfl ntmps64 ?_;refine aC (cZ 2 29 (.agg #[vT eB,v7,v7]) g fun z B g=>(aF 1 [] (aC (aA 1 [(7,vT p0)] (aK 8 i (LU g) ?_)))));rintro y1 i _ D ⟨c,d,a,b,p,rfl,y,g,u,v⟩;have q:=q.t y;refine aA 4 [(9,.agg (V6 y1.1 c d a b)),(11,vI y1.2.2)] (cA (.agg (V6 y1.1 c d a b)) g.f2 fun E g=>(aF 1 [(3,vI y1.2.2)] (aE (aB 2 [(13,vB (y1.2.2 !=0))] (aG i ?_ ?_)))))
 .intro A i;refine aT 2 [(14,.agg #[vT eB,v1,vb]),(15,vI y1.2.2)] ?_;refine cA (.agg #[vT eB,v1,vb]) g fun o g=> ?_;refine aA 1 [(3,vI y1.2.2)] (aS rfl ?_);have g:=g.f1.t.f1.t;refine aD (aJ (aL ?_));cases i;refine iB 2 29 [3] [vI y1.2.2] g.h ?_;have g:=(g.nilroom 9 1).nilroom 43 4;exact⟨none,0,none,0,p,rfl,q,g.f2.t.f1,(RepS.nil _ _),(RepS.nil _ _)⟩
 intro A i;refine aM (aD (aE (aC (bL 1 17 27 16 2 (vS a y1.1.2.2 b) g.h (aF 2 [(19,vB ((y1.1.2.2.length:Int) !=1))] (aG i ?_ ?_))))))
 .intro A i;refine aT 1 [(20,.agg #[vT eB,v1,vb])] ?_;refine cA (.agg #[vT eB,v1,vb]) g fun o g=> ?_;refine aA 1 [(3,vI 6)] (aS rfl ?_);have g:=g.f1.t.f1.t;refine aD (aJ (aL ?_));cases i;refine iB 2 29 [3] [vI 6] g.h ?_;have g:=(g.nilroom 9 1).nilroom 43 4;exact⟨none,0,none,0,p,rfl,q,g.f2.t.f1,(RepS.nil _ _),(RepS.nil _ _)⟩
 intro A i;refine aM (aD (aE (aC (bE 22 (.agg (V6 y1.1 c d a b)) g.h (aK 23 i (LX (p0:=y1.1) g u v) ?_)))));rintro x i _ F ⟨s,rfl,o,g⟩;refine aF 5 [(4,vT x.1)] (aC (aF 3 [(28,vB (!(x.1.toList==p0.toList)))] (aG i ?_ ?_)))
 .intro A i;refine aT 1 [(29,.agg #[vT eB,v1,vb])] ?_;refine cA (.agg #[vT eB,v1,vb]) g fun G g=> ?_;refine aA 1 [(3,vI 6)] (aS rfl ?_);have g:=g.f1.t.f1.t;refine aD (aJ (aL ?_));cases i;refine iB 2 29 [3] [vI 6] g.h ?_;have g:=(g.nilroom 9 1).nilroom 43 4;exact⟨none,0,none,0,s,rfl,q.t o,g.f2.t.f1,(RepS.nil _ _),(RepS.nil _ _)⟩
 intro A i;refine aM (aD (aC (bE 30 (.agg (V6 y1.1 c d a b)) g.h (cA (.agg (V6 y1.1 c d a b)) g fun G g=>(aF 1 [(3,vI 0)] (aJ ?_))))));cases i;refine iB 2 29 [3] [vI 0] g.h ?_;exact⟨c,d,a,b,s,rfl,q.t o,g.t.f1.f1,u.mono o,v.mono o⟩
def DS(N:Nat)(p0:T6)(p1:T6)(a:Int):Td:=
 if(decide (a<(List.length p0:Int)))=true then((idx p0 a).bind fun x1=>(idx p1 a).bind fun b=>if(!(x1.toList==b.toList))=true then(some (.inr (.inr (false)))) else(some (.inl (IntKind.wrap .i64 (a+1))))) else(some (.inr (.inl ())))
def zZ(N:Nat)(p0:T6)(p1:T6):Te:=
 if((List.length p0:Int) !=(List.length p1:Int))=true then(some false) else((aI (DS N p0 p1) N 0).bind fun a=>(match a with| .inl a=>some true| .inr (z)=>some z))
theorem QU{p0:T6}{p1:T6}{r:Bool}(g:St m (O) w)(n:RepS aH m a1 c1 p0)(o:RepS aH m a2 c2 p1)(i:zZ N p0 p1=some r):Calls prog 41 #[vS a1 p0 c1,vS a2 p1 c2] w fun e w'=>∃m',e= .returned (vB r)/\m.le m'/\St m' (O) w':=by
 unfold zZ at i;have q:=m.le_refl;refine bF func41 rfl ntmps41 ?_;refine aB 1 [] (aE ?_);refine aB 5 [(10,vB ((p0.length:Int) !=(p1.length:Int)))] (aG i ?_ ?_)
 .intro A i;refine aB 1 [(4,vB false)] (aJ ?_);refine aL ?_;cases i;exact aO [4] [vB false] ⟨m,rfl,q,g⟩
 intro A i;refine aM (aD (aE (aB 3 [(12,vI (p0.length:Int)),(13,vI 0)] (bA ?_))));have⟨d,i,z⟩:=aW i;refine cO (.exit 0) (fun L' w'=>∃(B:Unit),∃l,(.inl B)=d/\L'=[]/\m.le l/\St l (O) w') ?_ ?_
 .rintro _ a ⟨B,l,rfl,rfl,q,g⟩;have i:=z;refine cK (aD (aB 1 [(4,vB true)] (aJ ?_)));cases i;exact aO [4] [vB true] ⟨l,rfl,q,g⟩
 intro f;refine cH _ kr (cG (fun k L' w'=>∃(a:Int),∃b,aI (DS N p0 p1) k a=some d/\L'=[(0,vS a1 p0 c1),(1,vS a2 p1 c2),(12,vI (p0.length:Int)),(13,vI a)]/\m.le b/\St b (O) w'/\RepS aH b a1 c1 p0/\RepS aH b a2 c2 p1) N ⟨0,m,i,rfl,q,g,n,o⟩ ?_);rintro k _ V ⟨a,b,hL,rfl,q,g,n,o⟩;rcases k with _|k
 .exact cJ hL
 obtain⟨R,i,p,c⟩:=cL hL;clear hL;unfold DS at i;refine aB 1 [(14,vB (decide (a<(p0.length:Int))))] (aE ?_);refine aG i ?_ ?_
 .intro A i;refine aM (aD (aE (bA (aB 2 [(5,vI a)] (aE (eC [(9,fun w'=>Inv b w'/\True)] kr g fun Y _ g=> ?_))))));have s:=b.le_refl;refine tA g s ?_;refine aR 0 16 (vS a1 p0 c1) (.head _) (aR 1 17 (vI a) (.head _) ?_);have⟨x1,E,i⟩:=aW i;refine iY (t:=26) (e:=9) (x:=(.tmp 16)) (y:=(.tmp 17)) 2 18 aH kr rfl kr (.head _) (bK (cP (bK (bK (cP (bK eT)))))) (ev (vS a1 p0 c1)) (ev (vI a)) kr n E ?_;rintro S G K rfl u;refine eP 9 18 3 19 G (vT x1) (.head _) (fun _ h=>h.1) u (aR 4 20 (vS a2 p1 c2) (.head _) (aR 5 21 (vI a) (.head _) ?_));have⟨D,F,i⟩:=aW i;refine iY (t:=26) (e:=9) (x:=(.tmp 20)) (y:=(.tmp 21)) 6 22 aH kr rfl kr (.head _) (bK (cP (bK (bK (cP (bK eT)))))) (ev (vS a2 p1 c2)) (ev (vI a)) kr o F ?_;rintro U H M rfl v;refine eP 9 22 7 23 H (vT D) (.head _) (fun _ h=>h.1) v (aR 8 24 (vB (!(x1.toList==D.toList))) (.head _) (dU kr (aD (aG i ?_ ?_))))
  .intro A i;refine aB 1 [(4,vB false)] (aJ ?_);refine aZ (aL ?_);have ho:=c _ (sI i);subst ho;have i:=z;refine aL (aZ (aL ?_));cases i;exact aO [4] [vB false] ⟨b,rfl,q,g⟩
  intro A i;refine aM (bI (aD (aX (aA 2 [(13,vI (wr (a+1)))] (aS rfl ?_)))));have hL:=p _ (sI i);exact xE (cE ⟨wr (a+1),b,hL,rfl,q,g,n,o⟩)
 intro A i;refine cD (bD ?_);have ho:=c _ (sI i);refine bD ?_;exact xE (f _ _ ⟨(),b,ho,rfl,q,g⟩)
def zU(N:Nat)(p0:Tr)(p1:Tr)(a:Int):Td:=
 if(decide (a<(List.length p0.2.2.2.2:Int)))=true then((idx p0.2.2.2.2 a).bind fun x1=>(idx p1.2.2.2.2 a).bind fun b=>if(x1 !=b)=true then(some (.inr (.inr (false)))) else(some (.inl (IntKind.wrap .i64 (a+1))))) else(some (.inr (.inl ())))
def EI(N:Nat)(p0:Tr)(p1:Tr):Te:=
 (if(p0.1 !=p1.1)=true then(some true) else(if(p0.2.1 !=p1.2.1)=true then(some true) else(if(p0.2.2.1 !=p1.2.2.1)=true then(some true) else(if(!(p0.2.2.2.1.toList==p1.2.2.2.1.toList))=true then(some true) else(some ((List.length p0.2.2.2.2:Int) !=(List.length p1.2.2.2.2:Int)))))):Te).bind fun a=>if a=true then(some false) else((aI (zU N p0 p1) N 0).bind fun a=>(match a with| .inl o2=>some true| .inr (z)=>some z))
theorem qBa{p0:Tr}{p1:Tr}{r:Bool}(g:St m (O) w)(d:RepS (aV .i64) m a1 c1 p0.2.2.2.2)(f:RepS (aV .i64) m a2 c2 p1.2.2.2.2)(i:EI N p0 p1=some r):Calls prog 75 #[.agg (V8 p0 a1 c1),.agg (V8 p1 a2 c2)] w fun e w'=>∃m',e= .returned (vB r)/\m.le m'/\St m' (O) w':=by
 unfold EI at i;have q:=m.le_refl;refine bF func75 rfl ntmps75 ?_;refine aC (iE 2 61 (.agg (V8 p0 a1 c1)) g fun k m1 w1 E g a=>(iE 3 61 (.agg (V8 p1 a2 c2)) g fun n s w2 z g b=> ?_));have q:=(q.t E).t z;have d:=(d.mono E).mono z;have f:=(f.mono E).mono z;have a:=a.mono z;refine aF 1 [] (aE (aC (cU 35 i (fun H L' w'=>∃o,L'=[(2,vP k 0),(3,vP n 0),(40,vB H)]/\m.le o/\St o (O) w'/\MRow o k 0 (V9 p0 a1 c1)/\RepS (aV .i64) o a1 c1 p0.2.2.2.2/\MRow o n 0 (V9 p1 a2 c2)/\RepS (aV .i64) o a2 c2 p1.2.2.2.2) ?_ ?_)))
 .rintro H i _ w3 ⟨o,rfl,q,g,a,d,b,f⟩;refine aQ (aG i ?_ ?_)
  .intro A i;refine aB 1 [(4,vB false)] (aJ ?_);refine aL ?_;cases i;exact aO [4] [vB false] ⟨o,rfl,q,g⟩
  intro A i;refine aM (aD (aE (aT 1 [(41,vP k 4)] (bJ 42 (vS a1 p0.2.2.2.2 c1) g (a.drop 4) (aF 2 [(43,vI (p0.2.2.2.2.length:Int)),(44,vI 0)] (bA ?_))))));have⟨u,i,S⟩:=aW i;refine cO (.exit 0) (fun L' w'=>∃(o2:Unit),∃D,(.inl o2)=u/\L'=[]/\m.le D/\St D (O) w') ?_ ?_
  .rintro _ c ⟨o2,D,rfl,rfl,q,g⟩;have i:=S;refine cK (aD (aB 1 [(4,vB true)] (aJ ?_)));cases i;exact aO [4] [vB true] ⟨D,rfl,q,g⟩
  intro v;refine cH _ kr (cG (fun B L' w'=>∃(l:Int),∃c,aI (zU N p0 p1) B l=some u/\L'=[(2,vP k 0),(3,vP n 0),(43,vI (p0.2.2.2.2.length:Int)),(44,vI l)]/\m.le c/\St c (O) w'/\MRow c k 0 (V9 p0 a1 c1)/\RepS (aV .i64) c a1 c1 p0.2.2.2.2/\MRow c n 0 (V9 p1 a2 c2)/\RepS (aV .i64) c a2 c2 p1.2.2.2.2) N ⟨0,o,i,rfl,q,g,a,d,b,f⟩ ?_);rintro B _ w5 ⟨l,c,hL,rfl,q,g,a,d,b,f⟩;rcases B with _|B
  .exact cJ hL
  obtain⟨a7,i,F,p⟩:=cL hL;clear hL;unfold zU at i;refine aB 1 [(45,vB (decide (l<(p0.2.2.2.2.length:Int))))] (aE ?_);refine aG i ?_ ?_
  .intro A i;refine aM (aD (aE (bA (aB 2 [(5,vI l)] (aE (eC [(11,fun w'=>Inv c w'/\True)] kr g fun w6 _ g=> ?_))))));have G:=c.le_refl;refine tA g G ?_;refine aR 0 47 (vP k 4) (.head _) (eP 22 47 1 48 4 (vS a1 p0.2.2.2.2 c1) (.head _) (fun _ h=>h.1) (a.drop 4) (aR 2 49 (vI l) (.head _) ?_));have⟨x1,V,i⟩:=aW i;refine iY (t:=22) (e:=3) (x:=(.tmp 48)) (y:=(.tmp 49)) 3 50 (aV .i64) kr rfl kr (.head _) (bK (cP (bK (bK (cP (bK eT)))))) (ev (vS a1 p0.2.2.2.2 c1)) (ev (vI l)) kr d V ?_;rintro b3 Z a5 rfl M;refine eP 3 50 4 51 Z (vI x1) (.head _) (fun _ h=>h.1) M (aR 5 52 (vP n 4) (.head _) (eP 22 52 6 53 4 (vS a2 p1.2.2.2.2 c2) (.head _) (fun _ h=>h.1) (b.drop 4) (aR 7 54 (vI l) (.head _) ?_)));have⟨U,Y,i⟩:=aW i;refine iY (t:=22) (e:=3) (x:=(.tmp 53)) (y:=(.tmp 54)) 8 55 (aV .i64) kr rfl kr (.head _) (bK (cP (bK (bK (cP (bK eT)))))) (ev (vS a2 p1.2.2.2.2 c2)) (ev (vI l)) kr f Y ?_;rintro b4 f2 a6 rfl R;refine eP 3 55 9 56 f2 (vI U) (.head _) (fun _ h=>h.1) R (aR 10 57 (vB (x1 !=U)) (.head _) (dU kr (aD (aG i ?_ ?_))))
   .intro A i;refine aB 1 [(4,vB false)] (aJ ?_);refine aZ (aL ?_);have ho:=p _ (sI i);subst ho;have i:=S;refine aL (aZ (aL ?_));cases i;exact aO [4] [vB false] ⟨c,rfl,q,g⟩
   intro A i;refine aM (bI (aD (aX (aA 2 [(44,vI (wr (l+1)))] (aS rfl ?_)))));have hL:=F _ (sI i);exact xE (cE ⟨wr (l+1),c,hL,rfl,q,g,a,d,b,f⟩)
  intro A i;refine cD (bD ?_);have ho:=p _ (sI i);refine bD ?_;exact xE (v _ _ ⟨(),c,ho,rfl,q,g⟩)
 intro H i K;refine aA 1 [(6,vP k 0)] (bJ 7 (vI p0.1) g a (aA 1 [(8,vP n 0)] (bJ 9 (vI p1.1) g b (aA 2 [(11,vB (p0.1 !=p1.1))] (bC 11 i ?_ ?_)))))
 .intro A i;refine aA 29 [(40,vB true)] ?_;cases i;exact aU _ kr (K _ _ ⟨s,rfl,q,g,a,d,b,f⟩)
 intro A i;refine aA 1 [(12,vP k 1)] (bJ 13 (vI p0.2.1) g (a.drop 1) (aA 1 [(14,vP n 1)] (bJ 15 (vI p1.2.1) g (b.drop 1) (aA 3 [(18,vB (p0.2.1 !=p1.2.1))] (bC 18 i ?_ ?_)))))
 .intro A i;refine aA 22 [(40,vB true)] ?_;cases i;exact aU _ kr (K _ _ ⟨s,rfl,q,g,a,d,b,f⟩)
 intro A i;refine aA 1 [(19,vP k 2)] (bJ 20 (vI p0.2.2.1) g (a.drop 2) (aA 1 [(21,vP n 2)] (bJ 22 (vI p1.2.2.1) g (b.drop 2) (aA 3 [(25,vB (p0.2.2.1 !=p1.2.2.1))] (bC 25 i ?_ ?_)))))
 .intro A i;refine aA 15 [(40,vB true)] ?_;cases i;exact aU _ kr (K _ _ ⟨s,rfl,q,g,a,d,b,f⟩)
 intro A i;refine aA 1 [(26,vP k 3)] (bJ 27 (vT p0.2.2.2.1) g (a.drop 3) (aA 1 [(28,vP n 3)] (bJ 29 (vT p1.2.2.2.1) g (b.drop 3) (aA 3 [(32,vB (!(p0.2.2.2.1.toList==p1.2.2.2.1.toList)))] (bC 32 i ?_ ?_)))))
 .intro A i;refine aA 8 [(40,vB true)] ?_;cases i;exact aU _ kr (K _ _ ⟨s,rfl,q,g,a,d,b,f⟩)
 intro A i;refine aA 1 [(33,vP k 4)] (bJ 34 (vS a1 p0.2.2.2.2 c1) g (a.drop 4) (aA 2 [(35,vI (p0.2.2.2.2.length:Int)),(36,vP n 4)] (bJ 37 (vS a2 p1.2.2.2.2 c2) g (b.drop 4) (aA 3 [(40,vB ((p0.2.2.2.2.length:Int) !=(p1.2.2.2.2.length:Int)))] ?_))));cases i;exact aU _ kr (K _ _ ⟨s,rfl,q,g,a,d,b,f⟩)
def zT(N:Nat)(p0:Tz)(p1:Tz)(a:Int):Td:=
 if(decide (a<(List.length p0.2.2.2:Int)))=true then((idx p0.2.2.2 a).bind fun x1=>(idx p1.2.2.2 a).bind fun b=>(EI N x1 b).bind fun b=>if(!b)=true then(some (.inr (.inr (false)))) else(some (.inl (IntKind.wrap .i64 (a+1))))) else(some (.inr (.inl ())))
def EG(N:Nat)(p0:Tz)(p1:Tz):Te:=
 (if(p0.1 !=p1.1)=true then(some true) else(if(!(p0.2.1.toList==p1.2.1.toList))=true then(some true) else((zZ N p0.2.2.1 p1.2.2.1).bind fun y1=>if(!y1)=true then(some true) else(some ((List.length p0.2.2.2:Int) !=(List.length p1.2.2.2:Int))))):Te).bind fun a=>if a=true then(some false) else((aI (zT N p0 p1) N 0).bind fun a=>(match a with| .inl o2=>some true| .inr (z)=>some z))
theorem qBb{p0:Tz}{p1:Tz}{r:Bool}(g:St m (O) w)(d:RepS aH m a1 c1 p0.2.2.1)(f:RepS C3 m a2 c2 p0.2.2.2)(k:RepS aH m a3 c3 p1.2.2.1)(l:RepS C3 m a4 c4 p1.2.2.2)(i:EG N p0 p1=some r):Calls prog 27 #[.agg (V7 p0 a1 c1 a2 c2),.agg (V7 p1 a3 c3 a4 c4)] w fun e w'=>∃m',e= .returned (vB r)/\m.le m'/\St m' (O) w':=by
 unfold EG at i;have q:=m.le_refl;refine bF func27 rfl ntmps27 ?_;refine aC (iE 2 43 (.agg (V7 p0 a1 c1 a2 c2)) g fun o m1 w1 B g a=>(iE 3 43 (.agg (V7 p1 a3 c3 a4 c4)) g fun s Y w2 z g b=> ?_));have q:=(q.t B).t z;have d:=(d.mono B).mono z;have f:=(f.mono B).mono z;have k:=(k.mono B).mono z;have l:=(l.mono B).mono z;have a:=a.mono z;refine aF 1 [] (aE (aC (cU 29 i (fun R L' w'=>∃p,L'=[(2,vP o 0),(3,vP s 0),(34,vB R)]/\m.le p/\St p (O) w'/\MRow p o 0 (Vb p0 a1 c1 a2 c2)/\RepS aH p a1 c1 p0.2.2.1/\RepS C3 p a2 c2 p0.2.2.2/\MRow p s 0 (Vb p1 a3 c3 a4 c4)/\P2 p a3 c3 a4 c4 p1.2.2) ?_ ?_)))
 .rintro R i _ w3 ⟨p,rfl,q,g,a,d,f,b,k,l⟩;refine aQ (aG i ?_ ?_)
  .intro A i;refine aB 1 [(4,vB false)] (aJ ?_);refine aL ?_;cases i;exact aO [4] [vB false] ⟨p,rfl,q,g⟩
  intro A i;refine aM (aD (aE (aT 1 [(35,vP o 3)] (bJ 36 (vS a2 p0.2.2.2 c2) g (a.drop 3) (aF 2 [(37,vI (p0.2.2.2.length:Int)),(38,vI 0)] (bA ?_))))));have⟨E,i,V⟩:=aW i;refine cO (.exit 0) (fun L' w'=>∃(o2:Unit),∃H,(.inl o2)=E/\L'=[]/\m.le H/\St H (O) w') ?_ ?_
  .rintro _ c ⟨o2,H,rfl,rfl,q,g⟩;have i:=V;refine cK (aD (aB 1 [(4,vB true)] (aJ ?_)));cases i;exact aO [4] [vB true] ⟨H,rfl,q,g⟩
  intro F;refine cH _ kr (cG (fun G L' w'=>∃(n:Int),∃c,aI (zT N p0 p1) G n=some E/\L'=[(2,vP o 0),(3,vP s 0),(37,vI (p0.2.2.2.length:Int)),(38,vI n)]/\m.le c/\St c (O) w'/\MRow c o 0 (Vb p0 a1 c1 a2 c2)/\RepS aH c a1 c1 p0.2.2.1/\RepS C3 c a2 c2 p0.2.2.2/\MRow c s 0 (Vb p1 a3 c3 a4 c4)/\P2 c a3 c3 a4 c4 p1.2.2) N ⟨0,p,i,rfl,q,g,a,d,f,b,k,l⟩ ?_);rintro G _ w6 ⟨n,c,hL,rfl,q,g,a,d,f,b,k,l⟩;rcases G with _|G
  .exact cJ hL
  obtain⟨a9,i,M,D⟩:=cL hL;clear hL;unfold zT at i;refine aB 1 [(39,vB (decide (n<(p0.2.2.2.length:Int))))] (aE ?_);refine aG i ?_ ?_
  .intro A i;refine aM (aD (aE (bA (aB 2 [(5,vI n)] (aE (eC [(12,fun w'=>Inv c w'/\True)] kr g fun w7 _ g=> ?_))))));have v:=c.le_refl;refine tA g v ?_;refine aR 0 41 (vP o 3) (.head _) (eP 41 41 1 42 3 (vS a2 p0.2.2.2 c2) (.head _) (fun _ h=>h.1) (a.drop 3) (aR 2 43 (vI n) (.head _) ?_));have⟨x1,d2,i⟩:=aW i;refine iY (t:=41) (e:=61) (x:=(.tmp 42)) (y:=(.tmp 43)) 3 44 C3 kr rfl kr (.head _) (bK (cP (bK (bK (cP (bK eT)))))) (ev (vS a2 p0.2.2.2 c2)) (ev (vI n)) kr f d2 ?_;rintro b3 f1 a7 ⟨_,_,rfl,rfl,⟨_,_,rfl,rfl,⟨_,_,rfl,rfl,⟨_,_,rfl,rfl,⟨a5,c5,rfl,r5⟩⟩⟩⟩⟩ S;refine eP 61 44 4 45 f1 (.agg (V8 x1 a5 c5)) (.head _) (fun _ h=>h.1) S (aR 5 46 (vP s 3) (.head _) (eP 41 46 6 47 3 (vS a4 p1.2.2.2 c4) (.head _) (fun _ h=>h.1) (b.drop 3) (aR 7 48 (vI n) (.head _) ?_)));have⟨x2,d3,i⟩:=aW i;refine iY (t:=41) (e:=61) (x:=(.tmp 47)) (y:=(.tmp 48)) 8 49 C3 kr rfl kr (.head _) (bK (cP (bK (bK (cP (bK eT)))))) (ev (vS a4 p1.2.2.2 c4)) (ev (vI n)) kr l d3 ?_;rintro b4 f2 a8 ⟨_,_,rfl,rfl,⟨_,_,rfl,rfl,⟨_,_,rfl,rfl,⟨_,_,rfl,rfl,⟨a6,c6,rfl,r6⟩⟩⟩⟩⟩ U;refine eP 61 49 9 50 f2 (.agg (V8 x2 a6 c6)) (.head _) (fun _ h=>h.1) U (cB 10 kr (eS 51 i (fun _ h=>qBa (p0:=x1) (p1:=x2) g r5 r6 h) ?_));rintro y2 i _ w8 ⟨Z,rfl,u,g⟩;refine⟨_,rfl,?_⟩
   have v:=Mem.le_trans v u;refine tA g v ?_;refine aR 11 52 (vB (!y2)) (.head _) (dU kr (aD (aG i ?_ ?_)))
   .intro A i;refine aB 1 [(4,vB false)] (aJ ?_);refine aZ (aL ?_);have ho:=D _ (sI i);subst ho;have i:=V;refine aL (aZ (aL ?_));cases i;exact aO [4] [vB false] ⟨Z,rfl,q.t u,g⟩
   intro A i;refine aM (bI (aD (aX (aA 2 [(38,vI (wr (n+1)))] (aS rfl ?_)))));have hL:=M _ (sI i);exact xE (cE ⟨wr (n+1),Z,hL,rfl,q.t u,g,a.mono u,d.mono u,f.mono u,b.mono u,k.mono u,l.mono u⟩)
  intro A i;refine cD (bD ?_);have ho:=D _ (sI i);refine bD ?_;exact xE (F _ _ ⟨(),c,ho,rfl,q,g⟩)
 intro R i K;refine aA 1 [(6,vP o 0)] (bJ 7 (vI p0.1) g a (aA 1 [(8,vP s 0)] (bJ 9 (vI p1.1) g b (aA 2 [(11,vB (p0.1 !=p1.1))] (bC 11 i ?_ ?_)))))
 .intro A i;refine aA 23 [(34,vB true)] ?_;cases i;exact aU _ kr (K _ _ ⟨Y,rfl,q,g,a,d,f,b,k,l⟩)
 intro A i;refine aA 1 [(12,vP o 1)] (bJ 13 (vT p0.2.1) g (a.drop 1) (aA 1 [(14,vP s 1)] (bJ 15 (vT p1.2.1) g (b.drop 1) (aA 3 [(18,vB (!(p0.2.1.toList==p1.2.1.toList)))] (bC 18 i ?_ ?_)))))
 .intro A i;refine aA 16 [(34,vB true)] ?_;cases i;exact aU _ kr (K _ _ ⟨Y,rfl,q,g,a,d,f,b,k,l⟩)
 intro A i;refine aA 1 [(19,vP o 2)] (bJ 20 (vS a1 p0.2.2.1 c1) g (a.drop 2) (aA 1 [(21,vP s 2)] (bJ 22 (vS a3 p1.2.2.1 c3) g (b.drop 2) (aK 23 i (QU g d k) ?_))));rintro y1 i _ u ⟨n,rfl,c,g⟩;have a:=a.mono c;have b:=b.mono c;refine aA 3 [(26,vB (!y1))] (bC 26 i ?_ ?_)
 .intro A i;refine aA 8 [(34,vB true)] ?_;cases i;exact aU _ kr (K _ _ ⟨n,rfl,q.t c,g,a,d.mono c,f.mono c,b,k.mono c,l.mono c⟩)
 intro A i;refine aA 1 [(27,vP o 3)] (bJ 28 (vS a2 p0.2.2.2 c2) g (a.drop 3) (aA 2 [(29,vI (p0.2.2.2.length:Int)),(30,vP s 3)] (bJ 31 (vS a4 p1.2.2.2 c4) g (b.drop 3) (aA 3 [(34,vB ((p0.2.2.2.length:Int) !=(p1.2.2.2.length:Int)))] ?_))));cases i;exact aU _ kr (K _ _ ⟨n,rfl,q.t c,g,a,d.mono c,f.mono c,b,k.mono c,l.mono c⟩)
def AI(N:Nat)(p0:eF)(p1:eF)(a:Int):Td:=
 if(decide (a<(List.length p0.2.2:Int)))=true then((idx p0.2.2 a).bind fun x1=>(idx p1.2.2 a).bind fun b=>(EG N x1 b).bind fun b=>if(!b)=true then(some (.inr (.inr (false)))) else(some (.inl (IntKind.wrap .i64 (a+1))))) else(some (.inr (.inl ())))
def AW(N:Nat)(p0:eF)(p1:eF):Te:=
 (if(!(p0.1.toList==p1.1.toList))=true then(some true) else((zZ N p0.2.1 p1.2.1).bind fun y1=>if(!y1)=true then(some true) else(some ((List.length p0.2.2:Int) !=(List.length p1.2.2:Int)))):Te).bind fun a=>if a=true then(some false) else((aI (AI N p0 p1) N 0).bind fun a=>(match a with| .inl o2=>some true| .inr (z)=>some z))
theorem qCe{p0:eF}{p1:eF}{r:Bool}(g:St m (O) w)(k:RepS aH m a1 c1 p0.2.1)(l:RepS C4 m a2 c2 p0.2.2)(n:RepS aH m a3 c3 p1.2.1)(o:RepS C4 m a4 c4 p1.2.2)(i:AW N p0 p1=some r):Calls prog 10 #[.agg (V6 p0 a1 c1 a2 c2),.agg (V6 p1 a3 c3 a4 c4)] w fun e w'=>∃m',e= .returned (vB r)/\m.le m'/\St m' (O) w':=by
 unfold AW at i;have q:=m.le_refl;refine bF func10 rfl ntmps10 ?_;refine aC (iE 2 29 (.agg (V6 p0 a1 c1 a2 c2)) g fun p m1 w1 B g a=>(iE 3 29 (.agg (V6 p1 a3 c3 a4 c4)) g fun v m2 w2 z g b=> ?_));have q:=(q.t B).t z;have k:=(k.mono B).mono z;have l:=(l.mono B).mono z;have n:=(n.mono B).mono z;have o:=(o.mono B).mono z;have a:=a.mono z;refine aF 1 [] (aE (aC (cU 22 i (fun R L' w'=>∃f,L'=[(2,vP p 0),(3,vP v 0),(27,vB R)]/\m.le f/\St f (O) w'/\MRow f p 0 (Va p0 a1 c1 a2 c2)/\RepS aH f a1 c1 p0.2.1/\RepS C4 f a2 c2 p0.2.2/\MRow f v 0 (Va p1 a3 c3 a4 c4)/\P5 f a3 c3 a4 c4 p1.2) ?_ ?_)))
 .rintro R i _ w3 ⟨f,rfl,q,g,a,k,l,b,n,o⟩;refine aQ (aG i ?_ ?_)
  .intro A i;refine aB 1 [(4,vB false)] (aJ ?_);refine aL ?_;cases i;exact aO [4] [vB false] ⟨f,rfl,q,g⟩
  intro A i;refine aM (aD (aE (aT 1 [(28,vP p 2)] (bJ 29 (vS a2 p0.2.2 c2) g (a.drop 2) (aF 2 [(30,vI (p0.2.2.length:Int)),(31,vI 0)] (bA ?_))))));have⟨E,i,V⟩:=aW i;refine cO (.exit 0) (fun L' w'=>∃(o2:Unit),∃H,(.inl o2)=E/\L'=[]/\m.le H/\St H (O) w') ?_ ?_
  .rintro _ c ⟨o2,H,rfl,rfl,q,g⟩;have i:=V;refine cK (aD (aB 1 [(4,vB true)] (aJ ?_)));cases i;exact aO [4] [vB true] ⟨H,rfl,q,g⟩
  intro F;refine cH _ kr (cG (fun G L' w'=>∃(d:Int),∃c,aI (AI N p0 p1) G d=some E/\L'=[(2,vP p 0),(3,vP v 0),(30,vI (p0.2.2.length:Int)),(31,vI d)]/\m.le c/\St c (O) w'/\MRow c p 0 (Va p0 a1 c1 a2 c2)/\RepS aH c a1 c1 p0.2.1/\RepS C4 c a2 c2 p0.2.2/\MRow c v 0 (Va p1 a3 c3 a4 c4)/\P5 c a3 c3 a4 c4 p1.2) N ⟨0,f,i,rfl,q,g,a,k,l,b,n,o⟩ ?_);rintro G _ w6 ⟨d,c,hL,rfl,q,g,a,k,l,b,n,o⟩;rcases G with _|G
  .exact cJ hL
  obtain⟨b5,i,M,D⟩:=cL hL;clear hL;unfold AI at i;refine aB 1 [(32,vB (decide (d<(p0.2.2.length:Int))))] (aE ?_);refine aG i ?_ ?_
  .intro A i;refine aM (aD (aE (bA (aB 2 [(5,vI d)] (aE (eC [(12,fun w'=>Inv c w'/\True)] kr g fun w7 _ g=> ?_))))));have u:=c.le_refl;refine tA g u ?_;refine aR 0 34 (vP p 2) (.head _) (eP 27 34 1 35 2 (vS a2 p0.2.2 c2) (.head _) (fun _ h=>h.1) (a.drop 2) (aR 2 36 (vI d) (.head _) ?_));have⟨x1,d2,i⟩:=aW i;refine iY (t:=27) (e:=43) (x:=(.tmp 35)) (y:=(.tmp 36)) 3 37 C4 kr rfl kr (.head _) (bK (cP (bK (bK (cP (bK eT)))))) (ev (vS a2 p0.2.2 c2)) (ev (vI d)) kr l d2 ?_;rintro b3 f1 a9 ⟨_,_,rfl,rfl,⟨_,_,rfl,rfl,⟨_,_,rfl,⟨a5,c5,rfl,r5⟩,⟨a6,c6,rfl,r6⟩⟩⟩⟩ S;refine eP 43 37 4 38 f1 (.agg (V7 x1 a5 c5 a6 c6)) (.head _) (fun _ h=>h.1) S (aR 5 39 (vP v 2) (.head _) (eP 27 39 6 40 2 (vS a4 p1.2.2 c4) (.head _) (fun _ h=>h.1) (b.drop 2) (aR 7 41 (vI d) (.head _) ?_)));have⟨Z,d3,i⟩:=aW i;refine iY (t:=27) (e:=43) (x:=(.tmp 40)) (y:=(.tmp 41)) 8 42 C4 kr rfl kr (.head _) (bK (cP (bK (bK (cP (bK eT)))))) (ev (vS a4 p1.2.2 c4)) (ev (vI d)) kr o d3 ?_;rintro b4 f2 b0 ⟨_,_,rfl,rfl,⟨_,_,rfl,rfl,⟨_,_,rfl,⟨a7,c7,rfl,r7⟩,⟨a8,c8,rfl,r8⟩⟩⟩⟩ U;refine eP 43 42 9 43 f2 (.agg (V7 Z a7 c7 a8 c8)) (.head _) (fun _ h=>h.1) U (cB 10 kr (eS 44 i (fun _ h=>qBb (p0:=x1) (p1:=Z) g r5 r6 r7 r8 h) ?_));rintro y2 i _ w8 ⟨Y,rfl,s,g⟩;refine⟨_,rfl,?_⟩
   have u:=Mem.le_trans u s;refine tA g u ?_;refine aR 11 45 (vB (!y2)) (.head _) (dU kr (aD (aG i ?_ ?_)))
   .intro A i;refine aB 1 [(4,vB false)] (aJ ?_);refine aZ (aL ?_);have ho:=D _ (sI i);subst ho;have i:=V;refine aL (aZ (aL ?_));cases i;exact aO [4] [vB false] ⟨Y,rfl,q.t s,g⟩
   intro A i;refine aM (bI (aD (aX (aA 2 [(31,vI (wr (d+1)))] (aS rfl ?_)))));have hL:=M _ (sI i);exact xE (cE ⟨wr (d+1),Y,hL,rfl,q.t s,g,a.mono s,k.mono s,l.mono s,b.mono s,n.mono s,o.mono s⟩)
  intro A i;refine cD (bD ?_);have ho:=D _ (sI i);refine bD ?_;exact xE (F _ _ ⟨(),c,ho,rfl,q,g⟩)
 intro R i K;refine aA 1 [(6,vP p 0)] (bJ 7 (vT p0.1) g a (aA 1 [(8,vP v 0)] (bJ 9 (vT p1.1) g b (aA 2 [(11,vB (!(p0.1.toList==p1.1.toList)))] (bC 11 i ?_ ?_)))))
 .intro A i;refine aA 16 [(27,vB true)] ?_;cases i;exact aU _ kr (K _ _ ⟨m2,rfl,q,g,a,k,l,b,n,o⟩)
 intro A i;refine aA 1 [(12,vP p 1)] (bJ 13 (vS a1 p0.2.1 c1) g (a.drop 1) (aA 1 [(14,vP v 1)] (bJ 15 (vS a3 p1.2.1 c3) g (b.drop 1) (aK 16 i (QU g k n) ?_))));rintro y1 i _ s ⟨d,rfl,c,g⟩;have a:=a.mono c;have b:=b.mono c;refine aA 3 [(19,vB (!y1))] (bC 19 i ?_ ?_)
 .intro A i;refine aA 8 [(27,vB true)] ?_;cases i;exact aU _ kr (K _ _ ⟨d,rfl,q.t c,g,a,k.mono c,l.mono c,b,n.mono c,o.mono c⟩)
 intro A i;refine aA 1 [(20,vP p 2)] (bJ 21 (vS a2 p0.2.2 c2) g (a.drop 2) (aA 2 [(22,vI (p0.2.2.length:Int)),(23,vP v 2)] (bJ 24 (vS a4 p1.2.2 c4) g (b.drop 2) (aA 3 [(27,vB ((p0.2.2.length:Int) !=(p1.2.2.length:Int)))] ?_))));cases i;exact aU _ kr (K _ _ ⟨d,rfl,q.t c,g,a,k.mono c,l.mono c,b,n.mono c,o.mono c⟩)
def tJ(N:Nat)(p0:BA):Te:=
 (FP N p0).bind fun y1=>(FH N p0).bind fun a=>(if(y1.2==a.2)=true then((AW N y1.1 a.1).bind fun a=>some a) else(some false):Te).bind fun a=>some a
theorem EF{p0:BA}{r:Bool}(g:St m (O) w)(i:tJ N p0=some r):Calls prog 22 #[vT p0] w fun e w'=>∃m',e= .returned (vB r)/\m.le m'/\St m' (O) w':=by
 unfold tJ at i;have q:=m.le_refl;refine bF func22 rfl ntmps22 ?_;refine aB 1 [] (aC ?_);refine aA 1 [(8,vT p0)] (aK 9 i (qDc g) ?_);rintro y1 i _ S ⟨c,l,d,n,R,rfl,D,g,s,u⟩;refine aA 3 [(10,.agg (V6 y1.1 c l d n)),(11,vI y1.2)] (cZ 3 29 (.agg #[vT eB,v7,v7]) g fun E U g=>(cA (.agg (V6 y1.1 c l d n)) g fun V g=>(aF 1 [(4,vI y1.2)] (aC (aA 1 [(13,vT p0)] (aK 14 i (qCa g) ?_))))));rintro a i _ Y ⟨f,o,k,p,G,rfl,x,g,z,B⟩;have s:=s.mono x;have u:=u.mono x;refine aA 3 [(15,.agg (V6 a.1 f o k p)),(16,vI a.2)] (cZ 5 29 (.agg #[vT eB,v7,v7]) g fun F Z g=>(cA (.agg (V6 a.1 f o k p)) g fun w6 g=>(aF 1 [(6,vI a.2)] (aC (cU 9 i (fun y L' w'=>∃b,L'=[(2,vB y)]/\m.le b/\St b (kB F (V6 a.1 f o k p) 29::kB E (V6 y1.1 c l d n) 29::kR f a.1.2.1 o 9 1::kR k a.1.2.2 p 43 4::kR c y1.1.2.1 l 9 1::kR d y1.1.2.2 n 43 4::O) w'/\RepS aH b f o a.1.2.1/\RepS C4 b k p a.1.2.2/\P5 b c l d n y1.1.2) ?_ ?_)))))
 .rintro y i _ v ⟨b,rfl,q,g,z,B,s,u⟩;refine aQ (aJ ?_);obtain rfl:=sI i;exact aO [2] [vB y] ⟨b,rfl,q,g.t.t.t.t.t.t⟩
 intro y i K;refine aA 4 [(20,vB (y1.2==a.2))] (bC 20 i ?_ ?_)
 .intro A i;refine bE 21 (.agg (V6 y1.1 c l d n)) g.t.t.t.h ?_;refine bE 22 (.agg (V6 a.1 f o k p)) g.h ?_;refine aK 23 i (qCe (p0:=y1.1) (p1:=a.1) g s u z B) ?_;rintro M i _ w8 ⟨H,rfl,v,g⟩;refine aA 2 [(2,vB M)] ?_;cases i;exact aU _ kr (K _ _ ⟨H,rfl,((q.t D).t x).t v,g.f5.f5.f4.f4.f5.f5,z.mono v,B.mono v,s.mono v,u.mono v⟩)
 intro A i;refine aA 5 [(2,vB false)] ?_;cases i;exact aU _ kr (K _ _ ⟨G,rfl,(q.t D).t x,g.f5.f5.f4.f4.f5.f5,z,B,s,u⟩)
def LT(N:Nat)(p0:T9)(p1:Int)(a:Int):qN:=
 if(decide (a<(List.length p0:Int)))=true then((idx p0 a).bind fun x1=>if(p1==x1)=true then(some (.inr (.inr (a)))) else(some (.inl (IntKind.wrap .i64 (a+1))))) else(some (.inr (.inl ())))
def LZ(N:Nat)(p0:T9)(p1:Int):T8:=
 (aI (LT N p0 p1) N 0).bind fun a=>(match a with| .inl a=>some (-1)| .inr (z)=>some z)
theorem qBp{p0:T9}{p1:Int}{r:Int}(g:St m (O) w)(l:RepS (aV .i64) m a1 c1 p0)(i:LZ N p0 p1=some r):Calls prog 157 #[vS a1 p0 c1,vI p1] w fun e w'=>∃m',e= .returned (vI r)/\m.le m'/\St m' (O) w':=by
 unfold LZ at i;have q:=m.le_refl;refine bF func157 rfl ntmps157 ?_;refine aB 1 [] (aE ?_);refine aB 3 [(7,vI (p0.length:Int)),(8,vI 0)] (bA ?_);have⟨d,i,p⟩:=aW i;refine cO (.exit 0) (fun L' w'=>∃(s:Unit),∃k,(.inl s)=d/\L'=[]/\m.le k/\St k (O) w') ?_ ?_
 .rintro _ a ⟨s,k,rfl,rfl,q,g⟩;have i:=p;refine cK (aD (aB 1 [(4,vI (-1))] (aJ ?_)));cases i;exact aO [4] [vI (-1)] ⟨k,rfl,q,g⟩
 intro f;refine cH _ kr (cG (fun h L' w'=>∃(a:Int),∃b,aI (LT N p0 p1) h a=some d/\L'=[(0,vS a1 p0 c1),(1,vI p1),(7,vI (p0.length:Int)),(8,vI a)]/\m.le b/\St b (O) w'/\RepS (aV .i64) b a1 c1 p0) N ⟨0,m,i,rfl,q,g,l⟩ ?_);rintro h _ y ⟨a,b,hL,rfl,q,g,l⟩;rcases h with _|h
 .exact cJ hL
 obtain⟨v,i,n,c⟩:=cL hL;clear hL;unfold LT at i;refine aB 1 [(9,vB (decide (a<(p0.length:Int))))] (aE ?_);refine aG i ?_ ?_
 .intro A i;refine aM (aD (aE (bA (aB 2 [(5,vI a)] (aC (aA 3 [(11,vI p1),(12,vS a1 p0 c1),(13,vI a)] (dQ 14 l i ?_)))))));rintro x1 i x t u rfl o;refine dV 15 3 14 t (vI x1) g o (aF 1 [(16,vB (p1==x1))] (aG i ?_ ?_))
  .intro A i;refine aB 2 [(4,vI a)] (aJ ?_);refine aZ (aL ?_);have ho:=c _ (sI i);subst ho;have i:=p;refine aL (aZ (aL ?_));obtain rfl:=sI i;exact aO [4] [vI a] ⟨b,rfl,q,g⟩
  intro A i;refine aM (bI (aD (aX (aA 2 [(8,vI (wr (a+1)))] (aS rfl ?_)))));have hL:=n _ (sI i);exact xE (cE ⟨wr (a+1),b,hL,rfl,q,g,l⟩)
 intro A i;refine cD (bD ?_);have ho:=c _ (sI i);refine bD ?_;exact xE (f _ _ ⟨(),b,ho,rfl,q,g⟩)
def LS(N:Nat)(p0:T9)(p1:Int):Te:=
 (LZ N p0 p1).bind fun y1=>some (decide (y1>=0))
theorem qAz{p0:T9}{p1:Int}{r:Bool}(g:St m (O) w)(c:RepS (aV .i64) m a1 c1 p0)(i:LS N p0 p1=some r):Calls prog 140 #[vS a1 p0 c1,vI p1] w fun e w'=>∃m',e= .returned (vB r)/\m.le m'/\St m' (O) w':=by
 unfold LS at i;have q:=m.le_refl;refine bF func140 rfl ntmps140 ?_;refine aB 1 [] (aC ?_);refine aA 2 [(5,vS a1 p0 c1),(6,vI p1)] (aK 7 i (qBp g c) ?_);rintro y1 i _ d ⟨b,rfl,a,g⟩;refine aF 2 [(4,vB (decide (y1>=0)))] (aJ ?_);obtain rfl:=sI i;exact aO [4] [vB (decide (y1>=0))] ⟨b,rfl,q.t a,g⟩
end
section
open Go Go.Dc Go.Proofs.Tryz
set_option maxHeartbeats 4000000
set_option maxRecDepth 100000
variable {N c1 c2 c3:Nat} {m:Mem} {O:List Piece} {w:World} {a1 a2 a3:Option Addr}
def qDk:Go.Shelf.Ren:=⟨fun|190=>155|125=>164|258=>163|128=>184|129=>185|302=>175|303=>176|304=>177|305=>178|306=>179|307=>180|308=>181|309=>182|310=>183|333=>195|329=>196|330=>197|334=>198|335=>199|336=>200|344=>207|n=>n,fun|31=>26|9=>9|3=>3|46=>173|0=>0|51=>192|53=>155|4=>4|183=>185|182=>184|131=>189|5=>5|218=>200|222=>204|228=>206|229=>207|n=>n,fun|n=>n⟩
theorem qGl:Go.Proofs.Lays.n190 prog qDk where
 mixed:=kr
 f125:=func164.trans (congrArg some kr)
 f128:=func184.trans (congrArg some kr)
 f129:=func185.trans (congrArg some kr)
 f190:=func155.trans (congrArg some kr)
 f258:=func163.trans (congrArg some kr)
 f302:=func175.trans (congrArg some kr)
 f303:=func176.trans (congrArg some kr)
 f304:=func177.trans (congrArg some kr)
 f305:=func178.trans (congrArg some kr)
 f306:=func179.trans (congrArg some kr)
 f307:=func180.trans (congrArg some kr)
 f308:=func181.trans (congrArg some kr)
 f309:=func182.trans (congrArg some kr)
 f310:=func183.trans (congrArg some kr)
 f329:=func196.trans (congrArg some kr)
 f330:=func197.trans (congrArg some kr)
 f333:=func195.trans (congrArg some kr)
 f334:=func198.trans (congrArg some kr)
 f335:=func199.trans (congrArg some kr)
 f336:=func200.trans (congrArg some kr)
 f344:=func207.trans (congrArg some kr)
 t0:=Tryz.underlying0
 a0:=Tryz.isAgg0
 z0:=Tryz.sizeOf0
 v0:=Tryz.zeroValue0
 t3:=Tryz.underlying3
 a3:=Tryz.isAgg3
 z3:=Tryz.sizeOf3
 v3:=Tryz.zeroValue3
 t4:=Tryz.underlying4
 a4:=Tryz.isAgg4
 z4:=Tryz.sizeOf4
 v4:=Tryz.zeroValue4
 t5:=Tryz.underlying5
 a5:=Tryz.isAgg5
 z5:=Tryz.sizeOf5
 v5:=Tryz.zeroValue5
 t9:=Tryz.underlying9
 a9:=Tryz.isAgg9
 z9:=Tryz.sizeOf9
 v9:=Tryz.zeroValue9
 t31:=Tryz.underlying26
 a31:=Tryz.isAgg26
 z31:=Tryz.sizeOf26
 v31:=Tryz.zeroValue26
 t46:=Tryz.underlying173
 a46:=Tryz.isAgg173
 z46:=Tryz.sizeOf173
 v46:=Tryz.zeroValue173
 t51:=Tryz.underlying192
 a51:=Tryz.isAgg192
 z51:=Tryz.sizeOf192
 v51:=Tryz.zeroValue192
 t53:=Tryz.underlying155
 a53:=Tryz.isAgg155
 z53:=Tryz.sizeOf155
 v53:=Tryz.zeroValue155
 t131:=Tryz.underlying189
 a131:=Tryz.isAgg189
 z131:=Tryz.sizeOf189
 v131:=Tryz.zeroValue189
 t182:=Tryz.underlying184
 a182:=Tryz.isAgg184
 z182:=Tryz.sizeOf184
 v182:=Tryz.zeroValue184
 t183:=Tryz.underlying185
 a183:=Tryz.isAgg185
 z183:=Tryz.sizeOf185
 v183:=Tryz.zeroValue185
 t218:=Tryz.underlying200
 a218:=Tryz.isAgg200
 z218:=Tryz.sizeOf200
 v218:=Tryz.zeroValue200
 t222:=Tryz.underlying204
 a222:=Tryz.isAgg204
 z222:=Tryz.sizeOf204
 v222:=Tryz.zeroValue204
 t228:=Tryz.underlying206
 a228:=Tryz.isAgg206
 z228:=Tryz.sizeOf206
 v228:=Tryz.zeroValue206
 t229:=Tryz.underlying207
 a229:=Tryz.isAgg207
 z229:=Tryz.sizeOf207
 v229:=Tryz.zeroValue207
def DP(_:Nat)(l:T6):T7:=if l.length<4611686018427387904 then some (wG l) else none
theorem qAm{l r:T6}(h:DP N l=some r):r.length=l.length:=by
 unfold DP at h
 split at h
 .simp only[jI] at h;subst h;exact US l
 cases h
theorem qAk{a:Option Addr}{nn cc:Nat}{T:List Value}{l r:T6}{e:TypeId}(g:St m (eY a (bZ (fun x:BA=>([vT x]:List Value)) l T) e::O) w)(hs:OAS a nn cc 1 T)(hn:List.length l=nn)(h:DP N l=some r):
  Calls prog 155 #[.slice a nn cc] w fun e' w'=>e'= .returned (.tuple #[])/\St m (eY a (bZ (fun x:BA=>([vT x]:List Value)) r T) e::O) w':=by
 unfold DP at h
 split at h
 .rename_i hlen
  simp only[jI] at h;subst h;subst hn;exact qFb qGl g hs hlen
 cases h
def MG(N:Nat)(p0:Tz)(p1:T9)(a:IF):Option (IF⊕T6):=
 if(decide (a.2<(List.length p0.2.2.2:Int)))=true then(((idx p0.2.2.2 a.2).bind fun x1=>(LS N p1 x1.1).bind fun y1=>if y1=true then((cW 16 a.1 ([x1.2.2.2.1])).bind fun b=>some b) else(some a.1):T7).bind fun b=>some (.inl (b,IntKind.wrap .i64 (a.2+1)))) else(some (.inr a.1))
def MF(N:Nat)(c:T6)(b:Int)(a:Int×zK):Option (Int×zK⊕zK):=
 if(decide (a.2.1<((Int.toNat (List.length c:Int)-Int.toNat b:Nat):Int)))=true then(((idx (List.drop (Int.toNat b) (List.take (Int.toNat (List.length c:Int)) a.2.2)) a.2.1).bind fun d=>(idx (List.drop (Int.toNat b) (List.take (Int.toNat (List.length c:Int)) a.2.2)) (IntKind.wrap .i64 (a.2.1-1))).bind fun x5=>if(!(d.toList==x5.toList))=true then((idx (List.drop (Int.toNat b) (List.take (Int.toNat (List.length c:Int)) a.2.2)) a.2.1).bind fun b=>(idx a.2.2 a.1).bind fun c=>some (IntKind.wrap .i64 (a.1+1),List.set a.2.2 (Int.toNat a.1) b)) else(some (a.1,a.2.2)):Option zK).bind fun b=>some (.inl (b.1,IntKind.wrap .i64 (a.2.1+1),b.2))) else(some (.inr (a.1,a.2.2)))
def MH(N:Nat)(o2:T6)(a:T6)(b:Int):Option (Int⊕Unit⊕T6):=
 if(decide (b<((List.length o2):Int)))=true then((idx a b).bind fun c=>(idx a (IntKind.wrap .i64 (b-1))).bind fun d=>if(c.toList==d.toList)=true then((zI a b (List.length a:Int)).bind fun c=>(aI (MF N a b) N (b,1,a)).bind fun a=>(zI a.2 a.1 (List.length a.2:Int)).bind fun c=>(GY a.2 a.1 (⟨#[]⟩:BA)).bind fun c=>(zI c 0 a.1).bind fun d=>some (.inr (.inr (List.take (Int.toNat a.1) c)))) else(some (.inl (IntKind.wrap .i64 (b+1))))) else(some (.inr (.inl ())))
def JL(N:Nat)(p0:Tz)(p1:T9):T7:=
 ((aI (MG N p0 p1) N (([]:T6),0)).bind fun o2=>(DP N o2).bind fun b=>(if(decide (((List.length o2):Int)<2))=true then(some b) else((aI (MH N o2 b) N 1).bind fun a=>(match a with| .inl a=>some b| .inr (z)=>some z)):T7).bind fun o4=>some o4:T7).bind fun a=>some a
theorem RR{p0:Tz}{p1:T9}{r:T6}(g:St m (O) w)(F:RepS aH m a1 c1 p0.2.2.1)(E:RepS C3 m a2 c2 p0.2.2.2)(D:RepS (aV .i64) m a3 c3 p1)(i:JL N p0 p1=some r):Calls prog 105 #[.agg (V7 p0 a1 c1 a2 c2),vS a3 p1 c3] w fun e w'=>∃f0 f2 m',e= .returned (vS f0 r f2)/\m.le m'/\St m' (kR f0 r f2 9 1::O) w'/\RepS aH m' f0 f2 r:=by
 unfold JL at i;have q:=m.le_refl;refine bF func105 rfl ntmps105 ?_;refine aC (iE 2 43 (.agg (V7 p0 a1 c1 a2 c2)) g fun b1 m1 w1 e1 g p=>(bB rfl (uE 3 22 1 (vS a3 p1 c3) g fun S w2 g=>(aF 1 [] (aC (aA 1 [(5,vP b1 3)] (bJ 6 (vS a2 p0.2.2.2 c2) g (p.drop 3) (aA 1 [(7,.func (.func 139) #[] #[vP S 0])] ?_))))))));have⟨o1,i,j1⟩:=aW i;refine bB rfl (dN 8 138 #[vS a2 p0.2.2.2 c2,.func (.func 139) #[] #[vP S 0]] kr rfl (JZ (fun v' w'=>∃a4 c4 m3,v'=(vS a4 o1 c4)/\m.le m3/\St m3 (kB S #[vS a3 p1 c3] 22::kR a4 o1 c4 9 1::O) w'/\RepS aH m3 a4 c4 o1/\MRow m3 b1 0 (Vb p0 a1 c1 a2 c2)/\RepS aH m3 a1 c1 p0.2.2.1/\RepS C3 m3 a2 c2 p0.2.2.2/\RepS (aV .i64) m3 a3 c3 p1) ?_ ?_))
 .have i:=j1;rintro _ b ⟨a4,c4,m3,rfl,q,g,a,p,F,E,D⟩;refine⟨_,rfl,?_⟩;refine aF 1 [(4,vS a4 o1 c4)] (aJ ?_);obtain rfl:=sI i;exact aO [4] [vS a4 o1 c4] ⟨a4,c4,m3,rfl,q,g.t,a⟩
 refine bF func138 rfl ntmps138 ?_;refine aB 1 [] (aC ?_);refine aF 1 [(5,v1)] (aE (aB 3 [(10,vS a2 p0.2.2.2 c2),(11,vI (p0.2.2.2.length:Int)),(12,vI 0)] (bA ?_)));have g:=WM (f:=(fun x:BA=>([vT x]:List Value))) (g.nilroom 9 1);refine cC (.exit 0) i (fun d0 L' w'=>∃(o2:T6),∃a b T1 m4,o2=d0/\L'=[(5,vS a o2 b)]/\m.le m4/\St m4 (kB S #[vS a3 p1 c3] 22::eY a (bZ (fun x:BA=>([vT x]:List Value)) o2 T1) 9::O) w'/\MRow m4 b1 0 (Vb p0 a1 c1 a2 c2)/\RepS aH m4 a1 c1 p0.2.2.1/\RepS C3 m4 a2 c2 p0.2.2.2/\RepS (aV .i64) m4 a3 c3 p1/\OAS a o2.length b 1 T1) ?_ ?_
 .rintro d0 i _ w4 ⟨o2,a,b,T1,m4,rfl,rfl,q,g,p,F,E,D,B⟩;refine cK (aD (aT 1 [(28,vS a o2 b)] ?_));have⟨H,d4,i⟩:=aW i;have g:=g.f1;refine bB rfl (dN 29 155 #[vS a o2 b] kr rfl ((qAk g B rfl d4).mono ?_));rintro _ g8 ⟨rfl,g⟩;refine⟨_,rfl,?_⟩;have G:=((qAm d4).trans rfl);refine aQ (aC (aA 1 [(30,vS a o2 b)] ?_));have⟨o4,i,j4⟩:=aW i;refine bB rfl (dN 31 156 #[vS a o2 b] kr rfl (JZ (fun v' w'=>∃Z b0 V,v'=(vS Z o4 b0)/\m.le V/\St V (kB S #[vS a3 p1 c3] 22::kR Z o4 b0 9 1::O) w'/\RepS aH V Z b0 o4/\MRow V b1 0 (Vb p0 a1 c1 a2 c2)/\RepS aH V a1 c1 p0.2.2.1/\RepS C3 V a2 c2 p0.2.2.2/\RepS (aV .i64) V a3 c3 p1) ?_ ?_))
  .have i:=j4;rintro _ s ⟨Z,b0,V,rfl,q,g,n,p,F,E,D⟩;refine⟨_,rfl,?_⟩;refine aF 1 [(4,vS Z o4 b0)] (aJ ?_);obtain rfl:=sI i;exact aO [4] [vS Z o4 b0] ⟨_,rfl,⟨Z,b0,V,rfl,q,g.f1.f1,n,p,F,E,D⟩⟩
  refine bF func156 rfl ntmps156 ?_;refine aB 1 [] (aE ?_);refine aB 3 [(8,vB (decide ((o2.length:Int)<2)))] (aG i ?_ ?_)
  .intro A i;refine aB 2 [(2,vS a o2 b)] (aJ ?_);refine aL ?_;obtain rfl:=sI i;obtain⟨s,n,g,K⟩:=St.freezeM (c:=aH) (f:=(fun x:BA=>([vT x]:List Value))) g B G (fun _=>rfl) (fun _ x=>rfl);refine CT [(2,vS a H b)] (by(try simp only[vS,G]);kernel_rfl) ?_;exact aO [2] [vS a H b] ⟨_,rfl,⟨a,b,s,rfl,q.t n,g.f1,K,p.mono n,F.mono n,E.mono n,D.mono n⟩⟩
  intro A i;refine aM (aD (aE (aB 1 [(3,vI 1)] (bA ?_))));have⟨e6,i,j5⟩:=aW i;refine cO (.exit 0) (fun L' w'=>∃(o5:Unit),∃b7,(.inl o5)=e6/\L'=[(0,vS a o2 b)]/\m.le b7/\St b7 (kB S #[vS a3 p1 c3] 22::eY a (bZ (fun x:BA=>([vT x]:List Value)) H T1) 9::O) w'/\MRow b7 b1 0 (Vb p0 a1 c1 a2 c2)/\RepS aH b7 a1 c1 p0.2.2.1/\RepS C3 b7 a2 c2 p0.2.2.2/\RepS (aV .i64) b7 a3 c3 p1/\List.length H=o2.length) ?_ ?_
  .rintro _ M ⟨o5,b7,rfl,rfl,q,g,p,F,E,D,G⟩;have i:=j5;refine cK (aD (aB 2 [(2,vS a o2 b)] (aJ ?_)));obtain rfl:=sI i;have g:=g.f1;obtain⟨s,n,g,K⟩:=St.freezeM (c:=aH) (f:=(fun x:BA=>([vT x]:List Value))) g B G (fun _=>rfl) (fun _ x=>rfl);refine CT [(2,vS a H b)] (by(try simp only[vS,G]);kernel_rfl) ?_;exact aO [2] [vS a H b] ⟨_,rfl,⟨a,b,s,rfl,q.t n,g.f1,K,p.mono n,F.mono n,E.mono n,D.mono n⟩⟩
  intro f4;refine cH _ kr (cG (fun k2 L' w'=>∃(n:Int),∃M,aI (MH N o2 H) k2 n=some e6/\L'=[(0,vS a o2 b),(3,vI n)]/\m.le M/\St M (kB S #[vS a3 p1 c3] 22::eY a (bZ (fun x:BA=>([vT x]:List Value)) H T1) 9::O) w'/\MRow M b1 0 (Vb p0 a1 c1 a2 c2)/\RepS aH M a1 c1 p0.2.2.1/\RepS C3 M a2 c2 p0.2.2.2/\RepS (aV .i64) M a3 c3 p1/\List.length H=o2.length) N ⟨1,m4,i,rfl,q,g.f1,p,F,E,D,G⟩ ?_);rintro k2 _ g9 ⟨n,M,hL,rfl,q,g,p,F,E,D,G⟩;rcases k2 with _|k2
  .exact cJ hL
  obtain⟨g6,i,g1,d2⟩:=cL hL;clear hL;unfold MH at i;refine aE (aB 4 [(13,vB (decide (n<(o2.length:Int))))] (aG i ?_ ?_))
  .intro A i;refine aM (aD (aE (bA (aE (eC [(10,fun w'=>Inv M w'/\Piece.holds M w' (eY a (bZ (fun x:BA=>([vT x]:List Value)) H T1) 9)/\True)] kr g fun h0 _ g=> ?_)))));have e0:=M.le_refl;refine⟨⟨.inr ⟨Inv.anti g.inv e0,OF g.t.h e0,trivial⟩,trivial⟩,?_⟩;refine aR 0 16 (vS a o2 b) (.head _) (aR 1 17 (vI n) (.head _) ?_);have⟨x2,d5,i⟩:=aW i;refine MR (t:=26) (e:=9) (x:=(.tmp 16)) (y:=(.tmp 17)) (k:=1) 2 18 kr rfl kr (.head _) (bK (cP (bK (bK (cP (bK eT)))))) (ev (vS a o2 b)) (ev (vI n)) kr B G d5 ?_;refine FT (t:=9) (x:=(.tmp 18)) (o:=0) (f:=(fun x:BA=>([vT x]:List Value))) (z:=x2) (v:=vT x2) 3 19 (fun _=>rfl) (Int.toNat n*1) rfl kr rfl kr (.head _) (bK (cP (bK (bK (cP (bK eT)))))) (fun _ h=>h.2.1) (ev (.pointer (some ⟨ab a,Int.toNat n*1,none⟩))) B G d5 kr ?_;refine aR 4 20 (vS a o2 b) (.head _) (aR 5 21 (vI n) (.head _) (aR 6 22 (vI (wr (n-1))) (.head _) ?_));have⟨x3,d6,i⟩:=aW i;refine MR (t:=26) (e:=9) (x:=(.tmp 20)) (y:=(.tmp 22)) (k:=1) 7 23 kr rfl kr (.head _) (bK (cP (bK (bK (cP (bK eT)))))) (ev (vS a o2 b)) (ev (vI (wr (n-1)))) kr B G d6 ?_
   refine FT (t:=9) (x:=(.tmp 23)) (o:=0) (f:=(fun x:BA=>([vT x]:List Value))) (z:=x3) (v:=vT x3) 8 24 (fun _=>rfl) (Int.toNat (wr (n-1))*1) rfl kr rfl kr (.head _) (bK (cP (bK (bK (cP (bK eT)))))) (fun _ h=>h.2.1) (ev (.pointer (some ⟨ab a,Int.toNat (wr (n-1))*1,none⟩))) B G d6 kr ?_;refine aR 9 25 (vB (x2.toList==x3.toList)) (.head _) (dU kr (aD (aG i ?_ ?_)))
   .intro A i;refine aT 2 [(26,vS a o2 b),(27,vI n)] ?_;have⟨u6,d7,i⟩:=aW i;refine bB rfl (NR (d:=28) (t:=26) (e:=9) (k:=1) (x:=(.tmp 26)) (lo:=(some (.tmp 27))) (hi:=none) (li:=n) (hix:=(H.length:Int)) kr rfl (ev (vS a o2 b)) kr (.inr ⟨_,_,rfl,(ev (vI n))⟩) (.inl ⟨rfl,congrArg Nat.cast G⟩) B G d7 ?_);have b9:=QH d7 G;refine aF 1 [(4,.slice (iV a b (Int.toNat n) 1) (Int.toNat (H.length:Int)-Int.toNat n) (b-Int.toNat n))] (aE (aB 1 [(5,vI 1)] (bA (cC (.exit 2) i (fun d1 L' w'=>∃(K:zK),∃b8,K=d1/\L'=[(0,vS a o2 b),(3,vI K.1)]/\m.le b8/\St b8 (kB S #[vS a3 p1 c3] 22::eY a (bZ (fun x:BA=>([vT x]:List Value)) K.2 T1) 9::O) w'/\MRow b8 b1 0 (Vb p0 a1 c1 a2 c2)/\RepS aH b8 a1 c1 p0.2.2.1/\RepS C3 b8 a2 c2 p0.2.2.2/\RepS (aV .i64) b8 a3 c3 p1/\List.length K.2=o2.length) ?_ ?_))))
    .rintro d1 i _ g3 ⟨K,b8,rfl,rfl,q,g,p,F,E,D,s⟩;refine cK (aD (aT 2 [(54,vS a o2 b),(55,vI K.1)] ?_));have⟨u9,Y,i⟩:=aW i;refine bB rfl (NR (d:=56) (t:=26) (e:=9) (k:=1) (x:=(.tmp 54)) (lo:=(some (.tmp 55))) (hi:=none) (li:=K.1) (hix:=(K.2.length:Int)) kr rfl (ev (vS a o2 b)) kr (.inr ⟨_,_,rfl,(ev (vI K.1))⟩) (.inl ⟨rfl,congrArg Nat.cast s⟩) B s Y ?_);have g0:=QH Y s;have g:=g.f1;have⟨l2,e2,i⟩:=aW i;refine bB rfl (qGk (t:=26) (e:=9) (k:=1) (x:=(.tmp 56)) (f:=(fun x:BA=>([vT x]:List Value))) (l:=K.2) (lo:=K.1) (z:=vT eB) (z0:=eB) (fun _=>rfl) (fun _ _ hv=>by simp only[jV,fA,or_false] at hv;rcases hv with rfl<;>rfl) kr (ev (.slice (iV a b (Int.toNat K.1) 1) (Int.toNat (K.2.length:Int)-Int.toNat K.1) (b-Int.toNat K.1))) rfl kr kr rfl g B s e2 fun g4 g=> ?_);have R:=((qFy e2).trans s);refine aQ (aC (aA 2 [(57,vS a o2 b),(58,vI K.1)] ?_));have⟨g2,f5,i⟩:=aW i;refine bB rfl (NR (d:=59) (t:=26) (e:=9) (k:=1) (x:=(.tmp 57)) (lo:=none) (hi:=(some (.tmp 58))) (li:=0) (hix:=K.1) kr rfl (ev (vS a o2 b)) kr (.inl ⟨rfl,rfl⟩) (.inr ⟨_,_,rfl,(ev (vI K.1))⟩) B R f5 ?_);have f6:=QH f5 R;refine aF 1 [(2,.slice (iV a b (Int.toNat 0) 1) (Int.toNat K.1-Int.toNat 0) (b-Int.toNat 0))] (aJ (aZ (aL ?_)));have ho:=d2 _ (sI i);subst ho
     have i:=j5;refine aL (aZ (aL ?_));obtain rfl:=sI i;have f7:=qNt (k:=1) (l:=l2) B R f6;obtain⟨f8,U,g,f9⟩:=St.freezeView (c:=aH) (f:=(fun x:BA=>([vT x]:List Value))) (hi:=K.1) g B R (fun _=>rfl) (fun _ x=>rfl) f6;refine CT [(2,.slice a (List.length (List.take (Int.toNat K.1) l2)) b)] (by(try simp only[vS,f7]);kernel_rfl) ?_;exact aO [2] [.slice a (List.length (List.take (Int.toNat K.1) l2)) b] ⟨_,rfl,⟨a,b,f8,rfl,q.t U,g.f1,f9,p.mono U,F.mono U,E.mono U,D.mono U⟩⟩
    intro d1 i f5;refine cH _ kr (cG (fun k3 L' w'=>∃(s:Int×zK),∃R,aI (MF N H n) k3 s=some d1/\L'=[(0,vS a o2 b),(3,vI s.1),(4,.slice (iV a b (Int.toNat n) 1) (Int.toNat (H.length:Int)-Int.toNat n) (b-Int.toNat n)),(5,vI s.2.1)]/\m.le R/\St R (kB S #[vS a3 p1 c3] 22::eY a (bZ (fun x:BA=>([vT x]:List Value)) s.2.2 T1) 9::O) w'/\MRow R b1 0 (Vb p0 a1 c1 a2 c2)/\RepS aH R a1 c1 p0.2.2.1/\RepS C3 R a2 c2 p0.2.2.2/\RepS (aV .i64) R a3 c3 p1/\List.length s.2.2=o2.length) N ⟨(n,1,H),M,i,rfl,q,g.f1.f1,p,F,E,D,G⟩ ?_);rintro k3 _ h1 ⟨s,R,hL,rfl,q,g,p,F,E,D,U⟩;rcases k3 with _|k3
    .exact cJ hL
    obtain⟨g7,i,g2,g0⟩:=cL hL;clear hL;unfold MF at i;refine aE (aB 4 [(32,vB (decide (s.2.1<((Int.toNat (H.length:Int)-Int.toNat n:Nat):Int))))] (aG i ?_ ?_))
    .intro A i;refine aM (aD (aE (cC .normal i (fun o7 L' w'=>∃Y,L'=[(0,vS a o2 b),(3,vI o7.1),(4,.slice (iV a b (Int.toNat n) 1) (Int.toNat (H.length:Int)-Int.toNat n) (b-Int.toNat n)),(5,vI s.2.1)]/\m.le Y/\St Y (kB S #[vS a3 p1 c3] 22::eY a (bZ (fun x:BA=>([vT x]:List Value)) o7.2 T1) 9::O) w'/\MRow Y b1 0 (Vb p0 a1 c1 a2 c2)/\RepS aH Y a1 c1 p0.2.2.1/\RepS C3 Y a2 c2 p0.2.2.2/\RepS (aV .i64) Y a3 c3 p1/\List.length o7.2=o2.length) ?_ ?_)))
     .rintro o7 i _ f6 ⟨Y,rfl,q,g,p,F,E,D,e2⟩;refine aD (aX (aA 3 [(5,vI (wr (s.2.1+1)))] (aS rfl ?_)));have hL:=g2 _ (sI i);exact xE (cE ⟨(o7.1,wr (s.2.1+1),o7.2),Y,hL,rfl,q,g.f1.f1,p,F,E,D,e2⟩)
     intro o7 i f6;refine bA (aE (eC [(10,fun w'=>Inv R w'/\Piece.holds R w' (eY a (bZ (fun x:BA=>([vT x]:List Value)) s.2.2 T1) 9)/\True)] kr g fun h2 _ g=> ?_));have e2:=R.le_refl;refine⟨⟨.inr ⟨Inv.anti g.inv e2,OF g.t.h e2,trivial⟩,trivial⟩,?_⟩;refine aR 0 35 (.slice (iV a b (Int.toNat n) 1) (Int.toNat (H.length:Int)-Int.toNat n) (b-Int.toNat n)) (.head _) (aR 1 36 (vI s.2.1) (.head _) ?_);have⟨x4,d8,i⟩:=aW i;refine SR (t:=26) (e:=9) (k:=1) (x:=(.tmp 35)) (y:=(.tmp 36)) (lo:=n) (hi:=(H.length:Int)) (ix:=s.2.1) 2 37 kr rfl kr (.head _) (bK (cP (bK (bK (cP (bK (cP (bK (bK (cP (bK eT))))))))))) (ev (.slice (iV a b (Int.toNat n) 1) (Int.toNat (H.length:Int)-Int.toNat n) (b-Int.toNat n))) (ev (vI s.2.1)) kr B U b9 d8 ?_;have d9:=(KE b9.1 d8).1;refine FT (t:=9) (x:=(.tmp 37)) (o:=0) (f:=(fun x:BA=>([vT x]:List Value))) (z:=x4) (v:=vT x4) 3 38 (fun _=>rfl) (Int.toNat (n+s.2.1)*1) rfl kr rfl kr (.head _) (bK (cP (bK (bK (cP (bK (cP (bK (bK (cP (bK eT))))))))))) (fun _ h=>h.2.1) (ev (.pointer (some ⟨ab a,Int.toNat (n+s.2.1)*1,none⟩))) B U d9 kr ?_
     refine aR 4 39 (.slice (iV a b (Int.toNat n) 1) (Int.toNat (H.length:Int)-Int.toNat n) (b-Int.toNat n)) (.head _) (aR 5 40 (vI s.2.1) (.head _) (aR 6 41 (vI (wr (s.2.1-1))) (.head _) ?_));have⟨x5,f7,i⟩:=aW i;refine SR (t:=26) (e:=9) (k:=1) (x:=(.tmp 39)) (y:=(.tmp 41)) (lo:=n) (hi:=(H.length:Int)) (ix:=wr (s.2.1-1)) 7 42 kr rfl kr (.head _) (bK (cP (bK (bK (cP (bK (cP (bK (bK (cP (bK eT))))))))))) (ev (.slice (iV a b (Int.toNat n) 1) (Int.toNat (H.length:Int)-Int.toNat n) (b-Int.toNat n))) (ev (vI (wr (s.2.1-1)))) kr B U b9 f7 ?_;have g3:=(KE b9.1 f7).1;refine FT (t:=9) (x:=(.tmp 42)) (o:=0) (f:=(fun x:BA=>([vT x]:List Value))) (z:=x5) (v:=vT x5) 8 43 (fun _=>rfl) (Int.toNat (n+(wr (s.2.1-1)))*1) rfl kr rfl kr (.head _) (bK (cP (bK (bK (cP (bK (cP (bK (bK (cP (bK eT))))))))))) (fun _ h=>h.2.1) (ev (.pointer (some ⟨ab a,Int.toNat (n+(wr (s.2.1-1)))*1,none⟩))) B U g3 kr ?_;refine aR 9 44 (vB (!(x4.toList==x5.toList))) (.head _) (dU kr (aD (aG i ?_ ?_)))
     .intro A i;refine aT 4 [(45,vS a o2 b),(46,vI s.1),(47,.slice (iV a b (Int.toNat n) 1) (Int.toNat (H.length:Int)-Int.toNat n) (b-Int.toNat n)),(48,vI s.2.1)] ?_;have⟨x6,f8,i⟩:=aW i;refine bB rfl (qDz (d:=49) (t:=26) (e:=9) (k:=1) (x:=(.tmp 47)) (y:=(.tmp 48)) (lo:=n) (hi:=(H.length:Int)) (ix:=s.2.1) kr rfl (ev (.slice (iV a b (Int.toNat n) 1) (Int.toNat (H.length:Int)-Int.toNat n) (b-Int.toNat n))) (ev (vI s.2.1)) kr B U b9 f8 ?_);have g4:=(KE b9.1 f8).1;refine bB rfl (qEk (d:=50) (t:=9) (x:=(.tmp 49)) (o:=0) (f:=(fun x:BA=>([vT x]:List Value))) (z:=x6) (v:=vT x6) (fun _=>rfl) (Int.toNat (n+s.2.1)*1) rfl kr rfl (ev (.pointer (some ⟨ab a,Int.toNat (n+s.2.1)*1,none⟩))) g.t.h B U g4 kr ?_);have⟨x7,f9,i⟩:=aW i;refine bB rfl (qDv (d:=51) (t:=26) (e:=9) (x:=(.tmp 45)) (y:=(.tmp 46)) (k:=1) kr rfl (ev (vS a o2 b)) (ev (vI s.1)) kr B U f9 (bB rfl (qDy (t:=9) (x:=(.tmp 51)) (y:=(.tmp 50)) (o:=0) (f:=(fun x:BA=>([vT x]:List Value))) (z:=x7) (u:=x6) (v:=vT x6) (fun _=>rfl) (Int.toNat s.1*1) rfl kr (ev (.pointer (some ⟨ab a,Int.toNat s.1*1,none⟩))) (ev (vT x6)) g.f1 B U f9 kr rfl fun h3 g=> ?_)));have g5:List.length (List.set s.2.2 (Int.toNat s.1) x6)=o2.length:=vY U _ _;refine aQ (aX (aA 3 [(3,vI (wr (s.1+1)))] (aS rfl (bI ?_))))
      cases i;exact xE (f6 _ _ ⟨R,rfl,q,g.f1,p,F,E,D,g5⟩)
     intro A i;refine aM (bI ?_);cases i;exact xE (f6 _ _ ⟨R,rfl,q,g.f1.f1,p,F,E,D,U⟩)
    intro A i;refine cD (bD ?_);have ho:=g0 _ (sI i);have g:=g.f1.f1;refine bD ?_;exact xE (f5 _ _ ⟨(s.1,s.2.2),R,ho,rfl,q,g,p,F,E,D,U⟩)
   intro A i;refine aM (bI (aD (aX (aA 3 [(3,vI (wr (n+1)))] (aS rfl ?_)))));have hL:=g1 _ (sI i);exact xE (cE ⟨wr (n+1),M,hL,rfl,q,g.f1.f1,p,F,E,D,G⟩)
  intro A i;refine cD (bD ?_);have ho:=d2 _ (sI i);have g:=g.f1.f1;refine bD ?_;exact xE (f4 _ _ ⟨(),M,ho,rfl,q,g,p,F,E,D,G⟩)
 intro d0 i b7;refine cH _ kr (cG (fun k1 L' w'=>∃(n:IF),∃H R T2 K,aI (MG N p0 p1) k1 n=some d0/\L'=[(1,.func (.func 139) #[] #[vP S 0]),(5,vS H n.1 R),(10,vS a2 p0.2.2.2 c2),(11,vI (p0.2.2.2.length:Int)),(12,vI n.2)]/\m.le K/\St K (kB S #[vS a3 p1 c3] 22::eY H (bZ (fun x:BA=>([vT x]:List Value)) n.1 T2) 9::O) w'/\RepS C3 K a2 c2 p0.2.2.2/\MRow K b1 0 (Vb p0 a1 c1 a2 c2)/\RepS aH K a1 c1 p0.2.2.1/\RepS (aV .i64) K a3 c3 p1/\OAS H n.1.length R 1 T2) N ⟨(([]:T6),0),none,0,[],m1,i,rfl,q.t e1,g.f1,E.mono e1,p,F.mono e1,D.mono e1,(OAS.nil 1)⟩ ?_);rintro k1 _ w5 ⟨n,H,R,T2,K,hL,rfl,q,g,E,p,F,D,b0⟩;rcases k1 with _|k1
 .exact cJ hL
 obtain⟨f4,i,d2,d1⟩:=cL hL;clear hL;unfold MG at i;refine aB 1 [(13,vB (decide (n.2<(p0.2.2.2.length:Int))))] (aE ?_);refine aG i ?_ ?_
 .intro A i;refine aM (aD (aE (cC .normal i (fun U L' w'=>∃V c7 T3 M,L'=[(1,.func (.func 139) #[] #[vP S 0]),(5,vS V U c7),(10,vS a2 p0.2.2.2 c2),(11,vI (p0.2.2.2.length:Int)),(12,vI n.2)]/\m.le M/\St M (kB S #[vS a3 p1 c3] 22::eY V (bZ (fun x:BA=>([vT x]:List Value)) U T3) 9::O) w'/\RepS C3 M a2 c2 p0.2.2.2/\MRow M b1 0 (Vb p0 a1 c1 a2 c2)/\RepS aH M a1 c1 p0.2.2.1/\RepS (aV .i64) M a3 c3 p1/\OAS V U.length c7 1 T3) ?_ ?_)))
  .rintro U i _ B ⟨V,c7,T3,M,rfl,q,g,E,p,F,D,s⟩;refine aD (aX (aA 2 [(12,vI (wr (n.2+1)))] (aS rfl ?_)));have hL:=d2 _ (sI i);exact xE (cE ⟨(U,wr (n.2+1)),V,c7,T3,M,hL,rfl,q,g.f1.f1,E,p,F,D,s⟩)
  intro U i b8;refine bA (aC (dQ 14 E i ?_));rintro x1 i b3 f1 e6 ⟨_,_,rfl,rfl,⟨_,_,rfl,rfl,⟨_,_,rfl,rfl,⟨_,_,rfl,rfl,⟨Y,Z,rfl,r5⟩⟩⟩⟩⟩ e0;refine dV 15 61 14 f1 (.agg (V8 x1 Y Z)) g e0 (cZ 7 61 (.agg #[vI 0,vI 0,vI 0,vT eB,v7]) g fun b4 w7 g=>(cA (.agg (V8 x1 Y Z)) g fun w8 g=>(aQ (aC (aA 1 [(17,.func (.func 139) #[] #[vP S 0])] (bE 18 (.agg (V8 x1 Y Z)) g.h (bB rfl (dN 19 139 #[.agg (V8 x1 Y Z),vP S 0] kr rfl (bF func139 rfl ntmps139 (aC (iE 2 61 (.agg (V8 x1 Y Z)) g fun b5 m7 w9 G g b9=> ?_)))))))))));have D:=D.mono G;refine aF 2 [] (aE (eC [(8,fun w'=>Inv m7 w'/\Piece.holds m7 w' (kB S #[vS a3 p1 c3] 22)/\True)] kr g fun f5 _ g=> ?_));have s:=m7.le_refl;refine⟨⟨.inr ⟨Inv.anti g.inv s,Piece.holds_anti g.t.h s,trivial⟩,trivial⟩,?_⟩;refine aR 0 5 (vP b5 3) (.head _) (eP 9 5 1 6 3 (vT x1.2.2.2.1) (.head _) (fun _ h=>h.1) (b9.drop 3) (dM 22 1 2 7 0 (vS a3 p1 c3) (.head _) (fun _ h=>h.2.1) (aR 3 8 (vP b5 0) (.head _) (eP 3 8 4 9 0 (vI x1.1) (.head _) (fun _ h=>h.1) b9 (cB 5 kr (eS 10 i (fun _ h=>qAz g D h) ?_))))));rintro y1 i _ f6 ⟨m8,rfl,B,g⟩;refine⟨_,rfl,?_⟩;have s:=Mem.le_trans s B;refine⟨⟨.inr ⟨Inv.anti g.inv s,Piece.holds_anti g.t.h s,trivial⟩,trivial⟩,?_⟩
  refine aR 6 3 (vT x1.2.2.2.1) (.head _) (aR 7 4 (vB y1) (.head _) (dU kr (aD (aJ (aO [3,4] [vT x1.2.2.2.1,vB y1] (⟨_,rfl,?_⟩))))));refine aF 5 [(8,vT x1.2.2.2.1),(9,vB y1)] (aC (aF 1 [(22,vB y1)] (aG i ?_ ?_)))
  .intro A i;refine aX (aA 2 [(23,vS H n.1 R),(24,vT x1.2.2.2.1)] (eR 25 9 1 aH [x1.2.2.2.1] g fun b6 m9 f7 e5 g r6=> ?_));have g:=g.f3;have⟨l1,d3,i⟩:=aW i;refine bB rfl (SY (d:=26) (t:=26) (u:=26) (e:=9) (by_:=16) (x:=(.tmp 23)) (y:=(.tmp 25)) (c:=aH) (f:=(fun x:BA=>([vT x]:List Value))) (l:=n.1) (fun _ _ _ h=>by obtain rfl:=h;rfl) (fun _=>rfl) kr rfl (ev (vS H n.1 R)) (ev (vS (aP b6) ([x1.2.2.2.1]) 1)) g b0 rfl kr (.inl kr) r6.src d3 fun a9 c9 T4 f8 e2 g=>(aA 1 [(5,vS a9 l1 c9)] (aS rfl ?_)));have g:=g.f1.t;refine bI ?_;cases i;exact xE (b8 _ _ ⟨a9,c9,T4,m9,rfl,((q.t G).t B).t e5,g.f1.t.f1,((E.mono G).mono B).mono e5,((p.mono G).mono B).mono e5,((F.mono G).mono B).mono e5,(D.mono B).mono e5,e2⟩)
  intro A i;refine aM (bI ?_);cases i;exact xE (b8 _ _ ⟨H,R,T2,m8,rfl,(q.t G).t B,g.t.f1.f1,(E.mono G).mono B,(p.mono G).mono B,(F.mono G).mono B,D.mono B,b0⟩)
 intro A i;refine cD (bD ?_);have ho:=d1 _ (sI i);have g:=g.f1.f1;refine bD ?_;exact xE (b7 _ _ ⟨n.1,H,R,T2,K,ho,rfl,q,g,p,F,E,D,b0⟩)
def JP(N:Nat)(p0:Tz):T7:=
 (JL N p0 ([(3:Int)])).bind fun y1=>some y1
theorem qCw{p0:Tz}{r:T6}(g:St m (O) w)(o:RepS aH m a1 c1 p0.2.2.1)(p:RepS C3 m a2 c2 p0.2.2.2)(i:JP N p0=some r):Calls prog 65 #[.agg (V7 p0 a1 c1 a2 c2)] w fun e w'=>∃a b m',e= .returned (vS a r b)/\m.le m'/\St m' (kR a r b 9 1::O) w'/\RepS aH m' a b r:=by
 unfold JP at i;have q:=m.le_refl;refine bF func65 rfl ntmps65 ?_;refine aC (iE 1 43 (.agg (V7 p0 a1 c1 a2 c2)) g fun v y A f g k=>(aF 1 [] (aC (bJ 3 (.agg (V7 p0 a1 c1 a2 c2)) g k (eR 4 3 1 (aV .i64) [(3:Int)] g fun x z B h g s=>(aK 5 i (RR (p0:=p0) g ((o.mono f).mono h) ((p.mono f).mono h) s) ?_))))));rintro y1 i _ D ⟨c,d,n,rfl,l,g,u⟩;refine aA 1 [(2,vS c y1 d)] (aS rfl ?_);have g:=g.f1.t;refine aD (aJ ?_);obtain rfl:=sI i;exact aO [2] [vS c y1 d] ⟨c,d,n,rfl,((q.t f).t h).t l,g,u⟩
def JM(N:Nat)(p0:Tz):T7:=
 (JL N p0 ([(6:Int),7,8])).bind fun y1=>some y1
theorem qCx{p0:Tz}{r:T6}(g:St m (O) w)(o:RepS aH m a1 c1 p0.2.2.1)(p:RepS C3 m a2 c2 p0.2.2.2)(i:JM N p0=some r):Calls prog 66 #[.agg (V7 p0 a1 c1 a2 c2)] w fun e w'=>∃a b m',e= .returned (vS a r b)/\m.le m'/\St m' (kR a r b 9 1::O) w'/\RepS aH m' a b r:=by
 unfold JM at i;have q:=m.le_refl;refine bF func66 rfl ntmps66 ?_;refine aC (iE 1 43 (.agg (V7 p0 a1 c1 a2 c2)) g fun v y A f g k=>(aF 1 [] (aC (bJ 3 (.agg (V7 p0 a1 c1 a2 c2)) g k (eR 4 3 3 (aV .i64) [(6:Int),7,8] g fun x z B h g s=>(aK 5 i (RR (p0:=p0) g ((o.mono f).mono h) ((p.mono f).mono h) s) ?_))))));rintro y1 i _ D ⟨c,d,n,rfl,l,g,u⟩;refine aA 1 [(2,vS c y1 d)] (aS rfl ?_);have g:=g.f1.t;refine aD (aJ ?_);obtain rfl:=sI i;exact aO [2] [vS c y1 d] ⟨c,d,n,rfl,((q.t f).t h).t l,g,u⟩
def MJ(N:Nat)(p0:Tr):Te:=
 some (p0.1==10)
theorem qCu{p0:Tr}{r:Bool}(g:St m (O) w)(f:RepS (aV .i64) m a1 c1 p0.2.2.2.2)(i:MJ N p0=some r):Calls prog 107 #[.agg (V8 p0 a1 c1)] w fun e w'=>∃m',e= .returned (vB r)/\m.le m'/\St m' (O) w':=by
 unfold MJ at i;have q:=m.le_refl;refine bF func107 rfl ntmps107 ?_;refine aC (iE 1 61 (.agg (V8 p0 a1 c1)) g fun b d h c g a=>(aF 1 [] (aC (aA 1 [(3,vP b 0)] (bJ 4 (vI p0.1) g a (aF 2 [(2,vB (p0.1==10))] (aJ ?_)))))));cases i;exact aO [2] [vB (p0.1==10)] ⟨d,rfl,q.t c,g⟩
def ME(N:Nat)(p0:Tz)(a:Int):qN:=
 if(decide (a<(List.length p0.2.2.2:Int)))=true then((idx p0.2.2.2 a).bind fun x1=>(MJ N x1).bind fun y1=>if y1=true then(some (.inr (.inr (a)))) else(some (.inl (IntKind.wrap .i64 (a+1))))) else(some (.inr (.inl ())))
def JO(N:Nat)(p0:Tz):Te:=
 ((aI (ME N p0) N 0).bind fun a=>(match a with| .inl o2=>some (-1)| .inr (z)=>some z):T8).bind fun a=>some (decide (a>=0))
theorem qDb{p0:Tz}{r:Bool}(g:St m (O) w)(f:RepS aH m a1 c1 p0.2.2.1)(c:RepS C3 m a2 c2 p0.2.2.2)(i:JO N p0=some r):Calls prog 67 #[.agg (V7 p0 a1 c1 a2 c2)] w fun e w'=>∃m',e= .returned (vB r)/\m.le m'/\St m' (O) w':=by
 unfold JO at i;have q:=m.le_refl;refine bF func67 rfl ntmps67 ?_;refine aC (iE 1 43 (.agg (V7 p0 a1 c1 a2 c2)) g fun u K V x g a=>(aF 1 [] (aC (aA 1 [(3,vP u 3)] (bJ 4 (vS a2 p0.2.2.2 c2) g (a.drop 3) (bB rfl (dN 5 106 #[vS a2 p0.2.2.2 c2,.func (.func 107) #[] #[]] kr rfl (bF func106 rfl ntmps106 (aB 1 [] (aC (aA 2 [(5,vS a2 p0.2.2.2 c2),(6,.func (.func 107) #[] #[])] ?_)))))))))));have⟨o,i,H⟩:=aW i;refine bB rfl (dN 7 141 #[vS a2 p0.2.2.2 c2,.func (.func 107) #[] #[]] kr rfl (JZ (fun v' w'=>∃k,v'=(vI o)/\m.le k/\St k (O) w'/\MRow k u 0 (Vb p0 a1 c1 a2 c2)/\P2 k a1 c1 a2 c2 p0.2.2) ?_ ?_))
 .have i:=H;rintro _ b ⟨k,rfl,q,g,a,f,c⟩;refine⟨_,rfl,?_⟩;refine aF 2 [(4,vB (decide (o>=0)))] (aJ (aO [4] [vB (decide (o>=0))] (⟨_,rfl,?_⟩)));refine aF 1 [(2,vB (decide (o>=0)))] (aJ ?_);obtain rfl:=sI i;exact aO [2] [vB (decide (o>=0))] ⟨k,rfl,q,g⟩
 refine bF func141 rfl ntmps141 ?_;refine aB 1 [] (aE ?_);refine aB 3 [(7,vI (p0.2.2.2.length:Int)),(8,vI 0)] (bA ?_);have⟨p,i,B⟩:=aW i;refine cO (.exit 0) (fun L' w'=>∃(o2:Unit),∃l,(.inl o2)=p/\L'=[]/\m.le l/\St l (O) w'/\MRow l u 0 (Vb p0 a1 c1 a2 c2)/\P2 l a1 c1 a2 c2 p0.2.2) ?_ ?_
 .rintro _ b ⟨o2,l,rfl,rfl,q,g,a,f,c⟩;have i:=B;refine cK (aD (aB 1 [(4,vI (-1))] (aJ ?_)));cases i;exact aO [4] [vI (-1)] ⟨_,rfl,⟨l,rfl,q,g,a,f,c⟩⟩
 intro s;refine cH _ kr (cG (fun v L' w'=>∃(b:Int),∃h,aI (ME N p0) v b=some p/\L'=[(0,vS a2 p0.2.2.2 c2),(1,.func (.func 107) #[] #[]),(7,vI (p0.2.2.2.length:Int)),(8,vI b)]/\m.le h/\St h (O) w'/\RepS C3 h a2 c2 p0.2.2.2/\MRow h u 0 (Vb p0 a1 c1 a2 c2)/\RepS aH h a1 c1 p0.2.2.1) N ⟨0,K,i,rfl,q.t x,g,c.mono x,a,f.mono x⟩ ?_);rintro v _ Y ⟨b,h,hL,rfl,q,g,c,a,f⟩;rcases v with _|v
 .exact cJ hL
 obtain⟨S,i,y,n⟩:=cL hL;clear hL;unfold ME at i;refine aB 1 [(9,vB (decide (b<(p0.2.2.2.length:Int))))] (aE ?_);refine aG i ?_ ?_
 .intro A i;refine aM (aD (aE (bA (aB 2 [(5,vI b)] (aC (aA 3 [(11,.func (.func 107) #[] #[]),(12,vS a2 p0.2.2.2 c2),(13,vI b)] (dQ 14 c i ?_)))))));rintro x1 i U G R ⟨_,_,rfl,rfl,⟨_,_,rfl,rfl,⟨_,_,rfl,rfl,⟨_,_,rfl,rfl,⟨E,F,rfl,M⟩⟩⟩⟩⟩ z;refine dV 15 61 14 G (.agg (V8 x1 E F)) g z (aK 16 i (qCu (p0:=x1) g M) ?_);rintro y1 i _ Z ⟨D,rfl,d,g⟩;refine aQ (aG i ?_ ?_)
  .intro A i;refine aB 2 [(4,vI b)] (aJ ?_);refine aZ (aL ?_);have ho:=n _ (sI i);subst ho;have i:=B;refine aL (aZ (aL ?_));obtain rfl:=sI i;exact aO [4] [vI b] ⟨_,rfl,⟨D,rfl,q.t d,g,a.mono d,f.mono d,c.mono d⟩⟩
  intro A i;refine aM (bI (aD (aX (aA 2 [(8,vI (wr (b+1)))] (aS rfl ?_)))));have hL:=y _ (sI i);exact xE (cE ⟨wr (b+1),D,hL,rfl,q.t d,g,c.mono d,a.mono d,f.mono d⟩)
 intro A i;refine cD (bD ?_);have ho:=n _ (sI i);refine bD ?_;exact xE (s _ _ ⟨(),h,ho,rfl,q,g,a,f,c⟩)
def FD(N:Nat):Te:=
 (vG N (⟨#[112,97,99,107,97,103,101,32,112,59,32,105,109,112,111,114,116,32,113,59,32,116,101,115,116,32,116,32,61,32,102,40,114,101,97,100,40,34,97,46,100,97,116,34,44,32,102,108,105,112,40,48,41,41,41,59]⟩:BA)).bind fun y1=>if((List.length y1.1.2.2:Int) !=1)=true then(some false) else((oJ N y1.1 0).bind fun a=>(idx y1.1.2.2 0).bind fun x1=>(idx y1.1.2.2 0).bind fun c=>(JP N x1).bind fun b=>(JM N c).bind fun c=>(if(a.2==0)=true then(if(a.1.toList==(⟨#[112,97,99,107,97,103,101,32,112,59,10,105,109,112,111,114,116,32,113,59,10,116,101,115,116,32,116,32,61,32,102,40,114,101,97,100,40,34,97,46,100,97,116,34,44,32,102,108,105,112,40,48,41,41,41,59,10]⟩:BA).toList)=true then(if((List.length b:Int)==1)=true then((idx b 0).bind fun a=>if(a.toList==(⟨#[102]⟩:BA).toList)=true then(if((List.length c:Int)==1)=true then((idx c 0).bind fun a=>if(a.toList==(⟨#[97,46,100,97,116]⟩:BA).toList)=true then((idx y1.1.2.2 0).bind fun x5=>(JO N x5).bind fun y5=>some y5) else(some false)) else(some false)) else(some false)) else(some false)) else(some false)) else(some false):Te).bind fun a=>some a)
theorem qBz{r:Bool}(g:St m (O) w)(i:FD N=some r):Calls prog 23 #[] w fun e w'=>∃m',e= .returned (vB r)/\m.le m'/\St m' (O) w':=by
 unfold FD at i;have q:=m.le_refl;refine bF func23 rfl ntmps23 ?_;refine aB 1 [] (aC ?_);refine aK 9 i (LU g) ?_;rintro y1 i _ w1 ⟨k,l,c,d,m1,rfl,Y,g,f,b⟩;refine aA 4 [(10,.agg (V6 y1.1 k l c d)),(11,vI y1.2.1),(12,vI y1.2.2)] (cZ 1 29 (.agg #[vT eB,v7,v7]) g fun u w2 g=>(cA (.agg (V6 y1.1 k l c d)) g fun w3 g=>(aF 2 [] (aE (aC (bL 1 14 27 13 2 (vS c y1.1.2.2 d) g.h (aF 2 [(16,vB ((y1.1.2.2.length:Int) !=1))] (aG i ?_ ?_))))))))
 .intro A i;refine aB 1 [(0,vB false)] (aJ ?_);refine aL ?_;cases i;exact aO [0] [vB false] ⟨m1,rfl,q.t Y,g.t.t.t⟩
 intro A i;refine aM (aD (aC (bE 18 (.agg (V6 y1.1 k l c d)) g.h (aK 19 i (JK (p0:=y1.1) g f b) ?_))));rintro z i _ w4 ⟨S,rfl,M,g⟩;have b:=b.mono M;refine aF 5 [(4,vT z.1),(5,vI z.2)] (aE (eC [(12,fun w'=>Inv S w'/\Piece.holds S w' (kB u (V6 y1.1 k l c d) 29)/\True)] kr g fun w5 _ g=> ?_));have a:=S.le_refl;refine⟨⟨.inr ⟨Inv.anti g.inv a,Piece.holds_anti g.h a,trivial⟩,trivial⟩,?_⟩;refine aR 0 22 (vP u 2) (.head _) (dM 27 22 1 23 2 (vS c y1.1.2.2 d) (.head _) (fun _ h=>h.2.1) ?_);have⟨x1,d3,i⟩:=aW i;refine iY (t:=27) (e:=43) (x:=(.tmp 23)) (y:=(.const (vI 0))) 2 24 C4 kr rfl kr (.head _) (bK eT) (ev (vS c y1.1.2.2 d)) (ev (vI 0)) kr b d3 ?_;rintro b2 f1 d1 ⟨_,_,rfl,rfl,⟨_,_,rfl,rfl,⟨_,_,rfl,⟨a3,c3,rfl,r3⟩,⟨a4,c4,rfl,r4⟩⟩⟩⟩ Z;refine eP 43 24 3 25 f1 (.agg (V7 x1 a3 c3 a4 c4)) (.head _) (fun _ h=>h.1) Z (aR 5 27 (vP u 2) (.head _) (dM 27 27 6 28 2 (vS c y1.1.2.2 d) (.head _) (fun _ h=>h.2.1) ?_));have⟨x2,d4,i⟩:=aW i;refine iY (t:=27) (e:=43) (x:=(.tmp 28)) (y:=(.const (vI 0))) 7 29 C4 kr rfl kr (.head _) (bK eT) (ev (vS c y1.1.2.2 d)) (ev (vI 0)) kr b d4 ?_;rintro b3 f2 d2 ⟨_,_,rfl,rfl,⟨_,_,rfl,rfl,⟨_,_,rfl,⟨a5,c5,rfl,r5⟩,⟨a6,c6,rfl,r6⟩⟩⟩⟩ b0
 refine eP 43 29 8 30 f2 (.agg (V7 x2 a5 c5 a6 c6)) (.head _) (fun _ h=>h.1) b0 (cB 4 kr (eS 26 i (fun _ h=>qCw (p0:=x1) g r3 r4 h) ?_));rintro B i _ w6 ⟨E,G,m3,rfl,n,g,r7⟩;refine⟨_,rfl,?_⟩;have a:=Mem.le_trans a n;refine⟨⟨.inr ⟨Inv.anti g.inv a,Piece.holds_anti g.t.h a,trivial⟩,trivial⟩,?_⟩;refine cB 9 kr (eS 31 i (fun _ h=>qCx (p0:=x2) g (r5.mono n) (r6.mono n) h) ?_);rintro D i _ w7 ⟨F,H,o,rfl,p,g,r8⟩;refine⟨_,rfl,?_⟩;have q:=(((q.t Y).t M).t n).t p;have b:=(b.mono n).mono p;have f:=((f.mono M).mono n).mono p;have a:=Mem.le_trans a p;refine⟨⟨.inr ⟨Inv.anti g.inv a,Piece.holds_anti g.t.t.h a,trivial⟩,trivial⟩,?_⟩;refine aR 10 6 (vS E B G) (.head _) (aR 11 7 (vS F D H) (.head _) (dU kr (aD (aC (cU 36 i (fun v L' w'=>∃s,L'=[(0,vB v)]/\m.le s/\St s (kB u (V6 y1.1 k l c d) 29::kR F D H 9 1::kR E B G 9 1::kR k y1.1.2.1 l 9 1::kR c y1.1.2.2 d 43 4::O) w'/\P5 s k l c d y1.1.2) ?_ ?_)))))
 .rintro v i _ R ⟨s,rfl,q,g,f,b⟩;refine aQ (aJ ?_);obtain rfl:=sI i;exact aO [0] [vB v] ⟨s,rfl,q,g.t.t.t.t.t⟩
 intro v i K;refine aA 3 [(34,vB (z.2==0))] (bC 34 i ?_ ?_)
 .intro A i;refine aA 4 [(38,vB (z.1.toList==(⟨#[112,97,99,107,97,103,101,32,112,59,10,105,109,112,111,114,116,32,113,59,10,116,101,115,116,32,116,32,61,32,102,40,114,101,97,100,40,34,97,46,100,97,116,34,44,32,102,108,105,112,40,48,41,41,41,59,10]⟩:BA).toList))] (bC 38 i ?_ ?_)
  .intro A i;refine aA 5 [(43,vB ((B.length:Int)==1))] (bC 43 i ?_ ?_)
   .intro A i;refine aA 1 [(44,vS E B G)] (dQ 45 (r7.mono p) i ?_);rintro x3 i b4 f3 d5 rfl b7;refine dV 46 9 45 f3 (vT x3) g b7 (aA 3 [(49,vB (x3.toList==bg.toList))] (bC 49 i ?_ ?_))
    .intro A i;refine aA 5 [(54,vB ((D.length:Int)==1))] (bC 54 i ?_ ?_)
     .intro A i;refine aA 1 [(55,vS F D H)] (dQ 56 r8 i ?_);rintro x4 i b5 f4 d6 rfl b8;refine dV 57 9 56 f4 (vT x4) g b8 (aA 3 [(60,vB (x4.toList==bb.toList))] (bC 60 i ?_ ?_))
      .intro A i;refine bL 1 62 27 61 2 (vS c y1.1.2.2 d) g.t.t.h (dQ 63 b i ?_);rintro x5 i b6 f5 d7 ⟨_,_,rfl,rfl,⟨_,_,rfl,rfl,⟨_,_,rfl,⟨a9,c9,rfl,r9⟩,⟨U,V,rfl,d0⟩⟩⟩⟩ b9;refine dV 64 43 63 f5 (.agg (V7 x5 a9 c9 U V)) g b9 (aK 65 i (qDb (p0:=x5) g r9 d0) ?_);rintro y5 i _ w9 ⟨m6,rfl,R,g⟩;refine aA 2 [(0,vB y5)] ?_;cases i;exact aU _ kr (K _ _ ⟨m6,rfl,q.t R,g.f4.f4.f3.f3.f4,f.mono R,b.mono R⟩)
      intro A i;refine aA 7 [(0,vB false)] ?_;cases i;exact aU _ kr (K _ _ ⟨o,rfl,q,g.f4.f4.f3.f3.f4,f,b⟩)
     intro A i;refine aA 13 [(0,vB false)] ?_;cases i;exact aU _ kr (K _ _ ⟨o,rfl,q,g.f4.f4.f3.f3.f4,f,b⟩)
    intro A i;refine aA 18 [(0,vB false)] ?_;cases i;exact aU _ kr (K _ _ ⟨o,rfl,q,g.f4.f4.f3.f3.f4,f,b⟩)
   intro A i;refine aA 24 [(0,vB false)] ?_;cases i;exact aU _ kr (K _ _ ⟨o,rfl,q,g.f4.f4.f3.f3.f4,f,b⟩)
  intro A i;refine aA 29 [(0,vB false)] ?_;cases i;exact aU _ kr (K _ _ ⟨o,rfl,q,g.f4.f4.f3.f3.f4,f,b⟩)
 intro A i;refine aA 33 [(0,vB false)] ?_;cases i;exact aU _ kr (K _ _ ⟨o,rfl,q,g.f4.f4.f3.f3.f4,f,b⟩)
def zP(N:Nat)(x1:eF)(a:Int):Td:=
 if(decide (a<=(List.length x1.2.2:Int)))=true then((oJ N x1 a).bind fun b=>(qB N x1 a).bind fun c=>(if(!(b.1.toList==c.1.toList))=true then(some true) else(if(b.2 !=c.2)=true then(some true) else((tJ N b.1).bind fun c=>if(!c)=true then(some true) else((bH (⟨#[35,32,99,10]⟩:BA) b.1).bind fun b=>(tJ N b).bind fun y5=>some (!y5)))):Te).bind fun o4=>if o4=true then(some (.inr (.inr (false)))) else(some (.inl (IntKind.wrap .i64 (a+1))))) else(some (.inr (.inl ())))
def zQ(N:Nat)(p1:Int)(p2:eF)(y1:T1d)(a:lX)(b:Int):Td:=
 if(decide (b<(List.length ([y1.2,(p2.1,p2.2.1,a)]):Int)))=true then((idx ([y1.2,(p2.1,p2.2.1,a)]) b).bind fun x1=>(aI (zP N x1) N (-1)).bind fun a=>(match a with| .inl a=>(oJ N x1 p1).bind fun a=>(qB N x1 p1).bind fun c=>(if(!(a.1.toList==c.1.toList))=true then(some true) else(some (a.2 !=c.2)):Te).bind fun a=>if a=true then(some (.inr (.inr (false)))) else(some (.inl (IntKind.wrap .i64 (b+1))))| .inr (z)=>some (.inr (.inr (z))))) else(some (.inr (.inl ())))
def DU(N:Nat)(p0:T9)(p1:Int)(p2:eF)(p3:BA):Te:=
 (EX N (p0,0)).bind fun y1=>(if(decide ((List.length p2.2.2:Int)>6))=true then((nH p2.2.2 0 6).bind fun a=>some a) else(some p2.2.2):Option lX).bind fun a=>(aI (zQ N p1 p2 y1 a) N 0).bind fun a=>(match a with| .inl o2=>(if(decide ((ByteArray.size p3:Int)>300))=true then((lN p3 0 300).bind fun a=>some a) else(some p3):Tf).bind fun a=>((tJ N a).bind fun b=>if b=true then((bH (⟨#[112,97,99,107,97,103,101,32,112,59,10,116,101,115,116,32,116,32,61,32]⟩:BA) a).bind fun a=>(bH a (⟨#[59,10]⟩:BA)).bind fun a=>(tJ N a).bind fun a=>if a=true then((AO N y1.1 (⟨#[113]⟩:BA)).bind fun a=>(tJ N a.2).bind fun b=>if b=true then((FD N).bind fun b=>some (b,a.1.1,a.1.2)) else(some (false,a.1.1,a.1.2))) else(some (false,y1.1.1,y1.1.2))) else(some (false,y1.1.1,y1.1.2)):Option (Bool×Ta)).bind fun a=>some a.1| .inr (z)=>some z)
theorem qAq{p0:T9}{p1:Int}{p2:eF}{p3:BA}{r:Bool}(g:St m (O) w)(r1:RepS (aV .i64) m a1 c1 p0)(b:RepS aH m a2 c2 p2.2.1)(r3:RepS C4 m a3 c3 p2.2.2)(i:DU N p0 p1 p2 p3=some r):Calls prog 5 #[vS a1 p0 c1,vI p1,.agg (V6 p2 a2 c2 a3 c3),vT p3] w fun e w'=>∃m',e= .returned (vB r)/\m.le m'/\St m' (O) w':=by
 unfold DU at i;have q:=m.le_refl;refine bF func5 rfl ntmps5 ?_;refine aC (bB rfl (uE 6 29 2 (.agg (V6 p2 a2 c2 a3 c3)) g fun Z w1 g=>(aF 1 [] (aC (aA 2 [(23,.agg #[vS a1 p0 c1,vI 0])] (bB rfl (uE 24 25 23 (.agg #[vS a1 p0 c1,vI 0]) g fun F w2 g=>(aF 1 [(9,vP F 0)] (aC (aA 1 [(25,vP F 0)] (aK 26 i (qBk (p0:=(p0,0)) g r1) ?_)))))))))));rintro y1 i _ w3 ⟨M,R,p,u,s,v,m3,rfl,e3,g,l,c,f⟩;refine cZ 10 29 (.agg #[vT eB,v7,v7]) g fun b3 w4 g=> ?_;refine cA (.agg (V6 y1.2 p u s v)) g fun w5 g=> ?_;refine aQ (aE (aC (bL 1 28 27 27 2 (vS a3 p2.2.2 c3) g.t.t.t.t.h (aF 2 [(30,vB (decide ((p2.2.2.length:Int)>6)))] (cC .normal i (fun a L' w'=>∃B D m4,L'=[(1,vI p1),(3,vT p3),(6,vP Z 0),(9,vP F 0),(10,vP b3 0)]/\m.le m4/\St m4 (kB b3 (V6 y1.2 p u s v) 29::kB F (V1 y1.1 M R) 25::kB Z #[vT p2.1,vS a2 p2.2.1 c2,vS B a D] 29::kR p y1.2.2.1 u 9 1::kR s y1.2.2.2 v 43 4::O) w'/\RepS aH m4 p u y1.2.2.1/\RepS C4 m4 s v y1.2.2.2/\RepS (aV .i64) m4 M R y1.1.1/\RepS aH m4 a2 c2 p2.2.1/\RepS C4 m4 B D a) ?_ ?_)))))
 .rintro a i _ w6 ⟨B,D,m4,rfl,q,g,c,f,l,b,k⟩;refine aD (aE (aC (bE 35 (.agg (V6 y1.2 p u s v)) g.h (bE 36 (.agg #[vT p2.1,vS a2 p2.2.1 c2,vS B a D]) g.t.t.h (bB rfl (nN (d:=37) (t:=45) (e:=29) (len:=2) (parts:= #[(0,(.tmp 35)),(1,(.tmp 36))]) C6 (xs:=[y1.2,(p2.1,p2.2.1,a)]) [vT y1.2.1,vS p y1.2.2.1 u,vS s y1.2.2.2 v,vT p2.1,vS a2 p2.2.1 c2,vS B a D] kr rfl (fun _=>nO kr _) rfl rfl g ⟨(Va y1.2 p u s v),_,rfl,⟨_,_,rfl,rfl,⟨_,_,rfl,(rA c),(rA f)⟩⟩,⟨[vT p2.1,vS a2 p2.2.1 c2,vS B a D],_,rfl,⟨_,_,rfl,rfl,⟨_,_,rfl,(rA b),(rA k)⟩⟩,rfl⟩⟩ fun S m5 w8 e4 g E=>(aF 2 [(38,vI (List.length ([y1.2,(p2.1,p2.2.1,a)]):Int)),(39,vI 0)] (bA ?_))))))));have⟨b8,i,j2⟩:=aW i;refine cO (.exit 0) (fun L' w'=>∃(o2:Unit),∃m6,(.inl o2)=b8/\L'=[(3,vT p3),(9,vP F 0)]/\m.le m6/\St m6 (kB b3 (V6 y1.2 p u s v) 29::kB F (V1 y1.1 M R) 25::kB Z #[vT p2.1,vS a2 p2.2.1 c2,vS B a D] 29::kR (aP S) ([y1.2,(p2.1,p2.2.1,a)]) 2 29 3::kR p y1.2.2.1 u 9 1::kR s y1.2.2.2 v 43 4::O) w'/\RepS aH m6 p u y1.2.2.1/\RepS C4 m6 s v y1.2.2.2/\RepS (aV .i64) m6 M R y1.1.1/\RepS aH m6 a2 c2 p2.2.1/\RepS C4 m6 B D a) ?_ ?_
  .rintro _ w9 ⟨o2,m6,rfl,rfl,q,g,c,f,l,b,k⟩;have i:=j2;refine cK (aD (aE (aT 3 [(104,vB (decide ((p3.size:Int)>300)))] (aS rfl ?_))));have g:=g.f3.t;refine aD (cC .normal i (fun o6 L' w'=>∃y,L'=[(3,vT o6),(9,vP F 0)]/\m.le y/\St y (kB b3 (V6 y1.2 p u s v) 29::kB F (V1 y1.1 M R) 25::kB Z #[vT p2.1,vS a2 p2.2.1 c2,vS B a D] 29::kR p y1.2.2.1 u 9 1::kR s y1.2.2.2 v 43 4::O) w'/\RepS aH y p u y1.2.2.1/\RepS C4 y s v y1.2.2.2/\RepS (aV .i64) y M R y1.1.1/\RepS aH y a2 c2 p2.2.1/\RepS C4 y B D a) ?_ ?_)
   .rintro o6 i _ d9 ⟨y,rfl,q,g,c,f,l,b,k⟩;refine aD (aC (cU 17 i (fun V L' w'=>∃Y b0 n,L'=[(8,vB V.1)]/\m.le n/\St n (kB b3 (V6 y1.2 p u s v) 29::kB F (V1 V.2 Y b0) 25::kB Z #[vT p2.1,vS a2 p2.2.1 c2,vS B a D] 29::kR p y1.2.2.1 u 9 1::kR s y1.2.2.2 v 43 4::O) w'/\RepS aH n p u y1.2.2.1/\RepS C4 n s v y1.2.2.2/\RepS (aV .i64) n Y b0 V.2.1/\RepS aH n a2 c2 p2.2.1/\RepS C4 n B D a) ?_ ?_))
    .rintro V i _ z ⟨Y,b0,n,rfl,q,g,c,f,o,b,k⟩;refine aQ (aJ ?_);cases i;exact aO [8] [vB V.1] ⟨n,rfl,q,g.t.t.t.t.t⟩
    intro V i K;refine aA 1 [(107,vT o6)] (aK 108 i (EF g) ?_);rintro y8 i _ e0 ⟨d1,rfl,z,g⟩;have c:=c.mono z;have f:=f.mono z;have l:=l.mono z;have b:=b.mono z;have k:=k.mono z;refine aA 1 [(109,vB y8)] (bC 109 i ?_ ?_)
    .intro A i;refine aA 1 [(110,vT o6)] (cM 111 i fun s5 i=>(cM 112 i fun s6 i=>(aK 113 i (EF g) ?_)));rintro y9 i _ e1 ⟨d3,rfl,G,g⟩;have q:=(q.t z).t G;have c:=c.mono G;have f:=f.mono G;have l:=l.mono G;have b:=b.mono G;have k:=k.mono G;refine aA 2 [(115,vB y9)] (bC 115 i ?_ ?_)
     .intro A i;refine aA 1 [(116,vP F 0)] (aK 117 i (RH (p0:=y1.1) g.f1 l) ?_);rintro f8 i _ e2 ⟨b7,b9,d8,rfl,H,g,d0⟩;refine aK 118 i (EF g) ?_;rintro d6 i _ f0 ⟨d4,rfl,o,g⟩;have c:=(c.mono H).mono o;have f:=(f.mono H).mono o;have b:=(b.mono H).mono o;have k:=(k.mono H).mono o;refine aA 2 [(120,vB d6)] (bC 120 i ?_ ?_)
      .intro A i;refine aK 121 i (qBz g) ?_;rintro d7 i _ f7 ⟨d5,rfl,U,g⟩;refine aA 2 [(8,vB d7)] ?_;cases i;exact aU _ kr (K _ _ ⟨b7,b9,d5,rfl,((q.t H).t o).t U,g.f4.f4.f4.f3.f4,c.mono U,f.mono U,(d0.mono o).mono U,b.mono U,k.mono U⟩)
      intro A i;refine aA 3 [(8,vB false)] ?_;cases i;exact aU _ kr (K _ _ ⟨b7,b9,d4,rfl,(q.t H).t o,g.f4.f4.f4.f3.f4,c,f,d0.mono o,b,k⟩)
     intro A i;refine aA 8 [(8,vB false)] ?_;cases i;exact aU _ kr (K _ _ ⟨M,R,d3,rfl,q,g.f4.f4.f4.f4.f4,c,f,l,b,k⟩)
    intro A i;refine aA 14 [(8,vB false)] ?_;cases i;exact aU _ kr (K _ _ ⟨M,R,d1,rfl,q.t z,g.f4.f4.f4.f4.f4,c,f,l,b,k⟩)
   intro o6 i n;refine aG i ?_ ?_
   .intro A i;refine aX (aA 1 [(105,vT p3)] ?_);have⟨z,o,i⟩:=aW i;refine bB rfl (nY (d:=106) (t:=9) (x:=(.tmp 105)) (lo:=none) (hi:=(some (.const (vI 300)))) kr rfl (ev (vT p3)) kr (.inl ⟨rfl,rfl⟩) (.inr ⟨_,_,rfl,(ev (vI 300))⟩) o (aA 1 [(3,vT z)] (aS rfl ?_)));cases i;exact xE (n _ _ ⟨m6,rfl,q,g.f4.f4.f4.f4.f4,c,f,l,b,k⟩)
   intro A i;refine aM ?_;cases i;exact xE (n _ _ ⟨m6,rfl,q,g.f4.f4.f4.f4.f4,c,f,l,b,k⟩)
  intro d0;refine cH _ kr (cG (fun k1 L' w'=>∃(s1:Int),∃m7,aI (zQ N p1 p2 y1 a) k1 s1=some b8/\L'=[(1,vI p1),(3,vT p3),(9,vP F 0),(37,vS (aP S) ([y1.2,(p2.1,p2.2.1,a)]) 2),(38,vI (List.length ([y1.2,(p2.1,p2.2.1,a)]):Int)),(39,vI s1)]/\m.le m7/\St m7 (kB b3 (V6 y1.2 p u s v) 29::kB F (V1 y1.1 M R) 25::kB Z #[vT p2.1,vS a2 p2.2.1 c2,vS B a D] 29::kR (aP S) ([y1.2,(p2.1,p2.2.1,a)]) 2 29 3::kR p y1.2.2.1 u 9 1::kR s y1.2.2.2 v 43 4::O) w'/\RepS C6 m7 (aP S) 2 ([y1.2,(p2.1,p2.2.1,a)])/\RepS aH m7 p u y1.2.2.1/\RepS C4 m7 s v y1.2.2.2/\RepS (aV .i64) m7 M R y1.1.1/\RepS aH m7 a2 c2 p2.2.1/\RepS C4 m7 B D a) N ⟨0,m5,i,rfl,q.t e4,g.f5.f5.f2.f5.f5.f5,E,c.mono e4,f.mono e4,l.mono e4,b.mono e4,k.mono e4⟩ ?_);rintro k1 _ f0 ⟨s1,m7,hL,rfl,q,g,E,c,f,l,b,k⟩;rcases k1 with _|k1
  .exact cJ hL
  obtain⟨e1,i,d4,b0⟩:=cL hL;clear hL;unfold zQ at i;refine aB 1 [(40,vB (decide (s1<(List.length ([y1.2,(p2.1,p2.2.1,a)]):Int))))] (aE ?_);refine aG i ?_ ?_
  .intro A i;refine aM (aD (aE (bA (aC (dQ 41 E i ?_)))));rintro x1 i b5 f1 d9 ⟨_,_,rfl,rfl,⟨_,_,rfl,⟨U,V,rfl,n⟩,⟨y,z,rfl,o⟩⟩⟩ d6;refine dV 42 29 41 f1 (.agg (V6 x1 U V y z)) g d6 (cZ 12 29 (.agg #[vT eB,v7,v7]) g fun b6 f7 g=>(cA (.agg (V6 x1 U V y z)) g fun f8 g=>(aQ (aE (aB 1 [(13,vI (-1))] (bA ?_))))));have⟨b9,i,j3⟩:=aW i;refine cO (.exit 2) (fun L' w'=>∃(o3:Unit),∃m8,(.inl o3)=b9/\L'=[(1,vI p1),(3,vT p3),(9,vP F 0),(12,vP b6 0),(37,vS (aP S) ([y1.2,(p2.1,p2.2.1,a)]) 2),(38,vI (List.length ([y1.2,(p2.1,p2.2.1,a)]):Int)),(39,vI s1)]/\m.le m8/\St m8 (kB b6 (V6 x1 U V y z) 29::kB b3 (V6 y1.2 p u s v) 29::kB F (V1 y1.1 M R) 25::kB Z #[vT p2.1,vS a2 p2.2.1 c2,vS B a D] 29::kR (aP S) ([y1.2,(p2.1,p2.2.1,a)]) 2 29 3::kR p y1.2.2.1 u 9 1::kR s y1.2.2.2 v 43 4::O) w'/\RepS C6 m8 (aP S) 2 ([y1.2,(p2.1,p2.2.1,a)])/\RepS aH m8 U V x1.2.1/\RepS C4 m8 y z x1.2.2/\RepS aH m8 p u y1.2.2.1/\RepS C4 m8 s v y1.2.2.2/\RepS (aV .i64) m8 M R y1.1.1/\RepS aH m8 a2 c2 p2.2.1/\RepS C4 m8 B D a) ?_ ?_
   .rintro _ d3 ⟨o3,m8,rfl,rfl,q,g,E,n,o,c,f,l,b,k⟩;have i:=j3;refine cK (aD (aC (bE 82 (.agg (V6 x1 U V y z)) g.h (aA 1 [(83,vI p1)] (aK 84 i (JK (p0:=x1) g n o) ?_)))));rintro y6 i _ d5 ⟨d1,rfl,Y,g⟩;have n:=n.mono Y;have o:=o.mono Y;refine aF 5 [(18,vT y6.1),(19,vI y6.2)] (aC (bE 88 (.agg (V6 x1 U V y z)) g.h (aA 1 [(89,vI p1)] (aK 90 i (LX (p0:=x1) g n o) ?_))));rintro y7 i _ d7 ⟨b7,rfl,H,g⟩;have E:=(E.mono Y).mono H;have c:=(c.mono Y).mono H;have f:=(f.mono Y).mono H;have l:=(l.mono Y).mono H;have b:=(b.mono Y).mono H;have k:=(k.mono Y).mono H
    refine aF 5 [(20,vT y7.1),(21,vI y7.2)] (aC (cU 8 i (fun o5 L' w'=>∃G,L'=[(1,vI p1),(3,vT p3),(9,vP F 0),(37,vS (aP S) ([(y1.2.1,y1.2.2.1,y1.2.2.2),(p2.1,p2.2.1,a)]) 2),(38,vI (List.length ([(y1.2.1,y1.2.2.1,y1.2.2.2),(p2.1,p2.2.1,a)]):Int)),(39,vI s1),(100,vB o5)]/\m.le G/\St G (kB b6 (V6 x1 U V y z) 29::kB b3 (V6 y1.2 p u s v) 29::kB F (V1 y1.1 M R) 25::kB Z #[vT p2.1,vS a2 p2.2.1 c2,vS B a D] 29::kR (aP S) ([(y1.2.1,y1.2.2.1,y1.2.2.2),(p2.1,p2.2.1,a)]) 2 29 3::kR p y1.2.2.1 u 9 1::kR s y1.2.2.2 v 43 4::O) w'/\RepS C6 G (aP S) 2 ([(y1.2.1,y1.2.2.1,y1.2.2.2),(p2.1,p2.2.1,a)])/\RepS aH G U V x1.2.1/\RepS C4 G y z x1.2.2/\RepS aH G p u y1.2.2.1/\RepS C4 G s v y1.2.2.2/\RepS (aV .i64) G M R y1.1.1/\RepS aH G a2 c2 p2.2.1/\RepS C4 G B D a) ?_ ?_))
    .rintro o5 i _ d8 ⟨G,rfl,q,g,E,n,o,c,f,l,b,k⟩;refine aQ (aG i ?_ ?_)
     .intro A i;refine aT 1 [(8,vB false)] ?_;refine aS rfl ?_;have g:=g.f4.t;refine aD (aJ (aZ (aL ?_)));have ho:=b0 _ (sI i);subst ho;have i:=j2;refine aL (aZ (aL ?_));cases i;exact aO [8] [vB false] ⟨G,rfl,q,g.t.t.t.t.t.t⟩
     intro A i;refine aM (bI (aD (aX (aA 2 [(39,vI (wr (s1+1)))] (aS rfl ?_)))));have hL:=d4 _ (sI i);exact xE (cE ⟨wr (s1+1),G,hL,rfl,q,g.t.f5.f5.f5.f5.f5.f5,E,c,f,l,b,k⟩)
    intro o5 i K;refine aA 4 [(96,vB (!(y6.1.toList==y7.1.toList)))] (bC 96 i ?_ ?_)
    .intro A i;refine aA 4 [(100,vB true)] ?_;cases i;exact aU _ kr (K _ _ ⟨b7,rfl,(q.t Y).t H,g.f6.f6.f6.f6.f6.f6.f6,E,n.mono H,o.mono H,c,f,l,b,k⟩)
    intro A i;refine aA 4 [(100,vB (y6.2 !=y7.2))] ?_;cases i;exact aU _ kr (K _ _ ⟨b7,rfl,(q.t Y).t H,g.f6.f6.f6.f6.f6.f6.f6,E,n.mono H,o.mono H,c,f,l,b,k⟩)
   intro d1;refine cH _ kr (cG (fun k2 L' w'=>∃(s2:Int),∃Y,aI (zP N x1) k2 s2=some b9/\L'=[(1,vI p1),(3,vT p3),(9,vP F 0),(12,vP b6 0),(13,vI s2),(37,vS (aP S) ([y1.2,(p2.1,p2.2.1,a)]) 2),(38,vI (List.length ([y1.2,(p2.1,p2.2.1,a)]):Int)),(39,vI s1)]/\m.le Y/\St Y (kB b6 (V6 x1 U V y z) 29::kB b3 (V6 y1.2 p u s v) 29::kB F (V1 y1.1 M R) 25::kB Z #[vT p2.1,vS a2 p2.2.1 c2,vS B a D] 29::kR (aP S) ([y1.2,(p2.1,p2.2.1,a)]) 2 29 3::kR p y1.2.2.1 u 9 1::kR s y1.2.2.2 v 43 4::O) w'/\RepS C6 Y (aP S) 2 ([y1.2,(p2.1,p2.2.1,a)])/\RepS aH Y U V x1.2.1/\RepS C4 Y y z x1.2.2/\RepS aH Y p u y1.2.2.1/\RepS C4 Y s v y1.2.2.2/\RepS (aV .i64) Y M R y1.1.1/\RepS aH Y a2 c2 p2.2.1/\RepS C4 Y B D a) N ⟨(-1),m7,i,rfl,q,g.f6.f6.f6.f6.f6.f6.f6,E,n,o,c,f,l,b,k⟩ ?_);rintro k2 _ f9 ⟨s2,Y,hL,rfl,q,g,E,n,o,c,f,l,b,k⟩;rcases k2 with _|k2
   .exact cJ hL
   obtain⟨e2,i,d5,b7⟩:=cL hL;clear hL;unfold zP at i;refine aE (aT 2 [(43,vI s2),(44,vP b6 2)] (bE 45 (vS y x1.2.2 z) g.h (aF 2 [(47,vB (decide (s2<=(x1.2.2.length:Int))))] (aG i ?_ ?_))))
   .intro A i;refine aM (aD (aE (bA (aC (bE 51 (.agg (V6 x1 U V y z)) g.h (aA 1 [(52,vI s2)] (aK 53 i (JK (p0:=x1) g n o) ?_)))))));rintro y2 i _ g0 ⟨e0,rfl,e5,g⟩;refine aF 5 [(14,vT y2.1),(15,vI y2.2)] (aC (bE 57 (.agg (V6 x1 U V y z)) g.h (aA 1 [(58,vI s2)] (aK 59 i (LX (p0:=x1) g (n.mono e5) (o.mono e5)) ?_))));rintro y3 i _ g1 ⟨d3,rfl,e6,g⟩;have q:=(q.t e5).t e6;have E:=(E.mono e5).mono e6;have n:=(n.mono e5).mono e6;have o:=(o.mono e5).mono e6;have c:=(c.mono e5).mono e6;have f:=(f.mono e5).mono e6;have l:=(l.mono e5).mono e6;have b:=(b.mono e5).mono e6;have k:=(k.mono e5).mono e6
    refine aF 5 [(16,vT y3.1),(17,vI y3.2)] (aC (cU 19 i (fun o4 L' w'=>∃G,L'=[(1,vI p1),(3,vT p3),(9,vP F 0),(12,vP b6 0),(13,vI s2),(37,vS (aP S) ([(y1.2.1,y1.2.2.1,y1.2.2.2),(p2.1,p2.2.1,a)]) 2),(38,vI (List.length ([(y1.2.1,y1.2.2.1,y1.2.2.2),(p2.1,p2.2.1,a)]):Int)),(39,vI s1),(80,vB o4)]/\m.le G/\St G (kB b6 (V6 x1 U V y z) 29::kB b3 (V6 y1.2 p u s v) 29::kB F (V1 y1.1 M R) 25::kB Z #[vT p2.1,vS a2 p2.2.1 c2,vS B a D] 29::kR (aP S) ([(y1.2.1,y1.2.2.1,y1.2.2.2),(p2.1,p2.2.1,a)]) 2 29 3::kR p y1.2.2.1 u 9 1::kR s y1.2.2.2 v 43 4::O) w'/\RepS C6 G (aP S) 2 ([(y1.2.1,y1.2.2.1,y1.2.2.2),(p2.1,p2.2.1,a)])/\RepS aH G U V x1.2.1/\RepS C4 G y z x1.2.2/\RepS aH G p u y1.2.2.1/\RepS C4 G s v y1.2.2.2/\RepS (aV .i64) G M R y1.1.1/\RepS aH G a2 c2 p2.2.1/\RepS C4 G B D a) ?_ ?_))
    .rintro o4 i _ H ⟨G,rfl,q,g,E,n,o,c,f,l,b,k⟩;refine aQ (aG i ?_ ?_)
     .intro A i;refine aT 1 [(8,vB false)] ?_;refine aS rfl ?_;have g:=g.f4.t;refine aD (aJ (aZ (aL ?_)));have ho:=b7 _ (sI i);subst ho;have i:=j3;refine aL (aZ (aL (aZ (aL ?_))));have ho:=b0 _ (sI i);subst ho;have i:=j2;refine aL (aZ (aL ?_));cases i;exact aO [8] [vB false] ⟨G,rfl,q,g.t.t.t.t.t.t⟩
     intro A i;refine aM (bI (aD (aX (aA 3 [(13,vI (wr (s2+1)))] (aS rfl ?_)))));have hL:=d5 _ (sI i);exact xE (cE ⟨wr (s2+1),G,hL,rfl,q,g.f6.f6.f6.f6.f6.f6.f6,E,n,o,c,f,l,b,k⟩)
    intro o4 i K;refine aA 4 [(65,vB (!(y2.1.toList==y3.1.toList)))] (bC 65 i ?_ ?_)
    .intro A i;refine aA 15 [(80,vB true)] ?_;cases i;exact aU _ kr (K _ _ ⟨d3,rfl,q,g.f6.f6.f6.f6.f6.f6.f6,E,n,o,c,f,l,b,k⟩)
    intro A i;refine aA 5 [(70,vB (y2.2 !=y3.2))] (bC 70 i ?_ ?_)
    .intro A i;refine aA 10 [(80,vB true)] ?_;cases i;exact aU _ kr (K _ _ ⟨d3,rfl,q,g.f6.f6.f6.f6.f6.f6.f6,E,n,o,c,f,l,b,k⟩)
    intro A i;refine aA 1 [(71,vT y2.1)] (aK 72 i (EF g) ?_);rintro y4 i _ g2 ⟨d7,rfl,H,g⟩;refine aA 3 [(75,vB (!y4))] (bC 75 i ?_ ?_)
    .intro A i;refine aA 5 [(80,vB true)] ?_;cases i;exact aU _ kr (K _ _ ⟨d7,rfl,q.t H,g.f6.f6.f6.f6.f6.f6.f6,E.mono H,n.mono H,o.mono H,c.mono H,f.mono H,l.mono H,b.mono H,k.mono H⟩)
    intro A i;refine aA 1 [(76,vT y2.1)] (cM 77 i fun s3 i=>(aK 78 i (EF g) ?_));rintro y5 i _ g3 ⟨d8,rfl,e8,g⟩;refine aA 2 [(80,vB (!y5))] ?_;cases i;exact aU _ kr (K _ _ ⟨d8,rfl,(q.t H).t e8,g.f6.f6.f6.f6.f6.f6.f6,(E.mono H).mono e8,(n.mono H).mono e8,(o.mono H).mono e8,(c.mono H).mono e8,(f.mono H).mono e8,(l.mono H).mono e8,(b.mono H).mono e8,(k.mono H).mono e8⟩)
   intro A i;refine cD (bD ?_);have ho:=b7 _ (sI i);have g:=g.f6.f6.f6.f6.f6.f6.f6;refine bD ?_;exact xE (d1 _ _ ⟨(),Y,ho,rfl,q,g,E,n,o,c,f,l,b,k⟩)
  intro A i;refine cD (bD ?_);have ho:=b0 _ (sI i);have g:=g.f5.f5.f5.f5.f5.f5;refine bD ?_;exact xE (d0 _ _ ⟨(),m7,ho,rfl,q,g,c,f,l,b,k⟩)
 intro a i k;refine aG i ?_ ?_
 .intro A i;refine aX (bL 1 32 27 31 2 (vS a3 p2.2.2 c3) g.t.t.t.t.h ?_);have⟨z,y,i⟩:=aW i;refine bB rfl (FX (d:=33) (t:=27) (e:=43) (x:=(.tmp 32)) (lo:=none) (hi:=(some (.const (vI 6)))) C4 kr rfl (ev (vS a3 p2.2.2 c3)) kr (r3.mono e3) (.inl ⟨rfl,rfl⟩) (.inr ⟨_,_,rfl,(ev (vI 6))⟩) y ?_);intro n o E;refine aA 1 [(34,vP Z 2)] (dR #[vT p2.1,vS a2 p2.2.1 c2,vS n z o] g.f4 fun G g=>(aS rfl ?_));cases i;exact xE (k _ _ ⟨n,o,m3,rfl,q.t e3,g.f3.f3.f2.f4.f4,c,f,l,b.mono e3,E⟩)
 intro A i;refine aM ?_;cases i;exact xE (k _ _ ⟨a3,c3,m3,rfl,q.t e3,g.f2.f2.f4.f4.f4,c,f,l,b.mono e3,r3.mono e3⟩)
end
end Go.Proofs.YthiiggmmmoolbaaGreatDoor
section
namespace Go.Dc
theorem OK{σ β:Type}{f:σ->Option (σ⊕β)}(st:Nat->σ)(k:Nat)(res:β)(step:∀i,i<k->f (st i)=some (.inl (st (i+1))))(stop:f (st k)=some (.inr res)){N:Nat}(b:k<N):aI f N (st 0)=some res:=by
 have key:∀d i M,i+d=k->d<M->aI f M (st i)=some res:=by
  intro d
  induction d with
  |zero=>intro i M h a;obtain⟨M',rfl⟩:∃M',M=M'+1:=⟨M-1,by omega⟩;simp only[gP] at h;subst h;simp[aI,stop]
  |succ d c=>
   intro i M h a
   obtain⟨M',rfl⟩:∃M',M=M'+1:=⟨M-1,by omega⟩
   have:=c (i+1) M' (by omega) (by omega)
   simp[aI,step i (by omega),this]
 exact key k 0 N (by omega) b
section
variable {ν:Type}
theorem qFg{l:List (Int×ν)}{k c:Int}{v:ν}(h:c≠k):dP (l.map fun p=>if k=p.1 then(k,v) else p) c=dP l c:=by
 induction l with
 |nil=>rfl
 |cons p l a=>
  simp only[jZ,dP]
  by_cases hk:k=p.1
  .subst hk;rw[if_pos rfl,if_neg h,if_neg h,a]
  rw[if_neg hk,a]
theorem qEx{l:List (Int×ν)}{k:Int}{v:ν}(h:(dP l k).isSome=true):dP (l.map fun p=>if k=p.1 then(k,v) else p) k=some v:=by
 induction l with
 |nil=>cases h
 |cons p l a=>
  simp only[jZ,dP] at h ⊢
  by_cases hk:k=p.1
  .subst hk;simp
  rw[if_neg hk] at h ⊢
  rw[if_neg hk]
  exact a h
theorem qHg{l:List (Int×ν)}{k:Int}{v:ν}(h:dP l k=none)(c:Int):dP (mins l k v) c=if c=k then some v else dP l c:=by
 induction l with
 |nil=>rfl
 |cons p l a=>
  simp only[dP] at h
  split at h
  .cases h
  rename_i hk
  simp only[mins]
  split
  .simp only[dP]
  simp only[dP,a h]
  by_cases hc:c=k
  .subst hc;simp[hk]
  simp[hc]
theorem qHj(l:List (Int×ν))(k:Int)(v:ν)(c:Int):dP (mset l k v) c=if c=k then some v else dP l c:=by
 unfold mset
 split
 .rename_i h
  split
  .rename_i hc;subst hc;exact qEx h
  rename_i hc;exact qFg hc
 rename_i h
 exact qHg (by simpa using h) c
def Srt(l:List (Int×ν)):Prop:=(l.map (·.1)).Pairwise (· < ·)
theorem Srt.nil:Srt ([]:List (Int×ν)):=List.Pairwise.nil
theorem Srt.mins{l:List (Int×ν)}{k:Int}{v:ν}(d:Srt l)(h:dP l k=none):Srt (mins l k v):=by
 induction l with
 |nil=>simp[Srt,Go.Dc.mins]
 |cons p l f=>
  have hs':=d
  simp only[Srt,jZ,hD] at d
  simp only[dP] at h
  split at h
  .cases h
  rename_i hk
  simp only[Go.Dc.mins]
  split
  .rename_i b
   have b:k<p.1:=by simpa[KOrd.lt] using b
   refine hD.2 ⟨fun a c=> ?_,hs'⟩
   simp only[jZ,jV] at c
   rcases c with rfl|c
   .exact b
   exact Int.lt_trans b (d.1 a c)
  rename_i b
  have b:¬k<p.1:=by simpa[KOrd.lt] using b
  refine hD.2 ⟨fun a c=> ?_,f d.2 h⟩
  obtain⟨q,e,rfl⟩:=fX.1 c
  rcases jV.1 ((UZ l k v).mem_iff.1 e) with rfl|e
  .show p.1<k;omega
  exact d.1 _ (gV e)
theorem Srt.mset{l:List (Int×ν)}(a:Srt l)(k:Int)(v:ν):Srt (mset l k v):=by
 unfold Go.Dc.mset
 split
 .unfold Srt
  have:(l.map fun p=>if k=p.1 then(k,v) else p).map (·.1)=l.map (·.1):=by
   rw[List.map_map]
   refine List.map_congr_left fun p _=> ?_
   simp only[Function.comp_apply]
   split
   .rename_i h;exact h
   rfl
  rw[this];exact a
 rename_i h
 exact a.mins (by simpa using h)
theorem Srt.out{l:List (Int×ν)}{c:Int}(h:∀a∈l.map (·.1),c<a):dP l c=none:=by
 rw[OC];intro b;exact Int.lt_irrefl _ (h c b)
theorem Srt.ext:∀{l k:List (Int×ν)},Srt l->Srt k->(∀c,dP l c=dP k c)->l=k
 |[],[],_,_,_=>rfl
 |[],q::k,_,_,h=>by have:=h q.1;simp[dP] at this
 |p::l,[],_,_,h=>by have:=h p.1;simp[dP] at this
 |p::l,q::k,n,g,h=>by
  have hl':(∀a∈l.map (·.1),p.1<a)/\Srt l:=hD.1 n
  have hk':(∀a∈k.map (·.1),q.1<a)/\Srt k:=hD.1 g
  have e:p.1=q.1:=by
   rcases Int.lt_trichotomy p.1 q.1 with d|f|d
   .have:=h p.1
    rw[Srt.out (l:=q::k) (c:=p.1)] at this
    .simp[dP] at this
    intro a b
    rcases jV.1 b with rfl|b
    .exact d
    exact Int.lt_trans d (hk'.1 a b)
   .exact f
   have:=h q.1
   rw[Srt.out (l:=p::l) (c:=q.1)] at this
   .simp[dP] at this
   intro a b
   rcases jV.1 b with rfl|b
   .exact d
   exact Int.lt_trans d (hl'.1 a b)
  have d:p.2=q.2:=by have:=h p.1;simpa[dP,e] using this
  have f:l=k:=by
   refine Srt.ext hl'.2 hk'.2 fun c=> ?_
   by_cases hc:c=p.1
   .rw[Srt.out (l:=l) (fun a b=>hc▸hl'.1 a b),Srt.out (l:=k) (fun a b=>by rw[hc,e];exact hk'.1 a b)]
   have:=h c
   simpa[dP,hc,e▸hc] using this
  rw[f,Prod.ext e d]
def pM(v:ν)(m:List (Int×ν))(xs:List UInt8):List (Int×ν):=xs.foldl (fun m x=>mset m (x.toNat:Int) v) m
theorem TW{v:ν}:∀{xs:List UInt8} {m:List (Int×ν)},Srt m->Srt (pM v m xs)
 |[],_,h=>h
 |_::xs,_,h=>TW (xs:=xs) (h.mset _ _)
theorem TL{v:ν}(c:Int):∀(xs:List UInt8) (m:List (Int×ν)),dP (pM v m xs) c=if xs.any (fun x=>decide ((x.toNat:Int)=c))=true then some v else dP m c
 |[],m=>by simp[pM]
 |x::xs,m=>by
  have:=TL (v:=v) c xs (mset m (x.toNat:Int) v)
  rw[show pM v m (x::xs)=pM v (mset m (x.toNat:Int) v) xs from rfl,this,qHj]
  by_cases h1:xs.any (fun x=>decide ((x.toNat:Int)=c))=true
  .simp[h1]
  by_cases h2:(x.toNat:Int)=c
  .subst h2;simp[h1]
  have a:¬c=(x.toNat:Int):=fun e=>h2 e.symm
  simp[h1,h2,a]
end
end Go.Dc
namespace Go.Proofs.YthiiggmmmoolbaaGreatDoor
open Go Go.Dc
def allK:List (Int×BA):=[(1,⟨#[97,98,99,100,101,102,103,104,105,106,107,108,109,110,111,112,113,114,115,116,117,118,119,120,121,122]⟩),(2,⟨#[48,49,50,51,52,53,54,55,56,57]⟩),(3,⟨#[95]⟩),(4,⟨#[46]⟩),(5,⟨#[9,10,13,32]⟩),(6,⟨#[35]⟩),(7,⟨#[34]⟩),(8,⟨#[59,44,40,41,43,45,42,47,37,60,61]⟩)]
def kdL:List (Int×Int):=[(9,5),(10,5),(13,5),(32,5),(34,7),(35,6),(37,8),(40,8),(41,8),(42,8),(43,8),(44,8),(45,8),(46,4),(47,8),(48,2),(49,2),(50,2),(51,2),(52,2),(53,2),(54,2),(55,2),(56,2),(57,2),(59,8),(60,8),(61,8),(95,3),(97,1),(98,1),(99,1),(100,1),(101,1),(102,1),(103,1),(104,1),(105,1),(106,1),(107,1),(108,1),(109,1),(110,1),(111,1),(112,1),(113,1),(114,1),(115,1),(116,1),(117,1),(118,1),(119,1),(120,1),(121,1),(122,1)]
def rY(c:Int):Int:=(dP kdL c).getD 0
def tB(e:Int×BA)(c:Int):Bool:=e.2.data.toList.any fun x=>decide ((x.toNat:Int)=c)
def wL(m:List (Int×Int))(k:List (Int×BA)):List (Int×Int):=k.foldl (fun m e=>pM e.1 m e.2.data.toList) m
theorem VU:∀{k:List (Int×BA)} {m:List (Int×Int)},Srt m->Srt (wL m k)
 |[],_,h=>h
 |_::k,_,h=>VU (k:=k) (TW h)
theorem WR(c:Int):∀(k:List (Int×BA)) (m:List (Int×Int)),(∀e∈k,tB e c=true->e.1=rY c)->(∀v,dP m c=some v->v=rY c)->
  dP (wL m k) c=if(k.any fun e=>tB e c)=true then some (rY c) else dP m c
 |[],m,_,_=>by simp[wL]
 |e::k,m,h,f=>by
  have b:=TL (v:=e.1) c e.2.data.toList m
  have:=WR c k (pM e.1 m e.2.data.toList) (fun e' d=>h e' (jX _ d)) (fun v a=>by
   rw[b] at a
   split at a
   .rename_i hi
    rw[<-jG a]
    exact h e (jS ..) hi
   exact f v a)
  rw[show wL m (e::k)=wL (pM e.1 m e.2.data.toList) k from rfl,this,b]
  by_cases h1:(k.any fun e=>tB e c)=true
  .simp[h1]
  by_cases h2:tB e c=true
  .have:=h e (jS ..) h2
   have h2':(e.2.data.toList.any fun x=>decide ((x.toNat:Int)=c))=true:=h2
   simp only[fZ,h2,Bool.true_or,jH,h1,h2',this]
   simp
  have h2':(e.2.data.toList.any fun x=>decide ((x.toNat:Int)=c))=false:=by simpa[tB] using h2
  simp only[fZ,h1,h2',Bool.or_false,jB,jF]
  simp[h2]
theorem WZ:(allK.all fun e=>e.2.data.toList.all fun x=>decide (e.1=rY (x.toNat:Int)))=true/\(kdL.all fun p=>allK.any fun e=>tB e p.1)=true:=⟨by kernel_rfl,by kernel_rfl⟩
theorem ZL{e:Int×BA}{c:Int}(d:e∈allK)(h:tB e c=true):e.1=rY c:=by
 have:=jW.1 WZ.1 e d
 obtain⟨x,f,a⟩:=fH.1 h
 have b:=jW.1 this x f
 have a:(x.toNat:Int)=c:=by simpa using a
 subst a
 simpa using b
theorem qKv(c:Int):dP kdL c=if(allK.any fun e=>tB e c)=true then some (rY c) else none:=by
 cases h:dP kdL c with
 |none=>
  rw[if_neg]
  intro f
  obtain⟨e,a,hi⟩:=fH.1 f
  have d:=ZL a hi
  have b:rY c=0:=by simp[rY,h]
  have:(allK.all fun e=>decide (e.1≠0))=true:=by kernel_rfl
  have:=jW.1 this e a
  simp[d,b] at this
 |some v=>
  have a:(c,v)∈kdL:=(OU (l:=kdL) (by
   have:decide ((kdL.map (·.1)).Nodup)=true:=by kernel_rfl
   simpa using this)).1 h
  have:=jW.1 WZ.2 _ a
  rw[if_pos this]
  simp[rY,h]
theorem qLc:Srt kdL:=by
 have:decide ((kdL.map (·.1)).Pairwise (· < ·))=true:=by kernel_rfl
 simpa[Srt] using this
theorem qHt{k:List (Int×BA)}(h:k.Perm allK):wL [] k=kdL:=by
 refine Srt.ext (VU Srt.nil) qLc fun c=> ?_
 rw[WR c k [] (fun e a hi=>ZL (h.mem_iff.1 a) hi) (fun v b=>by cases b),qKv]
 have:(k.any fun e=>tB e c)=(allK.any fun e=>tB e c):=by
  rw[kC,fH,fH]
  exact⟨fun⟨e,a,hi⟩=>⟨e,h.mem_iff.1 a,hi⟩,fun⟨e,a,hi⟩=>⟨e,h.mem_iff.2 a,hi⟩⟩
 rw[this]
 rfl
theorem qJx{N:Nat}{e:Int×BA}(m:List (Int×Int))(d:e.2.size<=26)(c:30<N):sH N (some e) (some m)=some (.inl (some (pM e.1 m e.2.data.toList))):=by
 have b:e.2.data.toList.length=e.2.size:=by simp
 have a:vW e.2=some e.2.data.toList:=by unfold vW;rw[if_pos (by simp only[maxLen];omega)]
 simp only[sH,a,j0]
 have key:=OK (f:=BH N e e.2.data.toList) (fun i=>((i:Int),some (pM e.1 m (e.2.data.toList.take i)))) e.2.data.toList.length (some (pM e.1 m e.2.data.toList)) (fun i hi=> ?_) ?_ (N:=N) (by omega)
 .simp only[Int.natCast_zero,List.take_zero] at key
  rw[show pM e.1 m []=m from rfl] at key
  rw[key];rfl
 .simp only[BH]
  rw[if_pos (by simpa using hi),dX hi]
  simp only[j0,iH,kP]
  rw[bQ (by omega) (by omega),gG hi]
  simp[pM]
 simp only[BH]
 rw[if_neg (by simp),gQ]
theorem TZ{N:Nat}(a:30<N):∀(k:List (Int×BA)) (m:List (Int×Int)),(∀e∈k,e.2.size<=26)->lW (sH N) k (some m)=some (some (wL m k))
 |[],m,_=>by simp[lW,sH,wL]
 |e::k,m,h=>by
  have:=TZ a k (pM e.1 m e.2.data.toList) (fun e' b=>h e' (jX _ b))
  simp only[lW,qJx m (h e (jS ..)) a,j0,this]
  rfl
theorem OJ{N:Nat}(d:30<N):yJ N=some (some kdL):=by
 have c:∀e∈allK,e.2.size<=26:=by
  have:(allK.all fun e=>decide (e.2.size<=26))=true:=by kernel_rfl
  intro e a
  simpa using jW.1 this e a
 have key:uF (sH N) allK (some [])=some (some kdL):=VH fun k b=>by
  rw[TZ d k [] (fun e a=>c e (b.mem_iff.1 a)),qHt b]
 have a:yJ N=(uF (sH N) allK (some [])).bind fun f=>some f:=by kernel_rfl
 rw[a,key];rfl
end Go.Proofs.YthiiggmmmoolbaaGreatDoor
end
namespace Go.Proofs.YthiiggmmmoolbaaGreatDoor
section
open Go Go.Dc
theorem iC(s:BA):s.data.toList.length=s.size:=by simp
theorem lV{s:BA}{i:Nat}(h:i<s.data.toList.length):eK s (i:Int)=some (s.data.toList[i]):=by
 have h':i<s.size:=by simpa using h
 rw[WL h']
 simp[ByteArray.getElem_eq_getElem_data]
def tw(p:UInt8->Bool)(l:List UInt8)(a:Nat):Nat:=a+((l.drop a).takeWhile p).length
section
variable {p:UInt8->Bool} {l:List UInt8} {a:Nat}
theorem nF(h:a<=l.length):a<=tw p l a/\tw p l a<=l.length:=by
 have:=(dF p (l:=l.drop a)).length_le
 simp only[kY] at this
 unfold tw;omega
theorem wA(h:a<l.length)(b:p l[a]=true):tw p l (a+1)=tw p l a:=by
 unfold tw
 rw[jN h,gS b]
 simp only[jD];omega
theorem wB(h:a<l.length)(b:p l[a]=false):tw p l a=a:=by
 unfold tw
 rw[jN h,fG (by simp[b])]
 simp
theorem CP(h:l.length<=a):tw p l a=a:=by
 unfold tw
 rw[jM h];rfl
theorem PU:∀(d a:Nat),a+d=l.length->∀h:tw p l a<l.length,p (l[tw p l a]'h)=false
 |0,a,c,h=>by rw[CP (by omega)] at h;omega
 |d+1,a,c,h=>by
  have b:a<l.length:=by omega
  cases hb:p l[a] with
  |true=>
   have e:=wA b hb
   have:=PU d (a+1) (by omega) (by rw[e];exact h)
   simpa only[e] using this
  |false=>
   have e:=wB b hb
   simpa only[e] using hb
theorem CF{β:Type}{f:Int->Option (Int⊕β)}(out:Nat->β)(go:∀i:Nat,∀h:i<l.length,p l[i]=true->f (i:Int)=some (.inl ((i:Int)+1)))
  (no:∀i:Nat,∀h:i<l.length,p l[i]=false->f (i:Int)=some (.inr (out i))) (en:f (l.length:Int)=some (.inr (out l.length))):
  ∀(d a N:Nat),a+d=l.length->d<N->aI f N (a:Int)=some (out (tw p l a))
 |d,a,0,_,h=>by omega
 |0,a,N+1,c,h=>by
  have:a=l.length:=by omega
  subst this
  rw[CP (jP _)];simp[aI,en]
 |d+1,a,N+1,c,h=>by
  have b:a<l.length:=by omega
  cases hb:p l[a] with
  |true=>
   have:=CF out go no en d (a+1) N (by omega) (by omega)
   rw[wA b hb] at this
   simpa[aI,go a b hb] using this
  |false=>
   rw[wB b hb];simp[aI,no a b hb]
end
def kd(c:UInt8):Int:=rY (c.toNat:Int)
def bV(ks:List Int)(c:UInt8):Bool:=ks.any fun k=>kd c==k
theorem TG{N:Nat}{s:BA}{ks:List Int}{i:Nat}(h:i<s.data.toList.length)(c:ks.length<=10)(b:10<N):aI (yD N s (some kdL) ks (i:Int)) N (false,0)=some (bV ks (s.data.toList[i])):=by
 have key:=OK (f:=yD N s (some kdL) ks (i:Int)) (fun j=>((ks.take j).any (fun k=>kd (s.data.toList[i])==k),(j:Int))) ks.length (bV ks (s.data.toList[i])) (fun j a=> ?_) ?_ (N:=N) (by omega)
 .simpa using key
 .simp only[yD]
  rw[if_pos (by simpa using a),dX a,lV h]
  simp only[j0]
  rw[bQ (by omega) (by omega),gG a,List.any_append]
  cases(ks.take j).any (fun k=>kd (s.data.toList[i])==k)
  .simp[kd,rY,cX]
  simp
 simp only[yD]
 rw[if_neg (by simp),gQ]
 rfl
theorem GM{N:Nat}{s:BA}{ks:List Int}{i:Nat}(hi:i<=s.data.toList.length)(e:s.data.toList.length<1000000)(c:ks.length<=10)(d:s.data.toList.length+10<N):
  sL N s (i:Int) (some kdL) ks=some ((tw (bV ks) s.data.toList i:Nat):Int):=by
 have g:=iC s
 have key:=CF (f:=yE N s (some kdL) ks) (l:=s.data.toList) (p:=bV ks) (fun n=>(n:Int)) (fun j b a=>by
   simp only[yE]
   rw[if_pos (by simp only[jA];omega),TG b c (by omega),a]
   simp only[j0]
   rw[bQ (by omega) (by omega)]
   rfl) (fun j b a=>by
   simp only[yE]
   rw[if_pos (by simp only[jA];omega),TG b c (by omega),a]
   rfl) (by
   simp only[yE]
   rw[if_neg (by simp only[jA];omega)]) (s.data.toList.length-i) i N (by omega) (by omega)
 unfold sL
 rw[key]
 rfl
theorem PV(c:UInt8):(cX (some kdL) (c.toNat:Int)).getD 0=kd c:=rfl
theorem lE{l:List UInt8}{i:Nat}(h:i<l.length):l.getD i 0=l[i]:=by simp[kO,h]
theorem WF{β:Type}{p:UInt8->Bool}{l:List UInt8}{a0:Nat}{f:Int->Option (Int⊕β)}(out:Nat->β)(go:∀i:Nat,∀h:i<l.length,p l[i]=true->f (i:Int)=some (.inl ((i:Int)+1)))
  (no:∀i:Nat,∀h:i<l.length,a0<=i->p l[i]=false->f (i:Int)=some (.inr (out i))) (en:f (l.length:Int)=some (.inr (out l.length))):
  ∀(d a N:Nat),a0<=a->a+d=l.length->d<N->aI f N (a:Int)=some (out (tw p l a))
 |d,a,0,_,_,h=>by omega
 |0,a,N+1,_,e,h=>by
  have:a=l.length:=by omega
  subst this
  rw[CP (jP _)];simp[aI,en]
 |d+1,a,N+1,c,e,h=>by
  have b:a<l.length:=by omega
  cases hb:p l[a] with
  |true=>
   have:=WF out go no en d (a+1) N (by omega) (by omega) (by omega)
   rw[wA b hb] at this
   simpa[aI,go a b hb] using this
  |false=>
   rw[wB b hb];simp[aI,no a b c hb]
def HQ(n:Int)(c:UInt8):Int:=if 9007199254740993<10*n+((c.toNat:Int)-48) then 9007199254740993 else 10*n+((c.toNat:Int)-48)
def pB(ds:List UInt8):Int:=ds.foldl HQ 0
def oN(c:UInt8):Bool:=decide (32<=c.toNat)&&decide (c.toNat<=126)&&c !=34
def wF:Int×BA×Int×Int:=(0,⟨#[]⟩,0,0)
def rC(l:List UInt8)(i:Nat):Nat:=if l.getD i 0=61/\l.getD (i+1) 0=61 then i+2 else i+1
def eJ(s:BA)(i:Nat):(Int×BA×Int×Int)×Int×Int:=
 if kd (s.data.toList.getD i 0)=1 then
  if tw (bV [1,2,3]) s.data.toList i-i>24 then(wF,0,2) else((1,s.extract i (tw (bV [1,2,3]) s.data.toList i),0,0),((tw (bV [1,2,3]) s.data.toList i:Nat):Int),0)
 else if kd (s.data.toList.getD i 0)=2 then
  if pB ((s.data.toList.drop i).takeWhile (bV [2]))>9007199254740992 then(wF,0,3) else((2,⟨#[]⟩,pB ((s.data.toList.drop i).takeWhile (bV [2])),0),((tw (bV [2]) s.data.toList i:Nat):Int),0)
 else if kd (s.data.toList.getD i 0)=7 then
  if s.data.toList.getD (tw oN s.data.toList (i+1)) 0=34 then((3,s.extract (i+1) (tw oN s.data.toList (i+1)),0,0),((tw oN s.data.toList (i+1)+1:Nat):Int),0) else(wF,0,9)
 else if kd (s.data.toList.getD i 0)=8 then
  ((4,s.extract i (rC s.data.toList i),0,0),((rC s.data.toList i:Nat):Int),0)
 else(wF,0,9)
theorem OS:∀c:UInt8,kd c=2->48<=c.toNat/\c.toNat<=57:=by
 have h:((List.range 256).all fun n=> !(decide (kd (UInt8.ofNat n)=2))||(decide (48<=n)&&decide (n<=57)))=true:=by kernel_rfl
 intro c a
 have:=jW.1 h c.toNat (fK.2 c.toNat_lt)
 simpa[a] using this
theorem qDs{s:BA}{p:UInt8->Bool}{i:Nat}:(s.extract i (tw p s.data.toList i)).data.toList=(s.data.toList.drop i).takeWhile p:=by
 simp only[ByteArray.data_extract,fO]
 have h:=List.prefix_iff_eq_take.1 (List.takeWhile_prefix p (l:=s.data.toList.drop i))
 rw[gW,show tw p s.data.toList i-i=((s.data.toList.drop i).takeWhile p).length by unfold tw;omega]
 exact h.symm
theorem NX(l:List UInt8)(c:UInt8):pB (l++[c])=HQ (pB l) c:=by simp[pB]
theorem LC{p:UInt8->Bool}:∀{l:List UInt8} {c:UInt8},c∈l.takeWhile p->p c=true
 |[],_,h=>by simp at h
 |x::l,c,h=>by
  cases hx:p x with
  |true=>
   rw[gS hx] at h
   rcases jV.1 h with rfl|h
   .exact hx
   exact LC h
  |false=>rw[fG (by simp[hx])] at h;cases h
theorem qJf{N:Nat}{ds:List UInt8}(b:∀c∈ds,kd c=2)(k:ds.length<1000000)(h:ds.length<N):aI (yA N ds) N (0,0)=some (pB ds):=by
 have d:∀j,j<=ds.length->0<=pB (ds.take j)/\pB (ds.take j)<=9007199254740993:=by
  intro j
  induction j with
  |zero=>intro _;simp[pB]
  |succ j g=>
   intro a
   have:=g (by omega)
   rw[gG (by omega)]
   have e:=OS _ (b _ (jR (show j<ds.length by omega)))
   rw[NX]
   unfold HQ
   split<;>omega
 have key:=OK (f:=yA N ds) (fun j=>(pB (ds.take j),(j:Int))) ds.length (pB ds) (fun j a=> ?_) ?_ (N:=N) (by omega)
 .exact key
 .have e:=OS _ (b _ (jR a))
  have g:=d j (by omega)
  simp only[yA]
  rw[if_pos (by simpa using a),dX a]
  simp only[j0]
  rw[wu8 (by omega) (by omega),bQ (x:=10*pB (ds.take j)) (by omega) (by omega),bQ (x:=((ds[j]).toNat:Int)-48) (by omega) (by omega),bQ (x:=(j:Int)+1) (by omega) (by omega),bQ (by omega) (by omega),gG a,NX]
  rfl
 simp only[yA]
 rw[if_neg (by simp),gQ]
theorem rL{s:BA}{i e:Nat}(a:i<=e)(b:e<=s.data.toList.length):lN s (i:Int) (e:Int)=some (s.extract i e):=by
 have:=iC s
 rw[FV (by omega) (by omega) (by omega)]
 simp
theorem qLt{N:Nat}{s:BA}{i j:Nat}(c:j<s.data.toList.length)(g:s.data.toList.length<1000000)(a:oN (s.data.toList[j])=true):tP N s (i:Int) (j:Int)=some (.inl ((j:Int)+1)):=by
 have h:=iC s
 simp only[oN,jK,jA,fP,ne_eq] at a
 obtain⟨⟨d,f⟩,b⟩:=a
 have h3':¬((s.data.toList[j]).toNat:Int)=34:=fun e=>b (UInt8.toNat_inj.1 (by show _=34;omega))
 simp only[tP,lV c,j0]
 rw[if_pos (by simp only[jA];omega),if_pos (by simp only[jA];omega)]
 simp only[j0]
 rw[if_pos (by simp only[jA];omega),if_neg (by simpa using h3'),bQ (by omega) (by omega)]
theorem qLr{N:Nat}{s:BA}{i j:Nat}(hi:i<s.data.toList.length)(b:j<s.data.toList.length)(d:s.data.toList.length<1000000)(a:i+1<=j)(c:oN (s.data.toList[j])=false):
  tP N s (i:Int) (j:Int)=some (.inr (if s.data.toList.getD j 0=34 then(.inr ((3,s.extract (i+1) j,0,0),((j+1:Nat):Int),0)) else(.inl ()))):=by
 have f:=iC s
 simp only[tP,lV b,j0,lE b]
 rw[if_pos (by simp only[jA];omega)]
 by_cases h34:s.data.toList[j]=34
 .rw[h34]
  simp only[show((34:UInt8).toNat:Int)=34 from rfl]
  rw[bQ (x:=(i:Int)+1) (by omega) (by omega),bQ (by omega) (by omega),<-gM,rL a (by omega)]
  rfl
 have h3':¬((s.data.toList[j]).toNat:Int)=34:=fun e=>h34 (UInt8.toNat_inj.1 (by show _=34;omega))
 rw[if_neg h34]
 simp only[oN,Bool.and_eq_false_iff,decide_eq_false_iff_not,bne_eq_false_iff_eq,h34,or_false] at c
 by_cases h1:32<=(s.data.toList[j]).toNat
 .rw[if_pos (by simp only[jA];omega)]
  simp only[j0]
  rw[if_neg (by simp only[jA];omega)]
 rw[if_neg (by simp only[jA];omega)]
 simp
theorem NI{s:BA}{i:Nat}(a:i<=s.data.toList.length):lN s (i:Int) (s.size:Int)=some (s.extract i s.data.toList.length):=by
 have b:=iC s
 rw[<-rL a (jP _),b]
theorem iQ(x y:BA):(x.toList==y.toList)=decide (x=y):=by
 rw[kC]
 simp only[kD,jA]
 constructor
 .intro h
  rw[ByteArray.toList_eq,ByteArray.toList_eq] at h
  exact Go.WideShapes.bytes_inj h
 rintro rfl;rfl
theorem qHm{N:Nat}{s:BA}{i:Nat}(hi:i<s.data.toList.length):FJ N (s.extract i s.data.toList.length) (⟨#[61,61]⟩:BA)=some (decide (s.data.toList.getD i 0=61/\s.data.toList.getD (i+1) 0=61)):=by
 have g:=iC s
 have b:(s.extract i s.data.toList.length).size=s.data.toList.length-i:=by rw[ByteArray.size_extract];omega
 simp only[FJ,IP,b,show(⟨#[61,61]⟩:BA).size=2 from rfl]
 by_cases h:i+1<s.data.toList.length
 .have a:((s.extract i s.data.toList.length).extract 0 2).data.toList=[s.data.toList[i],s.data.toList[i+1]]:=by
   simp only[ByteArray.data_extract,fO,gW,jT]
   rw[List.take_take,jN hi,jN h]
   have:min (2-0) (s.data.toList.length-i)=2:=by omega
   rw[this];rfl
  have c:lN (s.extract i s.data.toList.length) 0 ((2:Nat):Int)=some ((s.extract i s.data.toList.length).extract 0 2):=by
   have:=rL (s:=s.extract i s.data.toList.length) (i:=0) (e:=2) (by omega) (by rw[iC,b];omega)
   simpa only[Int.natCast_zero] using this
  rw[if_pos (by simp only[jA];omega),c]
  simp only[j0,iQ]
  rw[lE hi,lE h]
  generalize (s.extract i s.data.toList.length).extract 0 2=X at a
  refine congrArg some (decide_eq_decide.2 ?_)
  constructor
  .intro e
   rw[e] at a
   have hd':[(61:UInt8),61]=[s.data.toList[i],s.data.toList[i+1]]:=a
   simp only[kV,and_true] at hd'
   exact⟨hd'.1.symm,hd'.2.symm⟩
  rintro⟨d,f⟩
  apply Go.WideShapes.bytes_inj
  rw[a,d,f]
 rw[if_neg (by simp only[jA];omega)]
 have a:s.data.toList.getD (i+1) 0=0:=by rw[kO,List.getElem?_eq_none (by omega)];rfl
 rw[a]
 simp
theorem qJm{N:Nat}{s:BA}{i:Nat}(hi:i<s.data.toList.length)(d:s.data.toList.length<1000000)(r:s.data.toList.length+20<N):FU N s (i:Int) (some kdL)=some (eJ s i):=by
 have t:=iC s
 simp only[FU,lV hi,j0,PV,eJ,lE hi,kD]
 by_cases h1:kd (s.data.toList[i])=1
 .simp only[h1,jH]
  have b:=nF (p:=bV [1,2,3]) (l:=s.data.toList) (a:=i) (by omega)
  rw[GM (by omega) d (by simp) (by omega)]
  simp only[j0]
  rw[bQ (by omega) (by omega),rL b.1 b.2]
  by_cases h:tw (bV [1,2,3]) s.data.toList i-i>24
  .rw[if_pos (by simp only[jA];omega),if_pos h];rfl
  rw[if_neg (by simp only[jA];omega),if_neg h];rfl
 simp only[h1,jF]
 by_cases h2:kd (s.data.toList[i])=2
 .simp only[h2,jH]
  have b:=nF (p:=bV [2]) (l:=s.data.toList) (a:=i) (by omega)
  have q:=iC (s.extract i (tw (bV [2]) s.data.toList i))
  have k:=qDs (s:=s) (p:=bV [2]) (i:=i)
  have o:((s.data.toList.drop i).takeWhile (bV [2])).length<=s.data.toList.length:=by
   have:=(dF (bV [2]) (l:=s.data.toList.drop i)).length_le
   simp only[kY] at this;omega
  rw[GM (by omega) d (by simp) (by omega)]
  simp only[j0]
  rw[rL b.1 b.2]
  simp only[j0]
  have g:vW (s.extract i (tw (bV [2]) s.data.toList i))=some ((s.data.toList.drop i).takeWhile (bV [2])):=by
   unfold vW;rw[<-k,if_pos];rw[<-q,k];simp only[maxLen];omega
  rw[g]
  simp only[j0]
  rw[qJf (fun c n=> ?_) (by omega) (by omega)]
  .simp only[j0,jA]
   split<;>rfl
  have:=LC n
  simpa[bV] using this
 simp only[h2,jF]
 by_cases h7:kd (s.data.toList[i])=7
 .simp only[h7,jH]
  have key:=WF (a0:=i+1) (f:=tP N s (i:Int)) (l:=s.data.toList) (p:=oN) (fun e=>if s.data.toList.getD e 0=34 then(.inr ((3,s.extract (i+1) e,0,0),((e+1:Nat):Int),0)) else(.inl ()))
   (fun j k b=>qLt k d b) (fun j k g b=>qLr hi k d g b) (by
    simp only[tP]
    rw[if_neg (by simp only[jA];omega),if_neg (by simp)]
    rfl) (s.data.toList.length-(i+1)) (i+1) N (jP _) (by omega) (by omega)
  rw[bQ (x:=(i:Int)+1) (by omega) (by omega),<-gM,key]
  simp only[j0]
  split
  .rename_i h;split at h<;>simp_all [wF]
  rename_i h;split at h<;>simp_all
 simp only[h7,jF]
 by_cases h8:kd (s.data.toList[i])=8
 .simp only[h8,jH]
  rw[NI (by omega),bQ (x:=(i:Int)+1) (by omega) (by omega)]
  simp only[j0]
  rw[qHm hi]
  simp only[j0,jA]
  by_cases h:s.data.toList.getD i 0=61/\s.data.toList.getD (i+1) 0=61
  .have k:i+1<s.data.toList.length:=by
    rcases fW (i+1) s.data.toList.length with h'|h'
    .exact h'
    have g:s.data.toList.getD (i+1) 0=0:=by rw[kO,List.getElem?_eq_none h'];rfl
    rw[g] at h;exact absurd h.2 (by decide)
   have b:rC s.data.toList i=i+2:=by rw[rC,if_pos h]
   rw[if_pos h,bQ (by omega) (by omega),b]
   simp only[j0]
   rw[show((i:Int)+1+1)=((i+2:Nat):Int) by omega,rL (by omega) (by omega)]
   rfl
  have b:rC s.data.toList i=i+1:=by rw[rC,if_neg h]
  rw[if_neg h,b]
  simp only[j0]
  rw[<-gM,rL (by omega) (by omega)]
  rfl
 simp only[h8,jF]
 rfl
theorem ZI{p:UInt8->Bool}{l:List UInt8}(h:∀c∈l,p c=true):tw p l 0=l.length:=by
 unfold tw
 have:l.takeWhile p=l:=by
  induction l with
  |nil=>rfl
  |cons c l b=>rw[gS (h c (jS ..)),b fun d a=>h d (jX _ a)]
 simp[this]
abbrev bP:=Int×BA×Int×Int
theorem VY{ks:List Int}{k:Int}{c:UInt8}(a:k∈ks)(h:kd c=k):bV ks c=true:=by
 unfold bV;exact fH.2 ⟨k,a,by simp[h]⟩
theorem yX{p:UInt8->Bool}{l:List UInt8}{a:Nat}(h:a<l.length)(b:p l[a]=true):a<tw p l a:=by
 rw[<-wA h b];have:=(nF (p:=p) (l:=l) (a:=a+1) (by omega)).1;omega
theorem GE{l:List UInt8}{i:Nat}(h:l.getD i 0≠0):i<l.length:=by
 rcases fW i l.length with h'|h'
 .exact h'
 exfalso;apply h;rw[kO,List.getElem?_eq_none h'];rfl
theorem KP{s:BA}{i:Nat}(hi:i<s.data.toList.length)(h:(eJ s i).2.2=0):∃e:Nat,(eJ s i).2.1=(e:Int)/\i<e/\e<=s.data.toList.length/\
  (((eJ s i).1.1=1\/(eJ s i).1.1=4)/\(eJ s i).1.2.1=s.extract i e\/(eJ s i).1.1=2/\(eJ s i).1.2.1=⟨#[]⟩\/(eJ s i).1.1=3/\(eJ s i).1.2.1.size+i<e):=by
 have d:=iC s
 unfold eJ at h ⊢
 rw[lE hi] at h ⊢
 by_cases h1:kd (s.data.toList[i])=1
 .rw[if_pos h1] at h ⊢
  split at h
  .cases h
  rename_i h24
  rw[if_neg h24]
  have b:=nF (p:=bV [1,2,3]) (l:=s.data.toList) (a:=i) (by omega)
  exact⟨_,rfl,yX hi (VY (by simp) h1),b.2,.inl ⟨.inl rfl,rfl⟩⟩
 rw[if_neg h1] at h ⊢
 by_cases h2:kd (s.data.toList[i])=2
 .rw[if_pos h2] at h ⊢
  split at h
  .cases h
  rename_i h24
  rw[if_neg h24]
  have b:=nF (p:=bV [2]) (l:=s.data.toList) (a:=i) (by omega)
  exact⟨_,rfl,yX hi (VY (by simp) h2),b.2,.inr (.inl ⟨rfl,rfl⟩)⟩
 rw[if_neg h2] at h ⊢
 by_cases h7:kd (s.data.toList[i])=7
 .rw[if_pos h7] at h ⊢
  split at h
  .rename_i h24
   rw[if_pos h24]
   have b:=nF (p:=oN) (l:=s.data.toList) (a:=i+1) (by omega)
   have c:tw oN s.data.toList (i+1)<s.data.toList.length:=GE (by rw[h24];decide)
   refine⟨_,rfl,by omega,by omega,.inr (.inr ⟨rfl,?_⟩)⟩
   simp only[ByteArray.size_extract]
   omega
  cases h
 rw[if_neg h7] at h ⊢
 by_cases h8:kd (s.data.toList[i])=8
 .rw[if_pos h8] at h ⊢
  refine⟨_,rfl,?_,?_,.inl ⟨.inr rfl,rfl⟩⟩
  .unfold rC;split<;>omega
  unfold rC
  split
  .rename_i hh
   have:i+1<s.data.toList.length:=GE (by rw[hh.2];decide)
   omega
  omega
 rw[if_neg h8] at h
 cases h
def eI(c:UInt8):Bool:=c !=10
def mF:Nat->BA->Nat->(Int×Int)⊕List bP
 |0,_,_=> .inr []
 |k+1,s,i=>
  if tw (bV [5]) s.data.toList i=s.data.toList.length then .inr [(5,⟨#[]⟩,0,(s.data.toList.length:Int))]
  else if kd (s.data.toList.getD (tw (bV [5]) s.data.toList i) 0)=6 then mF k s (tw eI s.data.toList (tw (bV [5]) s.data.toList i))
  else if(eJ s (tw (bV [5]) s.data.toList i)).2.2≠0 then .inl ((tw (bV [5]) s.data.toList i:Nat),(eJ s (tw (bV [5]) s.data.toList i)).2.2)
  else match mF k s (eJ s (tw (bV [5]) s.data.toList i)).2.1.toNat with
   | .inl x=> .inl x
   | .inr r=> .inr (((eJ s (tw (bV [5]) s.data.toList i)).1.1,(eJ s (tw (bV [5]) s.data.toList i)).1.2.1,(eJ s (tw (bV [5]) s.data.toList i)).1.2.2.1,((tw (bV [5]) s.data.toList i:Nat):Int))::r)
def uO(acc:List bP):(Int×Int)⊕List bP->List bP×Int×Int
 | .inl x=>([],x.1,x.2)
 | .inr r=>(acc++r,0,0)
def iS(s:BA):List bP×Int×Int:=if s.data.toList.length>16384 then([],0,2) else uO [] (mF (s.data.toList.length+1) s 0)
theorem qLx{s:BA}{i:Nat}(hi:i<=s.data.toList.length):
  (if pD (s.extract i s.data.toList.length) 10<0 then((s.data.toList.length-i:Nat):Int) else pD (s.extract i s.data.toList.length) 10)=((tw eI s.data.toList i-i:Nat):Int):=by
 have x:=iC s
 have n:(s.extract i s.data.toList.length).size=s.data.toList.length-i:=by rw[ByteArray.size_extract];omega
 have v:=nF (p:=eI) (l:=s.data.toList) (a:=i) hi
 have f:∀j,j<s.data.toList.length-i->(s.extract i s.data.toList.length)[j]! =s.data.toList.getD (i+j) 0:=by
  intro j b
  have hj':i+j<s.data.toList.length:=by omega
  rw[lE hj',getElem!_pos _ _ (by rw[n];exact b),ByteArray.getElem_extract]
  simp[ByteArray.getElem_eq_getElem_data]
 have g:∀d a,a+d=s.data.toList.length->∀j,a<=j->j<tw eI s.data.toList a->s.data.toList.getD j 0≠10:=by
  intro d
  induction d with
  |zero=>intro a o j b e;rw[CP (by omega)] at e;omega
  |succ d q=>
   intro a o j b e
   have c:a<s.data.toList.length:=by omega
   cases hc:eI (s.data.toList[a]) with
   |true=>
    rw[<-wA c hc] at e
    rcases Nat.eq_or_lt_of_le b with rfl|b
    .rw[lE c];simpa[eI] using hc
    exact q (a+1) (by omega) j b e
   |false=>rw[wB c hc] at e;omega
 have g:=g (s.data.toList.length-i) i (by omega)
 unfold pD
 rw[n]
 cases hf:(List.range (s.data.toList.length-i)).find? (fun j=>(s.extract i s.data.toList.length)[j]! ==(10:Int).toNat.toUInt8) with
 |none=>
  rw[List.find?_eq_none] at hf
  simp only
  rw[if_pos (by omega)]
  have:¬tw eI s.data.toList i<s.data.toList.length:=by
   intro c
   have b:=PU (p:=eI) (l:=s.data.toList) (s.data.toList.length-i) i (by omega) c
   have e:=hf (tw eI s.data.toList i-i) (fK.2 (by omega))
   rw[f _ (by omega),show i+(tw eI s.data.toList i-i)=tw eI s.data.toList i by omega,lE c] at e
   simp only[eI,bne_eq_false_iff_eq] at b
   rw[b] at e
   exact e (by decide)
  omega
 |some k=>
  have b:=List.find?_some hf
  have r:k<s.data.toList.length-i:=fK.1 (fL hf)
  simp only
  rw[if_neg (by omega)]
  rw[f k r] at b
  have b:s.data.toList.getD (i+k) 0=10:=by simpa using b
  have e:¬i+k<tw eI s.data.toList i:=fun h=>g (i+k) (by omega) h b
  have t:¬tw eI s.data.toList i<i+k:=by
   intro c
   have hlt':tw eI s.data.toList i<s.data.toList.length:=by omega
   have q:=PU (p:=eI) (l:=s.data.toList) (s.data.toList.length-i) i (by omega) hlt'
   have u:=List.not_of_lt_findIdx (xs:=List.range (s.data.toList.length-i)) (p:=fun j=>(s.extract i s.data.toList.length)[j]! ==(10:Int).toNat.toUInt8) (i:=tw eI s.data.toList i-i)
   have o:=(List.find?_range_eq_some.1 hf).2.2 (tw eI s.data.toList i-i) (by omega)
   rw[f _ (by omega),show i+(tw eI s.data.toList i-i)=tw eI s.data.toList i by omega,lE hlt'] at o
   simp only[eI,bne_eq_false_iff_eq] at q
   rw[q] at o
   simp at o
  omega
theorem NA{N:Nat}{s:BA}(n:s.data.toList.length<=16384)(g:s.data.toList.length+40<N):∀(k M i:Nat) (acc:List bP),i<=s.data.toList.length->s.data.toList.length<i+k->k<=M->acc.length<=i->
  aI (BC N s (some kdL)) M (acc,(i:Int))=some (uO acc (mF k s i))
 |0,_,i,_,f,o,_,_=>by omega
 |k+1,0,_,_,_,_,q,_=>by omega
 |k+1,M+1,i,acc,f,o,q,v=>by
  have y:=iC s
  have t:=nF (p:=bV [5]) (l:=s.data.toList) (a:=i) f
  simp only[aI,mF]
  have c:BC N s (some kdL) (acc,(i:Int))=if tw (bV [5]) s.data.toList i=s.data.toList.length then some (.inr (acc++[(5,⟨#[]⟩,0,(s.data.toList.length:Int))],0,0))
    else if kd (s.data.toList.getD (tw (bV [5]) s.data.toList i) 0)=6 then some (.inl (acc,((tw eI s.data.toList (tw (bV [5]) s.data.toList i):Nat):Int)))
    else if(eJ s (tw (bV [5]) s.data.toList i)).2.2≠0 then some (.inr ([],(tw (bV [5]) s.data.toList i:Nat),(eJ s (tw (bV [5]) s.data.toList i)).2.2))
    else some (.inl (acc++[((eJ s (tw (bV [5]) s.data.toList i)).1.1,(eJ s (tw (bV [5]) s.data.toList i)).1.2.1,(eJ s (tw (bV [5]) s.data.toList i)).1.2.2.1,((tw (bV [5]) s.data.toList i:Nat):Int))],(eJ s (tw (bV [5]) s.data.toList i)).2.1)):=by
   simp only[BC]
   rw[GM f (by omega) (by simp) (by omega)]
   simp only[j0]
   generalize hE:tw (bV [5]) s.data.toList i=e at t ⊢
   by_cases he:e=s.data.toList.length
   .rw[if_pos he,if_pos (by rw[kD];omega),lU (by simp only[jD,jE];omega) (by omega),he]
    rfl
   have b:e<s.data.toList.length:=by omega
   rw[if_neg he,if_neg (by rw[kD];omega),lV b]
   simp only[j0,PV,kD,lE b]
   by_cases h6:kd (s.data.toList[e])=6
   .rw[if_pos h6,if_pos h6,NI (by omega)]
    have h:=qLx (s:=s) (i:=e) (by omega)
    have d:=nF (p:=eI) (l:=s.data.toList) (a:=e) (by omega)
    have u:(if(decide (pD (s.extract e s.data.toList.length) 10<0))=true then(some (IntKind.wrap .i64 ((ByteArray.size s:Int)-(e:Int)))) else(some (pD (s.extract e s.data.toList.length) 10)):Option Int)=some ((tw eI s.data.toList e-e:Nat):Int):=by
     rw[<-h,bQ (by omega) (by omega)]
     by_cases hi:pD (s.extract e s.data.toList.length) 10<0
     .rw[if_pos (by simpa using hi),if_pos hi];congr 1;omega
     rw[if_neg (by simpa using hi),if_neg hi]
    simp only[j0,JI,zO]
    rw[u]
    simp only[j0]
    rw[bQ (by omega) (by omega)]
    congr 3;omega
   rw[if_neg h6,if_neg h6,qJm b (by omega) (by omega)]
   simp only[j0,fP]
   by_cases h0:(eJ s e).2.2≠0
   .rw[if_pos h0,if_pos h0]
   rw[if_neg h0,if_neg h0,lU (by simp only[jD,jE];omega) (by omega)]
   rfl
  rw[c]
  by_cases he:tw (bV [5]) s.data.toList i=s.data.toList.length
  .rw[if_pos he,if_pos he];rfl
  rw[if_neg he,if_neg he]
  have b:tw (bV [5]) s.data.toList i<s.data.toList.length:=by omega
  by_cases h6:kd (s.data.toList.getD (tw (bV [5]) s.data.toList i) 0)=6
  .rw[if_pos h6,if_pos h6]
   have d:=nF (p:=eI) (l:=s.data.toList) (a:=tw (bV [5]) s.data.toList i) (by omega)
   have h:=yX (p:=eI) b (by
    rw[lE b] at h6
    simp only[eI,fP,ne_eq]
    intro e;rw[e] at h6;exact absurd h6 (by decide))
   exact NA n g k M _ acc d.2 (by omega) (by omega) (by omega)
  rw[if_neg h6,if_neg h6]
  by_cases h0:(eJ s (tw (bV [5]) s.data.toList i)).2.2≠0
  .rw[if_pos h0,if_pos h0];rfl
  rw[if_neg h0,if_neg h0]
  obtain⟨e,d,u,h,_⟩:=KP b (by simpa using h0)
  rw[d]
  simp only[j0,jO]
  rw[NA n g k M e _ h (by omega) (by omega) (by simp;omega)]
  cases mF k s e with
  |inl x=>rfl
  |inr r=>simp[uO]
theorem qGy{N:Nat}{s:BA}(a:20000<N):FQ N s=some (iS s):=by
 have b:=iC s
 unfold FQ iS
 by_cases h:s.data.toList.length>16384
 .rw[if_pos (by simp only[jA];omega),if_pos h]
 rw[if_neg (by simp only[jA];omega),if_neg h,OJ (by omega)]
 have:=NA (N:=N) (s:=s) (by omega) (by omega) (s.data.toList.length+1) N 0 [] (by omega) (by omega) (by omega) (by simp)
 simp only[j0]
 rw[show((0:Nat):Int)=0 from rfl] at this
 rw[this]
 rfl
def wJ(t:bP):Int:=t.2.2.2+(t.2.1.size:Int)+(if t.1=2 then 1 else 0)
def QI(s:BA):Int->List bP->Prop
 |_,[]=>True
 |e,t::r=>e<=t.2.2.2/\t.2.2.2+(t.2.1.size:Int)<=s.size/\(t.1=5↔r=[])/\(t.1=1\/t.1=4->s.extract t.2.2.2.toNat (t.2.2.2+(t.2.1.size:Int)).toNat=t.2.1/\0<t.2.1.size)/\QI s (wJ t) r
theorem NE{s:BA}:∀(k i:Nat) (e:Int) (r:List bP),i<=s.data.toList.length->s.data.toList.length<i+k->e<=i->mF k s i= .inr r->QI s e r/\r≠[]/\r.length<=s.data.toList.length+1-i
 |0,i,e,r,A,G,H,c=>by omega
 |k+1,i,e,r,A,G,H,c=>by
  have M:=iC s
  have K:=nF (p:=bV [5]) (l:=s.data.toList) (a:=i) A
  simp only[mF] at c
  generalize hE:tw (bV [5]) s.data.toList i=a at K c
  split at c
  .obtain rfl:=(Sum.inr.inj c).symm
   refine⟨⟨by show e<=(s.data.toList.length:Int);omega,by show(s.data.toList.length:Int)+((0:Nat):Int)<=_;omega,by simp,fun h=>by simp at h,trivial⟩,by simp,by simp;omega⟩
  rename_i he
  have o:a<s.data.toList.length:=by omega
  split at c
  .rename_i h6
   have u:=nF (p:=eI) (l:=s.data.toList) (a:=a) (by omega)
   have d:=yX (p:=eI) o (by
    rw[lE o] at h6
    simp only[eI,fP,ne_eq]
    intro e;rw[e] at h6;exact absurd h6 (by decide))
   obtain⟨v,y,F⟩:=NE k _ e r u.2 (by omega) (by omega) c
   exact⟨v,y,by omega⟩
  split at c
  .cases c
  rename_i h0
  obtain⟨b,B,u,D,E⟩:=KP o (by simpa using h0)
  rw[B,jO] at c
  generalize (eJ s a).1=t at c E
  cases z:mF k s b with
  |inl x=>rw[z] at c;cases c
  |inr q=>
   rw[z] at c
   obtain rfl:=(Sum.inr.inj c).symm
   have g:(s.extract a b).size=b-a:=by rw[ByteArray.size_extract];omega
   have f:wJ (t.1,t.2.1,t.2.2.1,(a:Int))<=b/\(a:Int)+(t.2.1.size:Int)<=b/\t.1≠5/\(t.1=1\/t.1=4->t.2.1=s.extract a b):=by
    rcases E with ⟨n,d⟩|⟨n,d⟩|⟨n,d⟩
    .refine⟨?_,?_,by omega,fun _=>d⟩
     .simp only[wJ,d,g];rw[if_neg (by omega)];omega
     rw[d,g];omega
    .have:(⟨#[]⟩:BA).size=0:=rfl
     refine⟨?_,?_,by omega,fun h=>by omega⟩
     .simp only[wJ,d,this];rw[if_pos n];omega
     rw[d,this];omega
    refine⟨?_,by omega,by omega,fun h=>by omega⟩
    simp only[wJ];rw[if_neg (by omega)];omega
   obtain⟨v,y,F⟩:=NE k b (wJ (t.1,t.2.1,t.2.2.1,(a:Int))) q D (by omega) f.1 z
   refine⟨⟨by show e<=(a:Int);omega,?_,?_,?_,v⟩,by simp,by simp only[jD];omega⟩
   .show(a:Int)+(t.2.1.size:Int)<=_;omega
   .exact⟨fun h=>absurd h f.2.2.1,fun h=>absurd h y⟩
   intro h
   have:=f.2.2.2 h
   show s.extract (Int.toNat (a:Int)) ((a:Int)+(t.2.1.size:Int)).toNat=t.2.1/\0<t.2.1.size
   rw[this,g,jO,show((a:Int)+((b-a:Nat):Int)).toNat=b by omega]
   exact⟨rfl,by omega⟩
theorem OP{s:BA}:∀(k i:Nat) (x:Int×Int),i<=s.data.toList.length->s.data.toList.length<i+k->mF k s i= .inl x->0<=x.1/\x.1<=s.size/\x.2≠0
 |0,i,x,h,r,c=>by omega
 |k+1,i,x,h,r,c=>by
  have v:=iC s
  have t:=nF (p:=bV [5]) (l:=s.data.toList) (a:=i) h
  simp only[mF] at c
  generalize hE:tw (bV [5]) s.data.toList i=a at t c
  split at c
  .cases c
  rename_i he
  have d:a<s.data.toList.length:=by omega
  split at c
  .rename_i h6
   have f:=nF (p:=eI) (l:=s.data.toList) (a:=a) (by omega)
   have g:=yX (p:=eI) d (by
    rw[lE d] at h6
    simp only[eI,fP,ne_eq]
    intro e;rw[e] at h6;exact absurd h6 (by decide))
   exact OP k _ x f.2 (by omega) c
  split at c
  .rename_i h0
   obtain rfl:=Sum.inl.inj c
   exact⟨by simp only;omega,by simp only;omega,h0⟩
  rename_i h0
  obtain⟨b,n,f,o,u⟩:=KP d (by simpa using h0)
  rw[n,jO] at c
  cases g:mF k s b with
  |inl y=>rw[g] at c;obtain rfl:=Sum.inl.inj c;exact OP k b y o (by omega) g
  |inr q=>rw[g] at c;cases c
theorem wC{p:UInt8->Bool}(h:((List.range 256).all fun n=>p (UInt8.ofNat n))=true)(c:UInt8):p c=true:=by
 have:=jW.1 h c.toNat (fK.2 c.toNat_lt)
 simpa using this
theorem OD{N:Nat}(c:UInt8):xM N (c.toNat:Int)=some (kd c==1):=by
 have h:=wC (p:=fun c=>(decide (97<=c.toNat)&&decide (c.toNat<=122))==(kd c==1)) (by kernel_rfl) c
 rw[kD] at h
 rw[<-h]
 unfold xM
 by_cases h1:97<=c.toNat
 .rw[if_pos (by simp only[jA];omega)]
  simp only[h1,decide_true,gC,j0]
  congr 1
  exact decide_eq_decide.2 (by omega)
 rw[if_neg (by simp only[jA];omega)]
 simp[h1]
theorem GK{N:Nat}(c:UInt8):vF N (c.toNat:Int)=some (bV [1,2,3] c):=by
 have h:=wC (p:=fun c=>(kd c==1||(decide (48<=c.toNat)&&decide (c.toNat<=57)||decide (c.toNat=95)))==bV [1,2,3] c) (by kernel_rfl) c
 rw[kD] at h
 rw[<-h]
 unfold vF
 rw[OD]
 simp only[j0]
 cases kd c==1
 .have a:((c.toNat:Int)==95)=decide (c.toNat=95):=by rw[kC,kD,jA];omega
  simp only[jB,jF,kW,a]
  by_cases h1:48<=c.toNat
  .by_cases h2:c.toNat<=57
   .rw[if_pos (by simp only[jA];omega),if_pos (by simp only[jA];omega)];simp[h1,h2]
   rw[if_pos (by simp only[jA];omega),if_neg (by simp only[jA];omega)];simp[h2]
  rw[if_neg (by simp only[jA];omega)];simp[h1]
 rfl
theorem NP(c:UInt8):kd c=2↔48<=c.toNat/\c.toNat<=57:=by
 have h:=wC (p:=fun c=>(kd c==2)==(decide (48<=c.toNat)&&decide (c.toNat<=57))) (by kernel_rfl) c
 rw[kD,kC] at h
 simpa using h
theorem VE(c:UInt8):kd c=7↔c=34:=by
 have h:=wC (p:=fun c=>(kd c==7)==(c==34)) (by kernel_rfl) c
 rw[kD,kC] at h
 simpa using h
def signs:List UInt8:=[59,44,40,41,43,45,42,47,37,60,61]
theorem WY(c:UInt8):kd c=8↔signs.contains c=true:=by
 have h:=wC (p:=fun c=>(kd c==8)==signs.contains c) (by kernel_rfl) c
 rw[kD,kC] at h
 simpa using h
theorem qHr(c:UInt8):bV [5] c=true↔c.toNat=32\/c.toNat=9\/c.toNat=10\/c.toNat=13:=by
 have h:=wC (p:=fun c=>bV [5] c==(decide (c.toNat=32)||(decide (c.toNat=9)||(decide (c.toNat=10)||decide (c.toNat=13))))) (by kernel_rfl) c
 rw[kD,kC] at h
 simpa using h
theorem qFn(c:UInt8):kd c=6↔c.toNat=35:=by
 have h:=wC (p:=fun c=>(kd c==6)==decide (c.toNat=35)) (by kernel_rfl) c
 rw[kD,kC] at h
 simpa using h
def nT(n:Int)(c:UInt8):Int:=if n<=9007199254740992 then n*10+((c.toNat:Int)-48) else n
theorem qGu(l:List UInt8)(c:UInt8):(l++[c]).foldl nT 0=nT (l.foldl nT 0) c:=by simp
theorem YK:∀(n:Nat) (ds:List UInt8),ds.length=n->(∀c∈ds,kd c=2)->0<=ds.foldl nT 0/\ds.foldl nT 0<=90071992547409930/\pB ds=if ds.foldl nT 0>9007199254740992 then 9007199254740993 else ds.foldl nT 0
 |0,ds,h,_=>by obtain rfl:=gA.1 h;simp[pB]
 |n+1,ds,h,k=>by
  obtain⟨l,c,rfl⟩:∃l c,ds=l++[c]:=by
   rcases hJ ds with e|⟨l,c,e⟩
   .rw[e] at h;cases h
   exact⟨l,c,by simpa using e⟩
  obtain⟨d,f,a⟩:=YK n l (by simpa using h) (fun c g=>k c (jY _ g))
  have g:=OS c (k c (by simp))
  rw[qGu,NX]
  by_cases hu:l.foldl nT 0<=9007199254740992
  .rw[if_neg (by omega)] at a
   rw[a]
   generalize l.foldl nT 0=u at d f hu
   have b:nT u c=u*10+((c.toNat:Int)-48):=if_pos hu
   rw[b]
   unfold HQ
   refine⟨by omega,by omega,?_⟩
   by_cases h4:9007199254740993<10*u+((c.toNat:Int)-48)
   .rw[if_pos h4,if_pos (by omega)]
   rw[if_neg h4]
   by_cases h5:u*10+((c.toNat:Int)-48)>9007199254740992
   .rw[if_pos h5];omega
   rw[if_neg h5];omega
  rw[if_pos (by omega)] at a
  rw[a]
  generalize l.foldl nT 0=u at d f hu
  have b:nT u c=u:=if_neg hu
  have o:HQ 9007199254740993 c=9007199254740993:=if_pos (by omega)
  rw[b,o,if_pos (by omega)]
  exact⟨d,f,rfl⟩
theorem qAd(c:UInt8):bV [2] c=decide (48<=c.toNat/\c.toNat<=57):=by
 rw[kC,jA,<-NP];simp[bV]
theorem SW{N:Nat}{s:BA}:∀(d i M:Nat) (n:Int),i+d=s.data.toList.length->s.data.toList.length<1000000->d<M->0<=n->n<=90071992547409930->
  aI (AC N s) M ((i:Int),n)=some (((tw (bV [2]) s.data.toList i:Nat):Int),((s.data.toList.drop i).takeWhile (bV [2])).foldl nT n)
 |d,i,0,n,_,_,h,_,_=>by omega
 |0,i,M+1,n,c,b,e,f,g=>by
  have l:=iC s
  rw[CP (by omega),jM (by omega)]
  simp only[aI,AC]
  rw[if_neg (by simp only[jA];omega)]
  rfl
 |d+1,i,M+1,n,c,b,e,f,g=>by
  have l:=iC s
  have hi:i<s.data.toList.length:=by omega
  simp only[aI,AC]
  rw[if_pos (by simp only[jA];omega),lV hi]
  simp only[j0]
  have k:(if decide (((s.data.toList[i]).toNat:Int)>=48)=true then some (decide (((s.data.toList[i]).toNat:Int)<=57)) else some false)=some (bV [2] (s.data.toList[i])):=by
   rw[qAd]
   by_cases h48:48<=(s.data.toList[i]).toNat
   .rw[if_pos (by simp only[jA];omega)];congr 1;exact decide_eq_decide.2 (by omega)
   rw[if_neg (by simp only[jA];omega)];congr 1;exact(jQ (by omega)).symm
  rw[k]
  simp only[j0]
  rw[jN hi]
  cases hb:bV [2] (s.data.toList[i]) with
  |false=>
   rw[wB hi hb,fG (by rw[hb];exact gO)]
   rfl
  |true=>
   have o:48<=(s.data.toList[i]).toNat/\(s.data.toList[i]).toNat<=57:=by rw[qAd] at hb;simpa using hb
   rw[<-wA hi hb,gS hb,List.foldl_cons,if_pos rfl]
   have a:(if decide (n<=9007199254740992)=true then some (IntKind.wrap .i64 (IntKind.wrap .i64 (n*10)+IntKind.wrap .i64 (IntKind.wrap .u8 (((s.data.toList[i]).toNat:Int)-48)))) else some n)=some (nT n (s.data.toList[i])):=by
    unfold nT
    by_cases a:n<=9007199254740992
    .rw[if_pos (by simpa using a),if_pos a,wu8 (by omega) (by omega),bQ (x:=n*10) (by omega) (by omega),bQ (x:=((s.data.toList[i]).toNat:Int)-48) (by omega) (by omega),bQ (by omega) (by omega)]
    rw[if_neg (by simpa using a),if_neg a]
   rw[a]
   simp only[j0]
   rw[bQ (by omega) (by omega),<-gM]
   exact SW d (i+1) M _ (by omega) b (by omega) (by unfold nT;split<;>omega) (by unfold nT;split<;>omega)
theorem XG(c:UInt8):(if decide ((c.toNat:Int)>=32)=true then(if decide ((c.toNat:Int)<=126)=true then some ((c.toNat:Int) !=34) else some false) else some false)=some (oN c):=by
 unfold oN
 by_cases h1:32<=c.toNat
 .rw[if_pos (by simp only[jA];omega)]
  by_cases h2:c.toNat<=126
  .rw[if_pos (by simp only[jA];omega)]
   simp only[h1,h2,decide_true,gC]
   congr 1
   rw[kC,fP,fP]
   exact⟨fun h e=>h (by rw[e];rfl),fun h e=>h (UInt8.toNat_inj.1 (by show _=34;omega))⟩
  rw[if_neg (by simp only[jA];omega)];simp[h2]
 rw[if_neg (by simp only[jA];omega)];simp[h1]
theorem qEg{N:Nat}{s:BA}(d i M:Nat)(c:i+d=s.data.toList.length)(h:s.data.toList.length<1000000)(g:d<M):aI (uY N s) M (i:Int)=some ((tw oN s.data.toList i:Nat):Int):=by
 have k:=iC s
 refine CF (f:=uY N s) (l:=s.data.toList) (p:=oN) (fun e=>(e:Int)) (fun j b a=> ?_) (fun j b a=> ?_) ?_ d i M c g
 .simp only[uY]
  rw[if_pos (by simp only[jA];omega),lV b]
  simp only[j0,XG,a]
  rw[if_pos trivial,bQ (by omega) (by omega)]
 .simp only[uY]
  rw[if_pos (by simp only[jA];omega),lV b]
  simp only[j0,XG,a]
  rfl
 simp only[uY]
 rw[if_neg (by simp only[jA];omega)]
 rfl
theorem ZH{N:Nat}{s:BA}{p1 a:Int}:EK N s p1 a=if(decide (a<(signs.length:Int)))=true then((idx signs a).bind fun b=>(eK s p1).bind fun c=>if((c.toNat:Int)==(b.toNat:Int))=true then((lN s p1 (IntKind.wrap .i64 (p1+1))).bind fun d=>some (.inr (.inr (((4,d,0,p1),IntKind.wrap .i64 (p1+1),0))))) else(some (.inl (IntKind.wrap .i64 (a+1))))) else(some (.inr (.inl ()))):=rfl
theorem SU{N:Nat}{s:BA}{i:Nat}(hi:i<s.data.toList.length)(g:s.data.toList.length<1000000):∀(d j M:Nat),j+d=signs.length->d<M->
  aI (EK N s (i:Int)) M (j:Int)=some (if(signs.drop j).contains (s.data.toList[i])=true then .inr ((4,s.extract i (i+1),0,(i:Int)),((i+1:Nat):Int),0) else .inl ())
 |d,j,0,_,h=>by omega
 |0,j,M+1,e,f=>by
  simp only[aI,ZH]
  rw[if_neg (by simp only[jA];omega),jM (by omega)]
  rfl
 |d+1,j,M+1,e,f=>by
  have b:j<signs.length:=by omega
  have k:signs.length=11:=rfl
  simp only[aI,ZH]
  rw[if_pos (by simp only[jA];omega),dX b,lV hi,jN b]
  simp only[j0,List.contains_cons]
  by_cases he:s.data.toList[i]=signs[j]
  .rw[if_pos (by rw[he];exact kS _),bQ (x:=(i:Int)+1) (by omega) (by omega),<-gM,rL (by omega) (by omega)]
   simp only[j0]
   rw[if_pos (by rw[he];simp)]
  have c:¬((s.data.toList[i]).toNat:Int)=((signs[j]).toNat:Int):=fun h=>he (UInt8.toNat_inj.1 (by omega))
  have a:(s.data.toList[i]==signs[j])=false:=beq_eq_false_iff_ne.2 he
  rw[if_neg (by simpa using c),bQ (by omega) (by omega),<-gM]
  simp only[j0,a,kW]
  exact SU hi g d (j+1) M (by omega) (by omega)
def QL(s:BA)(i:Nat):(Int×BA×Int×Int)×Int×Int:=
 if(eJ s i).2.2=0 then(((eJ s i).1.1,(eJ s i).1.2.1,(eJ s i).1.2.2.1,(i:Int)),(eJ s i).2.1,0) else eJ s i
theorem qFo{N:Nat}{s:BA}{i:Nat}(hi:i<s.data.toList.length)(n:s.data.toList.length<1000000)(v:s.data.toList.length+20<N):FA N s (i:Int)=some (QL s i):=by
 have y:=iC s
 simp only[FA,lV hi,j0,OD,QL,eJ,lE hi,kD]
 by_cases h1:kd (s.data.toList[i])=1
 .simp only[h1,jH]
  have d:=nF (p:=bV [1,2,3]) (l:=s.data.toList) (a:=i) (by omega)
  have key:=CF (f:=wZ N s) (l:=s.data.toList) (p:=bV [1,2,3]) (fun e=>(e:Int)) (fun j b d=>by
   simp only[wZ]
   rw[if_pos (by simp only[jA];omega),lV b]
   simp only[j0,GK,d]
   rw[if_pos trivial,bQ (by omega) (by omega)]) (fun j b d=>by
   simp only[wZ]
   rw[if_pos (by simp only[jA];omega),lV b]
   simp only[j0,GK,d]
   rfl) (by
   simp only[wZ]
   rw[if_neg (by simp only[jA];omega)]
   rfl) (s.data.toList.length-i) i N (by omega) (by omega)
  rw[key]
  simp only[j0]
  rw[bQ (by omega) (by omega),rL d.1 d.2]
  by_cases h:tw (bV [1,2,3]) s.data.toList i-i>24
  .rw[if_pos (by simp only[jA];omega),if_pos h];rfl
  rw[if_neg (by simp only[jA];omega),if_neg h];rfl
 simp only[h1,jF]
 by_cases h2:kd (s.data.toList[i])=2
 .simp only[h2,jH]
  have q:=(NP _).1 h2
  rw[if_pos (by simp only[jA];omega)]
  simp only[j0]
  obtain⟨b,k,o⟩:=YK _ _ rfl (fun c (g:c∈(s.data.toList.drop i).takeWhile (bV [2]))=>by simpa[bV] using LC g)
  rw[if_pos (by simp only[jA];omega),SW (s.data.toList.length-i) i N 0 (by omega) n (by omega) (by omega) (by omega),o]
  simp only[j0,jA]
  generalize ((s.data.toList.drop i).takeWhile (bV [2])).foldl nT 0=u at b k
  by_cases h4:u>9007199254740992
  .simp[h4,wF]
  simp[h4]
 simp only[h2,jF]
 have t:¬(48<=(s.data.toList[i]).toNat/\(s.data.toList[i]).toNat<=57):=fun h=>h2 ((NP _).2 h)
 have k:(if decide (((s.data.toList[i]).toNat:Int)>=48)=true then some (decide (((s.data.toList[i]).toNat:Int)<=57)) else some false)=some false:=by
  by_cases h48:48<=(s.data.toList[i]).toNat
  .rw[if_pos (by simp only[jA];omega)];congr 1;rw[decide_eq_false_iff_not];omega
  rw[if_neg (by simp only[jA];omega)]
 rw[k]
 simp only[j0,jB,jF]
 by_cases h7:kd (s.data.toList[i])=7
 .have g:s.data.toList[i]=34:=(VE _).1 h7
  simp only[h7,jH]
  rw[if_pos (by rw[g];rfl),bQ (x:=(i:Int)+1) (by omega) (by omega),<-gM]
  have d:=nF (p:=oN) (l:=s.data.toList) (a:=i+1) (by omega)
  rw[qEg (s.data.toList.length-(i+1)) (i+1) N (by omega) n (by omega)]
  simp only[j0]
  generalize tw oN s.data.toList (i+1)=e at d
  by_cases he:e=s.data.toList.length
  .rw[if_pos (by omega)]
   have:¬s.data.toList.getD e 0=34:=fun h=>by have:=GE (l:=s.data.toList) (i:=e) (by rw[h];decide);omega
   rw[if_neg this]
   rfl
  have b:e<s.data.toList.length:=by omega
  rw[if_neg (by omega),lV b,lE b]
  simp only[j0]
  by_cases h34:s.data.toList[e]=34
  .rw[if_pos h34,if_neg (by rw[h34];decide),rL d.1 d.2]
   simp only[j0,jH]
   rw[bQ (by omega) (by omega),<-gM]
  have h34':¬((s.data.toList[e]).toNat:Int)=34:=fun h=>h34 (UInt8.toNat_inj.1 (by show _=34;omega))
  rw[if_neg h34,if_pos (by simpa using h34')]
  simp[wF]
 have h34':¬((s.data.toList[i]).toNat:Int)=34:=fun h=>h7 ((VE _).2 (UInt8.toNat_inj.1 (by show _=34;omega)))
 simp only[h7,jF,h34']
 have q:(if((s.data.toList[i]).toNat:Int)=61 then(if decide (IntKind.wrap .i64 ((i:Int)+1)<(s.size:Int))=true then((eK s (IntKind.wrap .i64 ((i:Int)+1))).bind fun o=>some ((o.toNat:Int)==61)) else some false) else some false)=some (decide (s.data.toList.getD i 0=61/\s.data.toList.getD (i+1) 0=61)):=by
  rw[lE hi]
  by_cases h61:s.data.toList[i]=61
  .rw[if_pos (by rw[h61];rfl),bQ (by omega) (by omega),<-gM]
   by_cases b:i+1<s.data.toList.length
   .rw[if_pos (by simp only[jA];omega),lV b,lE b]
    simp only[j0]
    congr 1
    rw[kC,kD,jA]
    exact⟨fun h=>⟨h61,UInt8.toNat_inj.1 (by show _=61;omega)⟩,fun h=>by rw[h.2];rfl⟩
   rw[if_neg (by simp only[jA];omega)]
   congr 1
   refine(jQ fun h=> ?_).symm
   have:=GE (l:=s.data.toList) (i:=i+1) (by rw[h.2];decide)
   omega
  rw[if_neg (fun h=>h61 (UInt8.toNat_inj.1 (by show _=61;omega)))]
  congr 1
  exact(jQ fun h=>h61 h.1).symm
 rw[q]
 simp only[j0,jA]
 by_cases h61:s.data.toList.getD i 0=61/\s.data.toList.getD (i+1) 0=61
 .have b:i+1<s.data.toList.length:=GE (by rw[h61.2];decide)
  have d:kd (s.data.toList[i])=8:=by rw[<-lE hi,h61.1];kernel_rfl
  have g:rC s.data.toList i=i+2:=by rw[rC,if_pos h61]
  have r:s.extract i (i+2)=(⟨#[61,61]⟩:BA):=by
   apply Go.WideShapes.bytes_inj
   simp only[ByteArray.data_extract,fO,gW]
   rw[jN hi,jN b,<-lE hi,<-lE b,h61.1,h61.2,show i+2-i=2 by omega]
   rfl
  simp only[h61,and_self,jH,d,g,r]
  rw[bQ (by omega) (by omega)]
  simp
 have g:rC s.data.toList i=i+1:=by rw[rC,if_neg h61]
 have key:=SU (N:=N) hi n 11 0 N rfl (by omega)
 rw[show((0:Nat):Int)=0 from rfl] at key
 rw[if_neg h61,key]
 by_cases d:kd (s.data.toList[i])=8
 .have:=(WY _).1 d
  simp only[d,jH,jT,this,j0,g]
 have:¬signs.contains (s.data.toList[i])=true:=fun h=>d ((WY _).2 h)
 simp only[d,jF,jT,this,j0]
 simp[wF]
def lG:Nat->List UInt8->Nat->Nat
 |0,_,i=>i
 |k+1,l,i=>
  if tw (bV [5]) l i=l.length then l.length
  else if kd (l.getD (tw (bV [5]) l i) 0)=6 then lG k l (tw eI l (tw (bV [5]) l i))
  else tw (bV [5]) l i
theorem qGr{N:Nat}{s:BA}{i:Nat}(hi:i<=s.data.toList.length)(k:s.data.toList.length<1000000)(g:s.data.toList.length+10<N):aI (uZ N s) N (i:Int)=some ((tw eI s.data.toList i:Nat):Int):=by
 have n:=iC s
 have d:∀c:UInt8,((c.toNat:Int) !=10)=eI c:=fun c=>by
  rw[kC,fP,eI,fP]
  exact⟨fun h e=>h (by rw[e];rfl),fun h e=>h (UInt8.toNat_inj.1 (by show _=10;omega))⟩
 refine CF (f:=uZ N s) (l:=s.data.toList) (p:=eI) (fun e=>(e:Int)) (fun j b a=> ?_) (fun j b a=> ?_) ?_ (s.data.toList.length-i) i N (by omega) (by omega)
 .simp only[uZ]
  rw[if_pos (by simp only[jA];omega),lV b]
  simp only[j0,d,a]
  rw[if_pos trivial,bQ (by omega) (by omega)]
 .simp only[uZ]
  rw[if_pos (by simp only[jA];omega),lV b]
  simp only[j0,d,a]
  rfl
 simp only[uZ]
 rw[if_neg (by simp only[jA];omega)]
 rfl
theorem qFs{s:BA}{i:Nat}(hi:i<s.data.toList.length):((eK s (i:Int)).bind fun x1=>if((x1.toNat:Int)==32)=true then(some true) else((eK s (i:Int)).bind fun b=>if((b.toNat:Int)==9)=true then(some true) else((eK s (i:Int)).bind fun d=>if((d.toNat:Int)==10)=true then(some true) else((eK s (i:Int)).bind fun e=>some ((e.toNat:Int)==13)))))=some (bV [5] (s.data.toList[i])):=by
 simp only[lV hi,j0,kD]
 generalize s.data.toList[i]=c
 have a:=qHr c
 by_cases h1:(c.toNat:Int)=32
 .rw[if_pos h1,a.2 (by omega)]
 rw[if_neg h1]
 by_cases h2:(c.toNat:Int)=9
 .rw[if_pos h2,a.2 (by omega)]
 rw[if_neg h2]
 by_cases h3:(c.toNat:Int)=10
 .rw[if_pos h3,a.2 (by omega)]
 rw[if_neg h3]
 congr 1
 rw[kC,kD,a]
 omega
theorem qFv{N:Nat}{s:BA}{i:Nat}(hi:i<s.data.toList.length)(c:s.data.toList.length<1000000)(b:s.data.toList.length+10<N):
  xK N s (i:Int)=some (if bV [5] (s.data.toList[i])=true then .inl (((i+1:Nat)):Int) else if kd (s.data.toList[i])=6 then .inl ((tw eI s.data.toList i:Nat):Int) else .inr (.inr (i:Int))):=by
 have d:=iC s
 simp only[xK]
 rw[if_pos (by simp only[jA];omega),qFs hi]
 simp only[j0]
 by_cases h5:bV [5] (s.data.toList[i])=true
 .rw[if_pos h5,if_pos h5,bQ (by omega) (by omega),<-gM]
 rw[if_neg h5,if_neg h5,lV hi]
 simp only[j0,kD]
 have a:=qFn (s.data.toList[i])
 by_cases h6:kd (s.data.toList[i])=6
 .rw[if_pos (by have:=a.1 h6;omega),if_pos h6,qGr (by omega) c b]
  rfl
 rw[if_neg (fun h=>h6 (a.2 (by omega))),if_neg h6]
theorem NY{N:Nat}{s:BA}(f:s.data.toList.length<1000000)(c:s.data.toList.length+10<N):∀(d i k M:Nat),i+d=s.data.toList.length->d<k->d<M->∃z,aI (xK N s) M (i:Int)=some z/\(z= .inl ((lG k s.data.toList i:Nat):Int)\/z= .inr ((lG k s.data.toList i:Nat):Int))
 |d,i,k,0,_,_,h=>by omega
 |d,i,0,M,_,h,_=>by omega
 |0,i,k+1,M+1,g,n,o=>by
  have r:=iC s
  refine⟨.inl ((s.data.toList.length:Nat):Int),?_,.inl ?_⟩
  .simp only[aI,xK]
   rw[if_neg (by simp only[jA];omega)]
   simp only[j0]
   congr 2;omega
  simp only[lG]
  rw[CP (by omega),if_pos (by omega)]
 |d+1,i,k+1,M+1,g,n,o=>by
  have r:=iC s
  have hi:i<s.data.toList.length:=by omega
  simp only[aI]
  rw[qFv hi f c]
  simp only[j0]
  cases h5:bV [5] (s.data.toList[i]) with
  |true=>
   rw[if_pos rfl]
   have:=NY f c d (i+1) (k+1) M (by omega) (by omega) (by omega)
   simp only[lG,wA hi h5] at this ⊢
   exact this
  |false=>
   rw[if_neg gO]
   by_cases h6:kd (s.data.toList[i])=6
   .have b:lG (k+1) s.data.toList i=lG k s.data.toList (tw eI s.data.toList i):=by
     simp only[lG,wB hi h5,lE hi,h6,jH]
     rw[if_neg (by omega)]
    rw[b,if_pos h6]
    have t:=nF (p:=eI) (l:=s.data.toList) (a:=i) (by omega)
    have q:=yX (p:=eI) hi (by
     simp only[eI,fP,ne_eq]
     intro e;rw[e] at h6;exact absurd h6 (by decide))
    exact NY f c (s.data.toList.length-tw eI s.data.toList i) _ k M (by omega) (by omega) (by omega)
   have b:lG (k+1) s.data.toList i=i:=by
    simp only[lG,wB hi h5,lE hi,h6,jF]
    rw[if_neg (by omega)]
   rw[b,if_neg h6]
   exact⟨_,rfl,.inr rfl⟩
theorem XK{N:Nat}{s:BA}{i k:Nat}(hi:i<=s.data.toList.length)(d:s.data.toList.length<1000000)(c:s.data.toList.length+10<N)(e:s.data.toList.length<i+k):AT N s (i:Int)=some ((lG k s.data.toList i:Nat):Int):=by
 obtain⟨z,a,b⟩:=NY d c (s.data.toList.length-i) i k N (by omega) (by omega) (by omega)
 unfold AT
 rw[a]
 rcases b with rfl|rfl<;>rfl
theorem VF{s:BA}:∀(k i:Nat),i<=s.data.toList.length->s.data.toList.length<i+k->i<=lG k s.data.toList i/\lG k s.data.toList i<=s.data.toList.length/\
  (lG k s.data.toList i=s.data.toList.length->mF k s i= .inr [(5,⟨#[]⟩,0,(s.data.toList.length:Int))])/\
  (lG k s.data.toList i<s.data.toList.length->∃k',(∀b,lG k s.data.toList i<b->s.data.toList.length<b+k')/\mF k s i=
   if(eJ s (lG k s.data.toList i)).2.2≠0 then .inl ((lG k s.data.toList i:Nat),(eJ s (lG k s.data.toList i)).2.2)
   else match mF k' s (eJ s (lG k s.data.toList i)).2.1.toNat with
    | .inl x=> .inl x
    | .inr r=> .inr (((eJ s (lG k s.data.toList i)).1.1,(eJ s (lG k s.data.toList i)).1.2.1,(eJ s (lG k s.data.toList i)).1.2.2.1,((lG k s.data.toList i:Nat):Int))::r))
 |0,i,d,t=>by omega
 |k+1,i,d,t=>by
  have f:=nF (p:=bV [5]) (l:=s.data.toList) (a:=i) d
  simp only[lG,mF]
  by_cases he:tw (bV [5]) s.data.toList i=s.data.toList.length
  .simp only[he,jH]
   exact⟨d,jP _,fun _=>trivial,fun h=>absurd h (Nat.lt_irrefl _)⟩
  simp only[he,jF]
  have c:tw (bV [5]) s.data.toList i<s.data.toList.length:=by omega
  by_cases h6:kd (s.data.toList.getD (tw (bV [5]) s.data.toList i) 0)=6
  .simp only[h6,jH]
   have g:=nF (p:=eI) (l:=s.data.toList) (a:=tw (bV [5]) s.data.toList i) (by omega)
   have u:=yX (p:=eI) c (by
    rw[lE c] at h6
    simp only[eI,fP,ne_eq]
    intro e;rw[e] at h6;exact absurd h6 (by decide))
   obtain⟨v,n,o,q⟩:=VF k (tw eI s.data.toList (tw (bV [5]) s.data.toList i)) g.2 (by omega)
   exact⟨by omega,n,o,q⟩
  simp only[h6,jF]
  exact⟨f.1,f.2,fun h=>absurd h he,fun _=>⟨k,fun b hb'=>by omega,rfl⟩⟩
theorem SA{N:Nat}{s:BA}(E:s.data.toList.length<=16384)(B:s.data.toList.length+40<N):∀(d i k M:Nat) (acc:List bP),i+d=s.data.toList.length->d<M->s.data.toList.length<i+k->acc.length<=i->
  ∃z,aI (ED N s) M (acc,((lG k s.data.toList i:Nat):Int))=some z/\((∃o,z= .inl o/\o.length<=s.data.toList.length/\uO acc (mF k s i)=(o++[(5,⟨#[]⟩,0,(s.size:Int))],0,0))\/z= .inr (uO acc (mF k s i)))
 |d,i,k,0,acc,_,h,_,_=>by omega
 |d,i,k,M+1,acc,G,H,A,K=>by
  have F:=iC s
  obtain⟨v,y,g,l⟩:=VF (s:=s) k i (by omega) A
  generalize hA:lG k s.data.toList i=a at v y g l
  simp only[aI,ED]
  by_cases he:a=s.data.toList.length
  .refine⟨.inl acc,?_,.inl ⟨acc,rfl,by omega,?_⟩⟩
   .rw[if_neg (by simp only[jA];omega)]
    rfl
   rw[g he,<-F];rfl
  have b:a<s.data.toList.length:=by omega
  obtain⟨k',n,p⟩:=l b
  rw[if_pos (by simp only[jA];omega),qFo b (by omega) (by omega)]
  simp only[j0,QL]
  by_cases h0:(eJ s a).2.2=0
  .obtain⟨e,c,f,q,_⟩:=KP b h0
   rw[if_pos h0]
   simp only[gU,jB,jF]
   rw[lU (by simp only[jD,jE];omega) (by omega),c]
   simp only[j0]
   rw[XK (k:=k') q (by omega) (by omega) (n e f)]
   simp only[j0]
   obtain⟨z,t,u⟩:=SA E B (s.data.toList.length-e) e k' M (acc++[((eJ s a).1.1,(eJ s a).1.2.1,(eJ s a).1.2.2.1,(a:Int))]) (by omega) (by omega) (n e f) (by simp;omega)
   have D:uO acc (mF k s i)=uO (acc++[((eJ s a).1.1,(eJ s a).1.2.1,(eJ s a).1.2.2.1,(a:Int))]) (mF k' s e):=by
    rw[p,if_neg (by simp[h0]),c,jO]
    cases mF k' s e with
    |inl x=>rfl
    |inr r=>simp[uO]
   rw[D]
   exact⟨z,t,u⟩
  rw[if_neg h0]
  have c:((eJ s a).2.2 !=0)=true:=by simpa using h0
  simp only[c,jH,j0]
  refine⟨_,rfl,.inr ?_⟩
  rw[p,if_pos h0]
  rfl
theorem qEc{N:Nat}{s:BA}(e:20000<N):EV N s=some (iS s):=by
 have g:=iC s
 unfold EV iS
 by_cases h:s.data.toList.length>16384
 .rw[if_pos (by simp only[jA];omega),if_pos h]
 rw[if_neg (by simp only[jA];omega),if_neg h]
 have a:=XK (N:=N) (s:=s) (i:=0) (k:=s.data.toList.length+1) (by omega) (by omega) (by omega) (by omega)
 rw[show((0:Nat):Int)=0 from rfl] at a
 rw[a]
 simp only[j0]
 obtain⟨z,b,c⟩:=SA (N:=N) (s:=s) (by omega) (by omega) s.data.toList.length 0 (s.data.toList.length+1) N [] (by omega) (by omega) (by omega) (by simp)
 rw[b]
 rcases c with ⟨o,rfl,f,d⟩|rfl
 .simp only[j0]
  rw[lU (by simp only[jD,jE];omega) (by omega),d]
  rfl
 rfl
def oA(s:BA):Bool:=decide (1<=s.data.toList.length/\s.data.toList.length<=24/\kd (s.data.toList.getD 0 0)=1/\tw (bV [1,2,3]) s.data.toList 0=s.data.toList.length)
theorem yQ{s:BA}(h:¬(1<=s.data.toList.length/\s.data.toList.length<=24/\kd (s.data.toList.getD 0 0)=1/\tw (bV [1,2,3]) s.data.toList 0=s.data.toList.length)):false=oA s:=(jQ h).symm
theorem qGt{s:BA}(h:1<=s.data.toList.length/\s.data.toList.length<=24/\kd (s.data.toList.getD 0 0)=1/\tw (bV [1,2,3]) s.data.toList 0=s.data.toList.length):true=oA s:=(jU h).symm
theorem PJ{N:Nat}{s:BA}(b:100<N):yK N s=some (oA s):=by
 have c:=iC s
 simp only[yK,OJ (show 30<N by omega),j0]
 by_cases h1:1<=s.data.toList.length
 .by_cases h2:s.data.toList.length<=24
  .rw[if_pos (by simp only[jA];omega),if_pos (by simp only[jA];omega)]
   have hi:=lV (s:=s) (i:=0) (by omega)
   rw[show((0:Nat):Int)=0 from rfl] at hi
   rw[hi]
   simp only[j0,PV,kD]
   have a:=GM (N:=N) (s:=s) (ks:=[1,2,3]) (i:=0) (by omega) (by omega) (by simp) (by omega)
   rw[show((0:Nat):Int)=0 from rfl] at a
   by_cases h3:kd (s.data.toList[0])=1
   .rw[if_pos h3,a]
    simp only[j0]
    congr 1
    rw[kC,kD,oA,jA,lE (by omega)]
    exact⟨fun h=>⟨h1,h2,h3,by omega⟩,fun h=>by have:=h.2.2.2;omega⟩
   rw[if_neg h3]
   refine congrArg some (yQ fun h=> ?_)
   rw[lE (by omega)] at h
   exact h3 h.2.2.1
  rw[if_pos (by simp only[jA];omega),if_neg (by simp only[jA];omega)]
  exact congrArg some (yQ fun h=>h2 h.2.1)
 rw[if_neg (by simp only[jA];omega)]
 exact congrArg some (yQ fun h=>h1 h.1)
theorem NF{N:Nat}{s:BA}(c:100<N):vJ N s=some (oA s):=by
 have d:=iC s
 simp only[vJ]
 by_cases h1:1<=s.data.toList.length
 .by_cases h2:s.data.toList.length<=24
  .rw[if_neg (by simp only[jA];omega),if_neg (by simp only[jA];omega)]
   have hi:=lV (s:=s) (i:=0) (by omega)
   rw[show((0:Nat):Int)=0 from rfl] at hi
   rw[hi]
   simp only[j0,OD]
   by_cases h3:kd (s.data.toList[0])=1
   .rw[h3,if_neg (by simp)]
    have key:=CF (f:=xJ N s) (l:=s.data.toList) (p:=bV [1,2,3]) (fun e=>if e=s.data.toList.length then .inl () else .inr false) (fun j b a=>by
     simp only[xJ]
     rw[if_pos (by simp only[jA];omega),lV b]
     simp only[j0,GK,a]
     rw[bQ (by omega) (by omega)]
     rfl) (fun j b a=>by
     simp only[xJ]
     rw[if_pos (by simp only[jA];omega),lV b]
     simp only[j0,GK,a]
     rw[if_neg (show ¬j=s.data.toList.length by omega)]
     rfl) (by
     simp only[xJ]
     rw[if_neg (by simp only[jA];omega)]
     simp) s.data.toList.length 0 N (by omega) (by omega)
    rw[show((0:Nat):Int)=0 from rfl] at key
    rw[key]
    simp only[j0]
    by_cases h4:tw (bV [1,2,3]) s.data.toList 0=s.data.toList.length
    .rw[if_pos h4]
     exact congrArg some (qGt ⟨h1,h2,by rw[lE (by omega)];exact h3,h4⟩)
    rw[if_neg h4]
    exact congrArg some (yQ fun h=>h4 h.2.2.2)
   rw[if_pos (by rw[Bool.not_eq_true',beq_eq_false_iff_ne];exact h3)]
   refine congrArg some (yQ fun h=> ?_)
   rw[lE (by omega)] at h
   exact h3 h.2.2.1
  rw[if_neg (by simp only[jA];omega),if_pos (by simp only[jA];omega)]
  simp only[j0,jH]
  exact congrArg some (yQ fun h=>h2 h.2.1)
 rw[if_pos (by simp only[jA];omega)]
 simp only[j0,jH]
 exact congrArg some (yQ fun h=>h1 h.1)
def sp:List UInt8->List (List UInt8)
 |[]=>[[]]
 |c::l=>if c=47 then[]::sp l else match sp l with
  |[]=>[[c]]
  |p::q=>(c::p)::q
theorem CX:∀l:List UInt8,sp l≠[]
 |[]=>by simp[sp]
 |c::l=>by
  simp only[sp]
  split
  .simp
  split<;>simp
theorem PT:∀l:List UInt8,(sp l).length=l.count 47+1
 |[]=>rfl
 |c::l=>by
  simp only[sp]
  split
  .rename_i h;subst h;simp[PT l]
  rename_i h
  have:=PT l
  split
  .rename_i e;exact absurd e (CX l)
  rename_i e
  rw[e] at this
  simp only[jD] at this ⊢
  rw[List.count_cons_of_ne h,<-this]
def lQ(c:UInt8):Bool:=c !=47
theorem YP:∀l:List UInt8,sp l=if(l.takeWhile lQ).length=l.length then[l] else l.takeWhile lQ::sp (l.drop ((l.takeWhile lQ).length+1))
 |[]=>rfl
 |c::l=>by
  have b:=YP l
  by_cases h:c=47
  .subst h
   rw[fG (by decide)]
   simp[sp]
  have a:lQ c=true:=by simpa[lQ] using h
  rw[gS a]
  simp only[sp,h,jF,b,jD,Nat.add_right_cancel_iff,List.drop_succ_cons]
  by_cases he:(l.takeWhile lQ).length=l.length
  .simp[he]
  simp[he]
def sR:Nat->Nat->List UInt8->Option (Nat×Nat)
 |a,b,[]=>some (a,b)
 |a,b,c::l=>if c=47 then(if b=0 then none else sR (a+1) 0 l) else if bV [1,2,3,4] c=true then(if b+1>24 then none else sR a (b+1) l) else none
def qMt(p:List UInt8):Prop:=1<=p.length/\p.length<=24/\∀c∈p,bV [1,2,3,4] c=true
theorem NQ:∀(l:List UInt8) (a b:Nat),b<=24->((∃x y,sR a b l=some (x,y)/\0<y/\x<=8)↔
  ∃p q,sp l=p::q/\1<=b+p.length/\b+p.length<=24/\(∀c∈p,bV [1,2,3,4] c=true)/\(∀r∈q,qMt r)/\a+q.length<=8)
 |[],a,b,v=>by
  constructor
  .rintro⟨x,y,h,e,g⟩
   simp only[sR,jI,Prod.mk.injEq] at h
   exact⟨[],[],rfl,by simp;omega,by simpa using v,by simp,by simp,by simp;omega⟩
  rintro⟨p,q,h,e,g,_,_,f⟩
  simp only[sp,kV] at h
  obtain⟨rfl,rfl⟩:=h
  simp only[jE] at e f
  exact⟨a,b,rfl,by omega,by omega⟩
 |c::l,a,b,v=>by
  by_cases hc:c=47
  .have t:sp (c::l)=[]::sp l:=by simp[sp,hc]
   rw[t]
   simp only[sR,hc,jH]
   by_cases h0:b=0
   .subst h0
    simp only[jH]
    constructor
    .rintro⟨x,y,h,_⟩;cases h
    rintro⟨p,q,h,e,_⟩
    simp only[kV] at h
    rw[<-h.1] at e;simp at e
   rw[if_neg h0]
   rw[NQ l (a+1) 0 (by omega)]
   constructor
   .rintro⟨p,q,h,e,g,f,n,o⟩
    refine⟨[],sp l,rfl,by simp;omega,by simpa using v,by simp,?_,by rw[h];simp only[jD];omega⟩
    intro r s
    rw[h] at s
    rcases jV.1 s with rfl|s
    .exact⟨by omega,by omega,f⟩
    exact n r s
   rintro⟨p,q,h,e,g,f,n,o⟩
   simp only[kV] at h
   obtain⟨rfl,rfl⟩:=h
   obtain⟨p,q,k⟩:∃p q,sp l=p::q:=by
    cases u:sp l with
    |nil=>exact absurd u (CX l)
    |cons p q=>exact⟨p,q,rfl⟩
   rw[k] at n o
   obtain⟨A,B,z⟩:=n p (jS ..)
   exact⟨p,q,k,by omega,by omega,z,fun r s=>n r (jX _ s),by simp only[jD] at o;omega⟩
  obtain⟨p0,z,k⟩:∃p q,sp l=p::q:=by
   cases u:sp l with
   |nil=>exact absurd u (CX l)
   |cons p q=>exact⟨p,q,rfl⟩
  have t:sp (c::l)=(c::p0)::z:=by simp only[sp,hc,jF,k]
  rw[t]
  simp only[sR,hc,jF]
  by_cases u:bV [1,2,3,4] c=true
  .rw[if_pos u]
   by_cases h24:b+1>24
   .rw[if_pos h24]
    constructor
    .rintro⟨x,y,h,_⟩;cases h
    rintro⟨p,q,h,e,g,_⟩
    simp only[kV] at h
    rw[<-h.1] at g
    simp only[jD] at g
    omega
   rw[if_neg h24,NQ l a (b+1) (by omega)]
   constructor
   .rintro⟨p,q,h,e,g,f,n,o⟩
    rw[k] at h
    simp only[kV] at h
    obtain⟨rfl,rfl⟩:=h
    refine⟨_,_,rfl,by simp only[jD];omega,by simp only[jD];omega,?_,n,o⟩
    intro d s
    rcases jV.1 s with rfl|s
    .exact u
    exact f d s
   rintro⟨p,q,h,e,g,f,n,o⟩
   simp only[kV] at h
   obtain⟨rfl,rfl⟩:=h
   simp only[jD] at e g
   exact⟨p0,z,k,by omega,by omega,fun d s=>f d (jX _ s),n,o⟩
  rw[if_neg u]
  constructor
  .rintro⟨x,y,h,_⟩;cases h
  rintro⟨p,q,h,e,g,f,_⟩
  simp only[kV] at h
  rw[<-h.1] at f
  exact absurd (f c (jS ..)) u
theorem inK4{N:Nat}(c:UInt8):((vF N (c.toNat:Int)).bind fun y1=>if y1=true then(some true) else(some ((c.toNat:Int)==46)))=some (bV [1,2,3,4] c):=by
 have h:=wC (p:=fun c=>(bV [1,2,3] c||decide (c.toNat=46))==bV [1,2,3,4] c) (by kernel_rfl) c
 rw[kD] at h
 rw[<-h,GK]
 simp only[j0]
 have e:((c.toNat:Int)==46)=decide (c.toNat=46):=by rw[kC,kD,jA];omega
 rw[e]
 cases bV [1,2,3] c<;>simp
theorem MO{N:Nat}{s:BA}(c:s.data.toList.length<1000000):∀(d i M a b:Nat),i+d=s.data.toList.length->d<M->a<=i+1->b<=24->
  aI (AH N s) M ((a:Int),(b:Int),(i:Int))=some (match sR a b (s.data.toList.drop i) with|some z=> .inl ((z.1:Int),(z.2:Int))|none=> .inr false)
 |d,i,0,_,_,_,h,_,_=>by omega
 |0,i,M+1,a,b,e,f,g,k=>by
  have l:=iC s
  simp only[aI,AH]
  rw[if_neg (by simp only[jA];omega),jM (by omega)]
  rfl
 |d+1,i,M+1,a,b,e,f,g,k=>by
  have l:=iC s
  have hi:i<s.data.toList.length:=by omega
  simp only[aI,AH]
  rw[if_pos (by simp only[jA];omega),jN hi,lV hi]
  simp only[j0,inK4,kD,sR]
  by_cases hc:s.data.toList[i]=47
  .rw[if_pos (show((s.data.toList[i]).toNat:Int)=47 by rw[hc];rfl),if_pos hc]
   by_cases hb:b=0
   .rw[if_pos (show(b:Int)=0 by omega),if_pos hb]
    rfl
   rw[if_neg (show ¬(b:Int)=0 by omega),if_neg hb,bQ (x:=(a:Int)+1) (by omega) (by omega)]
   simp only[j0]
   rw[if_neg (by simp),bQ (by omega) (by omega)]
   have:=MO (N:=N) c d (i+1) M (a+1) 0 (by omega) (by omega) (by omega) (by omega)
   exact this
  have hc':¬((s.data.toList[i]).toNat:Int)=47:=fun h=>hc (UInt8.toNat_inj.1 (by show _=47;omega))
  rw[if_neg hc',if_neg hc]
  by_cases hk:bV [1,2,3,4] (s.data.toList[i])=true
  .rw[if_pos hk,if_pos hk,bQ (x:=(b:Int)+1) (by omega) (by omega)]
   simp only[j0]
   by_cases h24:b+1>24
   .rw[if_pos (by simp only[jA];omega),if_pos h24]
    rfl
   rw[if_neg (by simp only[jA];omega),if_neg h24,bQ (by omega) (by omega)]
   have:=MO (N:=N) c d (i+1) M a (b+1) (by omega) (by omega) (by omega) (by omega)
   exact this
  rw[if_neg hk,if_neg hk]
  rfl
def lM(l:List UInt8):Bool:=decide (l.length<=80/\(sp l).length<=8/\∀p∈sp l,1<=p.length/\p.length<=24/\∀c∈p,bV [1,2,3,4] c=true)
theorem VM(l:List UInt8):lM l=true↔l.length<=80/\∃x y,sR 1 0 l=some (x,y)/\0<y/\x<=8:=by
 rw[NQ l 1 0 (by omega)]
 simp only[lM,jA]
 obtain⟨p,q,hpq⟩:∃p q,sp l=p::q:=by
  cases a:sp l with
  |nil=>exact absurd a (CX l)
  |cons p q=>exact⟨p,q,rfl⟩
 constructor
 .rintro⟨c,d,b⟩
  rw[hpq] at d b
  obtain⟨f,g,e⟩:=b p (jS ..)
  exact⟨c,p,q,hpq,by omega,by omega,e,fun r a=>b r (jX _ a),by simp only[jD] at d;omega⟩
 rintro⟨c,p',q',h,d,b,e,f,g⟩
 refine⟨c,by rw[h];simp only[jD];omega,?_⟩
 intro r a
 rw[h] at a
 rcases jV.1 a with rfl|a
 .exact⟨by omega,by omega,e⟩
 exact f r a
theorem NB{N:Nat}{s:BA}(c:100<N):vH N s=some (lM s.data.toList):=by
 have d:=iC s
 simp only[vH]
 by_cases h80:s.data.toList.length<=80
 .rw[if_neg (by simp only[jA];omega)]
  have key:=MO (N:=N) (s:=s) (by omega) s.data.toList.length 0 N 1 0 (by omega) (by omega) (by omega) (by omega)
  rw[show((0:Nat):Int)=0 from rfl,show((1:Nat):Int)=1 from rfl,jT] at key
  rw[key]
  have a:=VM s.data.toList
  cases hR:sR 1 0 s.data.toList with
  |none=>
   simp only[j0]
   refine congrArg some ?_
   rw[kC,a]
   constructor
   .intro h;cases h
   rintro⟨_,x,y,h,_⟩;rw[hR] at h;cases h
  |some z=>
   obtain⟨x,y⟩:=z
   simp only[j0]
   by_cases hy:0<y
   .rw[if_pos (by simp only[jA];omega)]
    simp only[j0]
    refine congrArg some ?_
    rw[kC,a,jA]
    constructor
    .intro h;exact⟨h80,x,y,hR,hy,by omega⟩
    rintro⟨_,x',y',h,_,b⟩;rw[hR] at h;simp only[jI,Prod.mk.injEq] at h;omega
   rw[if_neg (by simp only[jA];omega)]
   simp only[j0]
   refine congrArg some ?_
   rw[kC,a]
   constructor
   .intro h;cases h
   rintro⟨_,x',y',h,b,_⟩;rw[hR] at h;simp only[jI,Prod.mk.injEq] at h;omega
 rw[if_pos (by simp only[jA];omega)]
 refine congrArg some ?_
 rw[kC,VM]
 exact⟨fun h=>(by cases h),fun h=>absurd h.1 h80⟩
theorem qOk{p:UInt8->Bool}{l:List UInt8}{k:Nat}(c:k<l.length)(a:∀j,∀h:j<l.length,j<k->p l[j]=true)(b:p l[k]=false):tw p l 0=k:=by
 have key:∀d j,j+d=k->tw p l j=k:=by
  intro d
  induction d with
  |zero=>
   intro j h
   have:j=k:=by omega
   subst this
   exact wB c b
  |succ d e=>intro j h;rw[<-wA (by omega) (a j (by omega) (by omega))];exact e (j+1) (by omega)
 exact key k 0 (by omega)
theorem qNk(x:BA):pD x 47=if(x.data.toList.takeWhile lQ).length=x.data.toList.length then-1 else((x.data.toList.takeWhile lQ).length:Int):=by
 have n:=iC x
 have l:tw lQ x.data.toList 0=(x.data.toList.takeWhile lQ).length:=by simp[tw]
 have a:∀j,∀h:j<x.data.toList.length,x[j]! =x.data.toList[j]:=by
  intro j b
  rw[getElem!_pos x j (by omega)]
  simp[ByteArray.getElem_eq_getElem_data]
 have f:(47:Int).toNat.toUInt8=47:=rfl
 rw[<-l]
 unfold pD
 rw[f,<-n]
 cases hf:(List.range x.data.toList.length).find? (fun j=>x[j]! ==47) with
 |none=>
  rw[List.find?_eq_none] at hf
  simp only
  rw[if_pos]
  refine ZI fun c d=> ?_
  obtain⟨j,b,rfl⟩:=List.getElem_of_mem d
  have:=hf j (fK.2 b)
  rw[a j b] at this
  simpa[lQ] using this
 |some k=>
  have d:=List.find?_some hf
  have g:k<x.data.toList.length:=fK.1 (fL hf)
  rw[a k g] at d
  have e:tw lQ x.data.toList 0=k:=by
   refine qOk g (fun j h b=> ?_) (by simpa[lQ] using d)
   have:=(List.find?_range_eq_some.1 hf).2.2 j b
   rw[a j h] at this
   simpa[lQ] using this
  simp only
  rw[e,if_neg (by omega)]
theorem qJu{N:Nat}(x:BA):BI N x (⟨#[47]⟩:BA)=some (pD x 47):=by
 have b:eK (⟨#[47]⟩:BA) 0=some 47:=by kernel_rfl
 simp only[BI,IT,zO,show(⟨#[47]⟩:BA).size=1 from rfl,iQ]
 rw[if_neg (by decide)]
 simp only[j0,jA]
 by_cases h:(⟨#[47]⟩:BA)=x
 .have a:pD (⟨#[47]⟩:BA) 47=0:=by kernel_rfl
  rw[if_pos h,<-h,a]
  rfl
 rw[if_neg h,if_pos (by decide),b]
 rfl
theorem qNa(x:BA):zH x 47=((x.data.toList.count 47:Nat):Int):=by
 unfold zH
 rw[Go.Lib.foldl_data]
 have key:∀(l:List UInt8) (n:Int),l.foldl (fun n x=>if x==(47:Int).toNat.toUInt8 then n+1 else n) n=n+((l.count 47:Nat):Int):=by
  intro l
  induction l with
  |nil=>intro n;simp
  |cons c l b=>
   intro n
   rw[List.foldl_cons,b,List.count_cons]
   have a:(47:Int).toNat.toUInt8=47:=rfl
   rw[a]
   by_cases h:(c==47)=true
   .simp only[h,jH];omega
   simp only[h,jB,jF];omega
 rw[key]
 omega
theorem qKi{α:Type}(l:List α)(k:Nat)(a b:α):(l++List.replicate (k+1) a).set l.length b=(l++[b])++List.replicate k a:=by
 rw[List.set_append_right _ _ (jP _)]
 simp[List.replicate_succ]
theorem TN{N n:Nat}{s:BA}(v:n<1000000000)(l:n<=s.size+1)(A:s.size<1000000000):∀(r M:Nat) (x:BA) (done:List BA),(sp x.data.toList).length=r->done.length+r=n->r<M->x.size<1000000000->
  ∃y D,aI (EZ N s (⟨#[47]⟩:BA) 0 (n:Int)) M (x,(done.length:Int),done++List.replicate r (⟨#[]⟩:BA))=some (y,((n-1:Nat):Int),D++[(⟨#[]⟩:BA)])/\D.length=n-1/\D++[y]=done++(sp x.data.toList).map cN
 |_,0,_,_,_,_,h,_=>by omega
 |0,_,x,_,h,_,_,_=>by exact absurd (gA.1 h) (CX _)
 |r+1,M+1,x,done,c,F,G,H=>by
  have E:=iC x
  have f:(if IntKind.wrap .i64 ((s.size:Int)+1)<(n:Int) then IntKind.wrap .i64 ((s.size:Int)+1) else(n:Int))=(n:Int):=by
   rw[bQ (by omega) (by omega)];split<;>omega
  have a:=YP x.data.toList
  simp only[aI,EZ]
  rw[f,bQ (x:=(n:Int)-1) (by omega) (by omega)]
  by_cases hlast:(x.data.toList.takeWhile lQ).length=x.data.toList.length
  .rw[if_pos hlast] at a
   rw[a] at c
   simp only[jD,jE] at c
   have b:r=0:=by omega
   subst b
   rw[if_neg (by simp only[jA];omega)]
   refine⟨x,done,?_,by omega,?_⟩
   .simp only[j0]
    rw[show(n-1:Nat)=done.length by omega]
    rfl
   rw[a];simp[cN]
  rw[if_neg hlast] at a
  rw[a] at c
  simp only[jD] at c
  have z:0<(sp (x.data.toList.drop ((x.data.toList.takeWhile lQ).length+1))).length:=fD.2 (CX _)
  have B:(x.data.toList.takeWhile lQ).length<=x.data.toList.length:=(dF _).length_le
  have hix:=qNk x
  rw[if_neg hlast] at hix
  rw[if_pos (by simp only[jA];omega),qJu,hix]
  simp only[j0,show(⟨#[47]⟩:BA).size=1 from rfl]
  have u:(x.data.toList.takeWhile lQ)=x.data.toList.take (x.data.toList.takeWhile lQ).length:=List.prefix_iff_eq_take.1 (List.takeWhile_prefix _)
  have o:x.extract 0 (x.data.toList.takeWhile lQ).length=cN (x.data.toList.takeWhile lQ):=by
   apply Go.WideShapes.bytes_inj
   simp only[ByteArray.data_extract,fO,gW,cN,jT,dJ]
   exact u.symm
  have b:(x.extract ((x.data.toList.takeWhile lQ).length+1) x.data.toList.length).data.toList=x.data.toList.drop ((x.data.toList.takeWhile lQ).length+1):=by
   simp only[ByteArray.data_extract,fO,gW]
   exact gT (by simp only[kY];omega)
  generalize hk:(x.data.toList.takeWhile lQ).length=k at*
  rw[if_neg (by simp only[jA];omega),bQ (x:=(k:Int)+0) (by omega) (by omega),Int.add_zero]
  have d:lN x 0 (k:Int)=some (x.extract 0 k):=by
   have:=rL (s:=x) (i:=0) (e:=k) (by omega) (by omega)
   simpa only[Int.natCast_zero] using this
  rw[d]
  simp only[j0]
  rw[dX (by simp),bQ (x:=(k:Int)+((1:Nat):Int)) (by omega) (by omega),show((k:Int)+((1:Nat):Int))=((k+1:Nat):Int) by omega,NI (by omega)]
  simp only[j0,jO]
  rw[qKi,o,bQ (by omega) (by omega)]
  have g:=iC (x.extract (k+1) x.data.toList.length)
  rw[b,kY] at g
  obtain⟨y,D,p,q,t⟩:=TN (N:=N) v l A r M (x.extract (k+1) x.data.toList.length) (done++[cN (x.data.toList.takeWhile lQ)]) (by rw[b];omega) (by simp;omega) (by omega) (by omega)
  refine⟨y,D,?_,q,?_⟩
  .rw[<-p];simp
  rw[t,b,a];simp
termination_by r=>r
theorem qIu{N:Nat}{s:BA}(p:s.size<100000000)(l:2*s.size+1000<N):FN N s (⟨#[47]⟩:BA)=some ((sp s.data.toList).map cN):=by
 have q:=iC s
 have h:=PT s.data.toList
 have o:s.data.toList.count 47<=s.data.toList.length:=List.count_le_length
 have g:eK (⟨#[47]⟩:BA) 0=some 47:=by kernel_rfl
 have a:FM N s (⟨#[47]⟩:BA)=some ((s.data.toList.count 47:Nat):Int):=by
  simp only[FM,show(⟨#[47]⟩:BA).size=1 from rfl]
  rw[if_neg (by decide),if_pos (by decide),g]
  simp only[j0]
  rw[<-qNa];rfl
 simp only[FN,JJ,iQ,a,j0]
 rw[if_neg (by decide),if_neg (by decide),if_pos (by decide)]
 simp only[j0]
 rw[bQ (x:=((s.data.toList.count 47:Nat):Int)+1) (by omega) (by omega),show((s.data.toList.count 47:Nat):Int)+1=(((sp s.data.toList).length:Nat):Int) by omega]
 generalize hn:(sp s.data.toList).length=n at*
 have c:(if IntKind.wrap .i64 ((s.size:Int)+1)<(n:Int) then IntKind.wrap .i64 ((s.size:Int)+1) else(n:Int))=(n:Int):=by
  rw[bQ (by omega) (by omega)];split<;>omega
 rw[c]
 have k:qL 16 (⟨#[]⟩:BA) (n:Int)=some (List.replicate n (⟨#[]⟩:BA)):=by
  unfold qL
  rw[if_pos (by simp only[maxLen];omega),jO]
 rw[k]
 simp only[j0]
 obtain⟨y,D,b,f,e⟩:=TN (N:=N) (n:=n) (s:=s) (by omega) (by omega) (by omega) n N s [] hn (by simp) (by omega) (by omega)
 simp only[jE,kT] at b e
 rw[show((0:Nat):Int)=0 from rfl] at b
 rw[b]
 simp only[j0]
 rw[dX (by simp;omega)]
 simp only[j0,jO]
 have d:(D++[(⟨#[]⟩:BA)]).set (n-1) y=D++[y]:=by
  rw[<-f,List.set_append_right _ _ (jP _)];simp
 rw[d,e,bQ (by omega) (by omega),show((n-1:Nat):Int)+1=(n:Int) by omega,vO (by omega) (by omega) (by rw[gN,hn];omega)]
 simp only[j0,jO,gX,jT]
 rw[gT (by rw[gN,hn];exact jP _)]
theorem ZG{p:UInt8->Bool}{l:List UInt8}:tw p l 0=l.length↔∀c∈l,p c=true:=by
 constructor
 .intro h c a
  have b:(l.takeWhile p).length=l.length:=by simpa[tw] using h
  have d:=(List.takeWhile_prefix p (l:=l)).eq_of_length b
  rw[<-d] at a
  exact LC a
 exact ZI
def zF(x:BA):Bool:=decide (1<=x.data.toList.length/\x.data.toList.length<=24/\∀c∈x.data.toList,bV [1,2,3,4] c=true)
theorem UE(x:BA):zF x=true↔1<=x.data.toList.length/\x.data.toList.length<=24/\∀c∈x.data.toList,bV [1,2,3,4] c=true:=decide_eq_true_iff
theorem qKs{N:Nat}{x:BA}(f:100<N):(if(decide ((x.size:Int)<1))=true then(some true) else(if(decide ((x.size:Int)>24))=true then(some true) else((sL N x 0 (some kdL) ([1,2,3,4])).bind fun e=>some (e !=(x.size:Int)))))=some (!zF x):=by
 have d:=iC x
 have a:∀h:¬(1<=x.data.toList.length/\x.data.toList.length<=24/\∀c∈x.data.toList,bV [1,2,3,4] c=true),zF x=false:=fun h=>jQ h
 by_cases h1:1<=x.data.toList.length
 .rw[if_neg (by simp only[jA];omega)]
  by_cases h2:x.data.toList.length<=24
  .rw[if_neg (by simp only[jA];omega)]
   have b:=GM (N:=N) (s:=x) (ks:=[1,2,3,4]) (i:=0) (by omega) (by omega) (by simp) (by omega)
   rw[show((0:Nat):Int)=0 from rfl] at b
   rw[b]
   simp only[j0]
   refine congrArg some ?_
   by_cases h3:tw (bV [1,2,3,4]) x.data.toList 0=x.data.toList.length
   .have:zF x=true:=jU ⟨h1,h2,ZG.1 h3⟩
    rw[this,h3,d]
    simp
   rw[a fun h=>h3 (ZG.2 h.2.2)]
   simp only[kH,fP,ne_eq]
   omega
  rw[if_pos (by simp only[jA];omega),a fun h=>h2 h.2.1]
  rfl
 rw[if_pos (by simp only[jA];omega),a fun h=>h1 h.1]
 rfl
theorem UK{N:Nat}{L:List BA}(f:L.length<1000)(a:100<N):∀(d j M:Nat),j+d=L.length->d<M->aI (BK N L (some kdL)) M (j:Int)=some (if(L.drop j).all zF=true then .inl () else .inr false)
 |d,j,0,_,h=>by omega
 |0,j,M+1,c,e=>by
  simp only[aI,BK]
  rw[if_neg (by simp only[jA];omega),jM (by omega)]
  rfl
 |d+1,j,M+1,c,e=>by
  have b:j<L.length:=by omega
  simp only[aI,BK]
  rw[if_pos (by simp only[jA];omega),dX b]
  simp only[j0,qKs a]
  rw[jN b,List.all_cons]
  cases hp:zF L[j] with
  |true=>
   rw[if_neg (by simp),bQ (by omega) (by omega)]
   simp only[j0,gC]
   exact UK f a d (j+1) M (by omega) (by omega)
  |false=>simp
theorem OY{N:Nat}{s:BA}(e:s.size<100000000)(d:2*s.size+1000<N):tT N s=some (lM s.data.toList):=by
 have g:=iC s
 have a:∀h:¬(s.data.toList.length<=80/\(sp s.data.toList).length<=8/\∀p∈sp s.data.toList,1<=p.length/\p.length<=24/\∀c∈p,bV [1,2,3,4] c=true),lM s.data.toList=false:=fun h=>jQ h
 simp only[tT,qIu e d,j0,gN]
 by_cases h80:s.data.toList.length<=80
 .rw[if_neg (by simp only[jA];omega)]
  by_cases h8:(sp s.data.toList).length<=8
  .have b:decide (((sp s.data.toList).length:Int)>8)=false:=jQ (by omega)
   simp only[j0,b,jB,jF,OJ (show 30<N by omega)]
   have key:=UK (N:=N) (L:=(sp s.data.toList).map cN) (by rw[gN];omega) (by omega) _ 0 N (kF _) (by rw[gN];omega)
   rw[show((0:Nat):Int)=0 from rfl,jT] at key
   rw[key]
   simp only[j0]
   by_cases hp:((sp s.data.toList).map cN).all zF=true
   .have:lM s.data.toList=true:=jU ⟨h80,h8,fun p hp'=>by
     have:=(UE _).1 (jW.1 hp (cN p) (gV hp'))
     simpa[cN] using this⟩
    rw[if_pos hp,this]
   rw[if_neg hp,a fun h=>hp (jW.2 fun x f=>by
    obtain⟨p,hp',rfl⟩:=fX.1 f
    exact(UE _).2 (by simpa[cN] using h.2.2 p hp'))]
  have b:decide (((sp s.data.toList).length:Int)>8)=true:=jU (by omega)
  simp only[j0,b,jH]
  rw[a fun h=>h8 h.2.1]
 rw[if_pos (by simp only[jA];omega)]
 simp only[j0,jH]
 rw[a fun h=>h80 h.1]
def run{α τ β:Type}(step:τ->α->τ⊕β)(fin:τ->β):List α->τ->β
 |[],t=>fin t
 |x::l,t=>match step t x with
  | .inl t'=>run step fin l t'
  | .inr b=>b
theorem NS{α τ σ β:Type}{L:List α}(enc:τ->Nat->σ){f:σ->Option (σ⊕β)}(step:τ->α->τ⊕β)(fin:τ->β)(I:Nat->τ->Prop)
  (a:∀t i,∀hi:i<L.length,I i t->f (enc t i)=some (match step t L[i] with| .inl t'=> .inl (enc t' (i+1))| .inr b=> .inr b))
  (e:∀t i,∀hi:i<L.length,∀t',I i t->step t L[i]= .inl t'->I (i+1) t')
  (c:∀t,I L.length t->f (enc t L.length)=some (.inr (fin t))):∀(d i M:Nat) (t:τ),i+d=L.length->d<M->I i t->aI f M (enc t i)=some (run step fin (L.drop i) t)
 |_,_,0,_,_,h,_=>absurd h (kQ _)
 |d,i,M+1,t,l,n,g=>by
  cases d with
  |zero=>
   have hi:i=L.length:=by omega
   subst hi
   simp only[aI,c t g,j0,hK,run]
  |succ d=>
   have hi:i<L.length:=by omega
   have k:L.drop i=L[i]::L.drop (i+1):=(dG hi).symm
   simp only[aI,a t i hi g,j0]
   rw[k]
   simp only[run]
   cases hs:step t L[i] with
   |inl t'=>
    simp only
    exact NS enc step fin I a e c d (i+1) M t' (by omega) (by omega) (e t i hi t' g hs)
   |inr b=>rfl
theorem oK{α τ σ β:Type}{L:List α}(enc:τ->Nat->σ){f:σ->Option (σ⊕β)}(step:τ->α->τ⊕β)(fin:τ->β)(I:Nat->τ->Prop)
  (a:∀t i,∀hi:i<L.length,I i t->f (enc t i)=some (match step t L[i] with| .inl t'=> .inl (enc t' (i+1))| .inr b=> .inr b))
  (d:∀t i,∀hi:i<L.length,∀t',I i t->step t L[i]= .inl t'->I (i+1) t')
  (c:∀t,I L.length t->f (enc t L.length)=some (.inr (fin t))) {M:Nat} {t:τ} (g:L.length<M) (e:I 0 t):aI f M (enc t 0)=some (run step fin L t):=by
 have:=NS enc step fin I a d c L.length 0 M t (by omega) g e
 rw[jT] at this;exact this
theorem OQ{α τ β:Type}{step:τ->α->τ⊕β}{fin:τ->β}(g:τ->α->τ)(h:∀t x,step t x= .inl (g t x)):∀(l:List α) (t:τ),run step fin l t=fin (l.foldl g t)
 |[],_=>rfl
 |x::l,t=>by simp only[run,h,List.foldl_cons];exact OQ g h l _
theorem sN{α β:Type}{step:Unit->α->Unit⊕β}{fin:Unit->β}{b:β}(p:α->Bool)(h:∀x,step () x=if p x=true then .inr b else .inl ()):∀l:List α,run step fin l ()=if l.any p=true then b else fin ()
 |[]=>rfl
 |x::l=>by
  have a:=sN (fin:=fin) p h l
  rw[fZ]
  by_cases hp:p x=true
  .have e:step () x= .inr b:=by rw[h,if_pos hp]
   simp only[run,e]
   rw[hp,Bool.true_or,if_pos rfl]
  have e:step () x= .inl ():=by rw[h,if_neg hp]
  simp only[run,e]
  rw[a,show p x=false by simpa using hp,kW]
theorem tU{α:Type}{l:List α}{i:Nat}(h:i<l.length):l.drop i=l[i]::l.drop (i+1):=(dG h).symm
theorem BZ{α:Type}{l:List α}{i:Nat}(h:i<l.length):l.take (i+1)=l.take i++[l[i]]:=gG h
instance decMemB(s:BA)(l:List BA):Decidable (s∈l):=@List.instDecidableMemOfLawfulBEq BA instBEqOfDecidableEq inferInstance s l
abbrev Ex:=Int×Int×Int×BA×List Int
abbrev Dl:=Int×BA×List BA×List Ex
abbrev Sr:=BA×List BA×List Dl
abbrev bU:=Int×Int
abbrev Ps:=Nat×List Ex
abbrev PM(α:Type):=bU⊕(Ps×α)
def aN(ts:List bP)(i:Nat):bP:=ts.getD i (5,⟨#[]⟩,0,0)
def dO{α:Type}(t:bP)(e:Int):bU⊕α:= .inl (t.2.2.2,e)
def bG{α β:Type}(x:bU⊕α)(f:α->bU⊕β):bU⊕β:=
 match x with
 | .inl z=> .inl z
 | .inr a=>f a
def bT(ts:List bP)(k:Int)(s:BA)(i:Nat):Bool:=(aN ts i).1==k&&decide ((aN ts i).2.1=s)
def cS(ts:List bP)(s:BA)(i:Nat):bU⊕Nat:=if bT ts 4 s i then .inr (i+1) else dO (aN ts i) 9
def qK(ts:List bP)(s:BA)(i:Nat):bU⊕Nat:=if bT ts 1 s i then .inr (i+1) else dO (aN ts i) 9
def lB(ts:List bP)(k:Int)(i:Nat):bU⊕(Nat×bP):=if(aN ts i).1=k then .inr (i+1,aN ts i) else dO (aN ts i) 9
def GH:BA:=⟨#[112,97,99,107,97,103,101]⟩
def yV:BA:=⟨#[105,109,112,111,114,116]⟩
def HC:BA:=⟨#[102,117,110,99]⟩
def HB:BA:=⟨#[116,101,115,116]⟩
def HP:BA:=⟨#[103,101,110]⟩
def HW:BA:=⟨#[105,102]⟩
def HD:BA:=⟨#[116,104,101,110]⟩
def HG:BA:=⟨#[101,108,115,101]⟩
def oB:BA:=⟨#[114,101,97,100]⟩
def nZ:BA:=⟨#[115,105,122,101]⟩
def oD:BA:=⟨#[104,97,115]⟩
def oC:BA:=⟨#[101,110,118]⟩
def oZ:BA:=⟨#[102,108,105,112]⟩
def mM:BA:=⟨#[40]⟩
def iM:BA:=⟨#[41]⟩
def oM:BA:=⟨#[44]⟩
def pP:BA:=⟨#[59]⟩
def wP:BA:=⟨#[61]⟩
def QE:BA:=⟨#[45]⟩
def wordsR:List BA:=[GH,yV,HC,HB,HP,HW,HD,HG,oB,nZ,oD,oC,oZ]
def rF(s:BA):Bool:=decide (s∈wordsR)
def lA(ts:List bP)(i:Nat):bU⊕(Nat×bP):=bG (lB ts 1 i) fun p=>if rF p.2.2.1 then dO p.2 9 else .inr p
def lT(ts:List bP)(i:Nat):bU⊕(Nat×bP):=bG (lB ts 3 i) fun p=>if lM p.2.2.1.data.toList then .inr p else dO p.2 9
def uD(ts:List bP)(i:Nat):bU⊕(Nat×bP):=bG (lB ts 3 i) fun p=>if oA p.2.2.1 then .inr p else dO p.2 9
def iI(t:bP)(x:Ex)(p:Ps):PM Nat:=if p.2.length=256 then dO t 2 else .inr ((p.1,p.2++[x]),p.2.length)
def opsC:List (Int×BA):=[(1,⟨#[43]⟩),(2,⟨#[45]⟩),(3,⟨#[42]⟩),(4,⟨#[47]⟩),(5,⟨#[37]⟩),(6,⟨#[60]⟩),(7,⟨#[61,61]⟩)]
def uQ(op:Int):Nat:=if op=6\/op=7 then 1 else if op=1\/op=2 then 2 else 3
def nU(ts:List bP)(level:Nat)(i:Nat)(o:Int×BA):Bool:=bT ts 4 o.2 i&&decide (uQ o.1=level)
def lC(ts:List bP)(level:Nat)(i:Nat):Int:=
 match opsC.find? (nU ts level i) with
 |some o=>o.1
 |none=>0
section
variable (ts:List bP) (params:List BA) (E:Ps->PM Nat)
def rU:Nat->List Int->Ps->PM (List Int)
 |0,_,p=>dO (aN ts p.1) 9
 |n+1,l,p=>bG (E p) fun q=>
  if bT ts 4 oM q.1.1 then rU n (l++[(q.2:Int)]) (q.1.1+1,q.1.2)
  else bG (cS ts iM q.1.1) fun i=> .inr ((i,q.1.2),l++[(q.2:Int)])
def sK(p:Ps):PM (List Int):=
 bG (cS ts mM p.1) fun i=>if bT ts 4 iM i then .inr ((i+1,p.2),[]) else rU ts E (ts.length+1) [] (i,p.2)
def pI(t:bP)(p:Ps):PM Nat:=
 bG (cS ts mM p.1) fun i=>
 bG (if t.2.1=oB then
   bG (lT ts i) fun a=>bG (cS ts oM a.1) fun i=>bG (E (i,p.2)) fun q=> .inr (q.1,((6,0,0,a.2.2.1,[(q.2:Int)]):Ex))
  else if t.2.1=nZ then bG (lT ts i) fun a=> .inr ((a.1,p.2),((7,0,0,a.2.2.1,[]):Ex))
  else if t.2.1=oD then bG (lT ts i) fun a=> .inr ((a.1,p.2),((8,0,0,a.2.2.1,[]):Ex))
  else if t.2.1=oC then bG (uD ts i) fun a=> .inr ((a.1,p.2),((9,0,0,a.2.2.1,[]):Ex))
  else bG (lB ts 2 i) fun a=>if a.2.2.2.1>=64 then dO a.2 9 else .inr ((a.1,p.2),((10,a.2.2.2.1,0,⟨#[]⟩,[]):Ex))) fun q=>
 bG (cS ts iM q.1.1) fun i=>iI t q.2 (i,q.1.2)
def oV(p:Ps):PM Nat:=
 let t:=aN ts p.1
 if t.1=2 then iI t (1,t.2.2.1,0,⟨#[]⟩,[]) (p.1+1,p.2)
 else if bT ts 4 QE p.1 then bG (lB ts 2 (p.1+1)) fun a=>iI t (1,IntKind.wrap .i64 (0-a.2.2.2.1),0,⟨#[]⟩,[]) (a.1,p.2)
 else if bT ts 4 mM p.1 then bG (E (p.1+1,p.2)) fun q=>bG (cS ts iM q.1.1) fun i=> .inr ((i,q.1.2),q.2)
 else if t.1≠1 then dO t 9
 else if t.2.1∈[oB,nZ,oD,oC,oZ] then pI ts E t (p.1+1,p.2)
 else if rF t.2.1 then dO t 9
 else if bT ts 4 mM (p.1+1) then bG (sK ts E (p.1+1,p.2)) fun q=>iI t (3,0,0,t.2.1,q.2) q.1
 else match params.findIdx? (fun x=>decide (x=t.2.1)) with
  |some i=>iI t (2,(i:Int),0,⟨#[]⟩,[]) (p.1+1,p.2)
  |none=>dO t 9
def mQ(level:Nat)(S:Ps->PM Nat):Nat->Nat->Ps->PM Nat
 |0,_,p=>dO (aN ts p.1) 9
 |n+1,x,p=>
  if lC ts level p.1=0 then .inr (p,x)
  else bG (S (p.1+1,p.2)) fun q=>bG (iI (aN ts p.1) (4,0,lC ts level p.1,⟨#[]⟩,[(x:Int),(q.2:Int)]) q.1) fun r=>
   if level=1 then .inr r else mQ level S n r.2 r.1
def oW(level:Nat)(S:Ps->PM Nat)(p:Ps):PM Nat:=bG (S p) fun q=>mQ ts level S (ts.length+1) q.2 q.1
def CY:Ps->PM Nat:=oW ts 3 (oV ts params E)
def rX:Ps->PM Nat:=oW ts 2 (CY ts params E)
def CD:Ps->PM Nat:=oW ts 1 (rX ts params E)
end
def dL(ts:List bP)(params:List BA):Nat->Ps->PM Nat
 |0,p=>dO (aN ts p.1) 2
 |k+1,p=>
  if bT ts 1 HW p.1 then
   bG (dL ts params k (p.1+1,p.2)) fun a=>bG (qK ts HD a.1.1) fun i=>
   bG (dL ts params k (i,a.1.2)) fun b=>bG (qK ts HG b.1.1) fun j=>
   bG (dL ts params k (j,b.1.2)) fun c=>iI (aN ts p.1) (5,0,0,⟨#[]⟩,[(a.2:Int),(b.2:Int),(c.2:Int)]) c.1
  else CD ts params (dL ts params k) p
def sO(ts:List bP):Nat->List BA->Nat->bU⊕(Nat×List BA)
 |0,_,i=>dO (aN ts i) 9
 |n+1,l,i=>bG (lA ts i) fun a=>
  if l.length=8 then dO a.2 2
  else if a.2.2.1∈l then dO a.2 10
  else if bT ts 4 oM a.1 then sO ts n (l++[a.2.2.1]) (a.1+1)
  else bG (cS ts iM a.1) fun j=> .inr (j,l++[a.2.2.1])
def qV(ts:List bP)(i:Nat):bU⊕(Nat×List BA):=
 bG (cS ts mM i) fun j=>if bT ts 4 iM j then .inr (j+1,[]) else sO ts (ts.length+1) [] j
def lF(s:BA):Int:=if s=HC then 1 else if s=HB then 2 else if s=HP then 3 else 0
def mE(ts:List bP)(before:List Dl)(i:Nat):bU⊕(Nat×Dl):=
 let t:=aN ts i
 let k:=lF t.2.1
 if t.1≠1\/k=0 then dO t 9
 else if before.length=64 then dO t 2
 else bG (if k=3 then lT ts (i+1) else lA ts (i+1)) fun a=>
  if before.any (fun d=>d.1==k&&decide (d.2.1=a.2.2.1)) then dO a.2 10
  else bG (if k=1 then qV ts a.1 else .inr (a.1,[])) fun b=>
   bG (cS ts wP b.1) fun j=>bG (dL ts b.2 32 (j,[])) fun c=>
   bG (cS ts pP c.1.1) fun m=> .inr (m,(k,a.2.2.1,b.2,c.1.2))
def pJ(ts:List bP)(pkg:BA):Nat->List BA->Nat->bU⊕(Nat×List BA)
 |0,_,i=>dO (aN ts i) 9
 |n+1,l,i=>
  if bT ts 1 yV i then
   if l.length=8 then dO (aN ts i) 2
   else bG (lA ts (i+1)) fun a=>
    if a.2.2.1=pkg\/a.2.2.1∈l then dO a.2 10
    else bG (cS ts pP a.1) fun j=>pJ ts pkg n (l++[a.2.2.1]) j
  else .inr (i,l)
def qJ(ts:List bP):Nat->List Dl->Nat->bU⊕List Dl
 |0,_,i=>dO (aN ts i) 9
 |n+1,l,i=>if(aN ts i).1=5 then .inr l else bG (mE ts l i) fun a=>qJ ts n (l++[a.2]) a.1
def rS(ts:List bP):bU⊕Sr:=
 bG (qK ts GH 0) fun i=>bG (lA ts i) fun a=>bG (cS ts pP a.1) fun j=>
 bG (pJ ts a.2.2.1 (ts.length+1) [] j) fun b=>bG (qJ ts (ts.length+1) [] b.1) fun l=> .inr (a.2.2.1,b.2,l)
def rT:Sr:=(⟨#[]⟩,[],[])
def rO(s:BA):Sr×Int×Int:=
 if(iS s).2.2≠0 then(rT,(iS s).2.1,(iS s).2.2)
 else match rS (iS s).1 with
  | .inl z=>(rT,z.1,z.2)
  | .inr f=>(f,0,0)
end
end Go.Proofs.YthiiggmmmoolbaaGreatDoor
