/- No condition but those of each theorem. -/
import Derived.Test.YtleaknfdlaokiaaGreatDoorProg
import Derived.WalkKit
import Derived.Deep.LoopGhost
import Derived.KernelRfl
import Derived.OrdersHeld
import Derived.OrdersIn
import Derived.LoopNIn
import Derived.Sort.LoopGhostIn
import Derived.Laws.AppendOwn
import Derived.RangeFuncLeaves
import Derived.RangeFuncRecord
import Derived.MapKept
import Derived.Maps.RangeRun
import Derived.ChangeKeysEq
import Derived.HandedShaped
import Derived.ChangeStays
import Derived.ChangeSame
import Derived.OpenShut
import Derived.WideShapes
import Derived.JoinedOf
import Derived.ReadAgain
import Derived.ChangeAt
import Derived.RowKit
import Derived.Lib.Overlaps
import Derived.Shelf.SlSortCmp.NoneTotal
import Derived.WalkSmall
import Derived.Recover
import Derived.Test.YtleaknfdlaokiaaGreatDoorK3a4
namespace Go.Proofs.YtleaknfdlaokiaaGreatDoor
section
open Go Go.Dc Go.Proofs.Tryz
set_option maxHeartbeats 4000000
set_option maxRecDepth 100000
variable {N c1 bp0 c2 c3 c4 c5 c6 c7 c8 c9:Nat} {m:Mem} {O:List Piece} {w:World} {a1 a2 a3 a4 a5 a6 a7 a8 a9:Option Addr}
def CO(N:Nat)(d:Tn)(c:JH)(s2:Int×uC):Option (Int×uC⊕uC):=
 if(decide (s2.1<(List.length c.1.2.2:Int)))then((bS c.1.2.2 s2.1).bind fun b=>((HS N b.1 c.1.1 b.2.1).bind fun a=>(if((bC s2.2 a).isSome)then(some (((bC s2.2 a).getD ((⟨#[]⟩:BA),(⟨#[]⟩:BA),0,(⟨#[]⟩:BA),0,0)).1,((bC s2.2 a).getD ((⟨#[]⟩:BA),(⟨#[]⟩:BA),0,(⟨#[]⟩:BA),0,0)).2.1,((bC s2.2 a).getD ((⟨#[]⟩:BA),(⟨#[]⟩:BA),0,(⟨#[]⟩:BA),0,0)).2.2.1,((bC s2.2 a).getD ((⟨#[]⟩:BA),(⟨#[]⟩:BA),0,(⟨#[]⟩:BA),0,0)).2.2.2.1,((bC s2.2 a).getD ((⟨#[]⟩:BA),(⟨#[]⟩:BA),0,(⟨#[]⟩:BA),0,0)).2.2.2.2.1,IntKind.wrap .i64 ((((bC s2.2 a).getD ((⟨#[]⟩:BA),(⟨#[]⟩:BA),0,(⟨#[]⟩:BA),0,0)).2.2.2.2.2)+1))) else(some (c.1.1,b.2.1,b.1,d.1,s2.1,1)):Option iK).bind fun b=>(eA s2.2 a b).bind fun a=>some a:Option uC).bind fun a=>some (.inl (IntKind.wrap .i64 (s2.1+1),a))) else(some (.inr s2.2))
def CN(N:Nat)(p0:To)(s1:Int×ES):Option (Int×ES⊕ES):=
 if(decide (s1.1<(List.length p0:Int)))then(((bS p0 s1.1).bind fun a=>(MC N a.1).bind fun b=>if(!b)then(some s1.2) else((MP N a.2).bind fun b=>if(b.2.2 !=0)then((eM 16 s1.2.1 ([a.1])).bind fun c=>some (c,s1.2.2.1,s1.2.2.2)) else((eA s1.2.2.1 a.1 b.1).bind fun c=>(aK (CO N a b) N (0,s1.2.2.2)).bind fun o4=>some (s1.2.1,c,o4))):Option ES).bind fun a=>some (.inl (IntKind.wrap .i64 (s1.1+1),a.1,a.2.1,a.2.2))) else(some (.inr s1.2))
def HT(N:Nat)(p0:To):Option sN:=
 ((QI N p0).bind fun y1=>some (y1==0):Th).bind fun a=>if(!a)then(some (p0,a,(some []:Option (List JW)),([]:T8),(some []:uC))) else((aK (CN N p0) N (0,([]:T8),(some []:Option (List JW)),(some []:uC))).bind fun o2=>some (p0,a,o2.2.1,o2.1,o2.2.2))
theorem XJ{p0:To}{r:sN}(g:St m (O) w)(o:RepS C1 m a1 c1 p0)(hr:HT N p0=some r):Calls prog 20 #[.agg #[vS a1 p0 c1]] w fun e w'=>∃rb l6 l8,∃(rq2:dL),∃n0 n2 l7 l9,∃(l3:dL),∃n1 n3 m',bW m m' e (vP rb 0) (aD rq2 n0 n2::aD l3 n1 n3::cA rb l6 l8 rq2 l7 l9 l3 r::O) w' (RepS C1 m' l6 l8 r.1/\MapQ cR C7 true m' rq2 n0 n2 r.d.1/\RepS aH m' l7 l9 r.e.1/\MapQ bA C8 true m' l3 n1 n3 r.f):=by
 refine bP g func20 rfl ntmps20 fun q=>aB (dY 1 28 (.agg #[vS a1 p0 c1]) g fun b1 m1 w1 e1 g d5=> ?_);have q:=q.t e1;have o:=o.o e1;refine aG 1 [] (aF (cJ .normal hr (fun o1 L' w'=>∃B p l m2,L'=[(1,vP b1 0),(3,vP l 0)]/\m.le m2/\St m2 (kB l #[vS a1 p0 c1,vB o1,.map (some B),v2,.map (some p)] 73::aD (some B) #[] 0::aD (some p) #[] 0::O) w'/\MRow m2 b1 0 [vS a1 p0 c1]/\RepS C1 m2 a1 c1 p0) ?_ ?_))
 .rintro o1 hr _ w2 ⟨B,p,l,m2,rfl,q,g,d5,o⟩;refine aC (aF (aB (bH 3 22 4 21 1 (vB o1) g.h (aG 1 [(23,vB (!o1))] (aJ hr ?_ ?_)))))<;>intro A hr
  .refine aI 2 [(2,vP l 0)] (aM (aU ?_));obtain rfl:=sI hr;exact aW [2] [vP l 0] ⟨l,a1,c1,(some B),#[],0,none,0,(some p),#[],0,m2,rfl,q,g.f2.f2,o,(MapQ.new cR C7 true _ _),(RepS.nil _ _),(MapQ.new bA C8 true _ _)⟩
  refine aN (aC (aF (aS 1 [(25,vP b1 0)] (cI 26 (vS a1 p0 c1) g d5 (aG 2 [(27,vI (p0.length:Int)),(28,vI 0)] (bB (cJ (.exit 0) hr (fun g8 L' w'=>∃(o2:ES),∃a2 c2 h9 h4 k0 h5 m5,o2=g8/\L'=[(3,vP l 0)]/\m.le m5/\St m5 (kB l #[vS a1 p0 c1,vB o1,.map (some B),vS a2 o2.1 c2,.map (some p)] 73::aD (some B) h9 h4::aD (some p) k0 h5::kR a2 o2.1 c2 9 1::O) w'/\RepS C1 m5 a1 c1 p0/\RepS aH m5 a2 c2 o2.1/\MapQ cR C7 true m5 (some B) h9 h4 o2.2.1/\MapQ bA C8 true m5 (some p) k0 h5 o2.d) ?_ ?_)))))))
  .rintro g8 hr _ D ⟨o2,a2,c2,h9,h4,k0,h5,m5,rfl,rfl,q,g,o,a,b,n⟩;refine cX (aC (aI 2 [(2,vP l 0)] (aM ?_)));obtain rfl:=sI hr;exact aW [2] [vP l 0] ⟨l,a1,c1,(some B),h9,h4,a2,c2,(some p),k0,h5,m5,rfl,q,g.f3.t.f2.f2,o,b,a,n⟩
  intro g8 hr l4;have g:=(g.nilroom 9 1).front3.front3.front3;refine dJ (fun k1 L' w'=>∃(s1:Int×ES),∃D E g5 g4 g2 g1 m6,aK (CN N p0) k1 s1=some g8/\L'=[(3,vP l 0),(26,vS a1 p0 c1),(27,vI (p0.length:Int)),(28,vI s1.1)]/\m.le m6/\St m6 (kB l #[vS a1 p0 c1,vB o1,.map (some B),vS D s1.2.1 E,.map (some p)] 73::aD (some B) g5 g4::aD (some p) g2 g1::kR D s1.2.1 E 9 1::O) w'/\RepS C1 m6 a1 c1 p0/\RepS aH m6 D E s1.2.1/\MapQ cR C7 true m6 (some B) g5 g4 s1.d.1/\MapQ bA C8 true m6 (some p) g2 g1 s1.e) N ⟨(0,([]:T8),(some []:Option (List JW)),(some []:uC)),none,0,#[],0,#[],0,m2,hr,rfl,q,g,o,(RepS.nil _ _),(MapQ.new cR C7 true _ _),(MapQ.new bA C8 true _ _)⟩ ?_;rintro k1 _ w9 ⟨s1,D,E,g5,g4,g2,g1,m6,hL,rfl,q,g,o,Y,r6,r7⟩;obtain⟨k1,q9,rfl,hr,n6,n4⟩:=dN hL;refine aI 1 [(29,vB (decide (s1.1<(p0.length:Int))))] (aF (aJ hr ?_ ?_))<;>intro A hr
  .refine aN (aC (aF (cJ .normal hr (fun o3 L' w'=>∃a4 c4 k3 h6 k4 h7 m7,L'=[(3,vP l 0),(26,vS a1 p0 c1),(27,vI (p0.length:Int)),(28,vI s1.1)]/\m.le m7/\St m7 (kB l #[vS a1 p0 c1,vB o1,.map (some B),vS a4 o3.1 c4,.map (some p)] 73::aD (some B) k3 h6::aD (some p) k4 h7::kR a4 o3.1 c4 9 1::O) w'/\RepS C1 m7 a1 c1 p0/\RepS aH m7 a4 c4 o3.1/\MapQ cR C7 true m7 (some B) k3 h6 o3.2.1/\MapQ bA C8 true m7 (some p) k4 h7 o3.d) ?_ ?_)))
   .rintro o3 hr _ F ⟨a4,c4,k3,h6,k4,h7,m7,rfl,q,g,o,b,n,a⟩;refine aC (aY (aA 2 [(28,vI (wr (s1.1+1)))] (aV ?_)));have hL:=n6 _ (sI hr);exact cY ⟨(wr (s1.1+1),o3.1,o3.2.1,o3.d),a4,c4,k3,h6,k4,h7,m7,hL,rfl,q,g.f3.f3.f3.f3,o,b,n,a⟩
   intro o3 hr k6;refine bB (aB (iH 30 o hr ?_));rintro S hr b8 f1 q7 ⟨_,_,rfl,rfl,rfl⟩ n9;refine iG 31 62 30 f1 (.agg (V2 S)) g n9 (bX 5 62 (.agg (V3 eB eB)) g fun b9 s3 g=>bF (.agg (V2 S)) g fun s4 g=>aQ (aF (aB (bH 1 33 9 32 0 (vT S.1) g.h (aL 34 hr (qIz g) ?_)))));rintro y2 hr _ s5 ⟨m8,rfl,e4,g⟩;have q:=q.t e4;have o:=o.o e4;have Y:=Y.o e4;have r6:=r6.o e4;have r7:=r7.o e4;refine aG 1 [(35,vB (!y2))] (aJ hr ?_ ?_)<;>intro A hr
   .exact cT (bG (cX (xE (k6 hr ⟨D,E,g5,g4,g2,g1,m8,rfl,q,g.t.f3.f3.f3.f3,o,Y,r6,r7⟩))))
   refine aN (aC (aB (bH 1 38 9 37 1 (vT S.2) g.h (aL 39 hr (qJr g) ?_))));rintro n hr _ s6 ⟨U,V,M,R,m9,rfl,e5,g,G,F⟩;refine aA 4 [(40,.agg (V8 n.1 U V M R)),(41,vI n.2.1),(42,vI n.d)] (bX 6 102 (.agg #[vT eB,v6,v6]) g fun d9 s7 g=>bF (.agg (V8 n.1 U V M R)) g fun s8 g=>aG 2 [(8,vI n.d)] (aF (aI 2 [(44,vB (n.d !=0))] (aJ hr ?_ ?_))))<;>intro A hr
   .refine aF (dO [(12,fun w'=>Inv m9 w'/\Piece.holds m9 w' (kB b9 (V2 S) 62)/\True),(11,fun w'=>Inv m9 w'/\Piece.holds m9 w' (kB l #[vS a1 p0 c1,vB o1,.map (some B),vS D s1.2.1 E,.map (some p)] 73)/\True)] kr g fun d4 _ g=> ?_);have a:=m9.le_refl;refine⟨iE (aT g a) (aT g a),cE 4 [(0,45,vP l 0),(1,46,vP l 0),(2,47,vP l 0),(3,48,vP l 3)] (pK 70 48 4 49 3 (vS D s1.2.1 E) (.tail _ (.head _)) cZ (bL 5 50 (vP b9 0) (cV 6 51 (vT S.1) cZ (aZ 7 kr (oB (d:=52) (t:=70) (e:=9) (len:=1) (parts:= #[(0,(.tmp 51))]) aH (xs:=[S.1]) [vT S.1] kr rfl (fun _=>oA kr _) rfl rfl g ⟨[vT S.1],_,rfl,rfl,rfl⟩ fun d2 d3 d6 b g c0=> ?_)))))⟩;have a:=a.t b;refine⟨iE (aT g a) (aT g a),aZ 8 kr (rJ 53 70 70 9 16 49 52 g.f8 (.inl kr) ((Y.o e5).o b) c0.src hr fun l1 hr Z c7 b0 d7 H g d1=> ?_)⟩;have a:=a.t H;refine⟨iE (aT g a) (aT g a),cE 2 [(9,54,vP l 0),(10,55,vP l 3)] (aZ 11 kr (rA 70 55 53 3 (vS Z l1 c7) #[vS a1 p0 c1,vB o1,.map (some B),vS Z l1 c7,.map (some p)] g.f6 fun d8 g=>⟨pQ (aT g a),cO kr ?_⟩))⟩;have g:=g.f2.t;exact aC (cT (bG (cX (xE (k6 hr ⟨Z,c7,g5,g4,g2,g1,b0,rfl,((q.t e5).t b).t H,g.f2.t.f2.t.f2.t.f2.t.f1.f3.f3.f3,((o.o e5).o b).o H,d1,((r6.o e5).o b).o H,((r7.o e5).o b).o H⟩)))))
   refine aN (aC (aF (dO [(8,fun w'=>Inv m9 w'/\Piece.holds m9 w' (kB d9 (V8 n.1 U V M R) 102)/\Piece.holds m9 w' (kB b9 (V2 S) 62)/\Piece.holds m9 w' (kB l #[vS a1 p0 c1,vB o1,.map (some B),vS D s1.2.1 E,.map (some p)] 73)/\True)] kr g fun s9 _ g=> ?_)));have k9:=m9.le_refl;refine⟨bO (aT g k9),cE 3 [(0,56,vP l 0),(1,57,vP l 0),(2,58,vP l 2)] (cV 3 59 (.map (some B)) zW (bL 4 60 (vP b9 0) (cV 5 61 (vT S.1) pO (cV 6 62 (.agg (V8 n.1 U V M R)) cZ ?_))))⟩;have g:=g.f5;have⟨h1,o7,hr⟩:=aX hr
   refine aZ 7 kr (HG (ek:=cR) (c:=C7) (agg:=true) (k:=S.1) (yv:=n.1) (cs:=(Vc n.1 U V M R)) (z:=(.agg #[vT eB,v2,vd])) (v:=(.agg (V8 n.1 U V M R))) (kt:=9) (et:=102) (t:=69) (x:=(.tmp 59)) (y:=(.tmp 61)) (u:=(.tmp 62)) kr (ev (.map (some B))) (ev (vT S.1)) (ev (.agg (V8 n.1 U V M R))) kr (uR kr) g (r6.o e5) ⟨_,_,rfl,rfl,⟨_,_,rfl,(nJ G),(nJ F)⟩⟩ rfl o7 fun d2 d1 t3 g H=>⟨bO (aT g k9),cO kr (aC (aB (bH 1 64 100 63 2 (vS M n.1.d R) g.t.h (aG 2 [(65,vI (n.1.2.2.length:Int)),(66,vI 0)] (bB (cJ (.exit 2) hr (fun g9 L' w'=>∃(o4:uC),∃k5 h8 d6,o4=g9/\L'=[(3,vP l 0),(26,vS a1 p0 c1),(27,vI (p0.length:Int)),(28,vI s1.1)]/\m.le d6/\St d6 (kB d9 (V8 n.1 U V M R) 102::kB b9 (V2 S) 62::kB l #[vS a1 p0 c1,vB o1,.map (some B),vS D s1.2.1 E,.map (some p)] 73::aD (some B) d2 d1::aD (some p) k5 h8::kR U n.1.2.1 V 9 1::kR M n.1.d R 105 4::kR D s1.2.1 E 9 1::O) w'/\RepS C1 d6 a1 c1 p0/\RepS aH d6 U V n.1.2.1/\RepS C6 d6 M R n.1.d/\RepS aH d6 D E s1.2.1/\MapQ cR C7 true d6 (some B) d2 d1 h1/\MapQ bA C8 true d6 (some p) k5 h8 o4) ?_ ?_))))))⟩)
   .rintro g9 hr _ b ⟨o4,k5,h8,d6,rfl,rfl,q,g,o,G,F,Y,H,a⟩;exact cX (bT (xE (k6 hr ⟨D,E,d2,d1,k5,h8,d6,rfl,q,g.t.t.f3.t.f3.t.f3.f3.f3.f3,o,Y,H,a⟩)))
   intro g9 hr l5;refine dJ (fun k2 L' w'=>∃(s2:Int×uC),∃e8 e3 d7,aK (CO N S n) k2 s2=some g9/\L'=[(3,vP l 0),(5,vP b9 0),(6,vP d9 0),(26,vS a1 p0 c1),(27,vI (p0.length:Int)),(28,vI s1.1),(64,vS M n.1.d R),(65,vI (n.1.2.2.length:Int)),(66,vI s2.1)]/\m.le d7/\St d7 (kB d9 (V8 n.1 U V M R) 102::kB b9 (V2 S) 62::kB l #[vS a1 p0 c1,vB o1,.map (some B),vS D s1.2.1 E,.map (some p)] 73::aD (some B) d2 d1::aD (some p) e8 e3::kR U n.1.2.1 V 9 1::kR M n.1.d R 105 4::kR D s1.2.1 E 9 1::O) w'/\RepS C1 d7 a1 c1 p0/\RepS C6 d7 M R n.1.d/\RepS aH d7 U V n.1.2.1/\RepS aH d7 D E s1.2.1/\MapQ cR C7 true d7 (some B) d2 d1 h1/\MapQ bA C8 true d7 (some p) e8 e3 s2.2) N ⟨(0,s1.e),g2,g1,m9,hr,rfl,q.t e5,g.f7.f4.f4.f7.f4.f7.f7.f7,o.o e5,F,G,Y.o e5,H,r7.o e5⟩ ?_;rintro k2 _ t4 ⟨s2,e8,e3,d7,hL,rfl,q,g,o,F,G,Y,H,b0⟩;obtain⟨k2,r0,rfl,hr,n7,n5⟩:=dN hL;refine aI 1 [(67,vB (decide (s2.1<(n.1.2.2.length:Int))))] (aF (aJ hr ?_ ?_))<;>intro A hr
   .refine aN (aC (aF (bB (aS 1 [(68,vI s2.1)] (iH 69 F hr ?_)))));rintro Z hr q6 f2 q8 ⟨_,_,rfl,rfl,⟨_,_,rfl,rfl,⟨_,_,rfl,⟨a8,c8,rfl,d3⟩,⟨a9,c9,rfl,d4⟩⟩⟩⟩ o0;refine iG 70 105 69 f2 (.agg (V9 Z a8 c8 a9 c9)) g o0 (bX 10 105 (.agg #[vI 0,vT eB,v6,v6]) g fun k7 t5 g=>aA 1 [(9,vI s2.1)] (bF (.agg (V9 Z a8 c8 a9 c9)) g fun t6 g=>aQ (aY (aA 2 [(71,vP l 0),(72,vP d9 0)] (bD 73 (vT n.1.1) g.t.h (bH 1 75 9 74 1 (vT Z.2.1) g.h (bH 1 77 3 76 0 (vI Z.1) g.h (bH 1 79 9 78 0 (vT S.1) g.t.t.h (aA 2 [(81,.agg (Vf n.1.1 Z.2.1 Z.1 S.1 s2.1 1))] ?_)))))))));have⟨o5,hr,j4⟩:=aX hr;refine bU (nN 82 46 #[vP l 0,.agg (Vf n.1.1 Z.2.1 Z.1 S.1 s2.1 1)] kr rfl (NA (fun v' w'=>∃g7 g6 c0,v'=(.tuple #[])/\m.le c0/\St c0 (kB k7 (V9 Z a8 c8 a9 c9) 105::kB d9 (V8 n.1 U V M R) 102::kB b9 (V2 S) 62::kB l #[vS a1 p0 c1,vB o1,.map (some B),vS D s1.2.1 E,.map (some p)] 73::aD (some B) d2 d1::aD (some p) g7 g6::kR U n.1.2.1 V 9 1::kR M n.1.d R 105 4::kR D s1.2.1 E 9 1::O) w'/\RepS C1 c0 a1 c1 p0/\RepS C6 c0 M R n.1.d/\RepS aH c0 a8 c8 Z.d.1/\RepS C5 c0 a9 c9 Z.e/\RepS aH c0 U V n.1.2.1/\RepS aH c0 D E s1.2.1/\MapQ cR C7 true c0 (some B) d2 d1 h1/\MapQ bA C8 true c0 (some p) g7 g6 o5) ?_ ?_))
    .have hr:=j4;rintro _ b ⟨g7,g6,c0,rfl,q,g,o,F,d3,d4,G,Y,H,a⟩;refine⟨_,rfl,?_⟩;refine aV (bT (aC (aY (aA 2 [(66,vI (wr (s2.1+1)))] (aV ?_)))));have hL:=n7 _ (sI hr);exact cY ⟨(wr (s2.1+1),o5),g7,g6,c0,hL,rfl,q,g.t.f7.f7.f7.f7.f7.f7.f7.f7,o,F,G,Y,H,a⟩
    refine nT func46 rfl ntmps46 (aB (bU (qI 3 66 1 (.agg (Vf n.1.1 Z.2.1 Z.1 S.1 s2.1 1)) g fun e0 t7 g=>aQ (aB (bH 1 8 3 7 2 (vI Z.1) g.h (bH 1 10 9 9 0 (vT n.1.1) g.h (bH 1 12 9 11 1 (vT Z.2.1) g.h (aL 13 hr (XS g) ?_))))))));rintro b hr _ t8 ⟨f0,rfl,e9,g⟩;have q:=q.t e9;have o:=o.o e9;have F:=F.o e9;have d3:=d3.o e9;have d4:=d4.o e9;have G:=G.o e9;have Y:=Y.o e9;have H:=H.o e9;have b0:=b0.o e9;refine bX 4 113 (.agg #[vI 0,vT eB,vT eB]) g fun g0 t9 g=>bF (.agg (Vj b)) g fun u0 g=>aQ (aF (aF (dO [(12,fun w'=>Inv f0 w'/\Piece.holds f0 w' (kB g0 (Vj b) 113)/\Piece.holds f0 w' (kB l #[vS a1 p0 c1,vB o1,.map (some B),vS D s1.2.1 E,.map (some p)] 73)/\True)] kr g fun u1 _ g=> ?_)));have d8:=f0.le_refl;refine⟨bO (aT g d8),cE 3 [(0,15,vP l 0),(1,16,vP l 0),(2,17,vP l 4)] (cV 3 18 (.map (some p)) pO (cV 4 19 (.agg (Vj b)) cZ (tP [5,9] kr ae (uO ?_ ?_))))⟩
    .refine qT (ek:=bA) (c:=C8) (agg:=true) (k:=b) (zx:=(eB,eB,0,eB,0,0)) (zcs:=[vT eB,vT eB,vI 0,vT eB,vI 0,vI 0]) (z:=(.agg dX)) (kt:=113) (et:=66) (d:=20) (t:=71) (x:=(.tmp 18)) (y:=(.tmp 19)) (ok:=true) kr rfl (ev (.map (some p))) (ev (.agg (Vj b))) kr (zO kr kr (fun _ _=>kr) (fun _ _=>kr)) g.t.t.t.t.t.t.t.h b0 ⟨_,_,rfl,rfl,⟨_,_,rfl,rfl,⟨_,_,rfl,rfl,⟨_,_,rfl,rfl,⟨_,_,rfl,rfl,rfl⟩⟩⟩⟩⟩ rfl ?_;rintro n8 ⟨_,_,rfl,rfl,⟨_,_,rfl,rfl,⟨_,_,rfl,rfl,⟨_,_,rfl,rfl,⟨_,_,rfl,rfl,rfl⟩⟩⟩⟩⟩
     refine⟨bO (aT g d8),cE 3 [(6,14,.tuple #[.agg (Ve ((bC s2.2 b).getD (eB,eB,0,eB,0,0))),vB ((bC s2.2 b).isSome)]),(7,21,.agg (Ve ((bC s2.2 b).getD (eB,eB,0,eB,0,0)))),(8,22,vB ((bC s2.2 b).isSome))] (aZ 9 kr (xQ 5 66 (.agg dX) g fun k8 o9 g=>⟨bO (aT g d8),aZ 10 kr (iX 66 5 21 (.agg (Ve ((bC s2.2 b).getD (eB,eB,0,eB,0,0)))) g fun q0 g=>⟨bO (aT g d8),bL 11 6 (vB ((bC s2.2 b).isSome)) (cO kr (aC (aI 1 [(23,vB ((bC s2.2 b).isSome))] (cJ .normal hr (fun o6 L' w'=>∃a,L'=[(0,vP l 0),(3,vP e0 0),(4,vP g0 0)]/\m.le a/\St a (kB k8 (Ve ((bC s2.2 b).getD (eB,eB,0,eB,0,0))) 66::kB g0 (Vj b) 113::kB e0 (Ve o6) 66::kB k7 (V9 Z a8 c8 a9 c9) 105::kB d9 (V8 n.1 U V M R) 102::kB b9 (V2 S) 62::kB l #[vS a1 p0 c1,vB o1,.map (some B),vS D s1.2.1 E,.map (some p)] 73::aD (some B) d2 d1::aD (some p) e8 e3::kR U n.1.2.1 V 9 1::kR M n.1.d R 105 4::kR D s1.2.1 E 9 1::O) w'/\RepS C1 a a1 c1 p0/\RepS C6 a M R n.1.d/\RepS aH a a8 c8 Z.d.1/\RepS C5 a a9 c9 Z.e/\RepS aH a U V n.1.2.1/\RepS aH a D E s1.2.1/\MapQ cR C7 true a (some B) d2 d1 h1/\MapQ bA C8 true a (some p) e8 e3 s2.2) ?_ ?_))))⟩)⟩))⟩
     .rintro o6 hr _ q1 ⟨a,rfl,q,g,o,F,d3,d4,G,Y,H,b0⟩;refine aC (dO [(7,fun w'=>Inv a w'/\Piece.holds a w' (kB g0 (Vj b) 113)/\Piece.holds a w' (kB e0 (Ve o6) 66)/\Piece.holds a w' (kB l #[vS a1 p0 c1,vB o1,.map (some B),vS D s1.2.1 E,.map (some p)] 73)/\True)] kr g fun q4 _ g=> ?_);have g3:=a.le_refl;refine⟨bO (aT g g3),cE 3 [(0,29,vP l 0),(1,30,vP l 0),(2,31,vP l 4)] (cV 3 32 (.map (some p)) zW (cV 4 33 (.agg (Vj b)) cZ (cV 5 34 (.agg (Ve o6)) pO ?_)))⟩;have g:=g.f8;have⟨o8,l0,hr⟩:=aX hr;refine aZ 6 kr (HG (ek:=bA) (c:=C8) (agg:=true) (k:=b) (yv:=o6) (cs:=(Vg o6)) (z:=(.agg dX)) (v:=(.agg (Ve o6))) (kt:=113) (et:=66) (t:=71) (x:=(.tmp 32)) (y:=(.tmp 33)) (u:=(.tmp 34)) kr (ev (.map (some p))) (ev (.agg (Vj b))) (ev (.agg (Ve o6))) kr (zO kr kr (fun _ _=>kr) (fun _ _=>kr)) g b0 ⟨_,_,rfl,rfl,⟨_,_,rfl,rfl,⟨_,_,rfl,rfl,⟨_,_,rfl,rfl,⟨_,_,rfl,rfl,rfl⟩⟩⟩⟩⟩ rfl l0 fun h3 h2 q5 g l2=>⟨bO (aT g g3),cO kr ?_⟩);cases hr;exact pV [] [] rfl ResAll.nil ⟨_,rfl,⟨h3,h2,a,rfl,q,g.f1.t.f1.t.f1.t.f8.f8.f8.f3.f8.f8.f8.f8.f8,o,F,d3,d4,G,Y,H,l2⟩⟩
     intro o6 hr h0;refine aJ hr ?_ ?_<;>intro A hr
     .exact aB (bD 24 (.agg (Ve ((bC s2.2 b).getD (eB,eB,0,eB,0,0)))) g.h (bF (.agg (Ve ((bC s2.2 b).getD (eB,eB,0,eB,0,0)))) g.f2 fun q2 g=>aQ (aY (bH 1 26 3 25 5 (vI (((bC s2.2 b).getD (eB,eB,0,eB,0,0)).2.2.2.2.2)) g.h (aA 2 [(27,vI (wr ((((bC s2.2 b).getD (eB,eB,0,eB,0,0)).2.2.2.2.2)+1))),(28,vP e0 5)] (iM (Vf (((bC s2.2 b).getD (eB,eB,0,eB,0,0)).1) (((bC s2.2 b).getD (eB,eB,0,eB,0,0)).2.1) (((bC s2.2 b).getD (eB,eB,0,eB,0,0)).2.2.1) (((bC s2.2 b).getD (eB,eB,0,eB,0,0)).2.2.2.1) (((bC s2.2 b).getD (eB,eB,0,eB,0,0)).2.2.2.2.1) (wr ((((bC s2.2 b).getD (eB,eB,0,eB,0,0)).2.2.2.2.2)+1))) g fun q3 g=>aV (xE (h0 hr ⟨f0,rfl,q,g.f11.f11.f11.f11.f11.f11.f11.f11.f11.f9.f11.f11,o,F,d3,d4,G,Y,H,b0⟩))))))))
     exact aN (xE (h0 hr ⟨f0,rfl,q,g.f11.f11.f11.f11.f11.f11.f11.f11.f11.f11.f11.f11,o,F,d3,d4,G,Y,H,b0⟩))
    refine xQ 5 66 (.agg dX) g fun k8 o9 g=> ?_;refine⟨bO (aT g d8),aZ 5 kr (qT (ek:=bA) (c:=C8) (agg:=true) (k:=b) (zx:=(eB,eB,0,eB,0,0)) (zcs:=[vT eB,vT eB,vI 0,vT eB,vI 0,vI 0]) (z:=(.agg dX)) (kt:=113) (et:=66) (d:=20) (t:=71) (x:=(.tmp 18)) (y:=(.tmp 19)) (ok:=true) kr rfl (ev (.map (some p))) (ev (.agg (Vj b))) kr (zO kr kr (fun _ _=>kr) (fun _ _=>kr)) g.t.t.t.t.t.t.t.t.h b0 ⟨_,_,rfl,rfl,⟨_,_,rfl,rfl,⟨_,_,rfl,rfl,⟨_,_,rfl,rfl,⟨_,_,rfl,rfl,rfl⟩⟩⟩⟩⟩ rfl ?_)⟩;rintro n8 ⟨_,_,rfl,rfl,⟨_,_,rfl,rfl,⟨_,_,rfl,rfl,⟨_,_,rfl,rfl,⟨_,_,rfl,rfl,rfl⟩⟩⟩⟩⟩
    refine⟨bO (aT g d8),cE 3 [(6,14,.tuple #[.agg (Ve ((bC s2.2 b).getD (eB,eB,0,eB,0,0))),vB ((bC s2.2 b).isSome)]),(7,21,.agg (Ve ((bC s2.2 b).getD (eB,eB,0,eB,0,0)))),(8,22,vB ((bC s2.2 b).isSome))] (aZ 10 kr (iX 66 5 21 (.agg (Ve ((bC s2.2 b).getD (eB,eB,0,eB,0,0)))) g fun q0 g=>⟨bO (aT g d8),bL 11 6 (vB ((bC s2.2 b).isSome)) (cO kr (aC (aI 1 [(23,vB ((bC s2.2 b).isSome))] (cJ .normal hr (fun o6 L' w'=>∃a,L'=[(0,vP l 0),(3,vP e0 0),(4,vP g0 0)]/\m.le a/\St a (kB k8 (Ve ((bC s2.2 b).getD (eB,eB,0,eB,0,0))) 66::kB g0 (Vj b) 113::kB e0 (Ve o6) 66::kB k7 (V9 Z a8 c8 a9 c9) 105::kB d9 (V8 n.1 U V M R) 102::kB b9 (V2 S) 62::kB l #[vS a1 p0 c1,vB o1,.map (some B),vS D s1.2.1 E,.map (some p)] 73::aD (some B) d2 d1::aD (some p) e8 e3::kR U n.1.2.1 V 9 1::kR M n.1.d R 105 4::kR D s1.2.1 E 9 1::O) w'/\RepS C1 a a1 c1 p0/\RepS C6 a M R n.1.d/\RepS aH a a8 c8 Z.d.1/\RepS C5 a a9 c9 Z.e/\RepS aH a U V n.1.2.1/\RepS aH a D E s1.2.1/\MapQ cR C7 true a (some B) d2 d1 h1/\MapQ bA C8 true a (some p) e8 e3 s2.2) ?_ ?_))))⟩))⟩
    .rintro o6 hr _ q1 ⟨a,rfl,q,g,o,F,d3,d4,G,Y,H,b0⟩;refine aC (dO [(7,fun w'=>Inv a w'/\Piece.holds a w' (kB g0 (Vj b) 113)/\Piece.holds a w' (kB e0 (Ve o6) 66)/\Piece.holds a w' (kB l #[vS a1 p0 c1,vB o1,.map (some B),vS D s1.2.1 E,.map (some p)] 73)/\True)] kr g fun q4 _ g=> ?_);have g3:=a.le_refl;refine⟨bO (aT g g3),cE 3 [(0,29,vP l 0),(1,30,vP l 0),(2,31,vP l 4)] (cV 3 32 (.map (some p)) zW (cV 4 33 (.agg (Vj b)) cZ (cV 5 34 (.agg (Ve o6)) pO ?_)))⟩;have g:=g.f8;have⟨o8,l0,hr⟩:=aX hr;refine aZ 6 kr (HG (ek:=bA) (c:=C8) (agg:=true) (k:=b) (yv:=o6) (cs:=(Vg o6)) (z:=(.agg dX)) (v:=(.agg (Ve o6))) (kt:=113) (et:=66) (t:=71) (x:=(.tmp 32)) (y:=(.tmp 33)) (u:=(.tmp 34)) kr (ev (.map (some p))) (ev (.agg (Vj b))) (ev (.agg (Ve o6))) kr (zO kr kr (fun _ _=>kr) (fun _ _=>kr)) g b0 ⟨_,_,rfl,rfl,⟨_,_,rfl,rfl,⟨_,_,rfl,rfl,⟨_,_,rfl,rfl,⟨_,_,rfl,rfl,rfl⟩⟩⟩⟩⟩ rfl l0 fun h3 h2 q5 g l2=>⟨bO (aT g g3),cO kr ?_⟩);cases hr;exact pV [] [] rfl ResAll.nil ⟨_,rfl,⟨h3,h2,a,rfl,q,g.f1.t.f1.t.f1.t.f8.f8.f8.f3.f8.f8.f8.f8.f8,o,F,d3,d4,G,Y,H,l2⟩⟩
    intro o6 hr h0;refine aJ hr ?_ ?_<;>intro A hr
    .exact aB (bD 24 (.agg (Ve ((bC s2.2 b).getD (eB,eB,0,eB,0,0)))) g.h (bF (.agg (Ve ((bC s2.2 b).getD (eB,eB,0,eB,0,0)))) g.f2 fun q2 g=>aQ (aY (bH 1 26 3 25 5 (vI (((bC s2.2 b).getD (eB,eB,0,eB,0,0)).2.2.2.2.2)) g.h (aA 2 [(27,vI (wr ((((bC s2.2 b).getD (eB,eB,0,eB,0,0)).2.2.2.2.2)+1))),(28,vP e0 5)] (iM (Vf (((bC s2.2 b).getD (eB,eB,0,eB,0,0)).1) (((bC s2.2 b).getD (eB,eB,0,eB,0,0)).2.1) (((bC s2.2 b).getD (eB,eB,0,eB,0,0)).2.2.1) (((bC s2.2 b).getD (eB,eB,0,eB,0,0)).2.2.2.1) (((bC s2.2 b).getD (eB,eB,0,eB,0,0)).2.2.2.2.1) (wr ((((bC s2.2 b).getD (eB,eB,0,eB,0,0)).2.2.2.2.2)+1))) g fun q3 g=>aV (xE (h0 hr ⟨f0,rfl,q,g.f11.f11.f11.f11.f11.f11.f11.f11.f11.f9.f11.f11,o,F,d3,d4,G,Y,H,b0⟩))))))))
    exact aN (xE (h0 hr ⟨f0,rfl,q,g.f11.f11.f11.f11.f11.f11.f11.f11.f11.f11.f11.f11,o,F,d3,d4,G,Y,H,b0⟩))
   refine cT (bG ?_);have ho:=n5 _ (sI hr);have g:=g.f7.f7.f7.f7.f7.f7.f7.f7;exact bG (xE (l5 rfl ⟨s2.2,e8,e3,d7,ho,rfl,q,g,o,G,F,Y,H,b0⟩))
  refine cT (bG ?_);have ho:=n4 _ (sI hr);have g:=g.f3.f3.f3.f3;exact bG (xE (l4 rfl ⟨s1.2,D,E,g5,g4,g2,g1,m6,ho,rfl,q,g,o,Y,r6,r7⟩))
 intro o1 hr K;refine dO [(9,fun w'=>Inv m1 w'/\True)] kr g fun S _ g=> ?_;have a:=m1.le_refl;refine tA g a (eE 0 11 (.agg #[vS a1 p0 c1]) d5 (eE 1 12 (.agg #[vS a1 p0 c1]) d5 (tP [2,4,5] kr ae (qOu ?_ ?_ ?_))))
 .refine eJ 13 hr (fun _ h=>GX g o h) ?_;rintro y1 hr _ R ⟨F,rfl,b,g⟩;refine⟨_,rfl,?_⟩;have a:=a.t b;refine tA g a (bL 3 14 (vB (y1==0)) (tP [4,5] kr ae (uO ?_ ?_)))
  .refine pF (d:=15) (t:=69) kr rfl g fun D G g=> ?_;refine tA g a (aZ 5 kr (pF (d:=16) (t:=71) kr rfl g fun n H g=>tA g a (bL 6 17 (.agg #[vS a1 p0 c1,vB (y1==0),.map (some D),v2,.map (some n)]) (aZ 7 kr (qI 18 73 17 (.agg #[vS a1 p0 c1,vB (y1==0),.map (some D),v2,.map (some n)]) g fun E M g=>tA g a (bL 8 3 (vP E 0) ?_))))));have g:=g.f1.f2;exact cO kr (xE (K hr ⟨D,n,E,F,rfl,q.t b,g.f1.f1.f2,d5.o b,o.o b⟩))
  refine pF (d:=16) (t:=71) kr rfl g fun D G g=> ?_;refine tA g a (aZ 4 kr (pF (d:=15) (t:=69) kr rfl g fun n H g=>tA g a (bL 6 17 (.agg #[vS a1 p0 c1,vB (y1==0),.map (some n),v2,.map (some D)]) (aZ 7 kr (qI 18 73 17 (.agg #[vS a1 p0 c1,vB (y1==0),.map (some n),v2,.map (some D)]) g fun E M g=>tA g a (bL 8 3 (vP E 0) ?_))))));have g:=g.f2.f2;exact cO kr (xE (K hr ⟨n,D,E,F,rfl,q.t b,g.f1.f1.f2,d5.o b,o.o b⟩))
 .refine pF (d:=15) (t:=69) kr rfl g fun D R g=> ?_;refine tA g a (tP [2,5] kr ae (uO ?_ ?_))
  .refine eJ 13 hr (fun _ h=>GX g o h) ?_;rintro y1 hr _ G ⟨F,rfl,b,g⟩;refine⟨_,rfl,?_⟩;have a:=a.t b;refine tA g a (bL 3 14 (vB (y1==0)) (aZ 5 kr (pF (d:=16) (t:=71) kr rfl g fun n H g=>tA g a (bL 6 17 (.agg #[vS a1 p0 c1,vB (y1==0),.map (some D),v2,.map (some n)]) (aZ 7 kr (qI 18 73 17 (.agg #[vS a1 p0 c1,vB (y1==0),.map (some D),v2,.map (some n)]) g fun E M g=>tA g a (bL 8 3 (vP E 0) ?_)))))));have g:=g.f1.f2;exact cO kr (xE (K hr ⟨D,n,E,F,rfl,q.t b,g.f1.f1.f2,d5.o b,o.o b⟩))
  refine pF (d:=16) (t:=71) kr rfl g fun n G g=> ?_;refine tA g a (aZ 2 kr (eJ 13 hr (fun _ h=>GX g o h) ?_));rintro y1 hr _ H ⟨F,rfl,b,g⟩;refine⟨_,rfl,?_⟩;have a:=a.t b;refine tA g a (cE 2 [(3,14,vB (y1==0)),(6,17,.agg #[vS a1 p0 c1,vB (y1==0),.map (some D),v2,.map (some n)])] (aZ 7 kr (qI 18 73 17 (.agg #[vS a1 p0 c1,vB (y1==0),.map (some D),v2,.map (some n)]) g fun E M g=>tA g a (bL 8 3 (vP E 0) ?_))));have g:=g.f1.f2;exact cO kr (xE (K hr ⟨D,n,E,F,rfl,q.t b,g.f1.f1.f2,d5.o b,o.o b⟩))
 refine pF (d:=16) (t:=71) kr rfl g fun D R g=> ?_;refine tA g a (tP [2,4] kr ae (uO ?_ ?_))
 .refine eJ 13 hr (fun _ h=>GX g o h) ?_;rintro y1 hr _ G ⟨F,rfl,b,g⟩;refine⟨_,rfl,?_⟩;have a:=a.t b;refine tA g a (bL 3 14 (vB (y1==0)) (aZ 4 kr (pF (d:=15) (t:=69) kr rfl g fun n H g=>tA g a (bL 6 17 (.agg #[vS a1 p0 c1,vB (y1==0),.map (some n),v2,.map (some D)]) (aZ 7 kr (qI 18 73 17 (.agg #[vS a1 p0 c1,vB (y1==0),.map (some n),v2,.map (some D)]) g fun E M g=>tA g a (bL 8 3 (vP E 0) ?_)))))));have g:=g.f2.f2;exact cO kr (xE (K hr ⟨n,D,E,F,rfl,q.t b,g.f1.f1.f2,d5.o b,o.o b⟩))
 refine pF (d:=15) (t:=69) kr rfl g fun n G g=> ?_;refine tA g a (aZ 2 kr (eJ 13 hr (fun _ h=>GX g o h) ?_));rintro y1 hr _ H ⟨F,rfl,b,g⟩;refine⟨_,rfl,?_⟩;have a:=a.t b;refine tA g a (cE 2 [(3,14,vB (y1==0)),(6,17,.agg #[vS a1 p0 c1,vB (y1==0),.map (some n),v2,.map (some D)])] (aZ 7 kr (qI 18 73 17 (.agg #[vS a1 p0 c1,vB (y1==0),.map (some n),v2,.map (some D)]) g fun E M g=>tA g a (bL 8 3 (vP E 0) ?_))));have g:=g.f2.f2;exact cO kr (xE (K hr ⟨n,D,E,F,rfl,q.t b,g.f1.f1.f2,d5.o b,o.o b⟩))
def xD(N:Nat)(p0:Int):Th:=
 (if(decide (p0>=(-9007199254740992)))then(some (decide (p0<=9007199254740992))) else(some false):Th).bind fun a=>some a
theorem PV{p0:Int}{r:Bool}(g:St m (O) w)(hr:xD N p0=some r):Calls prog 48 #[vI p0] w fun e w'=>∃m',eP m m' e (vB r) (O) w':=by
 refine bP g func48 rfl ntmps48 fun q=>aI 1 [] (aB (eV 7 hr (fun b L' w'=>∃a,L'=[(2,vB b)]/\m.le a/\St a (O) w') ?_ ?_))
 .rintro b hr _ c ⟨a,rfl,q,g⟩;refine aQ (aM ?_);obtain rfl:=sI hr;exact aW [2] [vB b] ⟨a,rfl,q,g⟩
 intro b hr K;refine aA 3 [(5,vB (decide (p0>=(-9007199254740992))))] (cQ 5 hr ?_ ?_)<;>intro A hr
 .exact aA 4 [(2,vB (decide (p0<=9007199254740992)))] (bJ (K hr ⟨m,rfl,q,g⟩))
 exact aA 4 [(2,vB false)] (bJ (K hr ⟨m,rfl,q,g⟩))
def VV(N:Nat)(p0:Ty)(s1:Int):Tg:=
 if(decide (s1<(List.length p0:Int)))then((bS p0 s1).bind fun a=>((HO N a.1).bind fun y1=>if(!y1)then(some true) else((xD N a.2).bind fun b=>if(!b)then(some true) else(if(decide (s1>0))then((bS p0 (IntKind.wrap .i64 (s1-1))).bind fun b=>some (Op.bytesLess a.1.toList b.1.toList||(a.1.toList==b.1.toList))) else(some false))):Th).bind fun o2=>if o2 then(some (.inr (.inr (false)))) else(some (.inl (IntKind.wrap .i64 (s1+1))))) else(some (.inr (.inl ())))
def AX(N:Nat)(p0:Ty):Th:=
 if(decide ((List.length p0:Int)>16))then(some false) else((aK (VV N p0) N 0).bind fun a=>(match a with| .inl a=>some true| .inr (z)=>some z))
theorem VW{p0:Ty}{r:Bool}(g:St m (O) w)(f:RepS C3 m a1 c1 p0)(hr:AX N p0=some r):Calls prog 21 #[.agg #[vS a1 p0 c1]] w fun e w'=>∃m',eP m m' e (vB r) (O) w':=by
 refine bP g func21 rfl ntmps21 fun q=>aB (dY 1 31 (.agg #[vS a1 p0 c1]) g fun l Z w1 G g a=>aG 1 [] (aF (aS 1 [(5,vP l 0)] (cI 6 (vS a1 p0 c1) g a (aG 2 [(8,vB (decide ((p0.length:Int)>16)))] (aJ hr ?_ ?_))))))<;>intro A hr
 .refine aI 1 [(2,vB false)] (aM (aU ?_));cases hr;exact aW [2] [vB false] ⟨Z,rfl,q.t G,g⟩
 refine aN (aC (aF (aS 1 [(9,vP l 0)] (cI 10 (vS a1 p0 c1) g a (aG 2 [(11,vI (p0.length:Int)),(12,vI 0)] (bB ?_))))));have⟨z,hr,Y⟩:=aX hr;refine dW (.exit 0) (fun L' w'=>∃(o1:Unit),∃F,(.inl o1)=z/\L'=[]/\m.le F/\St F (O) w') ?_ ?_
 .rintro _ c ⟨o1,F,rfl,rfl,q,g⟩;have hr:=Y;refine cX (aC (aI 1 [(2,vB true)] (aM ?_)));cases hr;exact aW [2] [vB true] ⟨F,rfl,q,g⟩
 intro B;refine dJ (fun E L' w'=>∃(s1:Int),∃k,aK (VV N p0) E s1=some z/\L'=[(1,vP l 0),(10,vS a1 p0 c1),(11,vI (p0.length:Int)),(12,vI s1)]/\m.le k/\St k (O) w'/\MRow k l 0 [vS a1 p0 c1]/\RepS C3 k a1 c1 p0) N ⟨0,Z,hr,rfl,q.t G,g,a,f.o G⟩ ?_;rintro E _ w3 ⟨s1,k,hL,rfl,q,g,a,f⟩;obtain⟨E,b6,rfl,hr,H,v⟩:=dN hL;refine aI 1 [(13,vB (decide (s1<(p0.length:Int))))] (aF (aJ hr ?_ ?_))<;>intro A hr
 .refine aN (aC (aF (bB (aS 1 [(14,vI s1)] (iH 15 f hr ?_)))));rintro c hr b2 f1 b0 ⟨_,_,rfl,rfl,rfl⟩ S;refine iG 16 93 15 f1 (.agg #[vT c.1,vI c.2]) g S (bX 4 93 (.agg #[vT eB,vI 0]) g fun u w4 g=>aA 1 [(3,vI s1)] (bF (.agg #[vT c.1,vI c.2]) g fun w5 g=>aQ (aF (cJ .normal hr (fun o2 L' w'=>∃o,L'=[(1,vP l 0),(10,vS a1 p0 c1),(11,vI (p0.length:Int)),(12,vI s1),(42,vB o2)]/\m.le o/\St o (kB u #[vT c.1,vI c.2] 93::O) w'/\MRow o l 0 [vS a1 p0 c1]/\RepS C3 o a1 c1 p0) ?_ ?_))))
  .rintro o2 hr _ d ⟨o,rfl,q,g,a,f⟩;refine aC (aJ hr ?_ ?_)<;>intro A hr
   .refine aI 1 [(2,vB false)] (aM (bN (aU ?_)));have ho:=v _ (sI hr);subst ho;have hr:=Y;refine aU (bN (aU ?_));cases hr;exact aW [2] [vB false] ⟨o,rfl,q,g.t⟩
   refine aN (bT (aC (aY (aA 2 [(12,vI (wr (s1+1)))] (aV ?_)))));have hL:=H _ (sI hr);exact cY ⟨wr (s1+1),o,hL,rfl,q,g.t,a,f⟩
  intro o2 hr K;refine dO [(26,fun w'=>Inv k w'/\Piece.holds k w' (kB u #[vT c.1,vI c.2] 93)/\True)] kr g fun w7 _ g=> ?_;have d:=k.le_refl;refine⟨bO (aT g d),?_⟩;have hb1S:=a;have r1S:=f;refine bL 0 17 (vP u 0) (cV 1 18 (vT c.1) cZ (aZ 2 kr (eJ 19 hr (fun _ h=>XE g h) ?_)));rintro y1 hr _ w8 ⟨m5,rfl,n,g⟩;refine⟨_,rfl,?_⟩;have d:=d.t n;refine⟨bO (aT g d),cE 2 [(3,20,vB (!y1)),(4,21,vB (!y1))] ?_⟩;rcases eK (!y1) with A|A
  .rw[if_pos A] at hr;exact pH (t:=21) (b:=true) (!y1) kr A (cE 21 [(5,22,undef),(6,23,undef),(7,24,undef),(8,25,undef),(9,26,vB true),(10,27,vB true),(11,28,undef),(12,29,undef),(13,30,undef),(14,31,undef),(15,32,undef),(16,33,undef),(17,34,undef),(18,35,undef),(19,36,undef),(20,37,undef),(21,38,undef),(22,39,undef),(23,40,undef),(24,41,undef),(25,42,vB true)] (cO kr (xE (K hr ⟨m5,rfl,q.t n,g,a.o n,f.o n⟩))))
  rw[if_neg (not_true A)] at hr;refine pH (t:=21) (b:=false) (!y1) kr A (bL 5 22 (vP u 1) (cV 6 23 (vI c.2) cZ (aZ 7 kr (eJ 24 hr (fun _ h=>PV g h) ?_))));rintro s hr _ w9 ⟨M,rfl,D,g⟩;refine⟨_,rfl,?_⟩;have q:=(q.t n).t D;have a:=(a.o n).o D;have f:=(f.o n).o D;have d:=d.t D;refine⟨bO (aT g d),cE 3 [(8,25,vB (!s)),(9,26,vB (!s)),(10,27,vB (!s))] ?_⟩;rcases eK (!s) with A|A
  .rw[if_pos A] at hr;exact pH (t:=27) (b:=true) (!s) kr A (cE 15 [(11,28,undef),(12,29,undef),(13,30,undef),(14,31,undef),(15,32,undef),(16,33,undef),(17,34,undef),(18,35,undef),(19,36,undef),(20,37,undef),(21,38,undef),(22,39,undef),(23,40,undef),(24,41,undef),(25,42,vB true)] (cO kr (xE (K hr ⟨M,rfl,q,g,a,f⟩))))
  rw[if_neg (not_true A)] at hr;refine pH (t:=27) (b:=false) (!s) kr A (cE 3 [(11,28,vI s1),(12,29,vB (decide (s1>0))),(13,30,vB (decide (s1>0)))] ?_);rcases eK (decide (s1>0)) with A|A
  .rw[if_pos A] at hr;refine pH (t:=30) (b:=true) (decide (s1>0)) kr A (bL 14 31 (vP u 0) (cV 15 32 (vT c.1) cZ (bL 16 33 (vP l 0) (eE 17 34 (vS a1 p0 c1) hb1S (cE 2 [(18,35,vI s1),(19,36,vI (wr (s1-1)))] ?_)))));have⟨p,V,hr⟩:=aX hr;refine oI (t:=29) (e:=93) (x:=(.tmp 34)) (y:=(.tmp 36)) 20 37 C3 kr rfl kr (.head _) (cP (iN (cP (cP (iN (cP mJ)))))) (ev (vS a1 p0 c1)) (ev (vI (wr (s1-1)))) kr r1S V ?_;rintro b4 R b5 ⟨_,_,rfl,rfl,rfl⟩ U;have hq2S:=U;exact bL 21 38 (vP b4 R) (eE 22 39 (vT p.1) hq2S (cE 3 [(23,40,vB (Op.bytesLess c.1.toList p.1.toList||(c.1.toList==p.1.toList))),(24,41,vB (Op.bytesLess c.1.toList p.1.toList||(c.1.toList==p.1.toList))),(25,42,vB (Op.bytesLess c.1.toList p.1.toList||(c.1.toList==p.1.toList)))] (cO kr (xE (K hr ⟨M,rfl,q,g,a,f⟩)))))
  rw[if_neg (not_true A)] at hr;exact pH (t:=30) (b:=false) (decide (s1>0)) kr A (cE 12 [(14,31,undef),(15,32,undef),(16,33,undef),(17,34,undef),(18,35,undef),(19,36,undef),(20,37,undef),(21,38,undef),(22,39,undef),(23,40,undef),(24,41,vB false),(25,42,vB false)] (cO kr (xE (K hr ⟨M,rfl,q,g,a,f⟩))))
 refine cT (bG ?_);have ho:=v _ (sI hr);exact bG (xE (B _ _ ⟨(),k,ho,rfl,q,g⟩))
def vQ(N:Nat)(p0:sN)(p1:Int)(p2:BA)(p3:BA):Option iK:=
 if(!p0.2.1)then(some ((⟨#[]⟩:BA),(⟨#[]⟩:BA),0,(⟨#[]⟩:BA),0,0)) else((HS N p1 p2 p3).bind fun y1=>if((bC p0.2.2.2.2 y1).isSome)then(some (((bC p0.2.2.2.2 y1).getD ((⟨#[]⟩:BA),(⟨#[]⟩:BA),0,(⟨#[]⟩:BA),0,0)).1,((bC p0.2.2.2.2 y1).getD ((⟨#[]⟩:BA),(⟨#[]⟩:BA),0,(⟨#[]⟩:BA),0,0)).2.1,((bC p0.2.2.2.2 y1).getD ((⟨#[]⟩:BA),(⟨#[]⟩:BA),0,(⟨#[]⟩:BA),0,0)).2.2.1,((bC p0.2.2.2.2 y1).getD ((⟨#[]⟩:BA),(⟨#[]⟩:BA),0,(⟨#[]⟩:BA),0,0)).2.2.2.1,((bC p0.2.2.2.2 y1).getD ((⟨#[]⟩:BA),(⟨#[]⟩:BA),0,(⟨#[]⟩:BA),0,0)).2.2.2.2.1,((bC p0.2.2.2.2 y1).getD ((⟨#[]⟩:BA),(⟨#[]⟩:BA),0,(⟨#[]⟩:BA),0,0)).2.2.2.2.2)) else(some (y1.2.1,p3,p1,(⟨#[]⟩:BA),0,0)))
theorem GM{p0:sN}{p1:Int}{p2:BA}{p3:BA}{n u o b v p r}(g:St m (aD n u o::aD b v p::cA bp0 a1 c1 n a2 c2 b p0::O) w)(U:RepS C1 m a1 c1 p0.1)(V:MapQ cR C7 true m n u o p0.d.1)(Y:RepS aH m a2 c2 p0.e.1)(E:MapQ bA C8 true m b v p p0.f)(hr:vQ N p0 p1 p2 p3=some r):Calls prog 22 #[vP bp0 0,vI p1,vT p2,vT p3] w fun e w'=>∃m',eP m m' e (.agg (Ve r)) (aD n u o::aD b v p::cA bp0 a1 c1 n a2 c2 b p0::O) w':=by
 refine bP g func22 rfl ntmps22 fun q=>aB (bX 8 66 (.agg dX) g fun S Z g=>aQ (aF (aB (bH 3 15 4 14 1 (vB p0.2.1) g.t.t.t.h (aG 1 [(16,vB (!p0.2.1))] (aJ hr ?_ ?_))))))<;>intro A hr
 .refine aS 1 [(17,.agg dX)] (bF (.agg dX) g fun a g=>aQ (aM (aU ?_)));cases hr;exact eI 8 66 [] [] g.h ⟨m,rfl,q,g.t.f2.f2.f2⟩
 refine aN (aC (aS 3 [(18,vI p1),(19,vT p2),(20,vT p3)] (aL 21 hr (XS g) ?_)));rintro y1 hr _ w3 ⟨l,rfl,B,g⟩;have q:=q.t B;refine bX 9 113 (.agg #[vI 0,vT eB,vT eB]) g fun G w4 g=>bF (.agg (Vj y1)) g fun w5 g=>aQ (aF (aF (dO [(12,fun w'=>Inv l w'/\Piece.holds l w' (kB G (Vj y1) 113)/\Piece.holds l w' (cA bp0 a1 c1 n a2 c2 b p0)/\True)] kr g fun w6 _ g=> ?_)));have a:=l.le_refl;refine⟨bO (aT g a),cE 3 [(0,23,vP bp0 0),(1,24,vP bp0 0),(2,25,vP bp0 4)] (cV 3 26 (.map b) pO (cV 4 27 (.agg (Vj y1)) cZ (tP [5,9] kr ae (uO ?_ ?_))))⟩
 .refine qT (ek:=bA) (c:=C8) (agg:=true) (k:=y1) (zx:=(eB,eB,0,eB,0,0)) (zcs:=[vT eB,vT eB,vI 0,vT eB,vI 0,vI 0]) (z:=(.agg dX)) (kt:=113) (et:=66) (d:=28) (t:=71) (x:=(.tmp 26)) (y:=(.tmp 27)) (ok:=true) kr rfl (ev (.map b)) (ev (.agg (Vj y1))) kr (zO kr kr (fun _ _=>kr) (fun _ _=>kr)) g.t.t.t.h (E.o B) ⟨_,_,rfl,rfl,⟨_,_,rfl,rfl,⟨_,_,rfl,rfl,⟨_,_,rfl,rfl,⟨_,_,rfl,rfl,rfl⟩⟩⟩⟩⟩ rfl ?_;rintro D ⟨_,_,rfl,rfl,⟨_,_,rfl,rfl,⟨_,_,rfl,rfl,⟨_,_,rfl,rfl,⟨_,_,rfl,rfl,rfl⟩⟩⟩⟩⟩;refine⟨bO (aT g a),cE 3 [(6,22,.tuple #[.agg (Ve ((bC p0.f y1).getD (eB,eB,0,eB,0,0))),vB ((bC p0.f y1).isSome)]),(7,29,.agg (Ve ((bC p0.f y1).getD (eB,eB,0,eB,0,0)))),(8,30,vB ((bC p0.f y1).isSome))] (aZ 9 kr (xQ 10 66 (.agg dX) g fun H K g=>⟨bO (aT g a),aZ 10 kr (iX 66 10 29 (.agg (Ve ((bC p0.f y1).getD (eB,eB,0,eB,0,0)))) g fun M g=>⟨bO (aT g a),bL 11 11 (vB ((bC p0.f y1).isSome)) (cO kr (aC (aI 1 [(31,vB ((bC p0.f y1).isSome))] (aJ hr ?_ ?_))))⟩)⟩))⟩<;>intro A hr
  .refine aB (bD 32 (.agg (Ve ((bC p0.f y1).getD (eB,eB,0,eB,0,0)))) g.h (bF (.agg (Ve ((bC p0.f y1).getD (eB,eB,0,eB,0,0)))) g.f2 fun R g=>aQ (aM (aU ?_))));obtain rfl:=sI hr;exact eI 8 66 [] [] g.h ⟨l,rfl,q,g.t.t.t.f2.f2.f2⟩
  refine aN (aC (aB (bH 1 34 9 33 1 (vT y1.2.1) g.t.h (aA 3 [(37,.agg (Vf y1.2.1 p3 p1 eB 0 0))] (bF (.agg (Vf y1.2.1 p3 p1 eB 0 0)) g.f2 fun F g=>aQ (aM ?_))))));cases hr;exact eI 8 66 [] [] g.h ⟨l,rfl,q,g.t.t.t.f2.f2.f2⟩
 refine xQ 10 66 (.agg dX) g fun H K g=> ?_;refine⟨bO (aT g a),aZ 5 kr (qT (ek:=bA) (c:=C8) (agg:=true) (k:=y1) (zx:=(eB,eB,0,eB,0,0)) (zcs:=[vT eB,vT eB,vI 0,vT eB,vI 0,vI 0]) (z:=(.agg dX)) (kt:=113) (et:=66) (d:=28) (t:=71) (x:=(.tmp 26)) (y:=(.tmp 27)) (ok:=true) kr rfl (ev (.map b)) (ev (.agg (Vj y1))) kr (zO kr kr (fun _ _=>kr) (fun _ _=>kr)) g.t.t.t.t.h (E.o B) ⟨_,_,rfl,rfl,⟨_,_,rfl,rfl,⟨_,_,rfl,rfl,⟨_,_,rfl,rfl,⟨_,_,rfl,rfl,rfl⟩⟩⟩⟩⟩ rfl ?_)⟩;rintro D ⟨_,_,rfl,rfl,⟨_,_,rfl,rfl,⟨_,_,rfl,rfl,⟨_,_,rfl,rfl,⟨_,_,rfl,rfl,rfl⟩⟩⟩⟩⟩;refine⟨bO (aT g a),cE 3 [(6,22,.tuple #[.agg (Ve ((bC p0.f y1).getD (eB,eB,0,eB,0,0))),vB ((bC p0.f y1).isSome)]),(7,29,.agg (Ve ((bC p0.f y1).getD (eB,eB,0,eB,0,0)))),(8,30,vB ((bC p0.f y1).isSome))] (aZ 10 kr (iX 66 10 29 (.agg (Ve ((bC p0.f y1).getD (eB,eB,0,eB,0,0)))) g fun M g=>⟨bO (aT g a),bL 11 11 (vB ((bC p0.f y1).isSome)) (cO kr (aC (aI 1 [(31,vB ((bC p0.f y1).isSome))] (aJ hr ?_ ?_))))⟩))⟩<;>intro A hr
 .refine aB (bD 32 (.agg (Ve ((bC p0.f y1).getD (eB,eB,0,eB,0,0)))) g.h (bF (.agg (Ve ((bC p0.f y1).getD (eB,eB,0,eB,0,0)))) g.f2 fun R g=>aQ (aM (aU ?_))));obtain rfl:=sI hr;exact eI 8 66 [] [] g.h ⟨l,rfl,q,g.t.t.t.f2.f2.f2⟩
 refine aN (aC (aB (bH 1 34 9 33 1 (vT y1.2.1) g.t.h (aA 3 [(37,.agg (Vf y1.2.1 p3 p1 eB 0 0))] (bF (.agg (Vf y1.2.1 p3 p1 eB 0 0)) g.f2 fun F g=>aQ (aM ?_))))));cases hr;exact eI 8 66 [] [] g.h ⟨l,rfl,q,g.t.t.t.f2.f2.f2⟩
def KU(N:Nat)(p0:cS)(p1:dS)(p2:eC):eF:=
 some (.inr ((p0.2.2.2.1,p0.2.2.2.2.1,p0.2.2.2.2.2.1,p0.2.2.2.2.2.2.1),p2.2.1))
theorem qHc{p0:cS}{p1:dS}{p2:eC}{a o A x p B y b H G u D z r}(g:St m (aD o A x::aD p B y::cA a a1 c1 o a2 c2 p p0.1::aD b H G::aD u D z::lT bp0 a a3 c3 b u p0::O) w)(r1:RepS C1 m a1 c1 p0.1.1)(r2:MapQ cR C7 true m o A x p0.1.d.1)(r3:RepS aH m a2 c2 p0.1.e.1)(r4:MapQ bA C8 true m p B y p0.1.f)(r5:RepS C3 m a3 c3 p0.2.1)(V:MapQ bA cK false m b H G p0.e.1)(r7:MapQ cM eD false m u D z p0.k)(r8:RepS aH m a4 c4 p1.1.2.1)(r9:RepS C6 m a5 c5 p1.1.d)(Z:RepS aH m a6 c6 p1.2.1.d.1)(b0:RepS C5 m a7 c7 p1.2.1.e)(b3:RepS (aR .i64) m a8 c8 p1.d)(b4:RepS (aR .i64) m a9 c9 p2.f)(hr:KU N p0 p1 p2=some r):Calls prog 50 #[vP bp0 0,.agg (iL p1 a4 c4 a5 c5 a6 c6 a7 c7 a8 c8),.agg (Va p2 a9 c9)] w fun e w'=>(∃(F:mV),∃c l m',r= .inl F/\nF 161 m m' e F.1 (aD o A x::aD p B y::cA a a1 c1 o a2 c2 p p0.1::aD b c l::aD u D z::dV bp0 a a3 c3 b u p0 F.d.1 F.e.1 F.f::O) w' (MapQ bA cK false m' b c l F.2.1))\/(∃(E:mW),r= .inr E/\∃c l m',bW m m' e (vI E.2) (aD o A x::aD p B y::cA a a1 c1 o a2 c2 p p0.1::aD b c l::aD u D z::dV bp0 a a3 c3 b u p0 E.1.2.1 E.1.d.1 E.1.e::O) w' (MapQ bA cK false m' b c l E.1.1)):=by
 refine bP g func50 rfl ntmps50 fun q=>aB (dY 4 146 (.agg (iL p1 a4 c4 a5 c5 a6 c6 a7 c7 a8 c8)) g fun b1 m1 w1 K g Y=>dY 5 148 (.agg (Va p2 a9 c9)) g fun S U w2 M g R=>aG 1 [] (aB (aA 1 [(7,vP S 1)] (cI 8 (vI p2.2.1) g (R.drop 1) (aG 1 [(6,vI p2.2.1)] (aM ?_))))));cases hr;exact aW [6] [vI p2.2.1] (.inr ⟨_,rfl,H,G,U,rfl,(q.t K).t M,g.f5.f5.f5.f5.f5.f5,(V.o K).o M⟩)
def BO(N:Nat)(p0:cS)(p1:dS)(p2:eC):eF:=
 (bS p1.2.2 p2.2.1).bind fun a=>some (.inr ((p0.2.2.2.1,p0.2.2.2.2.1,p0.2.2.2.2.2.1,p0.2.2.2.2.2.2.1),a))
theorem qHj{p0:cS}{p1:dS}{p2:eC}{a o A x p B y b H G u D z r}(g:St m (aD o A x::aD p B y::cA a a1 c1 o a2 c2 p p0.1::aD b H G::aD u D z::lT bp0 a a3 c3 b u p0::O) w)(r1:RepS C1 m a1 c1 p0.1.1)(r2:MapQ cR C7 true m o A x p0.1.d.1)(r3:RepS aH m a2 c2 p0.1.e.1)(r4:MapQ bA C8 true m p B y p0.1.f)(r5:RepS C3 m a3 c3 p0.2.1)(r6:MapQ bA cK false m b H G p0.e.1)(r7:MapQ cM eD false m u D z p0.k)(r8:RepS aH m a4 c4 p1.1.2.1)(r9:RepS C6 m a5 c5 p1.1.d)(b4:RepS aH m a6 c6 p1.2.1.d.1)(b5:RepS C5 m a7 c7 p1.2.1.e)(Y:RepS (aR .i64) m a8 c8 p1.d)(b6:RepS (aR .i64) m a9 c9 p2.f)(hr:BO N p0 p1 p2=some r):Calls prog 51 #[vP bp0 0,.agg (iL p1 a4 c4 a5 c5 a6 c6 a7 c7 a8 c8),.agg (Va p2 a9 c9)] w fun e w'=>(∃(F:mV),∃c l m',r= .inl F/\nF 161 m m' e F.1 (aD o A x::aD p B y::cA a a1 c1 o a2 c2 p p0.1::aD b c l::aD u D z::dV bp0 a a3 c3 b u p0 F.d.1 F.e.1 F.f::O) w' (MapQ bA cK false m' b c l F.2.1))\/(∃(E:mW),r= .inr E/\∃c l m',bW m m' e (vI E.2) (aD o A x::aD p B y::cA a a1 c1 o a2 c2 p p0.1::aD b c l::aD u D z::dV bp0 a a3 c3 b u p0 E.1.2.1 E.1.d.1 E.1.e::O) w' (MapQ bA cK false m' b c l E.1.1)):=by
 refine bP g func51 rfl ntmps51 fun q=>aB (dY 4 146 (.agg (iL p1 a4 c4 a5 c5 a6 c6 a7 c7 a8 c8)) g fun Z m1 w1 M g S=>dY 5 148 (.agg (Va p2 a9 c9)) g fun b2 m2 w2 K g U=>aG 1 [] (aB (aA 1 [(7,vP Z 7)] (cI 8 (vS a8 p1.d c8) g ((S.o K).drop 7) (aA 1 [(9,vP b2 1)] (cI 10 (vI p2.2.1) g (U.drop 1) (iH 11 ((Y.o M).o K) hr ?_)))))));rintro R hr b3 f1 b0 rfl V;refine iG 12 3 11 f1 (vI R) g V (aG 1 [(6,vI R)] (aM ?_));obtain rfl:=sI hr;exact aW [6] [vI R] (.inr ⟨_,rfl,H,G,m2,rfl,(q.t M).t K,g.f5.f5.f5.f5.f5.f5,(r6.o M).o K⟩)
def GV(N:Nat)(p0:sN)(p1:pR)(p2:BA)(s1:Int×JO):Option (Int×JO⊕JO⊕T7×T7×Int×T7×Int×Int×mT×Nat):=
 if(decide (s1.1<(List.length p1.2.1:Int)))then((bS p1.2.1 s1.1).bind fun a=>(eM 40 s1.2.2.2.2.2.2.2 ([(1,a,p2)])).bind fun b=>(vQ N p0 1 a p2).bind fun a=>if(decide (a.2.2.2.2.2>0))then(some (.inr (.inr ((a.1,a.2.1,a.2.2.1,a.2.2.2.1,a.2.2.2.2.1,a.2.2.2.2.2,b,1))))) else(some (.inl (IntKind.wrap .i64 (s1.1+1),a.1,a.2.1,a.2.2.1,a.2.2.2.1,a.2.2.2.2.1,a.2.2.2.2.2,b)))) else(some (.inr (.inl s1.2)))
def CJ(N:Nat)(p0:sN)(p1:pR)(p2:BA):Option T3g:=
 ((eM 40 ([]:mT) ([(1,p1.1,p2)])).bind fun a=>(vQ N p0 1 p1.1 p2).bind fun y1=>if(decide (y1.2.2.2.2.2>0))then(some (y1.1,y1.2.1,y1.2.2.1,y1.2.2.2.1,y1.2.2.2.2.1,y1.2.2.2.2.2,a,1)) else((aK (GV N p0 p1 p2) N (0,y1.1,y1.2.1,y1.2.2.1,y1.2.2.2.1,y1.2.2.2.2.1,y1.2.2.2.2.2,a)).bind fun a=>(match a with| .inl o2=>some (o2.1,o2.2.1,o2.2.2.1,o2.2.2.2.1,o2.2.2.2.2.1,o2.2.2.2.2.2.1,o2.2.2.2.2.2.2,0)| .inr (z)=>some z)):Option (T7×T7×Int×T7×Int×Int×mT×Nat)).bind fun a=>if a.2.2.2.2.2.2.2=0 then(if(a.2.2.2.2.2.1==0)then(some (((⟨#[]⟩:BA),(⟨#[]⟩:BA),0,(⟨#[]⟩:BA),0,0),a.2.2.2.2.2.2.1,11)) else(if(decide (a.2.2.2.2.2.1>1))then(some (((⟨#[]⟩:BA),(⟨#[]⟩:BA),0,(⟨#[]⟩:BA),0,0),a.2.2.2.2.2.2.1,12)) else(some ((a.1,a.2.1,a.2.2.1,a.2.2.2.1,a.2.2.2.2.1,a.2.2.2.2.2.1),a.2.2.2.2.2.2.1,0)))) else(if a.2.2.2.2.2.2.2=1 then(if(a.2.2.2.2.2.1==0)then(some (((⟨#[]⟩:BA),(⟨#[]⟩:BA),0,(⟨#[]⟩:BA),0,0),a.2.2.2.2.2.2.1,11)) else(if(decide (a.2.2.2.2.2.1>1))then(some (((⟨#[]⟩:BA),(⟨#[]⟩:BA),0,(⟨#[]⟩:BA),0,0),a.2.2.2.2.2.2.1,12)) else(some ((a.1,a.2.1,a.2.2.1,a.2.2.2.1,a.2.2.2.2.1,a.2.2.2.2.2.1),a.2.2.2.2.2.2.1,0)))) else none)
theorem WQ{p0:sN}{p1:pR}{p2:BA}{Y U M Z V R}{r:T3g}(g:St m (aD Y U M::aD Z V R::cA bp0 a1 c1 Y a2 c2 Z p0::O) w)(F:RepS C1 m a1 c1 p0.1)(G:MapQ cR C7 true m Y U M p0.d.1)(H:RepS aH m a2 c2 p0.e.1)(K:MapQ bA C8 true m Z V R p0.f)(r5:RepS aH m a3 c3 p1.2.1)(r6:RepS C6 m a4 c4 p1.d)(hr:CJ N p0 p1 p2=some r):Calls prog 80 #[vP bp0 0,.agg (V8 p1 a3 c3 a4 c4),vT p2] w fun e w'=>∃d5 d6 m',bW m m' e (.tuple #[.agg (Ve r.1),vS d5 r.2.1 d6,vI r.d]) (kR d5 r.2.1 d6 80 3::aD Y U M::aD Z V R::cA bp0 a1 c1 Y a2 c2 Z p0::O) w' (RepS C9 m' d5 d6 r.2.1):=by
 have q:=m.le_refl;refine qQr func80 rfl ntmps80 [(0,vP bp0 0),(1,.agg (V8 p1 a3 c3 a4 c4)),(2,vT p2)] kr rfl ?_;refine aB (dY 3 67 (vP bp0 0) g fun b1 m1 w1 e1 g u=>dY 4 102 (.agg (V8 p1 a3 c3 a4 c4)) g fun b2 m2 w2 e2 g g1=>dY 5 9 (vT p2) g fun b3 m3 w3 e3 g p=>bX 6 66 (.agg dX) g fun b4 w4 g=>aG 2 [] (qDs (aB (bX 9 44 (v6) g fun b5 w5 g=>aQ (aB (bX 10 66 (.agg dX) g fun b6 w6 g=>aQ (aF (qDc (aC (aF (aB (cI 12 (.agg (V8 p1 a3 c3 a4 c4)) g (g1.o e3) (bU (nN 13 112 #[.agg (V8 p1 a3 c3 a4 c4)] kr rfl (nT func112 rfl ntmps112 (aB (bU (qI 1 102 0 (.agg (V8 p1 a3 c3 a4 c4)) g fun b7 w7 g=>aG 1 [] (aB (aG 2 [(2,.func (.func 146) #[] #[vP b7 0])] (aM (aW [2] [.func (.func 146) #[] #[vP b7 0]] ⟨_,rfl,aQ (bB (qLe (f:=146) (cap:= #[vP b7 0]) [.exit 0] kr (CV func146 kr) g fun q3 l1 w8 d2 c0 d1 d3 g=> ?_))⟩))))))))))))))))))))));have⟨a,hr,j1⟩:=aX hr
 refine NA (fun v' w'=>∃c n b,v'=(.tuple #[])/\m.le b/\St b (kB b7 (V8 p1 a3 c3 a4 c4) 102::kB b6 (Vf a.1 a.2.1 a.d.1 a.e.1 a.f.1 a.h.1) 66::kB b5 #[vS c a.j.1 n] 44::kB b4 dX 66::cA bp0 a1 c1 Y a2 c2 Z p0::sJ l1 q3 [.exit 0] a.k::aD Y U M::aD Z V R::IG q3.D::kR c a.j.1 n 80 3::O) w'/\MRow b b1 0 [vP bp0 0]/\MRow b b3 0 [vT p2]/\RepS aH b a3 c3 p1.2.1/\RepS C6 b a4 c4 p1.d/\RepS C9 b c n a.j.1/\RepS C1 b a1 c1 p0.1/\RepS aH b a2 c2 p0.e.1/\MapQ cR C7 true b Y U M p0.d.1/\MapQ bA C8 true b Z V R p0.f) ?_ ?_
 .have hr:=j1;rintro _ w9 ⟨c,n,b,rfl,q,g,u,p,r5,r6,y,F,H,G,K⟩;refine⟨_,rfl,?_⟩;have g:=g.f5
  by_cases hj1:a.k=0
  .rw[if_pos hj1] at hr;rw[hj1] at g;refine qMy 0 g rfl fun B g=> ?_;refine bT (aC (aF (bB (aB (bH 1 30 3 29 5 (vI a.h.1) g.t.h (aG 2 [(28,vB (a.h.1==0))] (aJ hr ?_ ?_)))))))<;>intro A hr
   .refine aF (dO [(5,fun w'=>Inv b w'/\Piece.holds b w' (kB b5 #[vS c a.j.1 n] 44)/\True)] kr g fun E _ g=> ?_);have z:=b.le_refl;refine⟨bO (aT g z),bL 0 32 (.agg dX) (cV 1 33 (vS c a.j.1 n) cZ (aZ 2 kr (iX 66 6 32 (.agg dX) g.f3 fun S g=>⟨bO (aT g z),cE 2 [(3,7,vS c a.j.1 n),(4,8,vI 11)] (cO kr (aC (aM (bN (aU (vU ?_))))))⟩)))⟩;cases hr;refine DR g.f7 fun b0 g=> ?_;refine DS [.cell 6 66,.tmp 7,.tmp 8] [.agg dX,vS c a.j.1 n,vI 11] rfl (ResAll.cons (ResAt.blk (v:= .agg dX) (o:=0) kr g.h kr) (ResAll.cons (ResAt.tmp kr) (ResAll.cons (ResAt.tmp kr) ResAll.nil))) ?_;exact⟨c,n,b,rfl,q,g.t.t.t.t.f2.f2.f3,y⟩
   refine aB (bH 1 36 3 35 5 (vI a.h.1) g.t.h (aG 2 [(34,vB (decide (a.h.1>1)))] (aJ hr ?_ ?_)))<;>intro A hr
   .refine aF (dO [(5,fun w'=>Inv b w'/\Piece.holds b w' (kB b5 #[vS c a.j.1 n] 44)/\True)] kr g fun E _ g=> ?_);have z:=b.le_refl;refine⟨bO (aT g z),bL 0 38 (.agg dX) (cV 1 39 (vS c a.j.1 n) cZ (aZ 2 kr (iX 66 6 38 (.agg dX) g.f3 fun S g=>⟨bO (aT g z),cE 2 [(3,7,vS c a.j.1 n),(4,8,vI 12)] (cO kr (aC (aM (bN (aU (vU ?_))))))⟩)))⟩;cases hr;refine DR g.f7 fun b0 g=> ?_;refine DS [.cell 6 66,.tmp 7,.tmp 8] [.agg dX,vS c a.j.1 n,vI 12] rfl (ResAll.cons (ResAt.blk (v:= .agg dX) (o:=0) kr g.h kr) (ResAll.cons (ResAt.tmp kr) (ResAll.cons (ResAt.tmp kr) ResAll.nil))) ?_;exact⟨c,n,b,rfl,q,g.t.t.t.t.f2.f2.f3,y⟩
   refine aN (bT (aC (aF (dO [(5,fun w'=>Inv b w'/\Piece.holds b w' (kB b6 (Vf a.1 a.2.1 a.d.1 a.e.1 a.f.1 a.h.1) 66)/\Piece.holds b w' (kB b5 #[vS c a.j.1 n] 44)/\True)] kr g fun E _ g=> ?_))));have z:=b.le_refl;refine⟨bO (aT g z),cV 0 40 (.agg (Vf a.1 a.2.1 a.d.1 a.e.1 a.f.1 a.h.1)) cZ (cV 1 41 (vS c a.j.1 n) pO (aZ 2 kr (iX 66 6 40 (.agg (Vf a.1 a.2.1 a.d.1 a.e.1 a.f.1 a.h.1)) g.f3 fun S g=>⟨bO (aT g z),cE 2 [(3,7,vS c a.j.1 n),(4,8,vI 0)] (cO kr (aC (aM (vU ?_))))⟩)))⟩;obtain rfl:=sI hr;refine DR g.f7 fun b0 g=> ?_;refine DS [.cell 6 66,.tmp 7,.tmp 8] [.agg (Vf a.1 a.2.1 a.d.1 a.e.1 a.f.1 a.h.1),vS c a.j.1 n,vI 0] rfl (ResAll.cons (ResAt.blk (v:= .agg (Vf a.1 a.2.1 a.d.1 a.e.1 a.f.1 a.h.1)) (o:=0) kr g.h kr) (ResAll.cons (ResAt.tmp kr) (ResAll.cons (ResAt.tmp kr) ResAll.nil))) ?_;exact⟨c,n,b,rfl,q,g.t.t.t.t.f2.f2.f3,y⟩
  rw[if_neg hj1] at hr
  by_cases hj2:a.k=1
  .rw[if_pos hj2] at hr;rw[hj2] at g;refine qMz 1 g rfl fun B g=> ?_;refine cT (cX (aC (aF (bB (aB (bH 1 30 3 29 5 (vI a.h.1) g.t.h (aG 2 [(28,vB (a.h.1==0))] (aJ hr ?_ ?_))))))))<;>intro A hr
   .refine aF (dO [(5,fun w'=>Inv b w'/\Piece.holds b w' (kB b5 #[vS c a.j.1 n] 44)/\True)] kr g fun E _ g=> ?_);have z:=b.le_refl;refine⟨bO (aT g z),bL 0 32 (.agg dX) (cV 1 33 (vS c a.j.1 n) cZ (aZ 2 kr (iX 66 6 32 (.agg dX) g.f3 fun S g=>⟨bO (aT g z),cE 2 [(3,7,vS c a.j.1 n),(4,8,vI 11)] (cO kr (aC (aM (bN (aU (vU ?_))))))⟩)))⟩;cases hr;refine DR g.f7 fun b0 g=> ?_;refine DS [.cell 6 66,.tmp 7,.tmp 8] [.agg dX,vS c a.j.1 n,vI 11] rfl (ResAll.cons (ResAt.blk (v:= .agg dX) (o:=0) kr g.h kr) (ResAll.cons (ResAt.tmp kr) (ResAll.cons (ResAt.tmp kr) ResAll.nil))) ?_;exact⟨c,n,b,rfl,q,g.t.t.t.t.f2.f2.f3,y⟩
   refine aB (bH 1 36 3 35 5 (vI a.h.1) g.t.h (aG 2 [(34,vB (decide (a.h.1>1)))] (aJ hr ?_ ?_)))<;>intro A hr
   .refine aF (dO [(5,fun w'=>Inv b w'/\Piece.holds b w' (kB b5 #[vS c a.j.1 n] 44)/\True)] kr g fun E _ g=> ?_);have z:=b.le_refl;refine⟨bO (aT g z),bL 0 38 (.agg dX) (cV 1 39 (vS c a.j.1 n) cZ (aZ 2 kr (iX 66 6 38 (.agg dX) g.f3 fun S g=>⟨bO (aT g z),cE 2 [(3,7,vS c a.j.1 n),(4,8,vI 12)] (cO kr (aC (aM (bN (aU (vU ?_))))))⟩)))⟩;cases hr;refine DR g.f7 fun b0 g=> ?_;refine DS [.cell 6 66,.tmp 7,.tmp 8] [.agg dX,vS c a.j.1 n,vI 12] rfl (ResAll.cons (ResAt.blk (v:= .agg dX) (o:=0) kr g.h kr) (ResAll.cons (ResAt.tmp kr) (ResAll.cons (ResAt.tmp kr) ResAll.nil))) ?_;exact⟨c,n,b,rfl,q,g.t.t.t.t.f2.f2.f3,y⟩
   refine aN (bT (aC (aF (dO [(5,fun w'=>Inv b w'/\Piece.holds b w' (kB b6 (Vf a.1 a.2.1 a.d.1 a.e.1 a.f.1 a.h.1) 66)/\Piece.holds b w' (kB b5 #[vS c a.j.1 n] 44)/\True)] kr g fun E _ g=> ?_))));have z:=b.le_refl;refine⟨bO (aT g z),cV 0 40 (.agg (Vf a.1 a.2.1 a.d.1 a.e.1 a.f.1 a.h.1)) cZ (cV 1 41 (vS c a.j.1 n) pO (aZ 2 kr (iX 66 6 40 (.agg (Vf a.1 a.2.1 a.d.1 a.e.1 a.f.1 a.h.1)) g.f3 fun S g=>⟨bO (aT g z),cE 2 [(3,7,vS c a.j.1 n),(4,8,vI 0)] (cO kr (aC (aM (vU ?_))))⟩)))⟩;obtain rfl:=sI hr;refine DR g.f7 fun b0 g=> ?_;refine DS [.cell 6 66,.tmp 7,.tmp 8] [.agg (Vf a.1 a.2.1 a.d.1 a.e.1 a.f.1 a.h.1),vS c a.j.1 n,vI 0] rfl (ResAll.cons (ResAt.blk (v:= .agg (Vf a.1 a.2.1 a.d.1 a.e.1 a.f.1 a.h.1)) (o:=0) kr g.h kr) (ResAll.cons (ResAt.tmp kr) (ResAll.cons (ResAt.tmp kr) ResAll.nil))) ?_;exact⟨c,n,b,rfl,q,g.t.t.t.t.f2.f2.f3,y⟩
  rw[if_neg hj2] at hr;cases hr
 refine nT func146 rfl ntmps146 (aF (aS 2 [(5,.func (.yield l1) #[] #[]),(6,vP b7 0)] (bD 7 (vT p1.1) g.t.t.h (bU (qAh (d:=8) (l:=l1) (x:=(.tmp 5)) (xs:= #[(.tmp 7)]) (ts:= #[9]) [vT p1.1] kr rfl (ev (.func (.yield l1) #[] #[])) kr d3 d2 c0 d1 rfl kr g ?_)))));intro R1 d8;refine vZ rfl ?_;refine aA 1 [(11,vT p1.1)] (aV (qEh g fun g9 g=>bB (aF (vZ rfl (bD 15 (vf) g.t.t.t.t.h (aA 1 [(16,vT p1.1)] (cI 17 (vT p2) g p (aA 1 [(18,.agg #[vI 1,vT p1.1,vT p2])] (eH 19 80 1 C9 [(1,p1.1,p2)] g fun b8 m6 h0 e5 g r8=>mL 20 44 44 80 40 15 19 (g.nilroom 80 3) (.inl kr) (RepS.nil _ _) r8.src hr fun l2 hr a6 c6 m7 h1 e6 g r9=> ?_)))))))));have u:=(((u.o e2).o e3).o e5).o e6;have p:=(p.o e5).o e6;have G:=((((G.o e1).o e2).o e3).o e5).o e6;have K:=((((K.o e1).o e2).o e3).o e5).o e6;have F:=((((F.o e1).o e2).o e3).o e5).o e6;have H:=((((H.o e1).o e2).o e3).o e5).o e6;refine bF (vS a6 l2 c6) g.f6 fun h2 g=>aV ?_;have g:=g.f2.t;refine aC (aF (vZ rfl (cI 21 (vP bp0 0) g u (aA 1 [(22,vT p1.1)] (cI 23 (vT p2) g p (aL 24 hr (GM g.f9.f9.f9 F G H K) ?_))))));rintro y1 hr _ h3 ⟨m8,rfl,z,g⟩;refine bF (.agg (Ve y1)) g.f8 fun h4 g=>aQ (aF (vZ rfl (bH 1 26 3 25 5 (vI y1.h) g.h (aG 1 [(27,vB (decide (y1.h>0)))] (aJ hr ?_ ?_)))))<;>intro A hr
 .refine cT (uK rfl (qCf [.exit 0] 0 rfl g.f6 fun y g=>d8 false _ (aG 1 [(9,vB true)] (pI true kr ?_ (fun h=>Bool.noConfusion h)))));intro _;refine aM (aU ?_);cases hr;refine oT [] [] rfl ResAll.nil ?_;exact⟨_,rfl,⟨a6,c6,m8,rfl,(((((q.t e1).t e2).t e3).t e5).t e6).t z,g.f6.f7.f5.f5.f4.f6.f9.f8.f8.f9,u.o z,p.o z,(((((r5.o e1).o e2).o e3).o e5).o e6).o z,(((((r6.o e1).o e2).o e3).o e5).o e6).o z,r9.o z,F.o z,H.o z,G.o z,K.o z⟩⟩
 refine aN (bT (qBm [.exit 0] g.f6 fun h5 g=>d8 true _ (aG 1 [(9,vB false)] (pI false kr (fun h=>Bool.noConfusion h) ?_))));intro _;refine aN (aC (aB (bH 1 11 70 10 1 (vS a3 p1.2.1 c3) g.t.t.t.t.t.t.t.t.h (aG 2 [(12,vI (p1.2.1.length:Int)),(13,vI 0)] (bB ?_)))));have⟨d4,hr,j2⟩:=aX hr;refine dW (.exit 0) (fun L' w'=>∃(o2:JO),∃a7 c7 m9,(.inl o2)=d4/\L'=[]/\m.le m9/\St m9 (kB b6 (Vf o2.1 o2.2.1 o2.d.1 o2.e.1 o2.f.1 o2.h.1) 66::cA bp0 a1 c1 Y a2 c2 Z p0::kB b5 #[vS a7 o2.j c7] 44::kB b7 (V8 p1 a3 c3 a4 c4) 102::kB b4 dX 66::sJ l1 q3 [.exit 0] 0::aD Y U M::aD Z V R::IG q3.D::kR a7 o2.j c7 80 3::O) w'/\MRow m9 b1 0 [vP bp0 0]/\MRow m9 b3 0 [vT p2]/\RepS C1 m9 a1 c1 p0.1/\RepS aH m9 a2 c2 p0.e.1/\RepS C9 m9 a7 c7 o2.j/\RepS aH m9 a3 c3 p1.2.1/\RepS C6 m9 a4 c4 p1.d/\MapQ cR C7 true m9 Y U M p0.d.1/\MapQ bA C8 true m9 Z V R p0.f) ?_ ?_
 .rintro _ B ⟨o2,a7,c7,m9,rfl,rfl,q,g,u,p,F,H,y,r5,r6,G,K⟩;have hr:=j2;refine cX ?_;cases hr;exact pV [] [] rfl ResAll.nil ⟨_,rfl,⟨a7,c7,m9,rfl,q,g.f9.f9.f9.f9.f9.f6.f9.f8.f8.f9,u,p,r5,r6,y,F,H,G,K⟩⟩
 intro d7;refine dJ (fun k1 L' w'=>∃(s1:Int×JO),∃a8 c8 B,aK (GV N p0 p1 p2) k1 s1=some d4/\L'=[(0,.func (.yield l1) #[] #[]),(11,vS a3 p1.2.1 c3),(12,vI (p1.2.1.length:Int)),(13,vI s1.1)]/\m.le B/\St B (kB b6 (Vf s1.2.1 s1.d.1 s1.e.1 s1.f.1 s1.h.1 s1.j.1) 66::cA bp0 a1 c1 Y a2 c2 Z p0::kB b5 #[vS a8 s1.k c8] 44::kB b7 (V8 p1 a3 c3 a4 c4) 102::kB b4 dX 66::sJ l1 q3 [.exit 0] 0::aD Y U M::aD Z V R::IG q3.D::kR a8 s1.k c8 80 3::O) w'/\RepS aH B a3 c3 p1.2.1/\MRow B b1 0 [vP bp0 0]/\MRow B b3 0 [vT p2]/\RepS C1 B a1 c1 p0.1/\RepS aH B a2 c2 p0.e.1/\RepS C9 B a8 c8 s1.k/\RepS C6 B a4 c4 p1.d/\MapQ cR C7 true B Y U M p0.d.1/\MapQ bA C8 true B Z V R p0.f) N ⟨(0,y1.1,y1.2.1,y1.d.1,y1.e.1,y1.f.1,y1.h,l2),a6,c6,m8,hr,rfl,(((((q.t e1).t e2).t e3).t e5).t e6).t z,g.f6.f7.f5.f5.f4.f9.f9.f9.f9.f9,(((((r5.o e1).o e2).o e3).o e5).o e6).o z,u.o z,p.o z,F.o z,H.o z,r9.o z,(((((r6.o e1).o e2).o e3).o e5).o e6).o z,G.o z,K.o z⟩ ?_;rintro k1 _ h6 ⟨s1,a8,c8,B,hL,rfl,q,g,r5,u,p,F,H,e4,r6,G,K⟩;obtain⟨k1,g8,rfl,hr,g0,b0⟩:=dN hL;refine aI 1 [(14,vB (decide (s1.1<(p1.2.1.length:Int))))] (aF (aJ hr ?_ ?_))<;>intro A hr
 .refine aN (aC (aF (bB (aB (iH 15 r5 hr ?_)))));rintro x1 hr b9 f1 g5 rfl g2;refine iG 16 9 15 f1 (vT x1) g g2 (aG 1 [(4,vT x1)] (aB (aA 2 [(17,.func (.yield l1) #[] #[]),(18,vT x1)] ?_)));have g:=g.f5;refine bU (qAh (d:=19) (l:=l1) (x:=(.tmp 17)) (xs:= #[(.tmp 18)]) (ts:= #[9]) [vT x1] kr rfl (ev (.func (.yield l1) #[] #[])) kr d3 d2 c0 d1 rfl kr g ?_);intro R2 d9;refine vZ rfl ?_;refine aA 1 [(11,vT x1)] (aV (qEh g fun h7 g=>bB (aF (vZ rfl (bD 15 (vS a8 s1.k c8) g.t.t.t.h (aA 1 [(16,vT x1)] (cI 17 (vT p2) g p (aA 1 [(18,.agg #[vI 1,vT x1,vT p2])] (eH 19 80 1 C9 [(1,x1,p2)] g fun g4 g6 h8 E g g3=>mL 20 44 44 80 40 15 19 g.f10 (.inl kr) (e4.o E) g3.src hr fun l3 hr a9 c9 g7 h9 S g f0=> ?_)))))))));have u:=(u.o E).o S;have p:=(p.o E).o S;refine bF (vS a9 l3 c9) g.f5 fun k0 g=>aV ?_;have g:=g.f2.t;refine aC (aF (vZ rfl (cI 21 (vP bp0 0) g u (aA 1 [(22,vT x1)] (cI 23 (vT p2) g p (aL 24 hr (GM g.f4.f8.f8 ((F.o E).o S) ((G.o E).o S) ((H.o E).o S) ((K.o E).o S)) ?_))))));rintro y2 hr _ k2 ⟨e0,rfl,y,g⟩;have r5:=((r5.o E).o S).o y;have G:=((G.o E).o S).o y;have K:=((K.o E).o S).o y;have F:=((F.o E).o S).o y;have H:=((H.o E).o S).o y;have r6:=((r6.o E).o S).o y
  refine bF (.agg (Ve y2)) g.f6 fun k3 g=>aQ (aF (vZ rfl (bH 1 26 3 25 5 (vI y2.h) g.h (aG 1 [(27,vB (decide (y2.h>0)))] (aJ hr ?_ ?_)))))<;>intro A hr
  .refine cT (uK rfl (qCf [.exit 0] 0 rfl g.f6 fun k4 g=>d9 false _ (aG 1 [(20,vB true)] (pI true kr ?_ (fun h=>Bool.noConfusion h)))));intro _;refine aM (bN (aU ?_));have ho:=b0 _ (sI hr);subst ho;have hr:=j2;refine aU (bN ?_);cases hr;refine oT [] [] rfl ResAll.nil ?_;exact⟨_,rfl,⟨a9,c9,e0,rfl,((q.t E).t S).t y,g.f6.f9.f5.f5.f4.f6.f9.f8.f8.f9,u.o y,p.o y,r5,r6,f0.o y,F,H,G,K⟩⟩
  refine aN (bT (qBm [.exit 0] g.f6 fun k4 g=>d9 true _ (aG 1 [(20,vB false)] (pI false kr (fun h=>Bool.noConfusion h) ?_))));intro _;refine aN (bT (aC (aY (aA 2 [(13,vI (wr (s1.1+1)))] (aV ?_)))));have hL:=g0 _ (sI hr);exact cY ⟨(wr (s1.1+1),y2.1,y2.2.1,y2.d.1,y2.e.1,y2.f.1,y2.h,l3),a9,c9,e0,hL,rfl,((q.t E).t S).t y,g.f6.f9.f5.f5.f4.f9.f9.f9.f9.f9,r5,u.o y,p.o y,F,H,f0.o y,r6,G,K⟩
 refine cT (bG ?_);have ho:=b0 _ (sI hr);have g:=g.f9.f9.f9.f9.f9.f9.f9.f9.f9.f9;exact bG (xE (d7 _ _ ⟨s1.2,a8,c8,B,ho,rfl,q,g,u,p,F,H,e4,r5,r6,G,K⟩))
def FI(N:Nat)(p1:mT)(s1:Int×tF):Option (Int×tF⊕tF):=
 if(decide (s1.1<(List.length p1:Int)))then((bS p1 s1.1).bind fun a=>(eA s1.2 a true).bind fun a=>some (.inl (IntKind.wrap .i64 (s1.1+1),a))) else(some (.inr s1.2))
def pT(N:Nat)(p0:cS)(p1:mT):Option wS:=
 (aK (FI N p1) N (0,p0.2.2.2.1)).bind fun a=>some (a,p0.2.2.2.2.1,p0.2.2.2.2.2.1,p0.2.2.2.2.2.2.1)
theorem BE{p0:cS}{p1:mT}{l K E p M F B b b3 b0 o G D}{r:wS}(g:St m (aD K E p::aD M F B::cA l a1 c1 K a2 c2 M p0.1::aD b b3 b0::aD o G D::lT bp0 l a3 c3 b o p0::O) w)(r1:RepS C1 m a1 c1 p0.1.1)(r2:MapQ cR C7 true m K E p p0.1.d.1)(r3:RepS aH m a2 c2 p0.1.e.1)(r4:MapQ bA C8 true m M F B p0.1.f)(r5:RepS C3 m a3 c3 p0.2.1)(r6:MapQ bA cK false m b b3 b0 p0.e.1)(r7:MapQ cM eD false m o G D p0.k)(r8:RepS C9 m a4 c4 p1)(hr:pT N p0 p1=some r):Calls prog 24 #[vP bp0 0,vS a4 p1 c4] w fun e w'=>∃b7 b8 m',bW m m' e (.tuple #[]) (aD K E p::aD M F B::cA l a1 c1 K a2 c2 M p0.1::aD b b7 b8::aD o G D::dV bp0 l a3 c3 b o p0 r.2.1 r.d.1 r.e::O) w' (MapQ bA cK false m' b b7 b8 r.1):=by
 refine bP g func24 rfl ntmps24 fun q=>aI 3 [(6,vS a4 p1 c4),(7,vI (p1.length:Int)),(8,vI 0)] (bB (cJ (.exit 0) hr (fun R L' w'=>∃(o1:tF),∃V S H,o1=R/\L'=[]/\m.le H/\St H (cA l a1 c1 K a2 c2 M p0.1::lT bp0 l a3 c3 b o p0::aD K E p::aD M F B::aD b V S::aD o G D::O) w'/\RepS C1 H a1 c1 p0.1.1/\RepS aH H a2 c2 p0.1.e.1/\RepS C3 H a3 c3 p0.2.1/\MapQ cR C7 true H K E p p0.1.d.1/\MapQ bA C8 true H M F B p0.1.f/\MapQ bA cK false H b V S o1/\MapQ cM eD false H o G D p0.k) ?_ ?_))
 .rintro R hr _ U ⟨o1,V,S,H,rfl,rfl,q,g,r1,r3,r5,r2,r4,a,r7⟩;refine cX ?_;cases hr;exact pV [] [] rfl ResAll.nil ⟨V,S,H,rfl,q,g.f1.f5.f5.f3.f5.f5,a⟩
 intro R hr b5;refine dJ (fun k1 L' w'=>∃(s1:Int×tF),∃Y U a,aK (FI N p1) k1 s1=some R/\L'=[(0,vP bp0 0),(6,vS a4 p1 c4),(7,vI (p1.length:Int)),(8,vI s1.1)]/\m.le a/\St a (cA l a1 c1 K a2 c2 M p0.1::lT bp0 l a3 c3 b o p0::aD K E p::aD M F B::aD b Y U::aD o G D::O) w'/\RepS C9 a a4 c4 p1/\RepS C1 a a1 c1 p0.1.1/\RepS aH a a2 c2 p0.1.e.1/\RepS C3 a a3 c3 p0.2.1/\MapQ cR C7 true a K E p p0.1.d.1/\MapQ bA C8 true a M F B p0.1.f/\MapQ bA cK false a b Y U s1.2/\MapQ cM eD false a o G D p0.k) N ⟨(0,p0.e.1),b3,b0,m,hr,rfl,q,g.f4.f4.f3.f3.f5.f5,r8,r1,r3,r5,r2,r4,r6,r7⟩ ?_;rintro k1 _ w2 ⟨s1,Y,U,a,hL,rfl,q,g,r8,r1,r3,r5,r2,r4,b6,r7⟩;obtain⟨k1,d8,rfl,hr,c0,b9⟩:=dN hL;refine aI 1 [(9,vB (decide (s1.1<(p1.length:Int))))] (aF (aJ hr ?_ ?_))<;>intro A hr
 .refine aN (aC (aF (bB (aB (iH 10 r8 hr ?_)))));rintro Z hr b1 f1 d7 ⟨_,_,rfl,rfl,⟨_,_,rfl,rfl,rfl⟩⟩ d3;refine iG 11 80 10 f1 (.agg (Vj Z)) g d3 (bX 5 80 (.agg #[vI 0,vT eB,vT eB]) g fun b2 w3 g=>bF (.agg (Vj Z)) g fun w4 g=>aQ (dO [(6,fun w'=>Inv a w'/\Piece.holds a w' (kB b2 (Vj Z) 80)/\Piece.holds a w' (lT bp0 l a3 c3 b o p0)/\True)] kr g fun w5 _ g=> ?_));have b4:=a.le_refl;refine⟨bO (aT g b4),cE 3 [(0,12,vP bp0 0),(1,13,vP bp0 0),(2,14,vP bp0 3)] (cV 3 15 (.map b) pO (cV 4 16 (.agg (Vj Z)) cZ ?_))⟩;have g:=g.f5;have⟨d5,d4,hr⟩:=aX hr;refine aZ 5 kr (HG (ek:=bA) (c:=cK) (agg:=false) (k:=Z) (yv:=true) (cs:=[vB true]) (z:=(vB false)) (v:=(vB true)) (kt:=80) (et:=4) (t:=116) (x:=(.tmp 15)) (y:=(.tmp 16)) (u:=(.const (vB true))) kr (ev (.map b)) (ev (.agg (Vj Z))) (ev (vB true)) kr (zO kr kr (fun _ _=>kr) (fun _ _=>kr)) g b6 rfl rfl d4 fun d2 d1 w6 g d6=>⟨bO (aT g b4),cO kr (bT (aC (aY (aA 2 [(8,vI (wr (s1.1+1)))] (aV ?_)))))⟩);have hL:=c0 _ (sI hr);exact cY ⟨(wr (s1.1+1),d5),d2,d1,a,hL,rfl,q,g.f1.t.f5.f1.f5.f5.f5.f5,r8,r1,r3,r5,r2,r4,d6,r7⟩
 refine cT (bG ?_);have ho:=b9 _ (sI hr);have g:=g.f5.f5.f5.f5.f5.f5;exact bG (xE (b5 rfl ⟨s1.2,Y,U,a,ho,rfl,q,g,r1,r3,r5,r2,r4,b6,r7⟩))
end
section
open Go Go.Dc Go.Proofs.Tryz
set_option maxHeartbeats 4000000
set_option maxRecDepth 100000
variable {N bp0 c1 c2 c3 c4 c5 c6 c7 c8 c9:Nat} {m:Mem} {O:List Piece} {w:World} {a1 a2 a3 a4 a5 a6 a7 a8 a9:Option Addr}
def CL(N:Nat)(p0:Int):Option (Int⊕Unit):=
 if(p0 !=0)then(some (.inl p0)) else(some (.inr ()))
theorem MH{p0:Int}{r:Int⊕Unit}(g:St m (O) w)(hr:CL N p0=some r):Calls prog 81 #[vI p0] w fun e w'=>(∃(a:Int),∃m',r= .inl a/\pnW 161 m m' e a (O) w')\/(∃(b:Unit),r= .inr b/\∃m',eP m m' e (.tuple #[]) (O) w'):=by
 refine bP g func81 rfl ntmps81 fun q=>(aI 2 [(3,vB (p0 !=0))] (aJ hr ?_ ?_))<;>intro A hr
 .refine aY (aA 3 [(6,.iface 161 (.agg #[vI p0]))] (bU (RY (x:=(.tmp 6)) kr (ev (.iface 161 (.agg #[vI p0]))) ?_)));cases hr;exact cN (.inl ⟨p0,m,rfl,rfl,q,g⟩)
 refine aN ?_;cases hr;exact pV [] [] rfl ResAll.nil (.inr ⟨_,rfl,m,rfl,q,g⟩)
def tL(N:Nat)(p0:Bool)(p1:Int):Option (Int⊕Unit):=
 if p0 then(some (.inl p1)) else(some (.inr ()))
theorem vO{p0:Bool}{p1:Int}{r:Int⊕Unit}(g:St m (O) w)(hr:tL N p0 p1=some r):Calls prog 83 #[vB p0,vI p1] w fun e w'=>(∃(a:Int),∃m',r= .inl a/\pnW 161 m m' e a (O) w')\/(∃(b:Unit),r= .inr b/\∃m',eP m m' e (.tuple #[]) (O) w'):=by
 refine bP g func83 rfl ntmps83 fun q=>(aI 1 [(4,vB p0)] (aJ hr ?_ ?_))<;>intro A hr
 .refine aY (aA 3 [(7,.iface 161 (.agg #[vI p1]))] (bU (RY (x:=(.tmp 7)) kr (ev (.iface 161 (.agg #[vI p1]))) ?_)));cases hr;exact cN (.inl ⟨p1,m,rfl,rfl,q,g⟩)
 refine aN ?_;cases hr;exact pV [] [] rfl ResAll.nil (.inr ⟨_,rfl,m,rfl,q,g⟩)
def HC(N:Nat)(p0:Bool):Ta:=
 if p0 then(some 1) else(some 0)
theorem QA{p0:Bool}{r:Int}(g:St m (O) w)(hr:HC N p0=some r):Calls prog 85 #[vB p0] w fun e w'=>∃m',eP m m' e (vI r) (O) w':=by
 refine bP g func85 rfl ntmps85 fun q=>aI 1 [] (aF (aI 1 [(3,vB p0)] (aJ hr ?_ ?_)))<;>intro A hr
 .refine aI 1 [(2,vI 1)] (aM (aU ?_));cases hr;exact aW [2] [vI 1] ⟨m,rfl,q,g⟩
 refine aN (aC (aI 1 [(2,vI 0)] (aM ?_)));cases hr;exact aW [2] [vI 0] ⟨m,rfl,q,g⟩
def GQ(N:Nat)(p0:sN)(p1:BA)(s1:Int):Option (Int⊕Unit⊕EO):=
 if(decide (s1<(List.length p0.1:Int)))then((bS p0.1 s1).bind fun a=>if(a.1.toList==p1.toList)then(some (.inr (.inr ((a.2,true))))) else(some (.inl (IntKind.wrap .i64 (s1+1))))) else(some (.inr (.inl ())))
def uI(N:Nat)(p0:sN)(p1:BA):Option EO:=
 (aK (GQ N p0 p1) N 0).bind fun a=>(match a with| .inl a=>some ((⟨#[]⟩:BA),false)| .inr (z)=>some z)
theorem WL{p0:sN}{p1:BA}{l c a n k b}{r:EO}(g:St m (aD l c a::aD n k b::cA bp0 a1 c1 l a2 c2 n p0::O) w)(v:RepS C1 m a1 c1 p0.1)(z:MapQ cR C7 true m l c a p0.d.1)(B:RepS aH m a2 c2 p0.e.1)(D:MapQ bA C8 true m n k b p0.f)(hr:uI N p0 p1=some r):Calls prog 114 #[vP bp0 0,vT p1] w fun e w'=>∃m',eP m m' e (.tuple #[vT r.1,vB r.2]) (aD l c a::aD n k b::cA bp0 a1 c1 l a2 c2 n p0::O) w':=by
 refine bP g func114 rfl ntmps114 fun q=>aI 2 [] (aF (aB (bH 4 12 26 11 0 (vS a1 p0.1 c1) g.t.t.h (aG 2 [(13,vI (p0.1.length:Int)),(14,vI 0)] (bB ?_)))));have⟨y,hr,K⟩:=aX hr;refine dW (.exit 0) (fun L' w'=>∃(M:Unit),∃p,(.inl M)=y/\L'=[]/\m.le p/\St p (cA bp0 a1 c1 l a2 c2 n p0::aD l c a::aD n k b::O) w'/\RepS C1 p a1 c1 p0.1/\RepS aH p a2 c2 p0.e.1/\MapQ cR C7 true p l c a p0.d.1/\MapQ bA C8 true p n k b p0.f) ?_ ?_
 .rintro _ o ⟨M,p,rfl,rfl,q,g,v,B,z,D⟩;have hr:=K;refine cX (aC (aI 2 [(4,vT eB),(5,vB false)] (aM ?_)));cases hr;exact aW [4,5] [vT eB,vB false] ⟨p,rfl,q,g.f2.f2⟩
 intro E;refine dJ (fun F L' w'=>∃(s1:Int),∃o,aK (GQ N p0 p1) F s1=some y/\L'=[(1,vT p1),(12,vS a1 p0.1 c1),(13,vI (p0.1.length:Int)),(14,vI s1)]/\m.le o/\St o (cA bp0 a1 c1 l a2 c2 n p0::aD l c a::aD n k b::O) w'/\RepS C1 o a1 c1 p0.1/\RepS aH o a2 c2 p0.e.1/\MapQ cR C7 true o l c a p0.d.1/\MapQ bA C8 true o n k b p0.f) N ⟨0,m,hr,rfl,q,g.f1.f1.f2,v,B,z,D⟩ ?_;rintro F _ Z ⟨s1,o,hL,rfl,q,g,v,B,z,D⟩;obtain⟨F,U,rfl,hr,G,x⟩:=dN hL;refine aI 1 [(15,vB (decide (s1<(p0.1.length:Int))))] (aF (aJ hr ?_ ?_))<;>intro A hr
 .refine aN (aC (aF (bB (aB (iH 16 v hr ?_)))));rintro u hr V R S ⟨_,_,rfl,rfl,rfl⟩ H;refine iG 17 62 16 R (.agg (V2 u)) g H (bX 7 62 (.agg (V3 eB eB)) g fun Y w3 g=>bF (.agg (V2 u)) g fun w4 g=>aQ (aB (bH 1 19 9 18 0 (vT u.1) g.h (aG 2 [(21,vB (u.1.toList==p1.toList))] (aJ hr ?_ ?_)))))<;>intro A hr
  .refine aB (bH 1 23 9 22 1 (vT u.2) g.h (aG 2 [(4,vT u.2),(5,vB true)] (aM (bN (aU ?_)))));have ho:=x _ (sI hr);subst ho;have hr:=K;refine aU (bN (aU ?_));cases hr;exact aW [4,5] [vT u.2,vB true] ⟨o,rfl,q,g.t.f2.f2⟩
  refine aN (bT (aC (aY (aA 2 [(14,vI (wr (s1+1)))] (aV ?_)))));have hL:=G _ (sI hr);exact cY ⟨wr (s1+1),o,hL,rfl,q,g.t.f2.f2.f2,v,B,z,D⟩
 refine cT (bG ?_);have ho:=x _ (sI hr);have g:=g.f2.f2.f2;exact bG (xE (E _ _ ⟨(),o,ho,rfl,q,g,v,B,z,D⟩))
def HB(N:Nat)(p0:sN)(p1:BA):Option (Int×T3g):=
 (uI N p0 p1).bind fun y1=>if y1.2 then(some (1,((⟨#[]⟩:BA),(⟨#[]⟩:BA),0,(⟨#[]⟩:BA),0,0),[(4,p1,(⟨#[]⟩:BA))],0)) else((eM 40 ([(4,p1,(⟨#[]⟩:BA))]) ([(3,p1,(⟨#[]⟩:BA))])).bind fun a=>(vQ N p0 3 (⟨#[]⟩:BA) p1).bind fun b=>if(b.2.2.2.2.2==0)then(some (0,((⟨#[]⟩:BA),(⟨#[]⟩:BA),0,(⟨#[]⟩:BA),0,0),a,14)) else(if(decide (b.2.2.2.2.2>1))then(some (3,((⟨#[]⟩:BA),(⟨#[]⟩:BA),0,(⟨#[]⟩:BA),0,0),a,12)) else(some (2,b,a,0))))
theorem qJj{p0:sN}{p1:BA}{G D y H E z}{r:Int×T3g}(g:St m (aD G D y::aD H E z::cA bp0 a1 c1 G a2 c2 H p0::O) w)(U:RepS C1 m a1 c1 p0.1)(V:MapQ cR C7 true m G D y p0.d.1)(Y:RepS aH m a2 c2 p0.e.1)(Z:MapQ bA C8 true m H E z p0.f)(hr:HB N p0 p1=some r):Calls prog 113 #[vP bp0 0,vT p1] w fun e w'=>∃M R m',bW m m' e (.tuple #[vI r.1,.agg (Ve r.2.1),vS M r.d.1 R,vI r.e]) (kR M r.d.1 R 80 3::aD G D y::aD H E z::cA bp0 a1 c1 G a2 c2 H p0::O) w' (RepS C9 m' M R r.d.1):=by
 refine bP g func113 rfl ntmps113 fun q=>aS 1 [] (bX 5 66 (.agg dX) g fun b1 w1 g=>aG 2 [] (aB (aA 2 [(12,.agg #[vI 4,vT p1,vT eB])] (eH 13 80 1 C9 [(4,p1,eB)] g fun p m1 w2 c g r5=>aG 1 [(6,vS (aP p) ([(4,p1,eB)]) 1)] (aF (aS 2 [(15,vP bp0 0),(16,vT p1)] (aL 17 hr (WL g.f4.f4.f4 (U.o c) (V.o c) (Y.o c) (Z.o c)) ?_)))))));rintro y1 hr _ w3 ⟨m2,rfl,n,g⟩;refine aG 5 [(9,vB y1.2)] (aB (aG 1 [(20,vB y1.2)] (aJ hr ?_ ?_)))<;>intro A hr
 .refine aS 3 [(21,.agg dX),(22,vS (aP p) ([(4,p1,eB)]) 1),(4,vI 1)] (bF (.agg dX) g.f4 fun a g=>aG 2 [(6,vS (aP p) ([(4,p1,eB)]) 1),(7,vI 0)] (aM (aU ?_)));obtain rfl:=sI hr;refine oT [.tmp 4,.cell 5 66,.tmp 6,.tmp 7] [vI 1,.agg dX,vS (aP p) ([(4,p1,eB)]) 1,vI 0] rfl (ResAll.cons (ResAt.tmp kr) (ResAll.cons (ResAt.blk (v:= .agg dX) (o:=0) kr g.h kr) (ResAll.cons (ResAt.tmp kr) (ResAll.cons (ResAt.tmp kr) ResAll.nil)))) ?_;exact⟨(aP p),1,m2,rfl,(q.t c).t n,g.t.f2.f2.f2.f3,r5.o n⟩
 refine aN (aC (aS 3 [(23,vS (aP p) ([(4,p1,eB)]) 1),(25,.agg #[vI 3,vT p1,vT eB])] (eH 26 80 1 C9 [(3,p1,eB)] g fun b3 m3 w5 u g r6=>mL 27 44 44 80 40 23 26 g.f4 (.inl kr) ((r5.o n).o u) r6.src hr fun k hr a b m4 w6 B g K=>aA 1 [(6,vS a k b)] (aV ?_))));have g:=g.f1.t;refine aC (aS 2 [(28,vP bp0 0),(29,vT p1)] (aL 30 hr (GM g.f3.f3.f3 ((((U.o c).o n).o u).o B) ((((V.o c).o n).o u).o B) ((((Y.o c).o n).o u).o B) ((((Z.o c).o n).o u).o B)) ?_));rintro l hr _ w7 ⟨x,rfl,S,g⟩;have q:=((((q.t c).t n).t u).t B).t S;have K:=K.o S;refine bX 10 66 (.agg dX) g fun b4 w8 g=>bF (.agg (Ve l)) g fun w9 g=>aQ (aF (bB (aB (bH 1 33 3 32 5 (vI l.h) g.h (aG 2 [(31,vB (l.h==0))] (aJ hr ?_ ?_))))))<;>intro A hr
 .refine aS 3 [(35,.agg dX),(36,vS a k b),(4,vI 0)] (bF (.agg dX) g.f5 fun F g=>aG 2 [(6,vS a k b),(7,vI 14)] (aM (bN (aU ?_))));obtain rfl:=sI hr;refine oT [.tmp 4,.cell 5 66,.tmp 6,.tmp 7] [vI 0,.agg dX,vS a k b,vI 14] rfl (ResAll.cons (ResAt.tmp kr) (ResAll.cons (ResAt.blk (v:= .agg dX) (o:=0) kr g.h kr) (ResAll.cons (ResAt.tmp kr) (ResAll.cons (ResAt.tmp kr) ResAll.nil)))) ?_;exact⟨a,b,x,rfl,q,g.t.t.f2.f2.f2.f3,K⟩
 refine aB (bH 1 39 3 38 5 (vI l.h) g.h (aG 2 [(37,vB (decide (l.h>1)))] (aJ hr ?_ ?_)))<;>intro A hr
 .refine aS 3 [(41,.agg dX),(42,vS a k b),(4,vI 3)] (bF (.agg dX) g.f5 fun F g=>aG 2 [(6,vS a k b),(7,vI 12)] (aM (bN (aU ?_))));obtain rfl:=sI hr;refine oT [.tmp 4,.cell 5 66,.tmp 6,.tmp 7] [vI 3,.agg dX,vS a k b,vI 12] rfl (ResAll.cons (ResAt.tmp kr) (ResAll.cons (ResAt.blk (v:= .agg dX) (o:=0) kr g.h kr) (ResAll.cons (ResAt.tmp kr) (ResAll.cons (ResAt.tmp kr) ResAll.nil)))) ?_;exact⟨a,b,x,rfl,q,g.t.t.f2.f2.f2.f3,K⟩
 refine aN (bT (aC (aF (dO [(6,fun w'=>Inv x w'/\Piece.holds x w' (kB b4 (Ve l) 66)/\True)] kr g fun b0 _ g=> ?_))));have F:=x.le_refl;refine⟨bO (aT g F),cV 0 43 (.agg (Ve l)) cZ (cE 2 [(1,44,vS a k b),(2,4,vI 2)] (aZ 3 kr (iX 66 5 43 (.agg (Ve l)) g.f5 fun b5 g=>⟨bO (aT g F),cE 2 [(4,6,vS a k b),(5,7,vI 0)] (cO kr (aC (aM ?_)))⟩)))⟩;obtain rfl:=sI hr;refine oT [.tmp 4,.cell 5 66,.tmp 6,.tmp 7] [vI 2,.agg (Ve l),vS a k b,vI 0] rfl (ResAll.cons (ResAt.tmp kr) (ResAll.cons (ResAt.blk (v:= .agg (Ve l)) (o:=0) kr g.h kr) (ResAll.cons (ResAt.tmp kr) (ResAll.cons (ResAt.tmp kr) ResAll.nil)))) ?_;exact⟨a,b,x,rfl,q,g.t.t.f2.f2.f2.f3,K⟩
def vM(N:Nat)(p0:cS)(p1:BA):Option (wS×Bool×iK×Tm):=
 (HB N p0.1 p1).bind fun y1=>(pT N (p0.1,p0.2.1,p0.2.2.1,p0.2.2.2.1,p0.2.2.2.2.1,p0.2.2.2.2.2.1,p0.2.2.2.2.2.2.1,p0.2.2.2.2.2.2.2) y1.2.2.1).bind fun b=>(uI N p0.1 p1).bind fun a=>some (b,!a.2,y1.2.1,a.1,y1.2.2.2)
theorem PF{p0:cS}{p1:BA}{b F A u G B x p M K H D y}{r:wS×Bool×iK×Tm}(g:St m (aD F A u::aD G B x::cA b a1 c1 F a2 c2 G p0.1::aD p M K::aD H D y::lT bp0 b a3 c3 p H p0::O) w)(Y:RepS C1 m a1 c1 p0.1.1)(Z:MapQ cR C7 true m F A u p0.1.d.1)(r3:RepS aH m a2 c2 p0.1.e.1)(r4:MapQ bA C8 true m G B x p0.1.f)(r5:RepS C3 m a3 c3 p0.2.1)(r6:MapQ bA cK false m p M K p0.e.1)(r7:MapQ cM eD false m H D y p0.k)(hr:vM N p0 p1=some r):Calls prog 86 #[vP bp0 0,vT p1] w fun e w'=>∃R S m',bW m m' e (.tuple #[vB r.2.1,.agg (Ve r.d.1),vT r.e.1,vI r.f]) (aD F A u::aD G B x::cA b a1 c1 F a2 c2 G p0.1::aD p R S::aD H D y::dV bp0 b a3 c3 p H p0 r.1.2.1 r.1.d.1 r.1.e::O) w' (MapQ bA cK false m' p R S r.1.1):=by
 refine bP g func86 rfl ntmps86 fun q=>aS 1 [] (bX 5 66 (.agg dX) g fun b1 w1 g=>aG 2 [] (aB (bH 3 15 67 14 0 (vP b 0) g.t.t.t.t.t.t.h (aA 1 [(16,vT p1)] (aL 17 hr (qJj g.f3.f3.f3 Y Z r3 r4) ?_)))));rintro y1 hr _ w2 ⟨U,V,m1,rfl,a,g,r8⟩;refine aA 6 [(19,.agg (Ve y1.2.1)),(20,vS U y1.d.1 V),(21,vI y1.e)] (bF (.agg (Ve y1.2.1)) g.f4 fun w3 g=>aG 2 [(9,vS U y1.d.1 V),(7,vI y1.e)] (aB (aA 2 [(22,vP bp0 0),(23,vS U y1.d.1 V)] (aL 24 hr (BE (p0:=p0) g.f7.f7.f7.f7.f7.f7 (Y.o a) (Z.o a) (r3.o a) (r4.o a) (r5.o a) (r6.o a) (r7.o a) r8) ?_))));rintro y2 hr _ w4 ⟨b2,b0,m2,rfl,z,g,r9⟩;refine aV ?_;have g:=g.f7.t;refine aC (aB (bH 3 29 67 28 0 (vP b 0) g.t.t.t.t.t.h (aA 1 [(30,vT p1)] (aL 31 hr (WL g.f2.f2.f2 ((Y.o a).o z) ((Z.o a).o z) ((r3.o a).o z) ((r4.o a).o z)) ?_))));rintro c hr _ w5 ⟨E,rfl,e3,g⟩;refine aG 5 [(6,vT c.1),(10,vB c.2)] (aF (dO [(9,fun w'=>Inv E w'/\True),(6,fun w'=>Inv E w'/\Piece.holds E w' (kB b1 (Ve y1.2.1) 66)/\True)] kr g fun w6 _ g=> ?_));have l:=E.le_refl
 refine⟨iE (aT g l) (aT g l),cE 2 [(0,34,vB c.2),(1,35,vB (!c.2))] (pK 66 5 2 36 0 (.agg (Ve y1.2.1)) (.tail _ (.head _)) cZ (cE 3 [(3,37,vT c.1),(4,38,vI y1.e),(5,4,vB (!c.2))] (aZ 6 kr (iX 66 5 36 (.agg (Ve y1.2.1)) g.f6 fun w7 g=>⟨pQ (aT g l),cE 2 [(7,6,vT c.1),(8,7,vI y1.e)] (cO kr (aC (aM ?_)))⟩))))⟩;obtain rfl:=sI hr;refine oT [.tmp 4,.cell 5 66,.tmp 6,.tmp 7] [vB (!c.2),.agg (Ve y1.2.1),vT c.1,vI y1.e] rfl (ResAll.cons (ResAt.tmp kr) (ResAll.cons (ResAt.blk (v:= .agg (Ve y1.2.1)) (o:=0) kr g.h kr) (ResAll.cons (ResAt.tmp kr) (ResAll.cons (ResAt.tmp kr) ResAll.nil)))) ?_;exact⟨b2,b0,E,rfl,((q.t a).t z).t e3,g.t.f5.f5.f5.f5.f5.f5,r9.o e3⟩
def BR(N:Nat)(p0:cS)(p1:dS)(p2:eC):eF:=
 (vM N (p0.1,p0.2.1,p0.2.2.1,p0.2.2.2.1,p0.2.2.2.2.1,p0.2.2.2.2.2.1,p0.2.2.2.2.2.2.1,p0.2.2.2.2.2.2.2) p2.2.2.2.1).bind fun y1=>(CL N y1.2.2.2.2).bind fun a=>(match a with| .inl a=>some (.inl (a,y1.1))| .inr a=>if y1.2.1 then(some (.inr (y1.1,1))) else(some (.inr (y1.1,(ByteArray.size y1.2.2.2.1:Int)))))
theorem qHt{p0:cS}{p1:dS}{p2:eC}{a u E z x F B b Y V y G D r}(g:St m (aD u E z::aD x F B::cA a a1 c1 u a2 c2 x p0.1::aD b Y V::aD y G D::lT bp0 a a3 c3 b y p0::O) w)(r1:RepS C1 m a1 c1 p0.1.1)(r2:MapQ cR C7 true m u E z p0.1.d.1)(r3:RepS aH m a2 c2 p0.1.e.1)(r4:MapQ bA C8 true m x F B p0.1.f)(r5:RepS C3 m a3 c3 p0.2.1)(r6:MapQ bA cK false m b Y V p0.e.1)(r7:MapQ cM eD false m y G D p0.k)(r8:RepS aH m a4 c4 p1.1.2.1)(r9:RepS C6 m a5 c5 p1.1.d)(b5:RepS aH m a6 c6 p1.2.1.d.1)(b6:RepS C5 m a7 c7 p1.2.1.e)(b7:RepS (aR .i64) m a8 c8 p1.d)(b8:RepS (aR .i64) m a9 c9 p2.f)(hr:BR N p0 p1 p2=some r):Calls prog 56 #[vP bp0 0,.agg (iL p1 a4 c4 a5 c5 a6 c6 a7 c7 a8 c8),.agg (Va p2 a9 c9)] w fun e w'=>(∃(K:mV),∃o p m',r= .inl K/\nF 161 m m' e K.1 (aD u E z::aD x F B::cA a a1 c1 u a2 c2 x p0.1::aD b o p::aD y G D::dV bp0 a a3 c3 b y p0 K.d.1 K.e.1 K.f::O) w' (MapQ bA cK false m' b o p K.2.1))\/(∃(H:mW),r= .inr H/\∃o p m',bW m m' e (vI H.2) (aD u E z::aD x F B::cA a a1 c1 u a2 c2 x p0.1::aD b o p::aD y G D::dV bp0 a a3 c3 b y p0 H.1.2.1 H.1.d.1 H.1.e::O) w' (MapQ bA cK false m' b o p H.1.1)):=by
 refine bP g func56 rfl ntmps56 fun q=>aB (dY 4 146 (.agg (iL p1 a4 c4 a5 c5 a6 c6 a7 c7 a8 c8)) g fun b1 m1 w1 c g b4=>dY 5 148 (.agg (Va p2 a9 c9)) g fun b2 m2 w2 l g b0=>aG 1 [] (aB (aA 2 [(12,vP bp0 0),(13,vP b2 3)] (cI 14 (vT p2.e.1) g (b0.drop 3) (aL 15 hr (PF (p0:=p0) g.f5.f5.f5.f5.f5.f5 ((r1.o c).o l) ((r2.o c).o l) ((r3.o c).o l) ((r4.o c).o l) ((r5.o c).o l) ((r6.o c).o l) ((r7.o c).o l)) ?_)))));rintro y1 hr _ w3 ⟨R,M,m3,rfl,e3,g,S⟩;have q:=((q.t c).t l).t e3;refine aA 5 [(16,vB y1.2.1),(17,.agg (Ve y1.d.1)),(18,vT y1.e.1),(19,vI y1.f)] (bX 8 66 (.agg dX) g fun b3 w4 g=>aA 1 [(7,vB y1.2.1)] (bF (.agg (Ve y1.d.1)) g fun w5 g=>aG 2 [(9,vT y1.e.1),(10,vI y1.f)] (aB (aA 1 [(20,vI y1.f)] (cW 21 hr (MH g) ?_)))));rintro y2 hr _ w6 (⟨z1,m5,rfl,rfl,Z,g⟩|⟨y3,rfl,m4,rfl,U,g⟩)
 .refine bQ ?_;obtain rfl:=sI hr;have g:=g.t.f5.f5.f5.f5.f5.f5;exact cN (.inl ⟨(z1,y1.1),R,M,m5,rfl,rfl,q.t Z,g,S.o Z⟩)
 refine aQ (aF (aI 1 [(22,vB y1.2.1)] (aJ hr ?_ ?_)))<;>intro A hr
 .refine aI 1 [(6,vI 1)] (aM (aU ?_));cases hr;exact aW [6] [vI 1] (.inr ⟨_,rfl,R,M,m4,rfl,q.t U,g.t.f5.f5.f5.f5.f5.f5,S.o U⟩)
 refine aN (aC (aI 3 [(6,vI (y1.2.2.2.1.size:Int))] (aM ?_)));cases hr;exact aW [6] [vI (y1.2.2.2.1.size:Int)] (.inr ⟨_,rfl,R,M,m4,rfl,q.t U,g.t.f5.f5.f5.f5.f5.f5,S.o U⟩)
def BW(N:Nat)(p0:cS)(p1:dS)(p2:eC):eF:=
 (vM N (p0.1,p0.2.1,p0.2.2.1,p0.2.2.2.1,p0.2.2.2.2.1,p0.2.2.2.2.2.1,p0.2.2.2.2.2.2.1,p0.2.2.2.2.2.2.2) p2.2.2.2.1).bind fun y1=>(HC N (y1.2.2.2.2 !=14)).bind fun a=>some (.inr (y1.1,a))
theorem qIb{p0:cS}{p1:dS}{p2:eC}{a u D z x E A b M K y F B r}(g:St m (aD u D z::aD x E A::cA a a1 c1 u a2 c2 x p0.1::aD b M K::aD y F B::lT bp0 a a3 c3 b y p0::O) w)(r1:RepS C1 m a1 c1 p0.1.1)(r2:MapQ cR C7 true m u D z p0.1.d.1)(r3:RepS aH m a2 c2 p0.1.e.1)(r4:MapQ bA C8 true m x E A p0.1.f)(r5:RepS C3 m a3 c3 p0.2.1)(r6:MapQ bA cK false m b M K p0.e.1)(r7:MapQ cM eD false m y F B p0.k)(r8:RepS aH m a4 c4 p1.1.2.1)(r9:RepS C6 m a5 c5 p1.1.d)(b4:RepS aH m a6 c6 p1.2.1.d.1)(b5:RepS C5 m a7 c7 p1.2.1.e)(b6:RepS (aR .i64) m a8 c8 p1.d)(b7:RepS (aR .i64) m a9 c9 p2.f)(hr:BW N p0 p1 p2=some r):Calls prog 57 #[vP bp0 0,.agg (iL p1 a4 c4 a5 c5 a6 c6 a7 c7 a8 c8),.agg (Va p2 a9 c9)] w fun e w'=>(∃(H:mV),∃o p m',r= .inl H/\nF 161 m m' e H.1 (aD u D z::aD x E A::cA a a1 c1 u a2 c2 x p0.1::aD b o p::aD y F B::dV bp0 a a3 c3 b y p0 H.d.1 H.e.1 H.f::O) w' (MapQ bA cK false m' b o p H.2.1))\/(∃(G:mW),r= .inr G/\∃o p m',bW m m' e (vI G.2) (aD u D z::aD x E A::cA a a1 c1 u a2 c2 x p0.1::aD b o p::aD y F B::dV bp0 a a3 c3 b y p0 G.1.2.1 G.1.d.1 G.1.e::O) w' (MapQ bA cK false m' b o p G.1.1)):=by
 refine bP g func57 rfl ntmps57 fun q=>aB (dY 4 146 (.agg (iL p1 a4 c4 a5 c5 a6 c6 a7 c7 a8 c8)) g fun b1 m1 w1 c g b0=>dY 5 148 (.agg (Va p2 a9 c9)) g fun b2 m2 w2 l g V=>aG 1 [] (aB (aA 2 [(12,vP bp0 0),(13,vP b2 3)] (cI 14 (vT p2.e.1) g (V.drop 3) (aL 15 hr (PF (p0:=p0) g.f5.f5.f5.f5.f5.f5 ((r1.o c).o l) ((r2.o c).o l) ((r3.o c).o l) ((r4.o c).o l) ((r5.o c).o l) ((r6.o c).o l) ((r7.o c).o l)) ?_)))));rintro y1 hr _ w3 ⟨U,R,m3,rfl,e3,g,Y⟩;refine aA 5 [(16,vB y1.2.1),(17,.agg (Ve y1.d.1)),(18,vT y1.e.1),(19,vI y1.f)] (bX 8 66 (.agg dX) g fun b3 w4 g=>aA 1 [] (bF (.agg (Ve y1.d.1)) g fun w5 g=>aG 2 [(10,vI y1.f)] (aB (aA 2 [(21,vB (y1.f !=14))] (aL 22 hr (QA g) ?_)))));rintro Z hr _ w6 ⟨m4,rfl,S,g⟩;refine aG 1 [(6,vI Z)] (aM ?_);obtain rfl:=sI hr;exact aW [6] [vI Z] (.inr ⟨_,rfl,U,R,m4,rfl,(((q.t c).t l).t e3).t S,g.t.f5.f5.f5.f5.f5.f5,Y.o S⟩)
def BU(N:Nat)(p0:Ty)(p1:BA)(s1:Int):Option (Int⊕Unit⊕Int×Bool):=
 if(decide (s1<(List.length p0:Int)))then((bS p0 s1).bind fun a=>if(a.1.toList==p1.toList)then(some (.inr (.inr ((a.2,true))))) else(some (.inl (IntKind.wrap .i64 (s1+1))))) else(some (.inr (.inl ())))
def GW(N:Nat)(p0:Ty)(p1:BA):Option (Int×Bool):=
 (aK (BU N p0 p1) N 0).bind fun a=>(match a with| .inl a=>some (0,false)| .inr (z)=>some z)
theorem qJa{p0:Ty}{p1:BA}{r:Int×Bool}(g:St m (O) w)(n:RepS C3 m a1 c1 p0)(hr:GW N p0 p1=some r):Calls prog 87 #[.agg #[vS a1 p0 c1],vT p1] w fun e w'=>∃m',eP m m' e (.tuple #[vI r.1,vB r.2]) (O) w':=by
 refine bP g func87 rfl ntmps87 fun q=>aB (dY 2 31 (.agg #[vS a1 p0 c1]) g fun y B H p g s=>aG 2 [] (aF (aS 1 [(8,vP y 0)] (cI 9 (vS a1 p0 c1) g s (aG 2 [(10,vI (p0.length:Int)),(11,vI 0)] (bB ?_))))));have⟨d,hr,v⟩:=aX hr;refine dW (.exit 0) (fun L' w'=>∃(x:Unit),∃l,(.inl x)=d/\L'=[]/\m.le l/\St l (O) w') ?_ ?_
 .rintro _ a ⟨x,l,rfl,rfl,q,g⟩;have hr:=v;refine cX (aC (aI 2 [(4,vI 0),(5,vB false)] (aM ?_)));cases hr;exact aW [4,5] [vI 0,vB false] ⟨l,rfl,q,g⟩
 intro f;refine dJ (fun k L' w'=>∃(s1:Int),∃b,aK (BU N p0 p1) k s1=some d/\L'=[(1,vT p1),(9,vS a1 p0 c1),(10,vI (p0.length:Int)),(11,vI s1)]/\m.le b/\St b (O) w'/\RepS C3 b a1 c1 p0) N ⟨0,B,hr,rfl,q.t p,g,n.o p⟩ ?_;rintro k _ K ⟨s1,b,hL,rfl,q,g,n⟩;obtain⟨k,E,rfl,hr,o,c⟩:=dN hL;refine aI 1 [(12,vB (decide (s1<(p0.length:Int))))] (aF (aJ hr ?_ ?_))<;>intro A hr
 .refine aN (aC (aF (bB (aB (iH 13 n hr ?_)))));rintro a hr F z D ⟨_,_,rfl,rfl,rfl⟩ u;refine iG 14 93 13 z (.agg #[vT a.1,vI a.2]) g u (bX 7 93 (.agg #[vT eB,vI 0]) g fun G M g=>bF (.agg #[vT a.1,vI a.2]) g fun R g=>aQ (aB (bH 1 16 9 15 0 (vT a.1) g.h (aG 2 [(18,vB (a.1.toList==p1.toList))] (aJ hr ?_ ?_)))))<;>intro A hr
  .refine aB (bH 1 20 3 19 1 (vI a.2) g.h (aG 2 [(4,vI a.2),(5,vB true)] (aM (bN (aU ?_)))));have ho:=c _ (sI hr);subst ho;have hr:=v;refine aU (bN (aU ?_));cases hr;exact aW [4,5] [vI a.2,vB true] ⟨b,rfl,q,g.t⟩
  refine aN (bT (aC (aY (aA 2 [(11,vI (wr (s1+1)))] (aV ?_)))));have hL:=o _ (sI hr);exact cY ⟨wr (s1+1),b,hL,rfl,q,g.t,n⟩
 refine cT (bG ?_);have ho:=c _ (sI hr);exact bG (xE (f _ _ ⟨(),b,ho,rfl,q,g⟩))
def AY(N:Nat)(p0:cS)(p1:dS)(p2:eC):eF:=
 (pT N (p0.1,p0.2.1,p0.2.2.1,p0.2.2.2.1,p0.2.2.2.2.1,p0.2.2.2.2.2.1,p0.2.2.2.2.2.2.1,p0.2.2.2.2.2.2.2) ([(5,p2.2.2.2.1,(⟨#[]⟩:BA))])).bind fun y1=>(GW N p0.2.1 p2.2.2.2.1).bind fun a=>(tL N (!a.2) 15).bind fun b=>(match b with| .inl b=>some (.inl (b,y1))| .inr b=>some (.inr (y1,a.1)))
theorem qGs{p0:cS}{p1:dS}{p2:eC}{a A G D B H E o Z V x K F r}(g:St m (aD A G D::aD B H E::cA a a1 c1 A a2 c2 B p0.1::aD o Z V::aD x K F::lT bp0 a a3 c3 o x p0::O) w)(r1:RepS C1 m a1 c1 p0.1.1)(r2:MapQ cR C7 true m A G D p0.1.d.1)(r3:RepS aH m a2 c2 p0.1.e.1)(r4:MapQ bA C8 true m B H E p0.1.f)(r5:RepS C3 m a3 c3 p0.2.1)(r6:MapQ bA cK false m o Z V p0.e.1)(r7:MapQ cM eD false m x K F p0.k)(r8:RepS aH m a4 c4 p1.1.2.1)(r9:RepS C6 m a5 c5 p1.1.d)(b8:RepS aH m a6 c6 p1.2.1.d.1)(b9:RepS C5 m a7 c7 p1.2.1.e)(c0:RepS (aR .i64) m a8 c8 p1.d)(d1:RepS (aR .i64) m a9 c9 p2.f)(hr:AY N p0 p1 p2=some r):Calls prog 58 #[vP bp0 0,.agg (iL p1 a4 c4 a5 c5 a6 c6 a7 c7 a8 c8),.agg (Va p2 a9 c9)] w fun e w'=>(∃(R:mV),∃y z m',r= .inl R/\nF 161 m m' e R.1 (aD A G D::aD B H E::cA a a1 c1 A a2 c2 B p0.1::aD o y z::aD x K F::dV bp0 a a3 c3 o x p0 R.d.1 R.e.1 R.f::O) w' (MapQ bA cK false m' o y z R.2.1))\/(∃(M:mW),r= .inr M/\∃y z m',bW m m' e (vI M.2) (aD A G D::aD B H E::cA a a1 c1 A a2 c2 B p0.1::aD o y z::aD x K F::dV bp0 a a3 c3 o x p0 M.1.2.1 M.1.d.1 M.1.e::O) w' (MapQ bA cK false m' o y z M.1.1)):=by
 refine bP g func58 rfl ntmps58 fun q=>aB (dY 4 146 (.agg (iL p1 a4 c4 a5 c5 a6 c6 a7 c7 a8 c8)) g fun b1 m1 w1 c g b7=>dY 5 148 (.agg (Va p2 a9 c9)) g fun b2 m2 w2 l g b4=>aG 1 [] (aB (aA 2 [(9,vP bp0 0),(10,vP b2 3)] (cI 11 (vT p2.e.1) g (b4.drop 3) (aA 1 [(12,.agg #[vI 5,vT p2.e.1,vT eB])] (eH 13 80 1 C9 [(5,p2.e.1,eB)] g fun b3 m3 w3 b g b6=>aL 14 hr (BE (p0:=p0) g.f6.f6.f6.f6.f6.f6 (((r1.o c).o l).o b) (((r2.o c).o l).o b) (((r3.o c).o l).o b) (((r4.o c).o l).o b) (((r5.o c).o l).o b) (((r6.o c).o l).o b) (((r7.o c).o l).o b) b6) ?_))))));rintro y1 hr _ w4 ⟨b0,Y,m4,rfl,U,g,b5⟩;refine aV ?_;have g:=g.f6.t;refine aC (aF (dO [(12,fun w'=>Inv m4 w'/\Piece.holds m4 w' (dV bp0 a a3 c3 o x p0 y1.2.1 y1.d.1 y1.e)/\True)] kr g fun w5 _ g=> ?_));have p:=m4.le_refl;refine⟨bO (aT g p),cE 3 [(0,16,vP bp0 0),(1,17,vP bp0 0),(2,18,vP bp0 1)] (cV 3 19 (.agg #[vS a3 p0.2.1 c3]) cZ (bL 4 20 (vP b2 3) (eE 5 21 (vT p2.e.1) (((b4.o b).o U).drop 3) (aZ 6 kr (eJ 22 hr (fun _ h=>qJa g ((((r5.o c).o l).o b).o U) h) ?_)))))⟩;rintro u hr _ w6 ⟨m5,rfl,S,g⟩;refine⟨_,rfl,?_⟩;have p:=p.t S;refine⟨bO (aT g p),cE 5 [(7,15,.tuple #[vI u.1,vB u.2]),(8,23,vI u.1),(9,24,vB u.2),(10,7,vI u.1),(11,8,vB u.2)] (cO kr (aC (aS 2 [(26,vB (!u.2))] (cW 27 hr (vO g) ?_))))⟩
 rintro y3 hr _ w7 (⟨z1,m7,rfl,rfl,e7,g⟩|⟨y4,rfl,m6,rfl,e6,g⟩)
 .refine bQ ?_;obtain rfl:=sI hr;have g:=g.f5.f5.f5.f5.f5.f5;exact cN (.inl ⟨(z1,y1),b0,Y,m7,rfl,rfl,(((((q.t c).t l).t b).t U).t S).t e7,g,(b5.o S).o e7⟩)
 refine aQ (aB (aG 2 [(6,vI u.1)] (aM ?_)));cases hr;exact aW [6] [vI u.1] (.inr ⟨_,rfl,b0,Y,m6,rfl,(((((q.t c).t l).t b).t U).t S).t e6,g.f5.f5.f5.f5.f5.f5,(b5.o S).o e6⟩)
def BT(N:Nat)(p0:cS)(p1:dS)(p2:eC):eF:=
 (zY .u64 p0.2.2.1 p2.2.1).bind fun a=>some (.inr ((p0.2.2.2.1,p0.2.2.2.2.1,p0.2.2.2.2.2.1,true),IntKind.wrap .i64 (EL .u64 a 1)))
theorem qHu{p0:cS}{p1:dS}{p2:eC}{a p D z u E A b M K c F B r}(g:St m (aD p D z::aD u E A::cA a a1 c1 p a2 c2 u p0.1::aD b M K::aD c F B::lT bp0 a a3 c3 b c p0::O) w)(r1:RepS C1 m a1 c1 p0.1.1)(r2:MapQ cR C7 true m p D z p0.1.d.1)(r3:RepS aH m a2 c2 p0.1.e.1)(r4:MapQ bA C8 true m u E A p0.1.f)(r5:RepS C3 m a3 c3 p0.2.1)(r6:MapQ bA cK false m b M K p0.e.1)(r7:MapQ cM eD false m c F B p0.k)(r8:RepS aH m a4 c4 p1.1.2.1)(r9:RepS C6 m a5 c5 p1.1.d)(b4:RepS aH m a6 c6 p1.2.1.d.1)(b5:RepS C5 m a7 c7 p1.2.1.e)(b6:RepS (aR .i64) m a8 c8 p1.d)(b7:RepS (aR .i64) m a9 c9 p2.f)(hr:BT N p0 p1 p2=some r):Calls prog 59 #[vP bp0 0,.agg (iL p1 a4 c4 a5 c5 a6 c6 a7 c7 a8 c8),.agg (Va p2 a9 c9)] w fun e w'=>(∃(H:mV),∃l o m',r= .inl H/\nF 161 m m' e H.1 (aD p D z::aD u E A::cA a a1 c1 p a2 c2 u p0.1::aD b l o::aD c F B::dV bp0 a a3 c3 b c p0 H.d.1 H.e.1 H.f::O) w' (MapQ bA cK false m' b l o H.2.1))\/(∃(G:mW),r= .inr G/\∃l o m',bW m m' e (vI G.2) (aD p D z::aD u E A::cA a a1 c1 p a2 c2 u p0.1::aD b l o::aD c F B::dV bp0 a a3 c3 b c p0 G.1.2.1 G.1.d.1 G.1.e::O) w' (MapQ bA cK false m' b l o G.1.1)):=by
 refine bP g func59 rfl ntmps59 fun q=>aB (dY 4 146 (.agg (iL p1 a4 c4 a5 c5 a6 c6 a7 c7 a8 c8)) g fun b1 m1 w1 V g b3=>dY 5 148 (.agg (Va p2 a9 c9)) g fun b2 U w2 Y g Z=>aG 1 [] (aB (aA 3 [(9,vP bp0 6)] (iM #[vP a 0,vS a3 p0.2.1 c3,.int .u64 p0.d.1,.map b,vI p0.f.1,vI p0.h.1,vB true,.map c] g.f5 fun w3 g=>aQ (aF (dO [(10,fun w'=>Inv U w'/\Piece.holds U w' (dV bp0 a a3 c3 b c p0 p0.f.1 p0.h.1 true)/\True)] kr g fun w4 _ g=> ?_))))));have R:=U.le_refl;refine⟨bO (aT g R),cE 3 [(0,10,vP bp0 0),(1,11,vP bp0 0),(2,12,vP bp0 2)] (cV 3 13 (.int .u64 p0.d.1) cZ (bL 4 14 (vP b2 1) (eE 5 15 (vI p2.2.1) (Z.drop 1) ?_)))⟩;have⟨S,b0,hr⟩:=aX hr;refine aZ 6 kr (qTd (d:=16) (t:=32) (t2:=3) (x:=(.tmp 13)) (y:=(.tmp 15)) kr rfl (ev (.int .u64 p0.d.1)) (ev (vI p2.2.1)) b0 ⟨bO (aT g R),cE 3 [(7,17,.int .u64 (EL .u64 S 1)),(8,18,vI (wr (EL .u64 S 1))),(9,6,vI (wr (EL .u64 S 1)))] (cO kr (aC (aM ?_)))⟩);obtain rfl:=sI hr;exact aW [6] [vI (wr (EL .u64 S 1))] (.inr ⟨_,rfl,M,K,U,rfl,(q.t V).t Y,g.f5.f5.f5.f5.f5,(r6.o V).o Y⟩)
end
section
open Go Go.Dc Go.Proofs.Tryz
set_option maxHeartbeats 4000000
set_option maxRecDepth 100000
variable {N bp0 c1 c2 c3 c4 c5 c6 c7 c8 c9:Nat} {m:Mem} {O:List Piece} {w:World} {a1 a2 a3 a4 a5 a6 a7 a8 a9:Option Addr}
def KT(N:Nat)(Re:cS->dS->(Int)->eF)(Rf:cS->iK->Tb->eF)(Rg:cS->dS->eC->eF)(Rh:cS->dS->eC->eF)(Ri:cS->dS->eC->eF)(Rj:cS->dS->eC->eF)(p0:cS)(p1:dS)(p2:Int):eF:=
 (tL N (p0.2.2.2.2.1==20000) 16).bind fun y1=>(match y1 with| .inl a=>some (.inl (a,(p0.2.2.2.1,p0.2.2.2.2.1,p0.2.2.2.2.2.1,p0.2.2.2.2.2.2.1)))| .inr a=>(bS p1.2.1.2.2.2 p2).bind fun a=>(((bC p0.2.2.2.2.2.2.2 a.1).getD (none:dL))).bind fun b=>((if b=50 then KU N (p0.1,p0.2.1,p0.2.2.1,p0.2.2.2.1,IntKind.wrap .i64 (p0.2.2.2.2.1+1),p0.2.2.2.2.2.1,p0.2.2.2.2.2.2.1,p0.2.2.2.2.2.2.2) (p1.1,p1.2.1,p1.2.2) a else(if b=51 then BO N (p0.1,p0.2.1,p0.2.2.1,p0.2.2.2.1,IntKind.wrap .i64 (p0.2.2.2.2.1+1),p0.2.2.2.2.2.1,p0.2.2.2.2.2.2.1,p0.2.2.2.2.2.2.2) (p1.1,p1.2.1,p1.2.2) a else(if b=52 then Rg (p0.1,p0.2.1,p0.2.2.1,p0.2.2.2.1,IntKind.wrap .i64 (p0.2.2.2.2.1+1),p0.2.2.2.2.2.1,p0.2.2.2.2.2.2.1,p0.2.2.2.2.2.2.2) (p1.1,p1.2.1,p1.2.2) a else(if b=53 then Rh (p0.1,p0.2.1,p0.2.2.1,p0.2.2.2.1,IntKind.wrap .i64 (p0.2.2.2.2.1+1),p0.2.2.2.2.2.1,p0.2.2.2.2.2.2.1,p0.2.2.2.2.2.2.2) (p1.1,p1.2.1,p1.2.2) a else(if b=54 then Ri (p0.1,p0.2.1,p0.2.2.1,p0.2.2.2.1,IntKind.wrap .i64 (p0.2.2.2.2.1+1),p0.2.2.2.2.2.1,p0.2.2.2.2.2.2.1,p0.2.2.2.2.2.2.2) (p1.1,p1.2.1,p1.2.2) a else(if b=55 then Rj (p0.1,p0.2.1,p0.2.2.1,p0.2.2.2.1,IntKind.wrap .i64 (p0.2.2.2.2.1+1),p0.2.2.2.2.2.1,p0.2.2.2.2.2.2.1,p0.2.2.2.2.2.2.2) (p1.1,p1.2.1,p1.2.2) a else(if b=56 then BR N (p0.1,p0.2.1,p0.2.2.1,p0.2.2.2.1,IntKind.wrap .i64 (p0.2.2.2.2.1+1),p0.2.2.2.2.2.1,p0.2.2.2.2.2.2.1,p0.2.2.2.2.2.2.2) (p1.1,p1.2.1,p1.2.2) a else(if b=57 then BW N (p0.1,p0.2.1,p0.2.2.1,p0.2.2.2.1,IntKind.wrap .i64 (p0.2.2.2.2.1+1),p0.2.2.2.2.2.1,p0.2.2.2.2.2.2.1,p0.2.2.2.2.2.2.2) (p1.1,p1.2.1,p1.2.2) a else(if b=58 then AY N (p0.1,p0.2.1,p0.2.2.1,p0.2.2.2.1,IntKind.wrap .i64 (p0.2.2.2.2.1+1),p0.2.2.2.2.2.1,p0.2.2.2.2.2.2.1,p0.2.2.2.2.2.2.2) (p1.1,p1.2.1,p1.2.2) a else(if b=59 then BT N (p0.1,p0.2.1,p0.2.2.1,p0.2.2.2.1,IntKind.wrap .i64 (p0.2.2.2.2.1+1),p0.2.2.2.2.2.1,p0.2.2.2.2.2.2.1,p0.2.2.2.2.2.2.2) (p1.1,p1.2.1,p1.2.2) a else none)))))))))):eF).bind fun a=>(match a with| .inl a=>some (.inl (a.1,a.2))| .inr a=>some (.inr (a.1,a.2))))
def BH(N:Nat)(Re:cS->dS->(Int)->eF)(Rf:cS->iK->Tb->eF)(Rg:cS->dS->eC->eF)(Rh:cS->dS->eC->eF)(Ri:cS->dS->eC->eF)(Rj:cS->dS->eC->eF)(p0:cS)(p1:iK)(p2:Tb):eF:=
 (tL N (p0.2.2.2.2.2.1==64) 17).bind fun y1=>(match y1 with| .inl a=>some (.inl (a,(p0.2.2.2.1,p0.2.2.2.2.1,p0.2.2.2.2.2.1,p0.2.2.2.2.2.2.1)))| .inr a=>(bS (((bC p0.1.2.2.1 p1.2.2.2.1).getD ((⟨#[]⟩:BA),([]:T8),([]:eU))).2.2) p1.2.2.2.2.1).bind fun a=>(Re (p0.1,p0.2.1,p0.2.2.1,p0.2.2.2.1,p0.2.2.2.2.1,IntKind.wrap .i64 (p0.2.2.2.2.2.1+1),p0.2.2.2.2.2.2.1,p0.2.2.2.2.2.2.2) ((((bC p0.1.2.2.1 p1.2.2.2.1).getD ((⟨#[]⟩:BA),([]:T8),([]:eU))).1,((bC p0.1.2.2.1 p1.2.2.2.1).getD ((⟨#[]⟩:BA),([]:T8),([]:eU))).2.1,((bC p0.1.2.2.1 p1.2.2.2.1).getD ((⟨#[]⟩:BA),([]:T8),([]:eU))).2.2),a,p2) (IntKind.wrap .i64 ((List.length a.2.2.2:Int)-1))).bind fun a=>(match a with| .inl a=>some (.inl (a.1,a.2))| .inr a=>some (.inr ((a.1.1,a.1.2.1,IntKind.wrap .i64 (a.1.2.2.1-1),a.1.2.2.2),a.2))))
def tI(N:Nat)(Re:cS->dS->(Int)->eF)(p0:cS)(p1:dS)(p2:eC)(s1:T3i):Option (T3i⊕Tb×T3h⊕uA):=
 if(decide (s1.2.1<(List.length p2.2.2.2.2:Int)))then((bS p2.2.2.2.2 s1.2.1).bind fun a=>(Re (p0.1,p0.2.1,p0.2.2.1,s1.2.2.2.2.2,s1.2.2.1,s1.2.2.2.1,s1.2.2.2.2.1,p0.2.2.2.2.2.2.2) (p1.1,p1.2.1,p1.2.2) a).bind fun y5=>(match y5 with| .inl a=>some (.inr (.inr (.inl (a.1,a.2))))| .inr a=>(eM 8 s1.1 ([a.2])).bind fun b=>some (.inl (b,IntKind.wrap .i64 (s1.2.1+1),a.1.2.1,a.1.2.2.1,a.1.2.2.2,a.1.1)))) else(some (.inr (.inl (s1.1,s1.2.2.1,s1.2.2.2.1,s1.2.2.2.2.1,s1.2.2.2.2.2))))
def KV(N:Nat)(Re:cS->dS->(Int)->eF)(Rf:cS->iK->Tb->eF)(Rg:cS->dS->eC->eF)(Rh:cS->dS->eC->eF)(Ri:cS->dS->eC->eF)(Rj:cS->dS->eC->eF)(p0:cS)(p1:dS)(p2:eC):eF:=
 (CJ N p0.1 p1.1 p2.2.2.2.1).bind fun y1=>(pT N (p0.1,p0.2.1,p0.2.2.1,p0.2.2.2.1,p0.2.2.2.2.1,p0.2.2.2.2.2.1,p0.2.2.2.2.2.2.1,p0.2.2.2.2.2.2.2) y1.2.1).bind fun a=>(CL N y1.2.2).bind fun b=>(match b with| .inl b=>some (.inl (b,a))| .inr b=>(aK (tI N Re p0 p1 p2) N (([]:Tb),0,a.2.1,a.2.2.1,a.2.2.2,a.1)).bind fun a=>(match a with| .inl a=>(bS (((bC p0.1.2.2.1 y1.1.2.2.2.1).getD ((⟨#[]⟩:BA),([]:T8),([]:eU))).2.2) y1.1.2.2.2.2.1).bind fun b=>(tL N ((List.length a.1:Int) !=(List.length b.2.2.1:Int)) 13).bind fun b=>(match b with| .inl b=>some (.inl (b,(a.2.2.2.2,a.2.1,a.2.2.1,a.2.2.2.1)))| .inr b=>(Rf (p0.1,p0.2.1,p0.2.2.1,a.2.2.2.2,a.2.1,a.2.2.1,a.2.2.2.1,p0.2.2.2.2.2.2.2) y1.1 a.1).bind fun a=>(match a with| .inl a=>some (.inl (a.1,a.2))| .inr a=>some (.inr (a.1,a.2))))| .inr (z)=>some z))
def wW(N:Nat)(Re:cS->dS->(Int)->eF)(Rf:cS->iK->Tb->eF)(Rg:cS->dS->eC->eF)(Rh:cS->dS->eC->eF)(Ri:cS->dS->eC->eF)(Rj:cS->dS->eC->eF)(p0:cS)(p1:dS)(p2:eC):eF:=
 (bS p2.2.2.2.2 0).bind fun a=>(Re (p0.1,p0.2.1,p0.2.2.1,p0.2.2.2.1,p0.2.2.2.2.1,p0.2.2.2.2.2.1,p0.2.2.2.2.2.2.1,p0.2.2.2.2.2.2.2) (p1.1,p1.2.1,p1.2.2) a).bind fun y1=>(match y1 with| .inl a=>some (.inl (a.1,a.2))| .inr b=>(bS p2.2.2.2.2 1).bind fun a=>(Re (p0.1,p0.2.1,p0.2.2.1,b.1.1,b.1.2.1,b.1.2.2.1,b.1.2.2.2,p0.2.2.2.2.2.2.2) (p1.1,p1.2.1,p1.2.2) a).bind fun a=>(match a with| .inl a=>some (.inl (a.1,a.2))| .inr a=>(if(p2.2.2.1==1)then(some (.inl (IntKind.wrap .i64 (b.2+a.2)))) else(if(p2.2.2.1==2)then(some (.inl (IntKind.wrap .i64 (b.2-a.2)))) else(if(p2.2.2.1==3)then((if(a.2 !=0)then((vA .i64 9007199254740992 (if(IntKind.wrap .i64 (0-a.2))>a.2 then(IntKind.wrap .i64 (0-a.2)) else a.2)).bind fun c=>some (decide ((if(IntKind.wrap .i64 (0-b.2))>b.2 then(IntKind.wrap .i64 (0-b.2)) else b.2)>c))) else(some false):Th).bind fun o2=>(tL N o2 3).bind fun y5=>(match y5 with| .inl c=>some (.inr (.inl (c,a.1)))| .inr c=>some (.inl (IntKind.wrap .i64 (b.2*a.2))))) else((if(p2.2.2.1==4)then(some (p2.2.2.1==4)) else(some (p2.2.2.1==5)):Th).bind fun c=>if c then((tL N (a.2==0) 4).bind fun c=>(match c with| .inl c=>some (.inr (.inl (c,a.1)))| .inr c=>(vA .i64 b.2 a.2).bind fun c=>if(p2.2.2.1==5)then((yB b.2 a.2).bind fun d=>some (.inl d)) else(some (.inl c)))) else(if(p2.2.2.1==6)then((HC N (decide (b.2<a.2))).bind fun c=>some (.inl c)) else((HC N (b.2==a.2)).bind fun b=>some (.inl b)))))):Option (Int⊕uA)).bind fun b=>(match b with| .inl b=>(xD N b).bind fun c=>(tL N (!c) 3).bind fun c=>(match c with| .inl c=>some (.inl (c,a.1))| .inr c=>some (.inr (a.1,b)))| .inr z=>some z)))
def AZ(N:Nat)(Re:cS->dS->(Int)->eF)(Rf:cS->iK->Tb->eF)(Rg:cS->dS->eC->eF)(Rh:cS->dS->eC->eF)(Ri:cS->dS->eC->eF)(Rj:cS->dS->eC->eF)(p0:cS)(p1:dS)(p2:eC):eF:=
 (bS p2.2.2.2.2 0).bind fun a=>(Re (p0.1,p0.2.1,p0.2.2.1,p0.2.2.2.1,p0.2.2.2.2.1,p0.2.2.2.2.2.1,p0.2.2.2.2.2.2.1,p0.2.2.2.2.2.2.2) (p1.1,p1.2.1,p1.2.2) a).bind fun y1=>(match y1 with| .inl a=>some (.inl (a.1,a.2))| .inr a=>if(a.2 !=0)then((bS p2.2.2.2.2 1).bind fun b=>(Re (p0.1,p0.2.1,p0.2.2.1,a.1.1,a.1.2.1,a.1.2.2.1,a.1.2.2.2,p0.2.2.2.2.2.2.2) (p1.1,p1.2.1,p1.2.2) b).bind fun b=>(match b with| .inl b=>some (.inl (b.1,b.2))| .inr b=>some (.inr (b.1,b.2)))) else((bS p2.2.2.2.2 2).bind fun b=>(Re (p0.1,p0.2.1,p0.2.2.1,a.1.1,a.1.2.1,a.1.2.2.1,a.1.2.2.2,p0.2.2.2.2.2.2.2) (p1.1,p1.2.1,p1.2.2) b).bind fun y5=>(match y5 with| .inl a=>some (.inl (a.1,a.2))| .inr a=>some (.inr (a.1,a.2)))))
def KW(N:Nat)(Re:cS->dS->(Int)->eF)(Rf:cS->iK->Tb->eF)(Rg:cS->dS->eC->eF)(Rh:cS->dS->eC->eF)(Ri:cS->dS->eC->eF)(Rj:cS->dS->eC->eF)(p0:cS)(p1:dS)(p2:eC):eF:=
 (vM N (p0.1,p0.2.1,p0.2.2.1,p0.2.2.2.1,p0.2.2.2.2.1,p0.2.2.2.2.2.1,p0.2.2.2.2.2.2.1,p0.2.2.2.2.2.2.2) p2.2.2.2.1).bind fun y1=>(CL N y1.2.2.2.2).bind fun a=>(match a with| .inl a=>some (.inl (a,y1.1))| .inr a=>(if y1.2.1 then(some 1) else(some (ByteArray.size y1.2.2.2.1:Int)):Ta).bind fun b=>(bS p2.2.2.2.2 0).bind fun a=>(Re (p0.1,p0.2.1,p0.2.2.1,y1.1.1,y1.1.2.1,y1.1.2.2.1,y1.1.2.2.2,p0.2.2.2.2.2.2.2) (p1.1,p1.2.1,p1.2.2) a).bind fun a=>(match a with| .inl a=>some (.inl (a.1,a.2))| .inr y5=>(if(decide (y5.2<0))then(some true) else(some (decide (y5.2>=b))):Th).bind fun o2=>(tL N o2 3).bind fun a=>(match a with| .inl a=>some (.inl (a,y5.1))| .inr a=>if(!y1.2.1)then((iC y1.2.2.2.1 y5.2).bind fun a=>some (.inr (y5.1,IntKind.wrap .i64 (a.toNat:Int)))) else((Rf (p0.1,p0.2.1,p0.2.2.1,y5.1.1,y5.1.2.1,y5.1.2.2.1,y5.1.2.2.2,p0.2.2.2.2.2.2.2) y1.2.2.1 ([]:Tb)).bind fun a=>(match a with| .inl a=>some (.inl (a.1,a.2))| .inr a=>some (.inr (a.1,Int.tmod (IntKind.wrap .i64 ((Int.tmod a.2 256)+256)) 256)))))))
def iJ(N:Nat):Nat->(cS->dS->(Int)->eF)×(((((List (BA×BA)))×Bool×(Option (List (BA×(BA×List BA×(List (Int×BA×List BA×(List (Int×Int×Int×BA×List Int))))))))×List BA×(Option (List ((Int×BA×BA)×(BA×BA×Int×BA×Int×Int)))))×((List (BA×Int)))×Int×(Option (List ((Int×BA×BA)×Bool)))×Int×Int×Bool×(Option (List (Int×Option Nat))))->iK->Tb->eF)×(((((List (BA×BA)))×Bool×(Option (List (BA×(BA×List BA×(List (Int×BA×List BA×(List (Int×Int×Int×BA×List Int))))))))×List BA×(Option (List ((Int×BA×BA)×(BA×BA×Int×BA×Int×Int)))))×((List (BA×Int)))×Int×(Option (List ((Int×BA×BA)×Bool)))×Int×Int×Bool×(Option (List (Int×Option Nat))))->dS->eC->eF)×(((((List (BA×BA)))×Bool×(Option (List (BA×(BA×List BA×(List (Int×BA×List BA×(List (Int×Int×Int×BA×List Int))))))))×List BA×(Option (List ((Int×BA×BA)×(BA×BA×Int×BA×Int×Int)))))×((List (BA×Int)))×Int×(Option (List ((Int×BA×BA)×Bool)))×Int×Int×Bool×(Option (List (Int×Option Nat))))->dS->eC->eF)×(((((List (BA×BA)))×Bool×(Option (List (BA×(BA×List BA×(List (Int×BA×List BA×(List (Int×Int×Int×BA×List Int))))))))×List BA×(Option (List ((Int×BA×BA)×(BA×BA×Int×BA×Int×Int)))))×((List (BA×Int)))×Int×(Option (List ((Int×BA×BA)×Bool)))×Int×Int×Bool×(Option (List (Int×Option Nat))))->dS->eC->eF)×(((((List (BA×BA)))×Bool×(Option (List (BA×(BA×List BA×(List (Int×BA×List BA×(List (Int×Int×Int×BA×List Int))))))))×List BA×(Option (List ((Int×BA×BA)×(BA×BA×Int×BA×Int×Int)))))×((List (BA×Int)))×Int×(Option (List ((Int×BA×BA)×Bool)))×Int×Int×Bool×(Option (List (Int×Option Nat))))->dS->eC->eF)
 |0=>((fun _ _ _=>none),(fun _ _ _=>none),(fun _ _ _=>none),(fun _ _ _=>none),(fun _ _ _=>none),(fun _ _ _=>none))
 |D+1=>(KT N (iJ N D).1 (iJ N D).2.1 (iJ N D).2.2.1 (iJ N D).2.2.2.1 (iJ N D).2.2.2.2.1 (iJ N D).2.2.2.2.2,BH N (iJ N D).1 (iJ N D).2.1 (iJ N D).2.2.1 (iJ N D).2.2.2.1 (iJ N D).2.2.2.2.1 (iJ N D).2.2.2.2.2,KV N (iJ N D).1 (iJ N D).2.1 (iJ N D).2.2.1 (iJ N D).2.2.2.1 (iJ N D).2.2.2.2.1 (iJ N D).2.2.2.2.2,wW N (iJ N D).1 (iJ N D).2.1 (iJ N D).2.2.1 (iJ N D).2.2.2.1 (iJ N D).2.2.2.2.1 (iJ N D).2.2.2.2.2,AZ N (iJ N D).1 (iJ N D).2.1 (iJ N D).2.2.1 (iJ N D).2.2.2.1 (iJ N D).2.2.2.2.1 (iJ N D).2.2.2.2.2,KW N (iJ N D).1 (iJ N D).2.1 (iJ N D).2.2.1 (iJ N D).2.2.2.1 (iJ N D).2.2.2.2.1 (iJ N D).2.2.2.2.2)
def BM(N:Nat)(p0:cS)(p1:iK)(p2:Tb):eF:=(iJ N N).2.1 p0 p1 p2
abbrev BI(F:cS->dS->(Int)->eF):Prop:=∀{m O w} {p0:cS} {p1:dS} {p2:Int} {l a z D f t o A E h u p B G b d c k x q} {y:Option Addr} {S H U K V M Y R Z r} (g:St m (aD f t o::aD h u p::cA a z D f A E h p0.1::aD b d c::aD k x q::lT l a B G b k p0::O) w) (r1:RepS C1 m z D p0.1.1) (r2:MapQ cR C7 true m f t o p0.1.2.2.1) (r3:RepS aH m A E p0.1.2.2.2.1) (r4:MapQ bA C8 true m h u p p0.1.2.2.2.2) (r5:RepS C3 m B G p0.2.1) (r6:MapQ bA cK false m b d c p0.2.2.2.1) (c:MapQ cM eD false m k x q p0.2.2.2.2.2.2.2) (c:RepS aH m y S p1.1.2.1) (c:RepS C6 m H U p1.1.2.2) (c:RepS aH m K V p1.2.1.2.2.1) (c:RepS C5 m M Y p1.2.1.2.2.2) (c:RepS (aR .i64) m R Z p1.2.2) (hr:F p0 p1 p2=some r),Calls prog 82 #[vP l 0,.agg (iL p1 y S H U K V M Y R Z),vI p2] w fun e w'=>(∃(y:mV),∃c d m',r= .inl y/\nF 161 m m' e y.1 (aD f t o::aD h u p::cA a z D f A E h p0.1::aD b c d::aD k x q::dV l a B G b k p0 y.2.2.1 y.2.2.2.1 y.2.2.2.2::O) w' (MapQ bA cK false m' b c d y.2.1))\/(∃(y:mW),r= .inr y/\∃c d m',bW m m' e (vI y.2) (aD f t o::aD h u p::cA a z D f A E h p0.1::aD b c d::aD k x q::dV l a B G b k p0 y.1.2.1 y.1.2.2.1 y.1.2.2.2::O) w' (MapQ bA cK false m' b c d y.1.1))
abbrev AV(F:cS->iK->Tb->eF):Prop:=∀{m O w} {p0:cS} {p1:iK} {p2:Tb} {l a z D f t o A E h u p B G b d c k x q} {y:Option Addr} {H r} (g:St m (aD f t o::aD h u p::cA a z D f A E h p0.1::aD b d c::aD k x q::lT l a B G b k p0::O) w) (K:RepS C1 m z D p0.1.1) (K:MapQ cR C7 true m f t o p0.1.2.2.1) (K:RepS aH m A E p0.1.2.2.2.1) (K:MapQ bA C8 true m h u p p0.1.2.2.2.2) (K:RepS C3 m B G p0.2.1) (K:MapQ bA cK false m b d c p0.2.2.2.1) (c:MapQ cM eD false m k x q p0.2.2.2.2.2.2.2) (c:RepS (aR .i64) m y H p2) (hr:F p0 p1 p2=some r),Calls prog 84 #[vP l 0,.agg (Ve p1),vS y p2 H] w fun e w'=>(∃(y:mV),∃c d m',r= .inl y/\nF 161 m m' e y.1 (aD f t o::aD h u p::cA a z D f A E h p0.1::aD b c d::aD k x q::dV l a B G b k p0 y.2.2.1 y.2.2.2.1 y.2.2.2.2::O) w' (MapQ bA cK false m' b c d y.2.1))\/(∃(y:mW),r= .inr y/\∃c d m',bW m m' e (vI y.2) (aD f t o::aD h u p::cA a z D f A E h p0.1::aD b c d::aD k x q::dV l a B G b k p0 y.1.2.1 y.1.2.2.1 y.1.2.2.2::O) w' (MapQ bA cK false m' b c d y.1.1))
abbrev BG(F:cS->dS->eC->eF):Prop:=∀{m O w} {p0:cS} {p1:dS} {p2:eC} {l a z D f t o A E h u p B G b d c k x q} {y:Option Addr} {U H V K Y M Z R c8 S c9 r} (g:St m (aD f t o::aD h u p::cA a z D f A E h p0.1::aD b d c::aD k x q::lT l a B G b k p0::O) w) (r1:RepS C1 m z D p0.1.1) (r2:MapQ cR C7 true m f t o p0.1.2.2.1) (r3:RepS aH m A E p0.1.2.2.2.1) (r4:MapQ bA C8 true m h u p p0.1.2.2.2.2) (r5:RepS C3 m B G p0.2.1) (r6:MapQ bA cK false m b d c p0.2.2.2.1) (c:MapQ cM eD false m k x q p0.2.2.2.2.2.2.2) (c:RepS aH m y U p1.1.2.1) (c:RepS C6 m H V p1.1.2.2) (c:RepS aH m K Y p1.2.1.2.2.1) (c:RepS C5 m M Z p1.2.1.2.2.2) (c:RepS (aR .i64) m R c8 p1.2.2) (c:RepS (aR .i64) m S c9 p2.2.2.2.2) (hr:F p0 p1 p2=some r),Calls prog 52 #[vP l 0,.agg (iL p1 y U H V K Y M Z R c8),.agg (Va p2 S c9)] w fun e w'=>(∃(y:mV),∃c d m',r= .inl y/\nF 161 m m' e y.1 (aD f t o::aD h u p::cA a z D f A E h p0.1::aD b c d::aD k x q::dV l a B G b k p0 y.2.2.1 y.2.2.2.1 y.2.2.2.2::O) w' (MapQ bA cK false m' b c d y.2.1))\/(∃(y:mW),r= .inr y/\∃c d m',bW m m' e (vI y.2) (aD f t o::aD h u p::cA a z D f A E h p0.1::aD b c d::aD k x q::dV l a B G b k p0 y.1.2.1 y.1.2.2.1 y.1.2.2.2::O) w' (MapQ bA cK false m' b c d y.1.1))
abbrev AR(F:cS->dS->eC->eF):Prop:=∀{m O w} {p0:cS} {p1:dS} {p2:eC} {l a z D f t o A E h u p B G b d c k x q} {y:Option Addr} {U H V K Y M Z R c8 S c9 r} (g:St m (aD f t o::aD h u p::cA a z D f A E h p0.1::aD b d c::aD k x q::lT l a B G b k p0::O) w) (r1:RepS C1 m z D p0.1.1) (r2:MapQ cR C7 true m f t o p0.1.2.2.1) (r3:RepS aH m A E p0.1.2.2.2.1) (r4:MapQ bA C8 true m h u p p0.1.2.2.2.2) (r5:RepS C3 m B G p0.2.1) (r6:MapQ bA cK false m b d c p0.2.2.2.1) (c:MapQ cM eD false m k x q p0.2.2.2.2.2.2.2) (c:RepS aH m y U p1.1.2.1) (c:RepS C6 m H V p1.1.2.2) (c:RepS aH m K Y p1.2.1.2.2.1) (c:RepS C5 m M Z p1.2.1.2.2.2) (c:RepS (aR .i64) m R c8 p1.2.2) (c:RepS (aR .i64) m S c9 p2.2.2.2.2) (hr:F p0 p1 p2=some r),Calls prog 53 #[vP l 0,.agg (iL p1 y U H V K Y M Z R c8),.agg (Va p2 S c9)] w fun e w'=>(∃(y:mV),∃c d m',r= .inl y/\nF 161 m m' e y.1 (aD f t o::aD h u p::cA a z D f A E h p0.1::aD b c d::aD k x q::dV l a B G b k p0 y.2.2.1 y.2.2.2.1 y.2.2.2.2::O) w' (MapQ bA cK false m' b c d y.2.1))\/(∃(y:mW),r= .inr y/\∃c d m',bW m m' e (vI y.2) (aD f t o::aD h u p::cA a z D f A E h p0.1::aD b c d::aD k x q::dV l a B G b k p0 y.1.2.1 y.1.2.2.1 y.1.2.2.2::O) w' (MapQ bA cK false m' b c d y.1.1))
abbrev AT(F:cS->dS->eC->eF):Prop:=∀{m O w} {p0:cS} {p1:dS} {p2:eC} {l a z D f t o A E h u p B G b d c k x q} {y:Option Addr} {U H V K Y M Z R c8 S c9 r} (g:St m (aD f t o::aD h u p::cA a z D f A E h p0.1::aD b d c::aD k x q::lT l a B G b k p0::O) w) (r1:RepS C1 m z D p0.1.1) (r2:MapQ cR C7 true m f t o p0.1.2.2.1) (r3:RepS aH m A E p0.1.2.2.2.1) (r4:MapQ bA C8 true m h u p p0.1.2.2.2.2) (r5:RepS C3 m B G p0.2.1) (r6:MapQ bA cK false m b d c p0.2.2.2.1) (c:MapQ cM eD false m k x q p0.2.2.2.2.2.2.2) (c:RepS aH m y U p1.1.2.1) (c:RepS C6 m H V p1.1.2.2) (c:RepS aH m K Y p1.2.1.2.2.1) (c:RepS C5 m M Z p1.2.1.2.2.2) (c:RepS (aR .i64) m R c8 p1.2.2) (c:RepS (aR .i64) m S c9 p2.2.2.2.2) (hr:F p0 p1 p2=some r),Calls prog 54 #[vP l 0,.agg (iL p1 y U H V K Y M Z R c8),.agg (Va p2 S c9)] w fun e w'=>(∃(y:mV),∃c d m',r= .inl y/\nF 161 m m' e y.1 (aD f t o::aD h u p::cA a z D f A E h p0.1::aD b c d::aD k x q::dV l a B G b k p0 y.2.2.1 y.2.2.2.1 y.2.2.2.2::O) w' (MapQ bA cK false m' b c d y.2.1))\/(∃(y:mW),r= .inr y/\∃c d m',bW m m' e (vI y.2) (aD f t o::aD h u p::cA a z D f A E h p0.1::aD b c d::aD k x q::dV l a B G b k p0 y.1.2.1 y.1.2.2.1 y.1.2.2.2::O) w' (MapQ bA cK false m' b c d y.1.1))
abbrev BF(F:cS->dS->eC->eF):Prop:=∀{m O w} {p0:cS} {p1:dS} {p2:eC} {l a z D f t o A E h u p B G b d c k x q} {y:Option Addr} {U H V K Y M Z R c8 S c9 r} (g:St m (aD f t o::aD h u p::cA a z D f A E h p0.1::aD b d c::aD k x q::lT l a B G b k p0::O) w) (r1:RepS C1 m z D p0.1.1) (r2:MapQ cR C7 true m f t o p0.1.2.2.1) (r3:RepS aH m A E p0.1.2.2.2.1) (r4:MapQ bA C8 true m h u p p0.1.2.2.2.2) (r5:RepS C3 m B G p0.2.1) (r6:MapQ bA cK false m b d c p0.2.2.2.1) (c:MapQ cM eD false m k x q p0.2.2.2.2.2.2.2) (c:RepS aH m y U p1.1.2.1) (c:RepS C6 m H V p1.1.2.2) (c:RepS aH m K Y p1.2.1.2.2.1) (c:RepS C5 m M Z p1.2.1.2.2.2) (c:RepS (aR .i64) m R c8 p1.2.2) (c:RepS (aR .i64) m S c9 p2.2.2.2.2) (hr:F p0 p1 p2=some r),Calls prog 55 #[vP l 0,.agg (iL p1 y U H V K Y M Z R c8),.agg (Va p2 S c9)] w fun e w'=>(∃(y:mV),∃c d m',r= .inl y/\nF 161 m m' e y.1 (aD f t o::aD h u p::cA a z D f A E h p0.1::aD b c d::aD k x q::dV l a B G b k p0 y.2.2.1 y.2.2.2.1 y.2.2.2.2::O) w' (MapQ bA cK false m' b c d y.2.1))\/(∃(y:mW),r= .inr y/\∃c d m',bW m m' e (vI y.2) (aD f t o::aD h u p::cA a z D f A E h p0.1::aD b c d::aD k x q::dV l a B G b k p0 y.1.2.1 y.1.2.2.1 y.1.2.2.2::O) w' (MapQ bA cK false m' b c d y.1.1))
theorem qHd{Re Rf Rg Rh Ri Rj}(b4:BI Re)(b0:AV Rf)(p:BG Rg)(b:AR Rh)(l:AT Ri)(u:BF Rj){p0:cS}{p1:dS}{p2:Int}{R q1 c0 b7 q2 d1 b8 q3 d4 d3 q4 d2 b9 r}(g:St m (aD q1 c0 b7::aD q2 d1 b8::cA R a1 c1 q1 a2 c2 q2 p0.1::aD q3 d4 d3::aD q4 d2 b9::lT bp0 R a3 c3 q3 q4 p0::O) w)(S:RepS C1 m a1 c1 p0.1.1)(U:MapQ cR C7 true m q1 c0 b7 p0.1.d.1)(V:RepS aH m a2 c2 p0.1.e.1)(Y:MapQ bA C8 true m q2 d1 b8 p0.1.f)(Z:RepS C3 m a3 c3 p0.2.1)(K:MapQ bA cK false m q3 d4 d3 p0.e.1)(M:MapQ cM eD false m q4 d2 b9 p0.k)(r8:RepS aH m a4 c4 p1.1.2.1)(r9:RepS C6 m a5 c5 p1.1.d)(B:RepS aH m a6 c6 p1.2.1.d.1)(A:RepS C5 m a7 c7 p1.2.1.e)(D:RepS (aR .i64) m a8 c8 p1.d)(hr:KT N Re Rf Rg Rh Ri Rj p0 p1 p2=some r):Calls prog 82 #[vP bp0 0,.agg (iL p1 a4 c4 a5 c5 a6 c6 a7 c7 a8 c8),vI p2] w fun e w'=>(∃(z0:mV),∃b5 b6 m',r= .inl z0/\nF 161 m m' e z0.1 (aD q1 c0 b7::aD q2 d1 b8::cA R a1 c1 q1 a2 c2 q2 p0.1::aD q3 b5 b6::aD q4 d2 b9::dV bp0 R a3 c3 q3 q4 p0 z0.d.1 z0.e.1 z0.f::O) w' (MapQ bA cK false m' q3 b5 b6 z0.2.1))\/(∃(y0:mW),r= .inr y0/\∃b5 b6 m',bW m m' e (vI y0.2) (aD q1 c0 b7::aD q2 d1 b8::cA R a1 c1 q1 a2 c2 q2 p0.1::aD q3 b5 b6::aD q4 d2 b9::dV bp0 R a3 c3 q3 q4 p0 y0.1.2.1 y0.1.d.1 y0.1.e::O) w' (MapQ bA cK false m' q3 b5 b6 y0.1.1)):=by
 refine bP g func82 rfl ntmps82 fun q=>aB (dY 4 146 (.agg (iL p1 a4 c4 a5 c5 a6 c6 a7 c7 a8 c8)) g fun b1 m1 w1 H g d5=> ?_);have q:=q.t H;refine aG 1 [] (aB (bH 3 11 3 10 4 (vI p0.f.1) g.t.t.t.t.t.h (aA 1 [(12,vB (p0.f.1==20000))] (cW 13 hr (vO g) ?_))));rintro y1 hr _ w2 (⟨z1,m3,rfl,rfl,e3,g⟩|⟨y2,rfl,m2,rfl,F,g⟩)
 .refine bQ ?_;obtain rfl:=sI hr;have g:=g.f5.f5.f5.f5.f5.f5;exact cN (.inl ⟨(z1,(p0.e.1,p0.f.1,p0.h.1,p0.j.1)),d4,d3,m3,rfl,rfl,q.t e3,g,(K.o H).o e3⟩)
 have r8:=(r8.o H).o F;have r9:=(r9.o H).o F;have B:=(B.o H).o F;have A:=(A.o H).o F;have D:=(D.o H).o F;have U:=(U.o H).o F;have Y:=(Y.o H).o F;have S:=(S.o H).o F;have V:=(V.o H).o F;have K:=(K.o H).o F;have M:=(M.o H).o F;have Z:=(Z.o H).o F;refine aQ (aB (aA 3 [(14,vP bp0 0),(16,vP bp0 4)] (bD 17 (vI p0.f.1) g.t.t.t.t.t.h (aA 3 [(18,vI (wr (p0.f.1+1))),(20,vP bp0 4)] (iM #[vP R 0,vS a3 p0.2.1 c3,.int .u64 p0.d.1,.map q3,vI (wr (p0.f.1+1)),vI p0.h.1,vB p0.j.1,.map q4] g.f5 fun w4 g=>aQ (aB (aA 2 [(22,vP b1 6)] (cI 23 (vS a7 p1.2.1.e c7) g ((d5.o F).drop 6) (aA 1 [(24,vI p2)] (iH 25 A hr ?_))))))))));rintro E hr b2 f1 e9 ⟨_,_,rfl,rfl,⟨_,_,rfl,rfl,⟨_,_,rfl,rfl,⟨_,_,rfl,rfl,⟨a9,c9,rfl,G⟩⟩⟩⟩⟩ e6;refine iG 26 148 25 f1 (.agg (Va E a9 c9)) g e6 (bX 7 148 (.agg #[vI 0,vI 0,vI 0,vT eB,v6]) g fun b3 w5 g=>bF (.agg (Va E a9 c9)) g fun w6 g=>aQ (aF (dO [(12,fun w'=>Inv m2 w'/\Piece.holds m2 w' (kB b3 (Va E a9 c9) 148)/\True),(10,fun w'=>Inv m2 w'/\Piece.holds m2 w' (dV bp0 R a3 c3 q3 q4 p0 (wr (p0.f.1+1)) p0.h.1 p0.j.1)/\True)] kr g fun w7 _ g=> ?_)));have o:=m2.le_refl
 refine⟨iE (aT g o) (aT g o),cE 4 [(0,27,vP bp0 0),(1,28,vP bp0 0),(2,29,vP bp0 7),(4,31,vP b3 0)] (cV 5 32 (vI E.1) cZ (bL 7 34 (vP bp0 0) (eE 8 35 (.agg (iL p1 a4 c4 a5 c5 a6 c6 a7 c7 a8 c8)) (d5.o F) (cV 9 36 (.agg (Va E a9 c9)) cZ (aZ 3 kr (qUj 30 119 29 7 (.map q4) g.t.h ⟨iE (aT g o) (aT g o),aZ 6 kr (qT (ek:=cM) (c:=eD) (agg:=false) (k:=E.1) (zx:=(none:dL)) (zcs:=[.nilFunc]) (z:= .nilFunc) (kt:=3) (et:=117) (d:=33) (t:=119) (x:=(.tmp 30)) (y:=(.tmp 32)) (ok:=false) kr rfl (ev (.map q4)) (ev (vI E.1)) kr (iU kr) g.t.t.t.t.t.t.h M rfl rfl ?_)⟩))))))⟩;rintro f0 rfl;refine⟨iE (aT g o) (aT g o),?_⟩;have⟨f2,e0,hr⟩:=aX hr;rw[e0];have g:=g.f1.f6.f6.f6.f6.f6;have⟨y3,a,hr⟩:=aX hr
 refine aZ 10 kr (qX 37 f2 #[vP bp0 0,.agg (iL p1 a4 c4 a5 c5 a6 c6 a7 c7 a8 c8),.agg (Va E a9 c9)] (by(iterate 10 (rcases dynM a with rfl|a;exact kr));cases a) rfl ((vD a (fun a=>qHc (p0:=(p0.1,p0.2.1,p0.d.1,p0.e.1,wr (p0.f.1+1),p0.h.1,p0.j.1,p0.k)) (p1:=p1) (p2:=E) g S U V Y Z K M r8 r9 B A D G a) (fun a=>vD a (fun a=>qHj (p0:=(p0.1,p0.2.1,p0.d.1,p0.e.1,wr (p0.f.1+1),p0.h.1,p0.j.1,p0.k)) (p1:=p1) (p2:=E) g S U V Y Z K M r8 r9 B A D G a) (fun a=>vD a (fun a=>p (p0:=(p0.1,p0.2.1,p0.d.1,p0.e.1,wr (p0.f.1+1),p0.h.1,p0.j.1,p0.k)) (p1:=p1) (p2:=E) g S U V Y Z K M r8 r9 B A D G a) (fun a=>vD a (fun a=>b (p0:=(p0.1,p0.2.1,p0.d.1,p0.e.1,wr (p0.f.1+1),p0.h.1,p0.j.1,p0.k)) (p1:=p1) (p2:=E) g S U V Y Z K M r8 r9 B A D G a) (fun a=>vD a (fun a=>l (p0:=(p0.1,p0.2.1,p0.d.1,p0.e.1,wr (p0.f.1+1),p0.h.1,p0.j.1,p0.k)) (p1:=p1) (p2:=E) g S U V Y Z K M r8 r9 B A D G a) (fun a=>vD a (fun a=>u (p0:=(p0.1,p0.2.1,p0.d.1,p0.e.1,wr (p0.f.1+1),p0.h.1,p0.j.1,p0.k)) (p1:=p1) (p2:=E) g S U V Y Z K M r8 r9 B A D G a) (fun a=>vD a (fun a=>qHt (p0:=(p0.1,p0.2.1,p0.d.1,p0.e.1,wr (p0.f.1+1),p0.h.1,p0.j.1,p0.k)) (p1:=p1) (p2:=E) g S U V Y Z K M r8 r9 B A D G a) (fun a=>vD a (fun a=>qIb (p0:=(p0.1,p0.2.1,p0.d.1,p0.e.1,wr (p0.f.1+1),p0.h.1,p0.j.1,p0.k)) (p1:=p1) (p2:=E) g S U V Y Z K M r8 r9 B A D G a) (fun a=>vD a (fun a=>qGs (p0:=(p0.1,p0.2.1,p0.d.1,p0.e.1,wr (p0.f.1+1),p0.h.1,p0.j.1,p0.k)) (p1:=p1) (p2:=E) g S U V Y Z K M r8 r9 B A D G a) (fun a=>vD a (fun a=>qHu (p0:=(p0.1,p0.2.1,p0.d.1,p0.e.1,wr (p0.f.1+1),p0.h.1,p0.j.1,p0.k)) (p1:=p1) (p2:=E) g S U V Y Z K M r8 r9 B A D G a) (fun a=>(by cases a)))))))))))).mono ?_))
 rintro _ w8 (⟨z2,d9,d7,m5,rfl,rfl,e5,g,e8⟩|⟨y4,rfl,d8,d6,m4,rfl,e4,g,e7⟩)
 .refine .inr ⟨_,rfl,?_⟩;have o:=o.t e5;refine bQ ?_;obtain rfl:=sI hr;have g:=g.f6.t.f5.f5.f5.f5.f5.f5;exact cN (.inl ⟨z2,d9,d7,m5,rfl,rfl,(q.t F).t e5,g,e8⟩)
 refine .inl ⟨_,rfl,?_⟩;have o:=o.t e4;refine⟨pQ (aT g o),bL 11 6 (vI y4.2) (cO kr (aC (aM ?_)))⟩;cases hr;exact aW [6] [vI y4.2] (.inr ⟨_,rfl,d8,d6,m4,rfl,(q.t F).t e4,g.f6.t.f5.f5.f5.f5.f5.f5,e7⟩)
theorem qHa{Re Rf Rg Rh Ri Rj}(a:BI Re)(F:AV Rf)(K:BG Rg)(D:AR Rh)(E:AT Ri)(M:BF Rj){p0:cS}{p1:iK}{p2:Tb}{b R d1 b8 q2 d2 b9 B d7 d4 S d3 c0 r}(g:St m (aD R d1 b8::aD q2 d2 b9::cA b a1 c1 R a2 c2 q2 p0.1::aD B d7 d4::aD S d3 c0::lT bp0 b a3 c3 B S p0::O) w)(r1:RepS C1 m a1 c1 p0.1.1)(r2:MapQ cR C7 true m R d1 b8 p0.1.d.1)(r3:RepS aH m a2 c2 p0.1.e.1)(r4:MapQ bA C8 true m q2 d2 b9 p0.1.f)(r5:RepS C3 m a3 c3 p0.2.1)(r6:MapQ bA cK false m B d7 d4 p0.e.1)(r7:MapQ cM eD false m S d3 c0 p0.k)(r8:RepS (aR .i64) m a4 c4 p2)(hr:BH N Re Rf Rg Rh Ri Rj p0 p1 p2=some r):Calls prog 84 #[vP bp0 0,.agg (Ve p1),vS a4 p2 c4] w fun e w'=>(∃(z0:mV),∃b6 b7 m',r= .inl z0/\nF 161 m m' e z0.1 (aD R d1 b8::aD q2 d2 b9::cA b a1 c1 R a2 c2 q2 p0.1::aD B b6 b7::aD S d3 c0::dV bp0 b a3 c3 B S p0 z0.d.1 z0.e.1 z0.f::O) w' (MapQ bA cK false m' B b6 b7 z0.2.1))\/(∃(y0:mW),r= .inr y0/\∃b6 b7 m',bW m m' e (vI y0.2) (aD R d1 b8::aD q2 d2 b9::cA b a1 c1 R a2 c2 q2 p0.1::aD B b6 b7::aD S d3 c0::dV bp0 b a3 c3 B S p0 y0.1.2.1 y0.1.d.1 y0.1.e::O) w' (MapQ bA cK false m' B b6 b7 y0.1.1)):=by
 refine bP g func84 rfl ntmps84 fun q=>aB (dY 4 66 (.agg (Ve p1)) g fun b1 m1 w1 u g b0=> ?_);have r6:=r6.o u;refine aG 1 [] (aB (bH 3 13 3 12 5 (vI p0.h.1) g.t.t.t.t.t.h (aA 1 [(14,vB (p0.h.1==64))] (cW 15 hr (vO g) ?_))));rintro y1 hr _ w2 (⟨z1,m3,rfl,rfl,e3,g⟩|⟨y2,rfl,m2,rfl,o,g⟩)
 .refine bQ ?_;obtain rfl:=sI hr;have g:=g.f5.f5.f5.f5.f5.f5;exact cN (.inl ⟨(z1,(p0.e.1,p0.f.1,p0.h.1,p0.j.1)),d7,d4,m3,rfl,rfl,(q.t u).t e3,g,r6.o e3⟩)
 have q:=(q.t u).t o;have b0:=b0.o o;have r2:=(r2.o u).o o;refine aQ (aB (aA 3 [(16,vP bp0 0),(18,vP bp0 5)] (bD 19 (vI p0.h.1) g.t.t.t.t.t.h (aA 3 [(20,vI (wr (p0.h.1+1))),(22,vP bp0 5)] (iM #[vP b 0,vS a3 p0.2.1 c3,.int .u64 p0.d.1,.map B,vI p0.f.1,vI (wr (p0.h.1+1)),vB p0.j.1,.map S] g.f5 fun w4 g=>aQ (aF (dO [(12,fun w'=>Inv m2 w'/\Piece.holds m2 w' (dV bp0 b a3 c3 B S p0 p0.f.1 (wr (p0.h.1+1)) p0.j.1)/\Piece.holds m2 w' (cA b a1 c1 R a2 c2 q2 p0.1)/\True)] kr g fun w5 _ g=> ?_)))))));have A:=m2.le_refl;refine⟨bO (aT g A),cE 3 [(0,23,vP bp0 0),(1,24,vP bp0 0),(2,25,vP bp0 0)] (cV 3 26 (vP b 0) cZ (cE 2 [(4,27,vP b 0),(5,28,vP b 2)] (cV 6 29 (.map R) pO (bL 7 30 (vP b1 3) (eE 8 31 (vT p1.e.1) (b0.drop 3) (tP [9,10] kr ae (uO ?_ ?_)))))))⟩
 .refine qT (ek:=cR) (c:=C7) (agg:=true) (k:=p1.e.1) (zx:=(eB,([]:T8),([]:eU))) (zcs:=[vT eB,v2,vd]) (z:=(.agg #[vT eB,v2,vd])) (kt:=9) (et:=102) (d:=32) (t:=69) (x:=(.tmp 29)) (y:=(.tmp 31)) (ok:=false) kr rfl (ev (.map R)) (ev (vT p1.e.1)) kr (uR kr) g.t.h r2 ⟨_,_,rfl,rfl,⟨_,_,rfl,(nJ (RepS.nil _ _)),(nJ (RepS.nil _ _))⟩⟩ rfl ?_;rintro f0 ⟨_,_,rfl,rfl,⟨_,_,rfl,⟨a5,c5,rfl,r9⟩,⟨U,Y,rfl,b5⟩⟩⟩;refine⟨bO (aT g A),aZ 10 kr (xQ 7 102 (.agg #[vT eB,v6,v6]) g fun b2 w6 g=>⟨bO (aT g A),aZ 11 kr (iX 102 7 32 (.agg #[vT (((bC p0.1.d.1 p1.e.1).getD (eB,([]:T8),([]:eU))).1),.slice a5 (List.length (((bC p0.1.d.1 p1.e.1).getD (eB,([]:T8),([]:eU))).2.1)) c5,.slice U (List.length (((bC p0.1.d.1 p1.e.1).getD (eB,([]:T8),([]:eU))).2.2)) Y]) g fun w7 g=>⟨bO (aT g A),cO kr (aC (aB (bH 1 34 100 33 2 (.slice U (List.length (((bC p0.1.d.1 p1.e.1).getD (eB,([]:T8),([]:eU))).2.2)) Y) g.h (aA 1 [(35,vP b1 4)] (cI 36 (vI p1.f.1) g (b0.drop 4) (iH 37 b5 hr ?_))))))⟩)⟩)⟩;rintro l hr b3 f1 f3 ⟨_,_,rfl,rfl,⟨_,_,rfl,rfl,⟨_,_,rfl,⟨V,Z,rfl,e6⟩,⟨G,H,rfl,e7⟩⟩⟩⟩ e0
  refine iG 38 105 37 f1 (.agg (V9 l V Z G H)) g e0 (bX 8 105 (.agg #[vI 0,vT eB,v6,v6]) g fun b4 w8 g=>bF (.agg (V9 l V Z G H)) g fun w9 g=>aQ (aB (aA 1 [(39,vP bp0 0)] (bD 40 (.agg #[vT (((bC p0.1.d.1 p1.e.1).getD (eB,([]:T8),([]:eU))).1),.slice a5 (List.length (((bC p0.1.d.1 p1.e.1).getD (eB,([]:T8),([]:eU))).2.1)) c5,.slice U (List.length (((bC p0.1.d.1 p1.e.1).getD (eB,([]:T8),([]:eU))).2.2)) Y]) g.t.h (bD 41 (.agg (V9 l V Z G H)) g.h (aA 3 [(43,.agg #[vT (((bC p0.1.d.1 p1.e.1).getD (eB,([]:T8),([]:eU))).1),.slice a5 (List.length (((bC p0.1.d.1 p1.e.1).getD (eB,([]:T8),([]:eU))).2.1)) c5,.slice U (List.length (((bC p0.1.d.1 p1.e.1).getD (eB,([]:T8),([]:eU))).2.2)) Y,vI l.1,vT l.2.1,vS V l.d.1 Z,vS G l.e H,vS a4 p2 c4]),(44,vP b4 3)] (bD 45 (vS G l.e H) g.h (aA 2 [(47,vI (wr ((l.2.2.2.length:Int)-1)))] (cW 48 hr (a (p0:=(p0.1,p0.2.1,p0.d.1,p0.e.1,p0.f.1,wr (p0.h.1+1),p0.j.1,p0.k)) (p1:=(((bC p0.1.d.1 p1.e.1).getD (eB,([]:T8),([]:eU))),l,p2)) g.f2.f7.f7.f7.f7.f7 ((r1.o u).o o) r2 ((r3.o u).o o) ((r4.o u).o o) ((r5.o u).o o) (r6.o o) ((r7.o u).o o) r9 b5 e6 e7 ((r8.o u).o o)) ?_)))))))));rintro y3 hr _ f4 (⟨z2,d9,d6,m5,rfl,rfl,e5,g,e9⟩|⟨p,rfl,d8,d5,m4,rfl,e4,g,e8⟩)
  .refine bQ ?_;obtain rfl:=sI hr;have g:=g.f6.t.f6.t.f5.f5.f5.f5.f5.f5;exact cN (.inl ⟨z2,d9,d6,m5,rfl,rfl,q.t e5,g,e9⟩)
  refine aG 1 [(9,vI p.2)] (aB (aA 3 [(49,vP bp0 0),(51,vP bp0 5)] (bD 52 (vI p.1.d.1) g.t.t.t.t.t.h (aA 3 [(53,vI (wr (p.1.d.1-1))),(55,vP bp0 5)] (iM #[vP b 0,vS a3 p0.2.1 c3,.int .u64 p0.d.1,.map B,vI p.1.2.1,vI (wr (p.1.d.1-1)),vB p.1.e,.map S] g.f5 fun f8 g=>aQ (aB (aG 2 [(6,vI p.2)] (aM ?_))))))));cases hr;exact aW [6] [vI p.2] (.inr ⟨_,rfl,d8,d5,m4,rfl,q.t e4,g.f6.t.f6.t.f5.f5.f5.f5.f5,e8⟩)
 refine xQ 7 102 (.agg #[vT eB,v6,v6]) g fun b2 w6 g=> ?_;refine⟨bO (aT g A),aZ 9 kr (qT (ek:=cR) (c:=C7) (agg:=true) (k:=p1.e.1) (zx:=(eB,([]:T8),([]:eU))) (zcs:=[vT eB,v2,vd]) (z:=(.agg #[vT eB,v2,vd])) (kt:=9) (et:=102) (d:=32) (t:=69) (x:=(.tmp 29)) (y:=(.tmp 31)) (ok:=false) kr rfl (ev (.map R)) (ev (vT p1.e.1)) kr (uR kr) g.t.t.h r2 ⟨_,_,rfl,rfl,⟨_,_,rfl,(nJ (RepS.nil _ _)),(nJ (RepS.nil _ _))⟩⟩ rfl ?_)⟩;rintro f0 ⟨_,_,rfl,rfl,⟨_,_,rfl,⟨a5,c5,rfl,r9⟩,⟨U,Y,rfl,b5⟩⟩⟩;refine⟨bO (aT g A),aZ 11 kr (iX 102 7 32 (.agg #[vT (((bC p0.1.d.1 p1.e.1).getD (eB,([]:T8),([]:eU))).1),.slice a5 (List.length (((bC p0.1.d.1 p1.e.1).getD (eB,([]:T8),([]:eU))).2.1)) c5,.slice U (List.length (((bC p0.1.d.1 p1.e.1).getD (eB,([]:T8),([]:eU))).2.2)) Y]) g fun w7 g=>⟨bO (aT g A),cO kr (aC (aB (bH 1 34 100 33 2 (.slice U (List.length (((bC p0.1.d.1 p1.e.1).getD (eB,([]:T8),([]:eU))).2.2)) Y) g.h (aA 1 [(35,vP b1 4)] (cI 36 (vI p1.f.1) g (b0.drop 4) (iH 37 b5 hr ?_))))))⟩)⟩;rintro l hr b3 f1 f3 ⟨_,_,rfl,rfl,⟨_,_,rfl,rfl,⟨_,_,rfl,⟨V,Z,rfl,e6⟩,⟨G,H,rfl,e7⟩⟩⟩⟩ e0
 refine iG 38 105 37 f1 (.agg (V9 l V Z G H)) g e0 (bX 8 105 (.agg #[vI 0,vT eB,v6,v6]) g fun b4 w8 g=>bF (.agg (V9 l V Z G H)) g fun w9 g=>aQ (aB (aA 1 [(39,vP bp0 0)] (bD 40 (.agg #[vT (((bC p0.1.d.1 p1.e.1).getD (eB,([]:T8),([]:eU))).1),.slice a5 (List.length (((bC p0.1.d.1 p1.e.1).getD (eB,([]:T8),([]:eU))).2.1)) c5,.slice U (List.length (((bC p0.1.d.1 p1.e.1).getD (eB,([]:T8),([]:eU))).2.2)) Y]) g.t.h (bD 41 (.agg (V9 l V Z G H)) g.h (aA 3 [(43,.agg #[vT (((bC p0.1.d.1 p1.e.1).getD (eB,([]:T8),([]:eU))).1),.slice a5 (List.length (((bC p0.1.d.1 p1.e.1).getD (eB,([]:T8),([]:eU))).2.1)) c5,.slice U (List.length (((bC p0.1.d.1 p1.e.1).getD (eB,([]:T8),([]:eU))).2.2)) Y,vI l.1,vT l.2.1,vS V l.d.1 Z,vS G l.e H,vS a4 p2 c4]),(44,vP b4 3)] (bD 45 (vS G l.e H) g.h (aA 2 [(47,vI (wr ((l.2.2.2.length:Int)-1)))] (cW 48 hr (a (p0:=(p0.1,p0.2.1,p0.d.1,p0.e.1,p0.f.1,wr (p0.h.1+1),p0.j.1,p0.k)) (p1:=(((bC p0.1.d.1 p1.e.1).getD (eB,([]:T8),([]:eU))),l,p2)) g.f2.f7.f7.f7.f7.f7 ((r1.o u).o o) r2 ((r3.o u).o o) ((r4.o u).o o) ((r5.o u).o o) (r6.o o) ((r7.o u).o o) r9 b5 e6 e7 ((r8.o u).o o)) ?_)))))))));rintro y3 hr _ f4 (⟨z2,d9,d6,m5,rfl,rfl,e5,g,e9⟩|⟨p,rfl,d8,d5,m4,rfl,e4,g,e8⟩)
 .refine bQ ?_;obtain rfl:=sI hr;have g:=g.f6.t.f6.t.f5.f5.f5.f5.f5.f5;exact cN (.inl ⟨z2,d9,d6,m5,rfl,rfl,q.t e5,g,e9⟩)
 refine aG 1 [(9,vI p.2)] (aB (aA 3 [(49,vP bp0 0),(51,vP bp0 5)] (bD 52 (vI p.1.d.1) g.t.t.t.t.t.h (aA 3 [(53,vI (wr (p.1.d.1-1))),(55,vP bp0 5)] (iM #[vP b 0,vS a3 p0.2.1 c3,.int .u64 p0.d.1,.map B,vI p.1.2.1,vI (wr (p.1.d.1-1)),vB p.1.e,.map S] g.f5 fun f8 g=>aQ (aB (aG 2 [(6,vI p.2)] (aM ?_))))))));cases hr;exact aW [6] [vI p.2] (.inr ⟨_,rfl,d8,d5,m4,rfl,q.t e4,g.f6.t.f6.t.f5.f5.f5.f5.f5,e8⟩)
theorem qHe{Re Rf Rg Rh Ri Rj}(D:BI Re)(u:AV Rf)(g8:BG Rg)(g4:AR Rh)(g5:AT Ri)(g9:BF Rj){p0:cS}{p1:dS}{p2:eC}{o R d3 c0 Z d4 d1 S q7 q6 V d5 d2 r}(g:St m (aD R d3 c0::aD Z d4 d1::cA o a1 c1 R a2 c2 Z p0.1::aD S q7 q6::aD V d5 d2::lT bp0 o a3 c3 S V p0::O) w)(r1:RepS C1 m a1 c1 p0.1.1)(Y:MapQ cR C7 true m R d3 c0 p0.1.d.1)(r3:RepS aH m a2 c2 p0.1.e.1)(r4:MapQ bA C8 true m Z d4 d1 p0.1.f)(r5:RepS C3 m a3 c3 p0.2.1)(r6:MapQ bA cK false m S q7 q6 p0.e.1)(r7:MapQ cM eD false m V d5 d2 p0.k)(r8:RepS aH m a4 c4 p1.1.2.1)(r9:RepS C6 m a5 c5 p1.1.d)(g0:RepS aH m a6 c6 p1.2.1.d.1)(g1:RepS C5 m a7 c7 p1.2.1.e)(g2:RepS (aR .i64) m a8 c8 p1.d)(g3:RepS (aR .i64) m a9 c9 p2.f)(hr:KV N Re Rf Rg Rh Ri Rj p0 p1 p2=some r):Calls prog 52 #[vP bp0 0,.agg (iL p1 a4 c4 a5 c5 a6 c6 a7 c7 a8 c8),.agg (Va p2 a9 c9)] w fun e w'=>(∃(z0:mV),∃k3 k4 m',r= .inl z0/\nF 161 m m' e z0.1 (aD R d3 c0::aD Z d4 d1::cA o a1 c1 R a2 c2 Z p0.1::aD S k3 k4::aD V d5 d2::dV bp0 o a3 c3 S V p0 z0.d.1 z0.e.1 z0.f::O) w' (MapQ bA cK false m' S k3 k4 z0.2.1))\/(∃(y0:mW),r= .inr y0/\∃k3 k4 m',bW m m' e (vI y0.2) (aD R d3 c0::aD Z d4 d1::cA o a1 c1 R a2 c2 Z p0.1::aD S k3 k4::aD V d5 d2::dV bp0 o a3 c3 S V p0 y0.1.2.1 y0.1.d.1 y0.1.e::O) w' (MapQ bA cK false m' S k3 k4 y0.1.1)):=by
 refine bP g func52 rfl ntmps52 fun q=>aB (dY 4 146 (.agg (iL p1 a4 c4 a5 c5 a6 c6 a7 c7 a8 c8)) g fun b1 m1 w1 e1 g d6=>dY 5 148 (.agg (Va p2 a9 c9)) g fun b2 m2 w2 e2 g n0=> ?_);have q:=(q.t e1).t e2;have r8:=(r8.o e1).o e2;have r9:=(r9.o e1).o e2;have d6:=d6.o e2;have Y:=(Y.o e1).o e2;have r4:=(r4.o e1).o e2;have r1:=(r1.o e1).o e2;have r3:=(r3.o e1).o e2;have r7:=(r7.o e1).o e2;have r5:=(r5.o e1).o e2;refine aG 1 [] (aF (dO [(17,fun w'=>Inv m2 w'/\Piece.holds m2 w' (lT bp0 o a3 c3 S V p0)/\True)] kr g fun w3 _ g=> ?_));have U:=m2.le_refl;refine⟨bO (aT g U),cE 3 [(0,14,vP bp0 0),(1,15,vP bp0 0),(2,16,vP bp0 0)] (cV 3 17 (vP o 0) cZ (bL 4 18 (vP b1 0) (eE 5 19 (.agg (V8 p1.1 a4 c4 a5 c5)) d6 (bL 6 20 (vP b2 3) (eE 7 21 (vT p2.e.1) (n0.drop 3) (tP [8,13] kr ae (uO ?_ ?_)))))))⟩
 .refine eJ 22 hr (fun _ h=>WQ (p1:=p1.1) g.f2.f2.f2 r1 Y r3 r4 r8 r9 h) ?_;rintro y1 hr _ w4 ⟨d7,d8,m3,rfl,b,g,o0⟩;refine⟨_,rfl,?_⟩;have U:=U.t b;refine⟨bO (aT g U),cE 4 [(9,13,.tuple #[.agg (Ve y1.1),vS d7 y1.2.1 d8,vI y1.d]),(10,23,.agg (Ve y1.1)),(11,24,vS d7 y1.2.1 d8),(12,25,vI y1.d)] (aZ 13 kr (xQ 7 66 (.agg dX) g fun b3 w5 g=>⟨bO (aT g U),aZ 14 kr (iX 66 7 23 (.agg (Ve y1.1)) g fun w6 g=>⟨bO (aT g U),cE 2 [(15,8,vS d7 y1.2.1 d8),(16,9,vI y1.d)] (cO kr (aC (aS 2 [(26,vP bp0 0),(27,vS d7 y1.2.1 d8)] (aL 28 hr (BE (p0:=p0) g.f7.f7.f7.f7.f7.f7 (r1.o b) (Y.o b) (r3.o b) (r4.o b) (r5.o b) (((r6.o e1).o e2).o b) (r7.o b) o0) ?_))))⟩)⟩))⟩;rintro y2 hr _ w7 ⟨h7,h6,m4,rfl,E,g,h8⟩;refine aV ?_;have g:=g.f7.t;refine aC (aS 1 [(29,vI y1.d)] (cW 30 hr (MH g) ?_));rintro y3 hr _ w8 (⟨z1,m6,rfl,rfl,e6,g⟩|⟨y4,rfl,m5,rfl,F,g⟩)
  .refine bQ ?_;obtain rfl:=sI hr;have g:=g.f6.t.f5.f5.f5.f5.f5.f5;exact cN (.inl ⟨(z1,y2),h7,h6,m6,rfl,rfl,((q.t b).t E).t e6,g,h8.o e6⟩)
  refine aQ (aB (aG 1 [(10,vb)] (aF (aS 1 [(31,vP b2 4)] (cI 32 (vS a9 p2.f c9) g ((((n0.o b).o E).o F).drop 4) (aG 2 [(33,vI (p2.2.2.2.2.length:Int)),(34,vI 0)] (bB ?_)))))));have⟨h0,hr,j1⟩:=aX hr;refine dW (.exit 0) (fun L' w'=>∃(a:Tb×T3h),∃b0 b8 f0 d9 H,(.inl a)=h0/\L'=[(0,vP bp0 0),(7,vP b3 0),(10,vS b0 a.1 b8)]/\m.le H/\St H (cA o a1 c1 R a2 c2 Z p0.1::dV bp0 o a3 c3 S V p0 a.2.1 a.d.1 a.e.1::kB b3 (Ve y1.1) 66::aD R d3 c0::aD Z d4 d1::aD S f0 d9::aD V d5 d2::kR b0 a.1 b8 3 1::O) w'/\RepS (aR .i64) H b0 b8 a.1/\RepS C1 H a1 c1 p0.1.1/\RepS aH H a2 c2 p0.1.e.1/\RepS C3 H a3 c3 p0.2.1/\MapQ cR C7 true H R d3 c0 p0.1.d.1/\MapQ bA C8 true H Z d4 d1 p0.1.f/\MapQ bA cK false H S f0 d9 a.f/\MapQ cM eD false H V d5 d2 p0.k) ?_ ?_
  .rintro _ t6 ⟨a,b0,b8,f0,d9,H,rfl,rfl,q,g,o3,r1,r3,r5,Y,r4,h9,r7⟩;have hr:=j1;refine cX (aC (aF (dO [(21,fun w'=>Inv H w'/\Piece.holds H w' (cA o a1 c1 R a2 c2 Z p0.1)/\Piece.holds H w' (dV bp0 o a3 c3 S V p0 a.2.1 a.d.1 a.e.1)/\Piece.holds H w' (kB b3 (Ve y1.1) 66)/\True)] kr g fun u1 _ g=> ?_)));have M:=H.le_refl;refine⟨bO (aT g M),cE 5 [(0,46,vS b0 a.1 b8),(1,47,vI (a.1.length:Int)),(2,48,vP bp0 0),(3,49,vP bp0 0),(4,50,vP bp0 0)] (cV 5 51 (vP o 0) pO (cE 2 [(6,52,vP o 0),(7,53,vP o 2)] (cV 8 54 (.map R) cZ (bL 9 55 (vP b3 3) (cV 10 56 (vT y1.1.e.1) zW (bL 13 59 (vP b3 4) (cV 14 60 (vI y1.1.f.1) zW (aZ 11 kr (qT (ek:=cR) (c:=C7) (agg:=true) (k:=y1.1.e.1) (zx:=(eB,([]:T8),([]:eU))) (zcs:=[vT eB,v2,vd]) (z:=(.agg #[vT eB,v2,vd])) (kt:=9) (et:=102) (d:=57) (t:=69) (x:=(.tmp 54)) (y:=(.tmp 56)) (ok:=false) kr rfl (ev (.map R)) (ev (vT y1.1.e.1)) kr (uR kr) g.t.t.t.h Y ⟨_,_,rfl,rfl,⟨_,_,rfl,(nJ (RepS.nil _ _)),(nJ (RepS.nil _ _))⟩⟩ rfl ?_)))))))))⟩;rintro s5 ⟨_,_,rfl,rfl,⟨_,_,rfl,⟨q8,r0,rfl,t3⟩,⟨h3,h5,rfl,o9⟩⟩⟩;refine⟨bO (aT g M),bL 12 58 (.slice h3 (List.length (((bC p0.1.d.1 y1.1.e.1).getD (eB,([]:T8),([]:eU))).2.2)) h5) ?_⟩;have⟨x2,n3,hr⟩:=aX hr
   refine oI (t:=100) (e:=105) (x:=(.tmp 58)) (y:=(.tmp 60)) 15 61 C6 kr rfl kr (.head _) (cP mJ) (ev (.slice h3 (List.length (((bC p0.1.d.1 y1.1.e.1).getD (eB,([]:T8),([]:eU))).2.2)) h5)) (ev (vI y1.1.f.1)) kr o9 n3 ?_;rintro b6 f2 s6 ⟨_,_,rfl,rfl,⟨_,_,rfl,rfl,⟨_,_,rfl,⟨l2,l3,rfl,t4⟩,⟨q9,s3,rfl,t5⟩⟩⟩⟩ n2;refine bL 16 62 (.pointer (some ⟨b6,f2+2,none⟩)) (eE 17 63 (vS l2 x2.d.1 l3) (n2.drop 2) (cE 2 [(18,64,vI (x2.2.2.1.length:Int)),(19,65,vB ((a.1.length:Int) !=(x2.2.2.1.length:Int)))] ?_));have⟨y7,n4,hr⟩:=aX hr;refine aZ 20 kr (qX 66 83 #[vB ((a.1.length:Int) !=(x2.2.2.1.length:Int)),vI 13] kr rfl ((vO g n4).mono ?_));rintro _ u2 (⟨z3,n7,rfl,rfl,g6,g⟩|⟨y8,rfl,s8,rfl,B,g⟩)
   .refine .inr ⟨_,rfl,?_⟩;have M:=M.t g6;refine bQ ?_;obtain rfl:=sI hr;have g:=g.f2.t.f6.t.f1.f5.f5.f3.f5.f5;exact cN (.inl ⟨(z3,(a.f,a.2.1,a.d.1,a.e.1)),f0,d9,n7,rfl,rfl,q.t g6,g,h9.o g6⟩)
   refine .inl ⟨_,rfl,?_⟩;have M:=M.t B;refine⟨bO (aT g M),cO kr (aC (aS 1 [(67,vP bp0 0)] (bD 68 (.agg (Ve y1.1)) g.t.t.h (aA 1 [(69,vS b0 a.1 b8)] (cW 70 hr (u (p0:=(p0.1,p0.2.1,p0.d.1,a.f,a.2.1,a.d.1,a.e.1,p0.k)) (p1:=y1.1) g.f1.f6.f6.f3.f6.f6 (r1.o B) (Y.o B) (r3.o B) (r4.o B) (r5.o B) (h9.o B) (r7.o B) (o3.o B)) ?_)))))⟩;rintro y9 hr _ u3 (⟨z4,k9,k7,n9,rfl,rfl,l7,g,q5⟩|⟨k5,rfl,k8,k6,n8,rfl,l6,g,q0⟩)
   .refine bQ ?_;obtain rfl:=sI hr;have g:=g.f6.t.f6.t.f5.f5.f5.f5.f5.f5;exact cN (.inl ⟨z4,k9,k7,n9,rfl,rfl,(q.t B).t l7,g,q5⟩)
   refine aA 1 [(6,vI k5.2)] (aV ?_);have g:=g.f7.t;refine aC (aM ?_);cases hr;exact aW [6] [vI k5.2] (.inr ⟨_,rfl,k8,k6,n8,rfl,(q.t B).t l6,g.f6.t.f5.f5.f5.f5.f5.f5,q0⟩)
  intro h1;have g:=(g.nilroom 3 1).front5.front5.front4.front4.front7.front7.front7
  refine dJ (fun k1 L' w'=>∃(s1:T3i),∃b7 b9 f9 e0 p,aK (tI N Re p0 p1 p2) k1 s1=some h0/\L'=[(0,vP bp0 0),(4,vP b1 0),(7,vP b3 0),(10,vS b7 s1.1 b9),(32,vS a9 p2.f c9),(33,vI (p2.2.2.2.2.length:Int)),(34,vI s1.2.1)]/\m.le p/\St p (cA o a1 c1 R a2 c2 Z p0.1::dV bp0 o a3 c3 S V p0 s1.d.1 s1.e.1 s1.f.1::kB b3 (Ve y1.1) 66::aD R d3 c0::aD Z d4 d1::aD S f9 e0::aD V d5 d2::kR b7 s1.1 b9 3 1::O) w'/\MRow p b1 0 [vT p1.1.1,vS a4 p1.1.2.1 c4,vS a5 p1.1.d c5,vI p1.2.1.1,vT p1.2.1.2.1,vS a6 p1.2.1.d.1 c6,vS a7 p1.2.1.e c7,vS a8 p1.d c8]/\RepS aH p a4 c4 p1.1.2.1/\RepS C6 p a5 c5 p1.1.d/\RepS aH p a6 c6 p1.2.1.d.1/\RepS C5 p a7 c7 p1.2.1.e/\RepS (aR .i64) p a8 c8 p1.d/\RepS (aR .i64) p b7 b9 s1.1/\RepS (aR .i64) p a9 c9 p2.f/\RepS C1 p a1 c1 p0.1.1/\RepS aH p a2 c2 p0.1.e.1/\RepS C3 p a3 c3 p0.2.1/\MapQ cR C7 true p R d3 c0 p0.1.d.1/\MapQ bA C8 true p Z d4 d1 p0.1.f/\MapQ bA cK false p S f9 e0 s1.h/\MapQ cM eD false p V d5 d2 p0.k) N ⟨(([]:Tb),0,y2.2.1,y2.d.1,y2.e,y2.1),none,0,h7,h6,m5,hr,rfl,((q.t b).t E).t F,g,((d6.o b).o E).o F,((r8.o b).o E).o F,((r9.o b).o E).o F,((((g0.o e1).o e2).o b).o E).o F,((((g1.o e1).o e2).o b).o E).o F,((((g2.o e1).o e2).o b).o E).o F,(RepS.nil _ _),((((g3.o e1).o e2).o b).o E).o F,((r1.o b).o E).o F,((r3.o b).o E).o F,((r5.o b).o E).o F,((Y.o b).o E).o F,((r4.o b).o E).o F,h8.o F,((r7.o b).o E).o F⟩ ?_
  rintro k1 _ t7 ⟨s1,b7,b9,f9,e0,p,hL,rfl,q,g,d6,r8,r9,g0,g1,g2,k0,g3,r1,r3,r5,Y,r4,k2,r7⟩;obtain⟨k1,s9,rfl,hr,l0,g7⟩:=dN hL;refine aI 1 [(35,vB (decide (s1.2.1<(p2.2.2.2.2.length:Int))))] (aF (aJ hr ?_ ?_))<;>intro A hr
  .refine aN (aC (aF (bB (aB (iH 36 g3 hr ?_)))));rintro x1 hr b4 f1 s4 rfl n1;refine iG 37 3 36 f1 (vI x1) g n1 (aG 1 [(12,vI x1)] (aY (aA 2 [(38,vS b7 s1.1 b9),(39,vP bp0 0)] (cI 40 (.agg (iL p1 a4 c4 a5 c5 a6 c6 a7 c7 a8 c8)) g d6 (aA 1 [(41,vI x1)] (cW 42 hr (D (p0:=(p0.1,p0.2.1,p0.d.1,s1.h,s1.d.1,s1.e.1,s1.f.1,p0.k)) (p1:=p1) g.f1.f6.f6.f3.f6.f6 r1 Y r3 r4 r5 k2 r7 r8 r9 g0 g1 g2) ?_))))));rintro y5 hr _ t8 (⟨z2,l9,l5,n5,rfl,rfl,e8,g,o6⟩|⟨y6,rfl,l8,l4,m9,rfl,K,g,o5⟩)
   .refine iO (bQ ?_);have ho:=g7 _ (sI hr);subst ho;have hr:=j1;refine bQ (iO (bQ ?_));obtain rfl:=sI hr;have g:=g.f6.t.f6.t.f5.f5.f5.f5.f5.f5;exact cN (.inl ⟨z2,l9,l5,n5,rfl,rfl,q.t e8,g,o6⟩)
   refine eH 43 3 1 (aR .i64) [y6.2] g fun b5 s7 t9 G g o7=>mL 44 22 22 3 8 38 43 g.f8 (.inl kr) ((k0.o K).o G) o7.src hr fun l1 hr h2 h4 n6 u0 l g o8=>aA 1 [(10,vS h2 l1 h4)] (aV ?_);have g:=g.f1.t;refine bT (aC (aY (aA 2 [(34,vI (wr (s1.2.1+1)))] (aV ?_))));have hL:=l0 _ (sI hr);exact cY ⟨(l1,wr (s1.2.1+1),y6.1.2.1,y6.1.d.1,y6.1.e,y6.1.1),h2,h4,l8,l4,n6,hL,rfl,((q.t K).t G).t l,g.f5.f5.f4.f4.f7.f7.f7,((d6.o K).o G).o l,((r8.o K).o G).o l,((r9.o K).o G).o l,((g0.o K).o G).o l,((g1.o K).o G).o l,((g2.o K).o G).o l,o8,((g3.o K).o G).o l,((r1.o K).o G).o l,((r3.o K).o G).o l,((r5.o K).o G).o l,((Y.o K).o G).o l,((r4.o K).o G).o l,(o5.o G).o l,((r7.o K).o G).o l⟩
  refine cT (bG ?_);have ho:=g7 _ (sI hr);have g:=g.f7.f7.f7.f7.f7.f7.f7.f7;exact bG (xE (h1 _ _ ⟨(s1.1,s1.d.1,s1.e.1,s1.f.1,s1.h),b7,b9,f9,e0,p,ho,rfl,q,g,k0,r1,r3,r5,Y,r4,k2,r7⟩))
 refine xQ 7 66 (.agg dX) g fun b3 w4 g=> ?_;refine⟨bO (aT g U),aZ 8 kr (eJ 22 hr (fun _ h=>WQ (p1:=p1.1) g.f3.f3.f3 r1 Y r3 r4 r8 r9 h) ?_)⟩;rintro y1 hr _ w5 ⟨d7,d8,m3,rfl,b,g,o0⟩;refine⟨_,rfl,?_⟩;have U:=U.t b;refine⟨bO (aT g U),cE 4 [(9,13,.tuple #[.agg (Ve y1.1),vS d7 y1.2.1 d8,vI y1.d]),(10,23,.agg (Ve y1.1)),(11,24,vS d7 y1.2.1 d8),(12,25,vI y1.d)] (aZ 14 kr (iX 66 7 23 (.agg (Ve y1.1)) g.f4 fun w6 g=>⟨bO (aT g U),cE 2 [(15,8,vS d7 y1.2.1 d8),(16,9,vI y1.d)] (cO kr (aC (aS 2 [(26,vP bp0 0),(27,vS d7 y1.2.1 d8)] (aL 28 hr (BE (p0:=p0) g.f7.f7.f7.f7.f7.f7 (r1.o b) (Y.o b) (r3.o b) (r4.o b) (r5.o b) (((r6.o e1).o e2).o b) (r7.o b) o0) ?_))))⟩))⟩;rintro y2 hr _ w7 ⟨h7,h6,m4,rfl,E,g,h8⟩;refine aV ?_;have g:=g.f7.t;refine aC (aS 1 [(29,vI y1.d)] (cW 30 hr (MH g) ?_));rintro y3 hr _ w8 (⟨z1,m6,rfl,rfl,e6,g⟩|⟨y4,rfl,m5,rfl,F,g⟩)
 .refine bQ ?_;obtain rfl:=sI hr;have g:=g.f6.t.f5.f5.f5.f5.f5.f5;exact cN (.inl ⟨(z1,y2),h7,h6,m6,rfl,rfl,((q.t b).t E).t e6,g,h8.o e6⟩)
 refine aQ (aB (aG 1 [(10,vb)] (aF (aS 1 [(31,vP b2 4)] (cI 32 (vS a9 p2.f c9) g ((((n0.o b).o E).o F).drop 4) (aG 2 [(33,vI (p2.2.2.2.2.length:Int)),(34,vI 0)] (bB ?_)))))));have⟨h0,hr,j1⟩:=aX hr;refine dW (.exit 0) (fun L' w'=>∃(a:Tb×T3h),∃b0 b8 f0 d9 H,(.inl a)=h0/\L'=[(0,vP bp0 0),(7,vP b3 0),(10,vS b0 a.1 b8)]/\m.le H/\St H (cA o a1 c1 R a2 c2 Z p0.1::dV bp0 o a3 c3 S V p0 a.2.1 a.d.1 a.e.1::kB b3 (Ve y1.1) 66::aD R d3 c0::aD Z d4 d1::aD S f0 d9::aD V d5 d2::kR b0 a.1 b8 3 1::O) w'/\RepS (aR .i64) H b0 b8 a.1/\RepS C1 H a1 c1 p0.1.1/\RepS aH H a2 c2 p0.1.e.1/\RepS C3 H a3 c3 p0.2.1/\MapQ cR C7 true H R d3 c0 p0.1.d.1/\MapQ bA C8 true H Z d4 d1 p0.1.f/\MapQ bA cK false H S f0 d9 a.f/\MapQ cM eD false H V d5 d2 p0.k) ?_ ?_
 .rintro _ t6 ⟨a,b0,b8,f0,d9,H,rfl,rfl,q,g,o3,r1,r3,r5,Y,r4,h9,r7⟩;have hr:=j1;refine cX (aC (aF (dO [(21,fun w'=>Inv H w'/\Piece.holds H w' (cA o a1 c1 R a2 c2 Z p0.1)/\Piece.holds H w' (dV bp0 o a3 c3 S V p0 a.2.1 a.d.1 a.e.1)/\Piece.holds H w' (kB b3 (Ve y1.1) 66)/\True)] kr g fun u1 _ g=> ?_)));have M:=H.le_refl;refine⟨bO (aT g M),cE 5 [(0,46,vS b0 a.1 b8),(1,47,vI (a.1.length:Int)),(2,48,vP bp0 0),(3,49,vP bp0 0),(4,50,vP bp0 0)] (cV 5 51 (vP o 0) pO (cE 2 [(6,52,vP o 0),(7,53,vP o 2)] (cV 8 54 (.map R) cZ (bL 9 55 (vP b3 3) (cV 10 56 (vT y1.1.e.1) zW (bL 13 59 (vP b3 4) (cV 14 60 (vI y1.1.f.1) zW (aZ 11 kr (qT (ek:=cR) (c:=C7) (agg:=true) (k:=y1.1.e.1) (zx:=(eB,([]:T8),([]:eU))) (zcs:=[vT eB,v2,vd]) (z:=(.agg #[vT eB,v2,vd])) (kt:=9) (et:=102) (d:=57) (t:=69) (x:=(.tmp 54)) (y:=(.tmp 56)) (ok:=false) kr rfl (ev (.map R)) (ev (vT y1.1.e.1)) kr (uR kr) g.t.t.t.h Y ⟨_,_,rfl,rfl,⟨_,_,rfl,(nJ (RepS.nil _ _)),(nJ (RepS.nil _ _))⟩⟩ rfl ?_)))))))))⟩;rintro s5 ⟨_,_,rfl,rfl,⟨_,_,rfl,⟨q8,r0,rfl,t3⟩,⟨h3,h5,rfl,o9⟩⟩⟩;refine⟨bO (aT g M),bL 12 58 (.slice h3 (List.length (((bC p0.1.d.1 y1.1.e.1).getD (eB,([]:T8),([]:eU))).2.2)) h5) ?_⟩;have⟨x2,n3,hr⟩:=aX hr
  refine oI (t:=100) (e:=105) (x:=(.tmp 58)) (y:=(.tmp 60)) 15 61 C6 kr rfl kr (.head _) (cP mJ) (ev (.slice h3 (List.length (((bC p0.1.d.1 y1.1.e.1).getD (eB,([]:T8),([]:eU))).2.2)) h5)) (ev (vI y1.1.f.1)) kr o9 n3 ?_;rintro b6 f2 s6 ⟨_,_,rfl,rfl,⟨_,_,rfl,rfl,⟨_,_,rfl,⟨l2,l3,rfl,t4⟩,⟨q9,s3,rfl,t5⟩⟩⟩⟩ n2;refine bL 16 62 (.pointer (some ⟨b6,f2+2,none⟩)) (eE 17 63 (vS l2 x2.d.1 l3) (n2.drop 2) (cE 2 [(18,64,vI (x2.2.2.1.length:Int)),(19,65,vB ((a.1.length:Int) !=(x2.2.2.1.length:Int)))] ?_));have⟨y7,n4,hr⟩:=aX hr;refine aZ 20 kr (qX 66 83 #[vB ((a.1.length:Int) !=(x2.2.2.1.length:Int)),vI 13] kr rfl ((vO g n4).mono ?_));rintro _ u2 (⟨z3,n7,rfl,rfl,g6,g⟩|⟨y8,rfl,s8,rfl,B,g⟩)
  .refine .inr ⟨_,rfl,?_⟩;have M:=M.t g6;refine bQ ?_;obtain rfl:=sI hr;have g:=g.f2.t.f6.t.f1.f5.f5.f3.f5.f5;exact cN (.inl ⟨(z3,(a.f,a.2.1,a.d.1,a.e.1)),f0,d9,n7,rfl,rfl,q.t g6,g,h9.o g6⟩)
  refine .inl ⟨_,rfl,?_⟩;have M:=M.t B;refine⟨bO (aT g M),cO kr (aC (aS 1 [(67,vP bp0 0)] (bD 68 (.agg (Ve y1.1)) g.t.t.h (aA 1 [(69,vS b0 a.1 b8)] (cW 70 hr (u (p0:=(p0.1,p0.2.1,p0.d.1,a.f,a.2.1,a.d.1,a.e.1,p0.k)) (p1:=y1.1) g.f1.f6.f6.f3.f6.f6 (r1.o B) (Y.o B) (r3.o B) (r4.o B) (r5.o B) (h9.o B) (r7.o B) (o3.o B)) ?_)))))⟩;rintro y9 hr _ u3 (⟨z4,k9,k7,n9,rfl,rfl,l7,g,q5⟩|⟨k5,rfl,k8,k6,n8,rfl,l6,g,q0⟩)
  .refine bQ ?_;obtain rfl:=sI hr;have g:=g.f6.t.f6.t.f5.f5.f5.f5.f5.f5;exact cN (.inl ⟨z4,k9,k7,n9,rfl,rfl,(q.t B).t l7,g,q5⟩)
  refine aA 1 [(6,vI k5.2)] (aV ?_);have g:=g.f7.t;refine aC (aM ?_);cases hr;exact aW [6] [vI k5.2] (.inr ⟨_,rfl,k8,k6,n8,rfl,(q.t B).t l6,g.f6.t.f5.f5.f5.f5.f5.f5,q0⟩)
 intro h1;have g:=(g.nilroom 3 1).front5.front5.front4.front4.front7.front7.front7
 refine dJ (fun k1 L' w'=>∃(s1:T3i),∃b7 b9 f9 e0 p,aK (tI N Re p0 p1 p2) k1 s1=some h0/\L'=[(0,vP bp0 0),(4,vP b1 0),(7,vP b3 0),(10,vS b7 s1.1 b9),(32,vS a9 p2.f c9),(33,vI (p2.2.2.2.2.length:Int)),(34,vI s1.2.1)]/\m.le p/\St p (cA o a1 c1 R a2 c2 Z p0.1::dV bp0 o a3 c3 S V p0 s1.d.1 s1.e.1 s1.f.1::kB b3 (Ve y1.1) 66::aD R d3 c0::aD Z d4 d1::aD S f9 e0::aD V d5 d2::kR b7 s1.1 b9 3 1::O) w'/\MRow p b1 0 [vT p1.1.1,vS a4 p1.1.2.1 c4,vS a5 p1.1.d c5,vI p1.2.1.1,vT p1.2.1.2.1,vS a6 p1.2.1.d.1 c6,vS a7 p1.2.1.e c7,vS a8 p1.d c8]/\RepS aH p a4 c4 p1.1.2.1/\RepS C6 p a5 c5 p1.1.d/\RepS aH p a6 c6 p1.2.1.d.1/\RepS C5 p a7 c7 p1.2.1.e/\RepS (aR .i64) p a8 c8 p1.d/\RepS (aR .i64) p b7 b9 s1.1/\RepS (aR .i64) p a9 c9 p2.f/\RepS C1 p a1 c1 p0.1.1/\RepS aH p a2 c2 p0.1.e.1/\RepS C3 p a3 c3 p0.2.1/\MapQ cR C7 true p R d3 c0 p0.1.d.1/\MapQ bA C8 true p Z d4 d1 p0.1.f/\MapQ bA cK false p S f9 e0 s1.h/\MapQ cM eD false p V d5 d2 p0.k) N ⟨(([]:Tb),0,y2.2.1,y2.d.1,y2.e,y2.1),none,0,h7,h6,m5,hr,rfl,((q.t b).t E).t F,g,((d6.o b).o E).o F,((r8.o b).o E).o F,((r9.o b).o E).o F,((((g0.o e1).o e2).o b).o E).o F,((((g1.o e1).o e2).o b).o E).o F,((((g2.o e1).o e2).o b).o E).o F,(RepS.nil _ _),((((g3.o e1).o e2).o b).o E).o F,((r1.o b).o E).o F,((r3.o b).o E).o F,((r5.o b).o E).o F,((Y.o b).o E).o F,((r4.o b).o E).o F,h8.o F,((r7.o b).o E).o F⟩ ?_
 rintro k1 _ t7 ⟨s1,b7,b9,f9,e0,p,hL,rfl,q,g,d6,r8,r9,g0,g1,g2,k0,g3,r1,r3,r5,Y,r4,k2,r7⟩;obtain⟨k1,s9,rfl,hr,l0,g7⟩:=dN hL;refine aI 1 [(35,vB (decide (s1.2.1<(p2.2.2.2.2.length:Int))))] (aF (aJ hr ?_ ?_))<;>intro A hr
 .refine aN (aC (aF (bB (aB (iH 36 g3 hr ?_)))));rintro x1 hr b4 f1 s4 rfl n1;refine iG 37 3 36 f1 (vI x1) g n1 (aG 1 [(12,vI x1)] (aY (aA 2 [(38,vS b7 s1.1 b9),(39,vP bp0 0)] (cI 40 (.agg (iL p1 a4 c4 a5 c5 a6 c6 a7 c7 a8 c8)) g d6 (aA 1 [(41,vI x1)] (cW 42 hr (D (p0:=(p0.1,p0.2.1,p0.d.1,s1.h,s1.d.1,s1.e.1,s1.f.1,p0.k)) (p1:=p1) g.f1.f6.f6.f3.f6.f6 r1 Y r3 r4 r5 k2 r7 r8 r9 g0 g1 g2) ?_))))));rintro y5 hr _ t8 (⟨z2,l9,l5,n5,rfl,rfl,e8,g,o6⟩|⟨y6,rfl,l8,l4,m9,rfl,K,g,o5⟩)
  .refine iO (bQ ?_);have ho:=g7 _ (sI hr);subst ho;have hr:=j1;refine bQ (iO (bQ ?_));obtain rfl:=sI hr;have g:=g.f6.t.f6.t.f5.f5.f5.f5.f5.f5;exact cN (.inl ⟨z2,l9,l5,n5,rfl,rfl,q.t e8,g,o6⟩)
  refine eH 43 3 1 (aR .i64) [y6.2] g fun b5 s7 t9 G g o7=>mL 44 22 22 3 8 38 43 g.f8 (.inl kr) ((k0.o K).o G) o7.src hr fun l1 hr h2 h4 n6 u0 l g o8=>aA 1 [(10,vS h2 l1 h4)] (aV ?_);have g:=g.f1.t;refine bT (aC (aY (aA 2 [(34,vI (wr (s1.2.1+1)))] (aV ?_))));have hL:=l0 _ (sI hr);exact cY ⟨(l1,wr (s1.2.1+1),y6.1.2.1,y6.1.d.1,y6.1.e,y6.1.1),h2,h4,l8,l4,n6,hL,rfl,((q.t K).t G).t l,g.f5.f5.f4.f4.f7.f7.f7,((d6.o K).o G).o l,((r8.o K).o G).o l,((r9.o K).o G).o l,((g0.o K).o G).o l,((g1.o K).o G).o l,((g2.o K).o G).o l,o8,((g3.o K).o G).o l,((r1.o K).o G).o l,((r3.o K).o G).o l,((r5.o K).o G).o l,((Y.o K).o G).o l,((r4.o K).o G).o l,(o5.o G).o l,((r7.o K).o G).o l⟩
 refine cT (bG ?_);have ho:=g7 _ (sI hr);have g:=g.f7.f7.f7.f7.f7.f7.f7.f7;exact bG (xE (h1 _ _ ⟨(s1.1,s1.d.1,s1.e.1,s1.f.1,s1.h),b7,b9,f9,e0,p,ho,rfl,q,g,k0,r1,r3,r5,Y,r4,k2,r7⟩))
theorem qGx{Re Rf Rg Rh Ri Rj}(b:BI Re)(d6:AV Rf)(d8:BG Rg)(d4:AR Rh)(d5:AT Ri)(d9:BF Rj){p0:cS}{p1:dS}{p2:eC}{H U b7 Z V b8 b0 R f9 f7 Y b9 b5 r}(g:St m (aD U b7 Z::aD V b8 b0::cA H a1 c1 U a2 c2 V p0.1::aD R f9 f7::aD Y b9 b5::lT bp0 H a3 c3 R Y p0::O) w)(z:RepS C1 m a1 c1 p0.1.1)(B:MapQ cR C7 true m U b7 Z p0.1.d.1)(D:RepS aH m a2 c2 p0.1.e.1)(E:MapQ bA C8 true m V b8 b0 p0.1.f)(F:RepS C3 m a3 c3 p0.2.1)(r6:MapQ bA cK false m R f9 f7 p0.e.1)(G:MapQ cM eD false m Y b9 b5 p0.k)(r8:RepS aH m a4 c4 p1.1.2.1)(r9:RepS C6 m a5 c5 p1.1.d)(g2:RepS aH m a6 c6 p1.2.1.d.1)(g3:RepS C5 m a7 c7 p1.2.1.e)(g4:RepS (aR .i64) m a8 c8 p1.d)(e0:RepS (aR .i64) m a9 c9 p2.f)(hr:wW N Re Rf Rg Rh Ri Rj p0 p1 p2=some r):Calls prog 53 #[vP bp0 0,.agg (iL p1 a4 c4 a5 c5 a6 c6 a7 c7 a8 c8),.agg (Va p2 a9 c9)] w fun e w'=>(∃(z0:mV),∃f0 f6 m',r= .inl z0/\nF 161 m m' e z0.1 (aD U b7 Z::aD V b8 b0::cA H a1 c1 U a2 c2 V p0.1::aD R f0 f6::aD Y b9 b5::dV bp0 H a3 c3 R Y p0 z0.d.1 z0.e.1 z0.f::O) w' (MapQ bA cK false m' R f0 f6 z0.2.1))\/(∃(y0:mW),r= .inr y0/\∃f0 f6 m',bW m m' e (vI y0.2) (aD U b7 Z::aD V b8 b0::cA H a1 c1 U a2 c2 V p0.1::aD R f0 f6::aD Y b9 b5::dV bp0 H a3 c3 R Y p0 y0.1.2.1 y0.1.d.1 y0.1.e::O) w' (MapQ bA cK false m' R f0 f6 y0.1.1)):=by
 refine bP g func53 rfl ntmps53 fun q=>aB (dY 4 146 (.agg (iL p1 a4 c4 a5 c5 a6 c6 a7 c7 a8 c8)) g fun b1 m1 w1 u g g0=>dY 5 148 (.agg (Va p2 a9 c9)) g fun b2 m2 w2 p g d1=> ?_);have q:=(q.t u).t p;have B:=(B.o u).o p;have E:=(E.o u).o p;have z:=(z.o u).o p;have D:=(D.o u).o p;have G:=(G.o u).o p;have F:=(F.o u).o p;refine aG 1 [] (aF (dO [(8,fun w'=>Inv m2 w'/\True)] kr g fun w3 _ g=> ?_));have d2:=m2.le_refl;refine tA g d2 (bL 0 10 (vP bp0 0) (eE 1 11 (.agg (iL p1 a4 c4 a5 c5 a6 c6 a7 c7 a8 c8)) (g0.o p) (bL 2 12 (vP b2 4) (eE 3 13 (vS a9 p2.f c9) (d1.drop 4) ?_))));have⟨x1,h1,hr⟩:=aX hr;refine oI (t:=22) (e:=3) (x:=(.tmp 13)) (y:=(.const (vI 0))) 4 14 (aR .i64) kr rfl kr (.head _) (cP mJ) (ev (vS a9 p2.f c9)) (ev (vI 0)) kr ((e0.o u).o p) h1 ?_;rintro b3 f1 k3 rfl g9;refine eE 5 15 (vI x1) g9 ?_;have g:=g.f5.f5.f5.f5.f5.f5;have⟨y1,h2,hr⟩:=aX hr;refine aZ 6 kr (qX 16 82 #[vP bp0 0,.agg (iL p1 a4 c4 a5 c5 a6 c6 a7 c7 a8 c8),vI x1] kr rfl ((b (p0:=p0) (p1:=p1) g z B D E F ((r6.o u).o p) G ((r8.o u).o p) ((r9.o u).o p) ((g2.o u).o p) ((g3.o u).o p) ((g4.o u).o p) h2).mono ?_));rintro _ w4 (⟨z1,g7,g5,m4,rfl,rfl,e4,g,k0⟩|⟨l,rfl,k5,k2,m3,rfl,o,g,h9⟩)
 .refine .inr ⟨_,rfl,?_⟩;have d2:=d2.t e4;refine bQ ?_;obtain rfl:=sI hr;have g:=g.f5.f5.f5.f5.f5.f5;exact cN (.inl ⟨z1,g7,g5,m4,rfl,rfl,q.t e4,g,k0⟩)
 refine .inl ⟨_,rfl,?_⟩;have e0:=((e0.o u).o p).o o;have d2:=d2.t o;refine tA g d2 (bL 7 7 (vI l.2) (cO kr (aC (aF (dO [(8,fun w'=>Inv m3 w'/\True)] kr g fun w6 _ g=> ?_)))));have d3:=m3.le_refl;refine tA g d3 (bL 0 17 (vP bp0 0) (eE 1 18 (.agg (iL p1 a4 c4 a5 c5 a6 c6 a7 c7 a8 c8)) ((g0.o p).o o) (bL 2 19 (vP b2 4) (eE 3 20 (vS a9 p2.f c9) ((d1.o o).drop 4) ?_))));have⟨x2,h3,hr⟩:=aX hr;refine oI (t:=22) (e:=3) (x:=(.tmp 20)) (y:=(.const (vI 1))) 4 21 (aR .i64) kr rfl kr (.head _) (cP mJ) (ev (vS a9 p2.f c9)) (ev (vI 1)) kr e0 h3 ?_;rintro b4 f2 k4 rfl h0;refine eE 5 22 (vI x2) h0 ?_;have g:=g.f5.f5.f5.f5.f5.f5;have⟨y3,h4,hr⟩:=aX hr;refine aZ 6 kr (qX 23 82 #[vP bp0 0,.agg (iL p1 a4 c4 a5 c5 a6 c6 a7 c7 a8 c8),vI x2] kr rfl ((b (p0:=(p0.1,p0.2.1,p0.d.1,l.1.1,l.1.2.1,l.1.d.1,l.1.e,p0.k)) (p1:=p1) g (z.o o) (B.o o) (D.o o) (E.o o) (F.o o) h9 (G.o o) (((r8.o u).o p).o o) (((r9.o u).o p).o o) (((g2.o u).o p).o o) (((g3.o u).o p).o o) (((g4.o u).o p).o o) h4).mono ?_));rintro _ w7 (⟨z2,g8,g6,m6,rfl,rfl,e6,g,k1⟩|⟨a,rfl,c0,b6,m5,rfl,e5,g,c⟩)
 .refine .inr ⟨_,rfl,?_⟩;have d3:=d3.t e6;refine bQ ?_;obtain rfl:=sI hr;have g:=g.f5.f5.f5.f5.f5.f5;exact cN (.inl ⟨z2,g8,g6,m6,rfl,rfl,(q.t o).t e6,g,k1⟩)
 refine .inl ⟨_,rfl,?_⟩;have q:=(q.t o).t e5;have d1:=(d1.o o).o e5;have B:=(B.o o).o e5;have E:=(E.o o).o e5;have z:=(z.o o).o e5;have D:=(D.o o).o e5;have G:=(G.o o).o e5;have F:=(F.o o).o e5;have d3:=d3.t e5;refine tA g d3 (bL 7 8 (vI a.2) (cO kr (aC (aI 1 [] (aF (aS 1 [(24,vP b2 2)] (cI 25 (vI p2.d.1) g (d1.drop 2) (aQ ?_))))))));have⟨h8,hr,j1⟩:=aX hr;refine dW .normal (fun L' w'=>∃(o1:Int),∃m7,(.inl o1:Int⊕uA)=h8/\L'=[(9,vI o1)]/\m.le m7/\St m7 (cA H a1 c1 U a2 c2 V p0.1::dV bp0 H a3 c3 R Y p0 a.1.2.1 a.1.d.1 a.1.e::aD U b7 Z::aD V b8 b0::aD R c0 b6::aD Y b9 b5::O) w'/\RepS C1 m7 a1 c1 p0.1.1/\RepS aH m7 a2 c2 p0.1.e.1/\RepS C3 m7 a3 c3 p0.2.1/\MapQ cR C7 true m7 U b7 Z p0.1.d.1/\MapQ bA C8 true m7 V b8 b0 p0.1.f/\MapQ bA cK false m7 R c0 b6 a.1.1/\MapQ cM eD false m7 Y b9 b5 p0.k) ?_ ?_
 .rintro _ w9 ⟨o1,m7,rfl,rfl,q,g,z,D,F,B,E,c,G⟩;have hr:=j1;refine aC (aS 1 [(81,vI o1)] (aL 82 hr (PV g) ?_));rintro h5 hr _ h7 ⟨h6,rfl,M,g⟩;refine aA 1 [(83,vB (!h5))] (cW 84 hr (vO g) ?_);rintro k7 hr _ k6 (⟨z5,g1,rfl,rfl,d7,g⟩|⟨k8,rfl,f8,rfl,S,g⟩)
  .refine bQ ?_;obtain rfl:=sI hr;have g:=g.f1.f5.f5.f3.f5.f5;exact cN (.inl ⟨(z5,a.1),c0,b6,g1,rfl,rfl,(q.t M).t d7,g,(c.o M).o d7⟩)
  refine aQ (aB (aG 2 [(6,vI o1)] (aM ?_)));obtain rfl:=sI hr;exact aW [6] [vI o1] (.inr ⟨_,rfl,c0,b6,f8,rfl,(q.t M).t S,g.f1.f5.f5.f3.f5.f5,(c.o M).o S⟩)
 intro d7;refine bB (aI 2 [(30,vB (p2.d.1==1))] (aJ hr ?_ ?_))<;>intro A hr
 .refine aY (aA 4 [(9,vI (wr (l.2+a.2)))] (aV (bT ?_)));have n1:=jD hr;exact xE (d7 _ _ ⟨wr (l.2+a.2),m5,n1,rfl,q,g.f4.f4.f3.f3.f5.f5,z,D,F,B,E,c,G⟩)
 refine aI 2 [(35,vB (p2.d.1==2))] (aJ hr ?_ ?_)<;>intro A hr
 .refine aY (aA 4 [(9,vI (wr (l.2-a.2)))] (aV (bT ?_)));have n1:=jD hr;exact xE (d7 _ _ ⟨wr (l.2-a.2),m5,n1,rfl,q,g.f4.f4.f3.f3.f5.f5,z,D,F,B,E,c,G⟩)
 refine aI 2 [(40,vB (p2.d.1==3))] (aJ hr ?_ ?_)<;>intro A hr
 .refine aB (eV 14 hr (fun o2 L' w'=>∃M,L'=[(7,vI l.2),(8,vI a.2),(55,vB o2)]/\m.le M/\St M (cA H a1 c1 U a2 c2 V p0.1::dV bp0 H a3 c3 R Y p0 a.1.2.1 a.1.d.1 a.1.e::aD U b7 Z::aD V b8 b0::aD R c0 b6::aD Y b9 b5::O) w'/\RepS C1 M a1 c1 p0.1.1/\RepS aH M a2 c2 p0.1.e.1/\RepS C3 M a3 c3 p0.2.1/\MapQ cR C7 true M U b7 Z p0.1.d.1/\MapQ bA C8 true M V b8 b0 p0.1.f/\MapQ bA cK false M R c0 b6 a.1.1/\MapQ cM eD false M Y b9 b5 p0.k) ?_ ?_)
  .rintro o2 hr _ g1 ⟨M,rfl,q,g,z,D,F,B,E,c,G⟩;refine cW 56 hr (vO g) ?_;rintro y5 hr _ h5 (⟨z3,f8,rfl,rfl,e8,g⟩|⟨y6,rfl,m9,rfl,S,g⟩)
   .refine bQ (iO ?_);obtain rfl:=sI hr;have hr:=j1;refine bQ ?_;obtain rfl:=sI hr;have g:=g.f1.f5.f5.f3.f5.f5;exact cN (.inl ⟨(z3,a.1),c0,b6,f8,rfl,rfl,q.t e8,g,c.o e8⟩)
   refine aQ (aY (aA 4 [(9,vI (wr (l.2*a.2)))] (aV (bT ?_))));have n1:=jD hr;exact xE (d7 _ _ ⟨wr (l.2*a.2),m9,n1,rfl,q.t S,g.f5.f5.f5.f5.f5.f5,z.o S,D.o S,F.o S,B.o S,E.o S,c.o S,G.o S⟩)
  intro o2 hr K;refine aA 3 [(44,vB (a.2 !=0))] (cQ 44 hr ?_ ?_)<;>intro A hr
  .refine aA 8 [(48,vI (if(wr (0-l.2))>l.2 then(wr (0-l.2)) else l.2)),(52,vI (if(wr (0-a.2))>a.2 then(wr (0-a.2)) else a.2))] ?_;have⟨i1,S,hr⟩:=aX hr;exact bU (qEe (d:=53) (t:=3) (t2:=3) (x:=(.const (vI 9007199254740992))) (y:=(.tmp 52)) kr rfl (ev (vI 9007199254740992)) (ev (vI (if(wr (0-a.2))>a.2 then(wr (0-a.2)) else a.2))) S (aA 2 [(55,vB (decide ((if(wr (0-l.2))>l.2 then(wr (0-l.2)) else l.2)>i1)))] (bJ (K hr ⟨m5,rfl,q,g.f4.f4.f3.f3.f5.f5,z,D,F,B,E,c,G⟩))))
  exact aA 11 [(55,vB false)] (bJ (K hr ⟨m5,rfl,q,g.f4.f4.f3.f3.f5.f5,z,D,F,B,E,c,G⟩))
 refine aF (aI 2 [(60,vB (p2.d.1==4))] (cJ .normal hr (fun o3 L' w'=>∃M,L'=[(5,vP b2 0),(7,vI l.2),(8,vI a.2),(25,vI p2.d.1),(60,vB o3)]/\m.le M/\St M (cA H a1 c1 U a2 c2 V p0.1::dV bp0 H a3 c3 R Y p0 a.1.2.1 a.1.d.1 a.1.e::aD U b7 Z::aD V b8 b0::aD R c0 b6::aD Y b9 b5::O) w'/\MRow M b2 0 (Vb p2 a9 c9)/\RepS (aR .i64) M a9 c9 p2.f/\RepS C1 M a1 c1 p0.1.1/\RepS aH M a2 c2 p0.1.e.1/\RepS C3 M a3 c3 p0.2.1/\MapQ cR C7 true M U b7 Z p0.1.d.1/\MapQ bA C8 true M V b8 b0 p0.1.f/\MapQ bA cK false M R c0 b6 a.1.1/\MapQ cM eD false M Y b9 b5 p0.k) ?_ ?_))
 .rintro o3 hr _ k6 ⟨M,rfl,q,g,d1,e0,z,D,F,B,E,c,G⟩;refine aC (aJ hr ?_ ?_)<;>intro A hr
  .refine aS 2 [(64,vB (a.2==0))] (cW 65 hr (vO g) ?_);rintro y7 hr _ k7 (⟨z4,h7,rfl,rfl,f8,g⟩|⟨y8,rfl,g1,rfl,S,g⟩)
   .refine bQ (iO ?_);obtain rfl:=sI hr;have hr:=j1;refine bQ ?_;obtain rfl:=sI hr;have g:=g.f1.f5.f5.f3.f5.f5;exact cN (.inl ⟨(z4,a.1),c0,b6,h7,rfl,rfl,q.t f8,g,c.o f8⟩)
   refine aQ (aB (aA 2 [(66,vI l.2),(67,vI a.2)] ?_));have⟨i2,h5,hr⟩:=aX hr;refine bU (qEe (d:=68) (t:=3) (t2:=3) (x:=(.tmp 66)) (y:=(.tmp 67)) kr rfl (ev (vI l.2)) (ev (vI a.2)) h5 (aG 1 [(9,vI i2)] (aB (aA 1 [(69,vP b2 2)] (cI 70 (vI p2.d.1) g ((d1.o S).drop 2) (aG 1 [(71,vB (p2.d.1==5))] (aJ hr ?_ ?_)))))))<;>intro A hr
   .refine aY (aA 2 [(72,vI l.2),(73,vI a.2)] ?_);have⟨i3,h6,hr⟩:=aX hr;refine bU (qDz (d:=74) (t:=3) (t2:=3) (x:=(.tmp 72)) (y:=(.tmp 73)) kr rfl (ev (vI l.2)) (ev (vI a.2)) h6 (aA 1 [(9,vI i3)] (aV (bT ?_))));have n1:=jD hr;exact xE (d7 _ _ ⟨i3,g1,n1,rfl,q.t S,g.f5.f5.f5.f5.f5.f5,z.o S,D.o S,F.o S,B.o S,E.o S,c.o S,G.o S⟩)
   refine aN (bT ?_);have n1:=jD hr;exact xE (d7 _ _ ⟨i2,g1,n1,rfl,q.t S,g.f5.f5.f5.f5.f5.f5,z.o S,D.o S,F.o S,B.o S,E.o S,c.o S,G.o S⟩)
  refine aI 2 [(75,vB (p2.d.1==6))] (aJ hr ?_ ?_)<;>intro A hr
  .refine aY (aA 3 [(79,vB (decide (l.2<a.2)))] (aL 80 hr (QA g) ?_));rintro y9 hr _ g1 ⟨f8,rfl,S,g⟩;refine aA 1 [(9,vI y9)] (aV (bT ?_));have n1:=jD hr;exact xE (d7 _ _ ⟨y9,f8,n1,rfl,q.t S,g.f5.f5.f5.f5.f5.f5,z.o S,D.o S,F.o S,B.o S,E.o S,c.o S,G.o S⟩)
  refine aY (aA 3 [(28,vB (l.2==a.2))] (aL 29 hr (QA g) ?_));rintro f8 hr _ h5 ⟨g1,rfl,S,g⟩;refine aA 1 [(9,vI f8)] (aV (bT ?_));have n1:=jD hr;exact xE (d7 _ _ ⟨f8,g1,n1,rfl,q.t S,g.f5.f5.f5.f5.f5.f5,z.o S,D.o S,F.o S,B.o S,E.o S,c.o S,G.o S⟩)
 intro o3 hr S;refine aJ hr ?_ ?_<;>intro A hr
 .exact aN (xE (S hr ⟨m5,rfl,q,g.f4.f4.f3.f3.f5.f5,d1,e0.o e5,z,D,F,B,E,c,G⟩))
 exact aY (aA 2 [(60,vB (p2.d.1==5))] (aV (xE (S hr ⟨m5,rfl,q,g.f4.f4.f3.f3.f5.f5,d1,e0.o e5,z,D,F,B,E,c,G⟩))))
theorem qGw{Re Rf Rg Rh Ri Rj}(a:BI Re)(B:AV Rf)(D:BG Rg)(u:AR Rh)(z:AT Ri)(E:BF Rj){p0:cS}{p1:dS}{p2:eC}{F Z b8 b0 q2 b9 b6 G d3 d2 q4 c0 b7 r}(g:St m (aD Z b8 b0::aD q2 b9 b6::cA F a1 c1 Z a2 c2 q2 p0.1::aD G d3 d2::aD q4 c0 b7::lT bp0 F a3 c3 G q4 p0::O) w)(r1:RepS C1 m a1 c1 p0.1.1)(r2:MapQ cR C7 true m Z b8 b0 p0.1.d.1)(r3:RepS aH m a2 c2 p0.1.e.1)(r4:MapQ bA C8 true m q2 b9 b6 p0.1.f)(r5:RepS C3 m a3 c3 p0.2.1)(r6:MapQ bA cK false m G d3 d2 p0.e.1)(r7:MapQ cM eD false m q4 c0 b7 p0.k)(r8:RepS aH m a4 c4 p1.1.2.1)(r9:RepS C6 m a5 c5 p1.1.d)(M:RepS aH m a6 c6 p1.2.1.d.1)(R:RepS C5 m a7 c7 p1.2.1.e)(S:RepS (aR .i64) m a8 c8 p1.d)(U:RepS (aR .i64) m a9 c9 p2.f)(hr:AZ N Re Rf Rg Rh Ri Rj p0 p1 p2=some r):Calls prog 54 #[vP bp0 0,.agg (iL p1 a4 c4 a5 c5 a6 c6 a7 c7 a8 c8),.agg (Va p2 a9 c9)] w fun e w'=>(∃(z0:mV),∃V Y m',r= .inl z0/\nF 161 m m' e z0.1 (aD Z b8 b0::aD q2 b9 b6::cA F a1 c1 Z a2 c2 q2 p0.1::aD G V Y::aD q4 c0 b7::dV bp0 F a3 c3 G q4 p0 z0.d.1 z0.e.1 z0.f::O) w' (MapQ bA cK false m' G V Y z0.2.1))\/(∃(y0:mW),r= .inr y0/\∃V Y m',bW m m' e (vI y0.2) (aD Z b8 b0::aD q2 b9 b6::cA F a1 c1 Z a2 c2 q2 p0.1::aD G V Y::aD q4 c0 b7::dV bp0 F a3 c3 G q4 p0 y0.1.2.1 y0.1.d.1 y0.1.e::O) w' (MapQ bA cK false m' G V Y y0.1.1)):=by
 refine bP g func54 rfl ntmps54 fun q=>aB (dY 4 146 (.agg (iL p1 a4 c4 a5 c5 a6 c6 a7 c7 a8 c8)) g fun b1 m1 w1 l g K=>dY 5 148 (.agg (Va p2 a9 c9)) g fun b2 m2 w2 c g d1=> ?_);have r8:=(r8.o l).o c;have r9:=(r9.o l).o c;have M:=(M.o l).o c;have R:=(R.o l).o c;have S:=(S.o l).o c;have U:=(U.o l).o c;have K:=K.o c;have r2:=(r2.o l).o c;have r4:=(r4.o l).o c;have r1:=(r1.o l).o c;have r3:=(r3.o l).o c;have r7:=(r7.o l).o c;have r5:=(r5.o l).o c;refine aG 1 [] (aF (aF (dO [(8,fun w'=>Inv m2 w'/\True)] kr g fun w3 _ g=> ?_)));have o:=m2.le_refl;refine tA g o (bL 0 7 (vP bp0 0) (eE 1 8 (.agg (iL p1 a4 c4 a5 c5 a6 c6 a7 c7 a8 c8)) K (bL 2 9 (vP b2 4) (eE 3 10 (vS a9 p2.f c9) (d1.drop 4) ?_))));have⟨x1,f4,hr⟩:=aX hr;refine oI (t:=22) (e:=3) (x:=(.tmp 10)) (y:=(.const (vI 0))) 4 11 (aR .i64) kr rfl kr (.head _) (cP (cP mJ)) (ev (vS a9 p2.f c9)) (ev (vI 0)) kr U f4 ?_;rintro b3 f1 g3 rfl e9;refine eE 5 12 (vI x1) e9 ?_;have g:=g.f5.f5.f5.f5.f5.f5;have⟨y1,f6,hr⟩:=aX hr;refine aZ 6 kr (qX 13 82 #[vP bp0 0,.agg (iL p1 a4 c4 a5 c5 a6 c6 a7 c7 a8 c8),vI x1] kr rfl ((a (p0:=p0) (p1:=p1) g r1 r2 r3 r4 r5 ((r6.o l).o c) r7 r8 r9 M R S f6).mono ?_));rintro _ w4 (⟨z1,d9,d7,m4,rfl,rfl,e4,g,f9⟩|⟨H,rfl,g5,g2,m3,rfl,b,g,d4⟩)
 .refine .inr ⟨_,rfl,?_⟩;have o:=o.t e4;refine bQ (bQ ?_);obtain rfl:=sI hr;have g:=g.f5.f5.f5.f5.f5.f5;exact cN (.inl ⟨z1,d9,d7,m4,rfl,rfl,((q.t l).t c).t e4,g,f9⟩)
 refine .inl ⟨_,rfl,?_⟩;have q:=((q.t l).t c).t b;have o:=o.t b;refine tA g o (bL 7 14 (vB (H.2 !=0)) (cO kr (aC (aJ hr ?_ ?_))))<;>intro A hr
 .refine aF (dO [(8,fun w'=>Inv m3 w'/\True)] kr g fun w6 _ g=> ?_);have p:=m3.le_refl;refine tA g p (bL 0 15 (vP bp0 0) (eE 1 16 (.agg (iL p1 a4 c4 a5 c5 a6 c6 a7 c7 a8 c8)) (K.o b) (bL 2 17 (vP b2 4) (eE 3 18 (vS a9 p2.f c9) ((d1.o b).drop 4) ?_))));have⟨x2,f7,hr⟩:=aX hr;refine oI (t:=22) (e:=3) (x:=(.tmp 18)) (y:=(.const (vI 1))) 4 19 (aR .i64) kr rfl kr (.head _) (cP (cP mJ)) (ev (vS a9 p2.f c9)) (ev (vI 1)) kr (U.o b) f7 ?_;rintro b4 f2 g4 rfl f0;refine eE 5 20 (vI x2) f0 ?_;have g:=g.f5.f5.f5.f5.f5.f5;have⟨y3,f8,hr⟩:=aX hr;refine aZ 6 kr (qX 21 82 #[vP bp0 0,.agg (iL p1 a4 c4 a5 c5 a6 c6 a7 c7 a8 c8),vI x2] kr rfl ((a (p0:=(p0.1,p0.2.1,p0.d.1,H.1.1,H.1.2.1,H.1.d.1,H.1.e,p0.k)) (p1:=p1) g (r1.o b) (r2.o b) (r3.o b) (r4.o b) (r5.o b) d4 (r7.o b) (r8.o b) (r9.o b) (M.o b) (R.o b) (S.o b) f8).mono ?_));rintro _ w7 (⟨z2,e0,d6,m6,rfl,rfl,e6,g,g1⟩|⟨y4,rfl,d8,d5,m5,rfl,e5,g,g0⟩)
  .refine .inr ⟨_,rfl,?_⟩;have p:=p.t e6;refine bQ (bQ ?_);obtain rfl:=sI hr;have g:=g.f5.f5.f5.f5.f5.f5;exact cN (.inl ⟨z2,e0,d6,m6,rfl,rfl,q.t e6,g,g1⟩)
  refine .inl ⟨_,rfl,?_⟩;have p:=p.t e5;refine tA g p (bL 7 6 (vI y4.2) (cO kr (aC (aM (aU ?_)))));cases hr;exact aW [6] [vI y4.2] (.inr ⟨_,rfl,d8,d5,m5,rfl,q.t e5,g.f5.f5.f5.f5.f5.f5,g0⟩)
 refine aN (aC (aF (dO [(8,fun w'=>Inv m3 w'/\True)] kr g fun w9 _ g=> ?_)));have p:=m3.le_refl;refine tA g p (bL 0 22 (vP bp0 0) (eE 1 23 (.agg (iL p1 a4 c4 a5 c5 a6 c6 a7 c7 a8 c8)) (K.o b) (bL 2 24 (vP b2 4) (eE 3 25 (vS a9 p2.f c9) ((d1.o b).drop 4) ?_))));have⟨x3,f7,hr⟩:=aX hr;refine oI (t:=22) (e:=3) (x:=(.tmp 25)) (y:=(.const (vI 2))) 4 26 (aR .i64) kr rfl kr (.head _) (cP mJ) (ev (vS a9 p2.f c9)) (ev (vI 2)) kr (U.o b) f7 ?_;rintro b5 f3 g4 rfl f0;refine eE 5 27 (vI x3) f0 ?_;have g:=g.f5.f5.f5.f5.f5.f5;have⟨y5,f8,hr⟩:=aX hr;refine aZ 6 kr (qX 28 82 #[vP bp0 0,.agg (iL p1 a4 c4 a5 c5 a6 c6 a7 c7 a8 c8),vI x3] kr rfl ((a (p0:=(p0.1,p0.2.1,p0.d.1,H.1.1,H.1.2.1,H.1.d.1,H.1.e,p0.k)) (p1:=p1) g (r1.o b) (r2.o b) (r3.o b) (r4.o b) (r5.o b) d4 (r7.o b) (r8.o b) (r9.o b) (M.o b) (R.o b) (S.o b) f8).mono ?_));rintro _ g6 (⟨z3,d6,d5,m8,rfl,rfl,e8,g,g1⟩|⟨y6,rfl,e0,d8,m7,rfl,e7,g,g0⟩)
 .refine .inr ⟨_,rfl,?_⟩;have p:=p.t e8;refine bQ ?_;obtain rfl:=sI hr;have g:=g.f5.f5.f5.f5.f5.f5;exact cN (.inl ⟨z3,d6,d5,m8,rfl,rfl,q.t e8,g,g1⟩)
 refine .inl ⟨_,rfl,?_⟩;have p:=p.t e7;refine tA g p (bL 7 6 (vI y6.2) (cO kr (aC (aM ?_))));cases hr;exact aW [6] [vI y6.2] (.inr ⟨_,rfl,e0,d8,m7,rfl,q.t e7,g.f5.f5.f5.f5.f5.f5,g0⟩)
theorem qHf{Re Rf Rg Rh Ri Rj}(l:BI Re)(c:AV Rf)(b5:BG Rg)(Z:AR Rh)(b0:AT Ri)(b6:BF Rj){p0:cS}{p1:dS}{p2:eC}{z F U M G V R D f7 f0 H Y S r}(g:St m (aD F U M::aD G V R::cA z a1 c1 F a2 c2 G p0.1::aD D f7 f0::aD H Y S::lT bp0 z a3 c3 D H p0::O) w)(r1:RepS C1 m a1 c1 p0.1.1)(r2:MapQ cR C7 true m F U M p0.1.d.1)(r3:RepS aH m a2 c2 p0.1.e.1)(r4:MapQ bA C8 true m G V R p0.1.f)(r5:RepS C3 m a3 c3 p0.2.1)(r6:MapQ bA cK false m D f7 f0 p0.e.1)(r7:MapQ cM eD false m H Y S p0.k)(r8:RepS aH m a4 c4 p1.1.2.1)(r9:RepS C6 m a5 c5 p1.1.d)(d5:RepS aH m a6 c6 p1.2.1.d.1)(d6:RepS C5 m a7 c7 p1.2.1.e)(d7:RepS (aR .i64) m a8 c8 p1.d)(d8:RepS (aR .i64) m a9 c9 p2.f)(hr:KW N Re Rf Rg Rh Ri Rj p0 p1 p2=some r):Calls prog 55 #[vP bp0 0,.agg (iL p1 a4 c4 a5 c5 a6 c6 a7 c7 a8 c8),.agg (Va p2 a9 c9)] w fun e w'=>(∃(z0:mV),∃c0 d1 m',r= .inl z0/\nF 161 m m' e z0.1 (aD F U M::aD G V R::cA z a1 c1 F a2 c2 G p0.1::aD D c0 d1::aD H Y S::dV bp0 z a3 c3 D H p0 z0.d.1 z0.e.1 z0.f::O) w' (MapQ bA cK false m' D c0 d1 z0.2.1))\/(∃(y0:mW),r= .inr y0/\∃c0 d1 m',bW m m' e (vI y0.2) (aD F U M::aD G V R::cA z a1 c1 F a2 c2 G p0.1::aD D c0 d1::aD H Y S::dV bp0 z a3 c3 D H p0 y0.1.2.1 y0.1.d.1 y0.1.e::O) w' (MapQ bA cK false m' D c0 d1 y0.1.1)):=by
 refine bP g func55 rfl ntmps55 fun q=>aB (dY 4 146 (.agg (iL p1 a4 c4 a5 c5 a6 c6 a7 c7 a8 c8)) g fun b1 m1 w1 p g d4=>dY 5 148 (.agg (Va p2 a9 c9)) g fun b2 m2 w2 o g b8=> ?_);have r2:=(r2.o p).o o;have r4:=(r4.o p).o o;have r1:=(r1.o p).o o;have r3:=(r3.o p).o o;have r7:=(r7.o p).o o;have r5:=(r5.o p).o o;refine aG 1 [] (aB (aA 2 [(14,vP bp0 0),(15,vP b2 3)] (cI 16 (vT p2.e.1) g (b8.drop 3) (aL 17 hr (PF (p0:=p0) g.f5.f5.f5.f5.f5.f5 r1 r2 r3 r4 r5 ((r6.o p).o o) r7) ?_))));rintro y1 hr _ w3 ⟨e0,d9,m3,rfl,b,g,b9⟩;have q:=((q.t p).t o).t b;refine aA 5 [(18,vB y1.2.1),(19,.agg (Ve y1.d.1)),(20,vT y1.e.1),(21,vI y1.f)] (bX 8 66 (.agg dX) g fun b3 w4 g=>aA 1 [(7,vB y1.2.1)] (bF (.agg (Ve y1.d.1)) g fun w5 g=>aG 2 [(9,vT y1.e.1),(10,vI y1.f)] (aB (aA 1 [(22,vI y1.f)] (cW 23 hr (MH g) ?_)))));rintro y2 hr _ w6 (⟨z1,m5,rfl,rfl,e5,g⟩|⟨y3,rfl,m4,rfl,a,g⟩)
 .refine bQ ?_;obtain rfl:=sI hr;have g:=g.t.f5.f5.f5.f5.f5.f5;exact cN (.inl ⟨(z1,y1.1),e0,d9,m5,rfl,rfl,q.t e5,g,b9.o e5⟩)
 refine aQ (aB (aG 3 [(11,vI (y1.2.2.2.1.size:Int))] (aF (aI 1 [(26,vB y1.2.1)] (cJ .normal hr (fun o1 L' w'=>∃u,L'=[(0,vP bp0 0),(4,vP b1 0),(5,vP b2 0),(7,vB y1.2.1),(8,vP b3 0),(9,vT y1.e.1),(11,vI o1)]/\m.le u/\St u (kB b3 (Ve y1.d.1) 66::cA z a1 c1 F a2 c2 G p0.1::dV bp0 z a3 c3 D H p0 y1.1.2.1 y1.1.d.1 y1.1.e::aD F U M::aD G V R::aD D e0 d9::aD H Y S::O) w'/\MRow u b1 0 [vT p1.1.1,vS a4 p1.1.2.1 c4,vS a5 p1.1.d c5,vI p1.2.1.1,vT p1.2.1.2.1,vS a6 p1.2.1.d.1 c6,vS a7 p1.2.1.e c7,vS a8 p1.d c8]/\RepS aH u a4 c4 p1.1.2.1/\RepS C6 u a5 c5 p1.1.d/\RepS aH u a6 c6 p1.2.1.d.1/\RepS C5 u a7 c7 p1.2.1.e/\RepS (aR .i64) u a8 c8 p1.d/\MRow u b2 0 (Vb p2 a9 c9)/\RepS (aR .i64) u a9 c9 p2.f/\RepS C1 u a1 c1 p0.1.1/\RepS aH u a2 c2 p0.1.e.1/\RepS C3 u a3 c3 p0.2.1/\MapQ cR C7 true u F U M p0.1.d.1/\MapQ bA C8 true u G V R p0.1.f/\MapQ bA cK false u D e0 d9 y1.1.1/\MapQ cM eD false u H Y S p0.k) ?_ ?_)))))
 .rintro o1 hr _ w8 ⟨u,rfl,q,g,d4,r8,r9,d5,d6,d7,b8,d8,r1,r3,r5,r2,r4,b9,r7⟩;refine aC (aF (dO [(8,fun w'=>Inv u w'/\True)] kr g fun w9 _ g=> ?_));have E:=u.le_refl;refine tA g E (bL 0 27 (vP bp0 0) (eE 1 28 (.agg (iL p1 a4 c4 a5 c5 a6 c6 a7 c7 a8 c8)) d4 (bL 2 29 (vP b2 4) (eE 3 30 (vS a9 p2.f c9) (b8.drop 4) ?_))));have⟨x1,g7,hr⟩:=aX hr;refine oI (t:=22) (e:=3) (x:=(.tmp 30)) (y:=(.const (vI 0))) 4 31 (aR .i64) kr rfl kr (.head _) (cP mJ) (ev (vS a9 p2.f c9)) (ev (vI 0)) kr d8 g7 ?_;rintro b4 f1 h6 rfl g6;refine eE 5 32 (vI x1) g6 ?_;have g:=g.f2.f6.f6.f4.f6.f6;have⟨y4,g8,hr⟩:=aX hr;refine aZ 6 kr (qX 33 82 #[vP bp0 0,.agg (iL p1 a4 c4 a5 c5 a6 c6 a7 c7 a8 c8),vI x1] kr rfl ((l (p0:=(p0.1,p0.2.1,p0.d.1,y1.1.1,y1.1.2.1,y1.1.d.1,y1.1.e,p0.k)) (p1:=p1) g r1 r2 r3 r4 r5 b9 r7 r8 r9 d5 d6 d7 g8).mono ?_));rintro _ h7 (⟨z2,g3,f8,m8,rfl,rfl,e7,g,h3⟩|⟨y5,rfl,d3,d2,m7,rfl,B,g,b7⟩)
  .refine .inr ⟨_,rfl,?_⟩;have E:=E.t e7;refine bQ ?_;obtain rfl:=sI hr;have g:=g.f6.t.f5.f5.f5.f5.f5.f5;exact cN (.inl ⟨z2,g3,f8,m8,rfl,rfl,q.t e7,g,h3⟩)
  refine .inl ⟨_,rfl,?_⟩;have E:=E.t B;refine tA g E (bL 7 12 (vI y5.2) (cO kr (aC (aB (eV 7 hr (fun o2 L' w'=>∃m9,L'=[(0,vP bp0 0),(7,vB y1.2.1),(8,vP b3 0),(9,vT y1.e.1),(12,vI y5.2),(40,vB o2)]/\m.le m9/\St m9 (cA z a1 c1 F a2 c2 G p0.1::dV bp0 z a3 c3 D H p0 y5.1.2.1 y5.1.d.1 y5.1.e::kB b3 (Ve y1.d.1) 66::aD F U M::aD G V R::aD D d3 d2::aD H Y S::O) w'/\RepS C1 m9 a1 c1 p0.1.1/\RepS aH m9 a2 c2 p0.1.e.1/\RepS C3 m9 a3 c3 p0.2.1/\MapQ cR C7 true m9 F U M p0.1.d.1/\MapQ bA C8 true m9 G V R p0.1.f/\MapQ bA cK false m9 D d3 d2 y5.1.1/\MapQ cM eD false m9 H Y S p0.k) ?_ ?_)))))
  .rintro o2 hr _ h8 ⟨m9,rfl,q,g,r1,r3,r5,r2,r4,b7,r7⟩;refine cW 41 hr (vO g) ?_;rintro y6 hr _ h9 (⟨z3,h0,rfl,rfl,e9,g⟩|⟨y7,rfl,g9,rfl,e8,g⟩)
   .refine bQ ?_;obtain rfl:=sI hr;have g:=g.f2.t.f1.f5.f5.f3.f5.f5;exact cN (.inl ⟨(z3,y5.1),d3,d2,h0,rfl,rfl,q.t e9,g,b7.o e9⟩)
   have q:=q.t e8;refine aQ (aF (aI 2 [(43,vB (!y1.2.1))] (aJ hr ?_ ?_)))<;>intro A hr
   .refine aS 2 [(44,vT y1.e.1),(45,vI y5.2)] (lL 46 hr fun x2 hr=>aG 2 [(6,vI (wr (x2.toNat:Int)))] (aM (aU ?_)));cases hr;exact aW [6] [vI (wr (x2.toNat:Int))] (.inr ⟨_,rfl,d3,d2,g9,rfl,q,g.f2.t.f1.f5.f5.f3.f5.f5,b7.o e8⟩)
   refine aN (aC (aS 1 [(48,vP bp0 0)] (bD 49 (.agg (Ve y1.d.1)) g.t.t.h (cW 50 hr (c (p0:=(p0.1,p0.2.1,p0.d.1,y5.1.1,y5.1.2.1,y5.1.d.1,y5.1.e,p0.k)) (p1:=y1.d.1) g.f1.f6.f6.f3.f6.f6 (r1.o e8) (r2.o e8) (r3.o e8) (r4.o e8) (r5.o e8) (b7.o e8) (r7.o e8) (RepS.nil _ _)) ?_))));rintro y8 hr _ k0 (⟨z4,g5,g0,h2,rfl,rfl,g2,g,h5⟩|⟨y9,rfl,g4,f9,h1,rfl,g1,g,h4⟩)
   .refine bQ ?_;obtain rfl:=sI hr;have g:=g.f6.t.f5.f5.f5.f5.f5.f5;exact cN (.inl ⟨z4,g5,g0,h2,rfl,rfl,q.t g2,g,h5⟩)
   refine aG 4 [(6,vI (Int.tmod (wr ((Int.tmod y9.2 256)+256)) 256))] (aM ?_);cases hr;exact aW [6] [vI (Int.tmod (wr ((Int.tmod y9.2 256)+256)) 256)] (.inr ⟨_,rfl,g4,f9,h1,rfl,q.t g1,g.f6.t.f5.f5.f5.f5.f5.f5,h4⟩)
  intro o2 hr K;refine aA 3 [(36,vB (decide (y5.2<0)))] (cQ 36 hr ?_ ?_)<;>intro A hr
  .exact aA 4 [(40,vB true)] (bJ (K hr ⟨m7,rfl,q.t B,g.f4.f4.f3.f3.f6.f6.f6,r1.o B,r3.o B,r5.o B,r2.o B,r4.o B,b7,r7.o B⟩))
  exact aA 4 [(40,vB (decide (y5.2>=o1)))] (bJ (K hr ⟨m7,rfl,q.t B,g.f4.f4.f3.f3.f6.f6.f6,r1.o B,r3.o B,r5.o B,r2.o B,r4.o B,b7,r7.o B⟩))
 intro o1 hr B;refine aJ hr ?_ ?_<;>intro A hr
 .exact aY (aA 1 [(11,vI 1)] (aV (xE (B hr ⟨m4,rfl,q.t a,g.f5.f5.f4.f4.f6.f6.f6,((d4.o o).o b).o a,(((r8.o p).o o).o b).o a,(((r9.o p).o o).o b).o a,(((d5.o p).o o).o b).o a,(((d6.o p).o o).o b).o a,(((d7.o p).o o).o b).o a,(b8.o b).o a,(((d8.o p).o o).o b).o a,(r1.o b).o a,(r3.o b).o a,(r5.o b).o a,(r2.o b).o a,(r4.o b).o a,b9.o a,(r7.o b).o a⟩))))
 exact aN (xE (B hr ⟨m4,rfl,q.t a,g.f5.f5.f4.f4.f6.f6.f6,((d4.o o).o b).o a,(((r8.o p).o o).o b).o a,(((r9.o p).o o).o b).o a,(((d5.o p).o o).o b).o a,(((d6.o p).o o).o b).o a,(((d7.o p).o o).o b).o a,(b8.o b).o a,(((d8.o p).o o).o b).o a,(r1.o b).o a,(r3.o b).o a,(r5.o b).o a,(r2.o b).o a,(r4.o b).o a,b9.o a,(r7.o b).o a⟩))
theorem lE(N:Nat):∀D:Nat,(∀{m:Mem} {O:List Piece} {w:World} {p0:cS} {p1:dS} {p2:Int} {t:Nat} {a:Nat} {G:Option Addr} {M:Nat} {o:dL} {z:Array MapEntry} {u:Nat} {H:Option Addr} {R:Nat} {p:dL} {A:Array MapEntry} {x:Nat} {K:Option Addr} {S:Nat} {b:dL} {V:Array MapEntry} {U:Nat} {q:dL} {B:Array MapEntry} {y:Nat} {a4:Option Addr} {c4:Nat} {a5:Option Addr} {c5:Nat} {a6:Option Addr} {c6:Nat} {a7:Option Addr} {c7:Nat} {a8:Option Addr} {c8:Nat} {r:uA} (g:St m (aD o z u::aD p A x::cA a G M o H R p p0.1::aD b V U::aD q B y::lT t a K S b q p0::O) w) (r1:RepS C1 m G M p0.1.1) (r2:MapQ cR C7 true m o z u p0.1.d.1) (r3:RepS aH m H R p0.1.e.1) (r4:MapQ bA C8 true m p A x p0.1.f) (r5:RepS C3 m K S p0.2.1) (r6:MapQ bA cK false m b V U p0.e.1) (r7:MapQ cM eD false m q B y p0.k) (r8:RepS aH m a4 c4 p1.1.2.1) (r9:RepS C6 m a5 c5 p1.1.d) (Y:RepS aH m a6 c6 p1.2.1.d.1) (Z:RepS C5 m a7 c7 p1.2.1.e) (b0:RepS (aR .i64) m a8 c8 p1.d) (hr:(iJ N D).1 p0 p1 p2=some r),Calls prog 82 #[vP t 0,.agg (iL p1 a4 c4 a5 c5 a6 c6 a7 c7 a8 c8),vI p2] w fun e w'=>(∃(F:mV),∃c l m',r= .inl F/\nF 161 m m' e F.1 (aD o z u::aD p A x::cA a G M o H R p p0.1::aD b c l::aD q B y::dV t a K S b q p0 F.d.1 F.e.1 F.f::O) w' (MapQ bA cK false m' b c l F.2.1))\/(∃(E:mW),r= .inr E/\∃c l m',bW m m' e (vI E.2) (aD o z u::aD p A x::cA a G M o H R p p0.1::aD b c l::aD q B y::dV t a K S b q p0 E.1.2.1 E.1.d.1 E.1.e::O) w' (MapQ bA cK false m' b c l E.1.1)))/\(∀{m:Mem} {O:List Piece} {w:World} {p0:cS} {p1:iK} {p2:Tb} {t:Nat} {a:Nat} {G:Option Addr} {M:Nat} {o:dL} {z:Array MapEntry} {u:Nat} {H:Option Addr} {R:Nat} {p:dL} {A:Array MapEntry} {x:Nat} {K:Option Addr} {S:Nat} {b:dL} {V:Array MapEntry} {U:Nat} {q:dL} {B:Array MapEntry} {y:Nat} {a4:Option Addr} {c4:Nat} {r:uA} (g:St m (aD o z u::aD p A x::cA a G M o H R p p0.1::aD b V U::aD q B y::lT t a K S b q p0::O) w) (r1:RepS C1 m G M p0.1.1) (r2:MapQ cR C7 true m o z u p0.1.d.1) (r3:RepS aH m H R p0.1.e.1) (r4:MapQ bA C8 true m p A x p0.1.f) (r5:RepS C3 m K S p0.2.1) (r6:MapQ bA cK false m b V U p0.e.1) (r7:MapQ cM eD false m q B y p0.k) (r8:RepS (aR .i64) m a4 c4 p2) (hr:(iJ N D).2.1 p0 p1 p2=some r),Calls prog 84 #[vP t 0,.agg (Ve p1),vS a4 p2 c4] w fun e w'=>(∃(F:mV),∃c l m',r= .inl F/\nF 161 m m' e F.1 (aD o z u::aD p A x::cA a G M o H R p p0.1::aD b c l::aD q B y::dV t a K S b q p0 F.d.1 F.e.1 F.f::O) w' (MapQ bA cK false m' b c l F.2.1))\/(∃(E:mW),r= .inr E/\∃c l m',bW m m' e (vI E.2) (aD o z u::aD p A x::cA a G M o H R p p0.1::aD b c l::aD q B y::dV t a K S b q p0 E.1.2.1 E.1.d.1 E.1.e::O) w' (MapQ bA cK false m' b c l E.1.1)))/\(∀{m:Mem} {O:List Piece} {w:World} {p0:cS} {p1:dS} {p2:eC} {t:Nat} {a:Nat} {G:Option Addr} {M:Nat} {o:dL} {z:Array MapEntry} {u:Nat} {H:Option Addr} {R:Nat} {p:dL} {A:Array MapEntry} {x:Nat} {K:Option Addr} {S:Nat} {b:dL} {V:Array MapEntry} {U:Nat} {q:dL} {B:Array MapEntry} {y:Nat} {a4:Option Addr} {c4:Nat} {a5:Option Addr} {c5:Nat} {a6:Option Addr} {c6:Nat} {a7:Option Addr} {c7:Nat} {a8:Option Addr} {c8:Nat} {a9:Option Addr} {c9:Nat} {r:uA} (g:St m (aD o z u::aD p A x::cA a G M o H R p p0.1::aD b V U::aD q B y::lT t a K S b q p0::O) w) (r1:RepS C1 m G M p0.1.1) (r2:MapQ cR C7 true m o z u p0.1.d.1) (r3:RepS aH m H R p0.1.e.1) (r4:MapQ bA C8 true m p A x p0.1.f) (r5:RepS C3 m K S p0.2.1) (r6:MapQ bA cK false m b V U p0.e.1) (r7:MapQ cM eD false m q B y p0.k) (r8:RepS aH m a4 c4 p1.1.2.1) (r9:RepS C6 m a5 c5 p1.1.d) (Y:RepS aH m a6 c6 p1.2.1.d.1) (Z:RepS C5 m a7 c7 p1.2.1.e) (b0:RepS (aR .i64) m a8 c8 p1.d) (b1:RepS (aR .i64) m a9 c9 p2.f) (hr:(iJ N D).2.2.1 p0 p1 p2=some r),Calls prog 52 #[vP t 0,.agg (iL p1 a4 c4 a5 c5 a6 c6 a7 c7 a8 c8),.agg (Va p2 a9 c9)] w fun e w'=>(∃(F:mV),∃c l m',r= .inl F/\nF 161 m m' e F.1 (aD o z u::aD p A x::cA a G M o H R p p0.1::aD b c l::aD q B y::dV t a K S b q p0 F.d.1 F.e.1 F.f::O) w' (MapQ bA cK false m' b c l F.2.1))\/(∃(E:mW),r= .inr E/\∃c l m',bW m m' e (vI E.2) (aD o z u::aD p A x::cA a G M o H R p p0.1::aD b c l::aD q B y::dV t a K S b q p0 E.1.2.1 E.1.d.1 E.1.e::O) w' (MapQ bA cK false m' b c l E.1.1)))/\(∀{m:Mem} {O:List Piece} {w:World} {p0:cS} {p1:dS} {p2:eC} {t:Nat} {a:Nat} {G:Option Addr} {M:Nat} {o:dL} {z:Array MapEntry} {u:Nat} {H:Option Addr} {R:Nat} {p:dL} {A:Array MapEntry} {x:Nat} {K:Option Addr} {S:Nat} {b:dL} {V:Array MapEntry} {U:Nat} {q:dL} {B:Array MapEntry} {y:Nat} {a4:Option Addr} {c4:Nat} {a5:Option Addr} {c5:Nat} {a6:Option Addr} {c6:Nat} {a7:Option Addr} {c7:Nat} {a8:Option Addr} {c8:Nat} {a9:Option Addr} {c9:Nat} {r:uA} (g:St m (aD o z u::aD p A x::cA a G M o H R p p0.1::aD b V U::aD q B y::lT t a K S b q p0::O) w) (r1:RepS C1 m G M p0.1.1) (r2:MapQ cR C7 true m o z u p0.1.d.1) (r3:RepS aH m H R p0.1.e.1) (r4:MapQ bA C8 true m p A x p0.1.f) (r5:RepS C3 m K S p0.2.1) (r6:MapQ bA cK false m b V U p0.e.1) (r7:MapQ cM eD false m q B y p0.k) (r8:RepS aH m a4 c4 p1.1.2.1) (r9:RepS C6 m a5 c5 p1.1.d) (Y:RepS aH m a6 c6 p1.2.1.d.1) (Z:RepS C5 m a7 c7 p1.2.1.e) (b0:RepS (aR .i64) m a8 c8 p1.d) (b1:RepS (aR .i64) m a9 c9 p2.f) (hr:(iJ N D).2.2.2.1 p0 p1 p2=some r),Calls prog 53 #[vP t 0,.agg (iL p1 a4 c4 a5 c5 a6 c6 a7 c7 a8 c8),.agg (Va p2 a9 c9)] w fun e w'=>(∃(F:mV),∃c l m',r= .inl F/\nF 161 m m' e F.1 (aD o z u::aD p A x::cA a G M o H R p p0.1::aD b c l::aD q B y::dV t a K S b q p0 F.d.1 F.e.1 F.f::O) w' (MapQ bA cK false m' b c l F.2.1))\/(∃(E:mW),r= .inr E/\∃c l m',bW m m' e (vI E.2) (aD o z u::aD p A x::cA a G M o H R p p0.1::aD b c l::aD q B y::dV t a K S b q p0 E.1.2.1 E.1.d.1 E.1.e::O) w' (MapQ bA cK false m' b c l E.1.1)))/\(∀{m:Mem} {O:List Piece} {w:World} {p0:cS} {p1:dS} {p2:eC} {t:Nat} {a:Nat} {G:Option Addr} {M:Nat} {o:dL} {z:Array MapEntry} {u:Nat} {H:Option Addr} {R:Nat} {p:dL} {A:Array MapEntry} {x:Nat} {K:Option Addr} {S:Nat} {b:dL} {V:Array MapEntry} {U:Nat} {q:dL} {B:Array MapEntry} {y:Nat} {a4:Option Addr} {c4:Nat} {a5:Option Addr} {c5:Nat} {a6:Option Addr} {c6:Nat} {a7:Option Addr} {c7:Nat} {a8:Option Addr} {c8:Nat} {a9:Option Addr} {c9:Nat} {r:uA} (g:St m (aD o z u::aD p A x::cA a G M o H R p p0.1::aD b V U::aD q B y::lT t a K S b q p0::O) w) (r1:RepS C1 m G M p0.1.1) (r2:MapQ cR C7 true m o z u p0.1.d.1) (r3:RepS aH m H R p0.1.e.1) (r4:MapQ bA C8 true m p A x p0.1.f) (r5:RepS C3 m K S p0.2.1) (r6:MapQ bA cK false m b V U p0.e.1) (r7:MapQ cM eD false m q B y p0.k) (r8:RepS aH m a4 c4 p1.1.2.1) (r9:RepS C6 m a5 c5 p1.1.d) (Y:RepS aH m a6 c6 p1.2.1.d.1) (Z:RepS C5 m a7 c7 p1.2.1.e) (b0:RepS (aR .i64) m a8 c8 p1.d) (b1:RepS (aR .i64) m a9 c9 p2.f) (hr:(iJ N D).2.2.2.2.1 p0 p1 p2=some r),Calls prog 54 #[vP t 0,.agg (iL p1 a4 c4 a5 c5 a6 c6 a7 c7 a8 c8),.agg (Va p2 a9 c9)] w fun e w'=>(∃(F:mV),∃c l m',r= .inl F/\nF 161 m m' e F.1 (aD o z u::aD p A x::cA a G M o H R p p0.1::aD b c l::aD q B y::dV t a K S b q p0 F.d.1 F.e.1 F.f::O) w' (MapQ bA cK false m' b c l F.2.1))\/(∃(E:mW),r= .inr E/\∃c l m',bW m m' e (vI E.2) (aD o z u::aD p A x::cA a G M o H R p p0.1::aD b c l::aD q B y::dV t a K S b q p0 E.1.2.1 E.1.d.1 E.1.e::O) w' (MapQ bA cK false m' b c l E.1.1)))/\(∀{m:Mem} {O:List Piece} {w:World} {p0:cS} {p1:dS} {p2:eC} {t:Nat} {a:Nat} {G:Option Addr} {M:Nat} {o:dL} {z:Array MapEntry} {u:Nat} {H:Option Addr} {R:Nat} {p:dL} {A:Array MapEntry} {x:Nat} {K:Option Addr} {S:Nat} {b:dL} {V:Array MapEntry} {U:Nat} {q:dL} {B:Array MapEntry} {y:Nat} {a4:Option Addr} {c4:Nat} {a5:Option Addr} {c5:Nat} {a6:Option Addr} {c6:Nat} {a7:Option Addr} {c7:Nat} {a8:Option Addr} {c8:Nat} {a9:Option Addr} {c9:Nat} {r:uA} (g:St m (aD o z u::aD p A x::cA a G M o H R p p0.1::aD b V U::aD q B y::lT t a K S b q p0::O) w) (r1:RepS C1 m G M p0.1.1) (r2:MapQ cR C7 true m o z u p0.1.d.1) (r3:RepS aH m H R p0.1.e.1) (r4:MapQ bA C8 true m p A x p0.1.f) (r5:RepS C3 m K S p0.2.1) (r6:MapQ bA cK false m b V U p0.e.1) (r7:MapQ cM eD false m q B y p0.k) (r8:RepS aH m a4 c4 p1.1.2.1) (r9:RepS C6 m a5 c5 p1.1.d) (Y:RepS aH m a6 c6 p1.2.1.d.1) (Z:RepS C5 m a7 c7 p1.2.1.e) (b0:RepS (aR .i64) m a8 c8 p1.d) (b1:RepS (aR .i64) m a9 c9 p2.f) (hr:(iJ N D).2.2.2.2.2 p0 p1 p2=some r),Calls prog 55 #[vP t 0,.agg (iL p1 a4 c4 a5 c5 a6 c6 a7 c7 a8 c8),.agg (Va p2 a9 c9)] w fun e w'=>(∃(F:mV),∃c l m',r= .inl F/\nF 161 m m' e F.1 (aD o z u::aD p A x::cA a G M o H R p p0.1::aD b c l::aD q B y::dV t a K S b q p0 F.d.1 F.e.1 F.f::O) w' (MapQ bA cK false m' b c l F.2.1))\/(∃(E:mW),r= .inr E/\∃c l m',bW m m' e (vI E.2) (aD o z u::aD p A x::cA a G M o H R p p0.1::aD b c l::aD q B y::dV t a K S b q p0 E.1.2.1 E.1.d.1 E.1.e::O) w' (MapQ bA cK false m' b c l E.1.1)))
 |0=>⟨fun _ _ _ _ _ _ _ _ _ _ _ _ _ hr=>(by cases hr),fun _ _ _ _ _ _ _ _ _ hr=>(by cases hr),fun _ _ _ _ _ _ _ _ _ _ _ _ _ _ hr=>(by cases hr),fun _ _ _ _ _ _ _ _ _ _ _ _ _ _ hr=>(by cases hr),fun _ _ _ _ _ _ _ _ _ _ _ _ _ _ hr=>(by cases hr),fun _ _ _ _ _ _ _ _ _ _ _ _ _ _ hr=>(by cases hr)⟩
 |D+1=>⟨fun g r1 r2 r3 r4 r5 r6 r7 r8 r9 Y Z b0 hr=>qHd (lE N D).1 (lE N D).2.1 (lE N D).2.2.1 (lE N D).2.2.2.1 (lE N D).2.2.2.2.1 (lE N D).2.2.2.2.2 g r1 r2 r3 r4 r5 r6 r7 r8 r9 Y Z b0 hr,fun g r1 r2 r3 r4 r5 r6 r7 r8 hr=>qHa (lE N D).1 (lE N D).2.1 (lE N D).2.2.1 (lE N D).2.2.2.1 (lE N D).2.2.2.2.1 (lE N D).2.2.2.2.2 g r1 r2 r3 r4 r5 r6 r7 r8 hr,fun g r1 r2 r3 r4 r5 r6 r7 r8 r9 Y Z b0 b1 hr=>qHe (lE N D).1 (lE N D).2.1 (lE N D).2.2.1 (lE N D).2.2.2.1 (lE N D).2.2.2.2.1 (lE N D).2.2.2.2.2 g r1 r2 r3 r4 r5 r6 r7 r8 r9 Y Z b0 b1 hr,fun g r1 r2 r3 r4 r5 r6 r7 r8 r9 Y Z b0 b1 hr=>qGx (lE N D).1 (lE N D).2.1 (lE N D).2.2.1 (lE N D).2.2.2.1 (lE N D).2.2.2.2.1 (lE N D).2.2.2.2.2 g r1 r2 r3 r4 r5 r6 r7 r8 r9 Y Z b0 b1 hr,fun g r1 r2 r3 r4 r5 r6 r7 r8 r9 Y Z b0 b1 hr=>qGw (N:=N) (lE N D).1 (lE N D).2.1 (lE N D).2.2.1 (lE N D).2.2.2.1 (lE N D).2.2.2.2.1 (lE N D).2.2.2.2.2 g r1 r2 r3 r4 r5 r6 r7 r8 r9 Y Z b0 b1 hr,fun g r1 r2 r3 r4 r5 r6 r7 r8 r9 Y Z b0 b1 hr=>qHf (lE N D).1 (lE N D).2.1 (lE N D).2.2.1 (lE N D).2.2.2.1 (lE N D).2.2.2.2.1 (lE N D).2.2.2.2.2 g r1 r2 r3 r4 r5 r6 r7 r8 r9 Y Z b0 b1 hr⟩
theorem qHk{p0:cS}{p1:iK}{p2:Tb}{a:Nat}{o:dL}{y:Array MapEntry}{t:Nat}{p:dL}{z:Array MapEntry}{u:Nat}{b:dL}{F:Array MapEntry}{E:Nat}{q:dL}{A:Array MapEntry}{x:Nat}{r:uA}(g:St m (aD o y t::aD p z u::cA a a1 c1 o a2 c2 p p0.1::aD b F E::aD q A x::lT bp0 a a3 c3 b q p0::O) w)(G:RepS C1 m a1 c1 p0.1.1)(H:MapQ cR C7 true m o y t p0.1.d.1)(K:RepS aH m a2 c2 p0.1.e.1)(M:MapQ bA C8 true m p z u p0.1.f)(R:RepS C3 m a3 c3 p0.2.1)(S:MapQ bA cK false m b F E p0.e.1)(U:MapQ cM eD false m q A x p0.k)(V:RepS (aR .i64) m a4 c4 p2)(hr:BM N p0 p1 p2=some r):Calls prog 84 #[vP bp0 0,.agg (Ve p1),vS a4 p2 c4] w fun e w'=>(∃(D:mV),∃c l m',r= .inl D/\nF 161 m m' e D.1 (aD o y t::aD p z u::cA a a1 c1 o a2 c2 p p0.1::aD b c l::aD q A x::dV bp0 a a3 c3 b q p0 D.d.1 D.e.1 D.f::O) w' (MapQ bA cK false m' b c l D.2.1))\/(∃(B:mW),r= .inr B/\∃c l m',bW m m' e (vI B.2) (aD o y t::aD p z u::cA a a1 c1 o a2 c2 p p0.1::aD b c l::aD q A x::dV bp0 a a3 c3 b q p0 B.1.2.1 B.1.d.1 B.1.e::O) w' (MapQ bA cK false m' b c l B.1.1)):=
 (lE N N).2.1 g G H K M R S U V hr
end
section
open Go Go.Dc Go.Proofs.Tryz
set_option maxHeartbeats 4000000
set_option maxRecDepth 100000
variable {N bp0 c1 c2 c3 c4:Nat} {m:Mem} {O:List Piece} {w:World} {a1 a2 a3 a4:Option Addr}
def FO(N:Nat)(p0:cS)(p1:iK)(p2:Tb):Option (wS×yE):=
 (BM N (p0.1,p0.2.1,p0.2.2.1,p0.2.2.2.1,p0.2.2.2.2.1,p0.2.2.2.2.2.1,p0.2.2.2.2.2.2.1,p0.2.2.2.2.2.2.2) p1 p2).bind fun y1=>(match y1 with| .inl a=>some (a.2,(3,0,a.1))| .inr a=>if(a.2==0)then(some (a.1,(2,0,0))) else(some (a.1,(1,a.2,0))))
theorem qHb{p0:cS}{p1:iK}{p2:Tb}{l F B x G D y p R K H E z}{r:wS×yE}(g:St m (aD F B x::aD G D y::cA l a1 c1 F a2 c2 G p0.1::aD p R K::aD H E z::lT bp0 l a3 c3 p H p0::O) w)(r1:RepS C1 m a1 c1 p0.1.1)(r2:MapQ cR C7 true m F B x p0.1.d.1)(r3:RepS aH m a2 c2 p0.1.e.1)(r4:MapQ bA C8 true m G D y p0.1.f)(r5:RepS C3 m a3 c3 p0.2.1)(r6:MapQ bA cK false m p R K p0.e.1)(r7:MapQ cM eD false m H E z p0.k)(r8:RepS (aR .i64) m a4 c4 p2)(hr:FO N p0 p1 p2=some r):Calls prog 60 #[vP bp0 0,.agg (Ve p1),vS a4 p2 c4] w fun e w'=>∃U V m',bW m m' e (.agg (Vl r.2)) (aD F B x::aD G D y::cA l a1 c1 F a2 c2 G p0.1::aD p U V::aD H E z::dV bp0 l a3 c3 p H p0 r.1.2.1 r.1.d.1 r.1.e::O) w' (MapQ bA cK false m' p U V r.1.1):=by
 have q:=m.le_refl;refine qCv func60 rfl ntmps60 [(0,vP bp0 0),(1,.agg (Ve p1)),(2,vS a4 p2 c4)] kr rfl ?_;refine DP ?_;refine aY (dY 4 66 (.agg (Ve p1)) g fun b1 m1 w1 b g a6=> ?_);have q:=q.t b;refine bX 6 43 (.agg (Vm 0 0 0)) g fun c w2 g=>aV (DI (DP (aY (aA 1 [(8,.func (.func 88) #[] #[vP c 0])] (qBo ({target:= .fn (.func 88) #[vP c 0],args:= #[]}) kr kr (aV (DI (aS 1 [(9,vP bp0 0)] (cI 10 (.agg (Ve p1)) g a6 (aA 1 [(11,vS a4 p2 c4)] (cW 12 hr (qHk (p0:=p0) (p1:=p1) g.f6.f6.f6.f6.f6.f6 (r1.o b) (r2.o b) (r3.o b) (r4.o b) (r5.o b) (r6.o b) (r7.o b) (r8.o b)) ?_)))))))))));rintro y1 hr _ w3 (⟨a,a5,Y,m3,rfl,rfl,e3,g,a7⟩|⟨u,rfl,S,M,m2,rfl,Z,g,r9⟩)
 .refine bQ (qEo [.cell 6 43] rfl (CV func88 kr) (HM (.panicking [{v:= .iface 161 (.agg #[vI a.1]),recovered:=false}]) func88 rfl ntmps88 [(0,vP c 0)] kr rfl (d:=4) kr kr [(1,.iface 161 (.agg #[vI a.1])),(4,.iface 161 (.agg #[vI a.1])),(0,vP c 0)] (.iface 161 (.agg #[vI a.1])) (.panicking [{v:= .iface 161 (.agg #[vI a.1]),recovered:=true}]) rfl kr (aI 2 [(6,vB true)] (pI true kr ?_ (fun h=>Bool.noConfusion h)))));intro _;refine aS 5 [(10,.agg #[vI a.1]),(11,vB true)] (bX 2 161 (.agg #[vI 0]) g fun b3 w5 g=>bF (.agg #[vI a.1]) g fun w6 g=>aG 1 [(3,vB true)] (aF (aI 2 [(13,vB false)] (pI false kr (fun h=>Bool.noConfusion h) ?_))));intro _;refine aN (aC (aY (bH 1 16 35 15 0 (vI a.1) g.h (aA 1 [(17,.agg (Vm 3 0 a.1))] (bF (.agg (Vm 3 0 a.1)) g.f7 fun w7 g=>aV ?_)))));cases hr;exact pV [] [] rfl ResAll.nil ⟨_,rfl,⟨[.agg (Vm 3 0 a.1)],(ResAll.cons (ResAt.blk (v:= .agg (Vm 3 0 a.1)) (o:=0) kr g.h kr) ResAll.nil),⟨a5,Y,m3,rfl,q.t e3,g.t.t.f5.f5.f5.f5.f5.f5,a7⟩⟩⟩
 refine aG 1 [(7,vI u.2)] (aF (aI 2 [(14,vB (u.2==0))] (aJ hr ?_ ?_)))<;>intro A hr
 .refine aS 1 [(15,.agg (Vm 2 0 0))] (bF (.agg (Vm 2 0 0)) g.f6 fun w8 g=>aQ (aM (aU (UG [.cell 6 43] rfl (CV func88 kr) (HM .returning func88 rfl ntmps88 [(0,vP c 0)] kr rfl (d:=4) kr kr [(1,.nilIface),(4,.nilIface),(0,vP c 0)] (.nilIface) .returning rfl kr (aI 2 [(6,vB false)] (pI false kr (fun h=>Bool.noConfusion h) ?_)))))));intro _;refine aN ?_;cases hr;exact pV [] [] rfl ResAll.nil ⟨_,rfl,⟨[.agg (Vm 2 0 0)],(ResAll.cons (ResAt.blk (v:= .agg (Vm 2 0 0)) (o:=0) kr g.h kr) ResAll.nil),⟨S,M,m2,rfl,q.t Z,g.t.f5.f5.f5.f5.f5.f5,r9⟩⟩⟩
 refine aN (aC (aS 2 [(17,.agg (Vm 1 u.2 0))] (bF (.agg (Vm 1 u.2 0)) g.f6 fun w9 g=>aQ (aM (UG [.cell 6 43] rfl (CV func88 kr) (HM .returning func88 rfl ntmps88 [(0,vP c 0)] kr rfl (d:=4) kr kr [(1,.nilIface),(4,.nilIface),(0,vP c 0)] (.nilIface) .returning rfl kr (aI 2 [(6,vB false)] (pI false kr (fun h=>Bool.noConfusion h) ?_))))))));intro _;refine aN ?_;cases hr;exact pV [] [] rfl ResAll.nil ⟨_,rfl,⟨[.agg (Vm 1 u.2 0)],(ResAll.cons (ResAt.blk (v:= .agg (Vm 1 u.2 0)) (o:=0) kr g.h kr) ResAll.nil),⟨S,M,m2,rfl,q.t Z,g.t.f5.f5.f5.f5.f5.f5,r9⟩⟩⟩
def HE(N:Nat)(p0:Int):Th:=
 some (p0 !=p0)
theorem WU{p0:Int}{r:Bool}(g:St m (O) w)(hr:HE N p0=some r):Calls prog 125 #[vI p0] w fun e w'=>∃m',eP m m' e (vB r) (O) w':=by
 refine bP g func125 rfl ntmps125 fun q=>aI 1 [] (aB (aG 4 [(2,vB (p0 !=p0))] (aM ?_)));cases hr;exact aW [2] [vB (p0 !=p0)] ⟨m,rfl,q,g⟩
def MI(N:Nat)(p0:Int)(p1:Int):Ta:=
 (HE N p0).bind fun y1=>(HE N p1).bind fun a=>if y1 then(if a then(some 0) else(some (-1))) else(if a then(some 1) else(if(decide (p0<p1))then(some (-1)) else(if(decide (p0>p1))then(some 1) else(some 0))))
theorem qJf{p0:Int}{p1:Int}{r:Int}(g:St m (O) w)(hr:MI N p0 p1=some r):Calls prog 92 #[vI p0,vI p1] w fun e w'=>∃m',eP m m' e (vI r) (O) w':=by
 refine bP g func92 rfl ntmps92 fun q=>aI 1 [] (aB (aA 1 [(7,vI p0)] (aL 8 hr (WU g) ?_)));rintro y1 hr _ h ⟨f,rfl,c,g⟩;refine aG 1 [(5,vB y1)] (aB (aA 1 [(9,vI p1)] (aL 10 hr (WU g) ?_)));rintro b hr _ k ⟨a,rfl,d,g⟩;have q:=(q.t c).t d;refine aG 1 [(6,vB b)] (aF (aI 1 [(11,vB y1)] (aJ hr ?_ ?_)))<;>intro A hr
 .refine aF (aI 1 [(12,vB b)] (aJ hr ?_ ?_))<;>intro A hr
  .refine aI 1 [(4,vI 0)] (aM (aU (aU ?_)));cases hr;exact aW [4] [vI 0] ⟨a,rfl,q,g⟩
  refine aN (aC (aI 1 [(4,vI (-1))] (aM (aU ?_))));cases hr;exact aW [4] [vI (-1)] ⟨a,rfl,q,g⟩
 refine aN (aC (aF (aI 1 [(13,vB b)] (aJ hr ?_ ?_))))<;>intro A hr
 .refine aI 1 [(4,vI 1)] (aM (aU ?_));cases hr;exact aW [4] [vI 1] ⟨a,rfl,q,g⟩
 refine aN (aC (aF (aI 3 [(16,vB (decide (p0<p1)))] (aJ hr ?_ ?_))))<;>intro A hr
 .refine aI 1 [(4,vI (-1))] (aM (aU ?_));cases hr;exact aW [4] [vI (-1)] ⟨a,rfl,q,g⟩
 refine aN (aC (aF (aI 3 [(19,vB (decide (p0>p1)))] (aJ hr ?_ ?_))))<;>intro A hr
 .refine aI 1 [(4,vI 1)] (aM (aU ?_));cases hr;exact aW [4] [vI 1] ⟨a,rfl,q,g⟩
 refine aN (aC (aI 1 [(4,vI 0)] (aM ?_)));cases hr;exact aW [4] [vI 0] ⟨a,rfl,q,g⟩
def OW(N:Nat)(p0:BA)(p1:BA):Ta:=
 some (pN p0 p1)
theorem qGj{p0:BA}{p1:BA}{r:Int}(g:St m (O) w)(hr:OW N p0 p1=some r):Calls prog 126 (V3 p0 p1) w fun e w'=>∃m',eP m m' e (vI r) (O) w':=by
 refine bP g func126 rfl ntmps126 fun q=>aI 1 [] (aB (aA 2 [(5,vT p0),(6,vT p1)] (bU (qMf (d:=7) (f:=152) (x:=(.tmp 5)) (y:=(.tmp 6)) (ts:= #[9,9]) kr rfl (ev (vT p0)) (ev (vT p1)) func152 kr kr (aG 1 [(4,vI (pN p0 p1))] (aM ?_))))));cases hr;exact aW [4] [vI (pN p0 p1)] ⟨m,rfl,q,g⟩
def HA(N:Nat)(p0:BA)(p1:BA):Ta:=
 (OW N p0 p1).bind fun y1=>some y1
theorem WN{p0:BA}{p1:BA}{r:Int}(g:St m (O) w)(hr:HA N p0 p1=some r):Calls prog 93 (V3 p0 p1) w fun e w'=>∃m',eP m m' e (vI r) (O) w':=by
 refine bP g func93 rfl ntmps93 fun q=>aI 1 [] (aB (aA 2 [(5,vT p0),(6,vT p1)] (aL 7 hr (qGj g) ?_)));rintro y1 hr _ c ⟨b,rfl,a,g⟩;refine aG 1 [(4,vI y1)] (aM ?_);obtain rfl:=sI hr;exact aW [4] [vI y1] ⟨b,rfl,q.t a,g⟩
def QK(N:Nat)(p0:Tb)(s1:Int):EX:=
 if(decide (s1<(List.length p0:Int)))then((bS p0 s1).bind fun a=>if(a !=0)then(some (.inr (.inr (a)))) else(some (.inl (IntKind.wrap .i64 (s1+1))))) else(some (.inr (.inl ())))
def MX(N:Nat)(p0:Tb):Ta:=
 (aK (QK N p0) N 0).bind fun a=>(match a with| .inl a=>some 0| .inr (z)=>some z)
theorem qJy{p0:Tb}{r:Int}(g:St m (O) w)(l:RepS (aR .i64) m a1 c1 p0)(hr:MX N p0=some r):Calls prog 91 #[vS a1 p0 c1] w fun e w'=>∃m',eP m m' e (vI r) (O) w':=by
 refine bP g func91 rfl ntmps91 fun q=>aI 1 [] (aB (aG 1 [(3,vI 0)] (aF (aI 3 [(6,vS a1 p0 c1),(7,vI (p0.length:Int)),(8,vI 0)] (bB ?_)))));have⟨c,hr,p⟩:=aX hr;refine dW (.exit 0) (fun L' w'=>∃(s:Unit),∃k,(.inl s)=c/\L'=[(3,vI 0)]/\m.le k/\St k (O) w') ?_ ?_
 .rintro _ a ⟨s,k,rfl,rfl,q,g⟩;have hr:=p;refine cX (aC (aI 2 [(2,vI 0)] (aM ?_)));cases hr;exact aW [2] [vI 0] ⟨k,rfl,q,g⟩
 intro f;refine dJ (fun h L' w'=>∃(s1:Int),∃a,aK (QK N p0) h s1=some c/\L'=[(3,vI 0),(6,vS a1 p0 c1),(7,vI (p0.length:Int)),(8,vI s1)]/\m.le a/\St a (O) w'/\RepS (aR .i64) a a1 c1 p0) N ⟨0,m,hr,rfl,q,g,l⟩ ?_;rintro h _ y ⟨s1,a,hL,rfl,q,g,l⟩;obtain⟨h,v,rfl,hr,n,b⟩:=dN hL;refine aI 1 [(9,vB (decide (s1<(p0.length:Int))))] (aF (aJ hr ?_ ?_))<;>intro A hr
 .refine aN (aC (aF (bB (aB (iH 10 l hr ?_)))));rintro d hr x t u rfl o;refine iG 11 3 10 t (vI d) g o (aG 1 [(5,vI d)] (aB (aG 3 [(14,vB (d !=0))] (aJ hr ?_ ?_))))<;>intro A hr
  .refine aI 2 [(2,vI d)] (aM (bN (aU ?_)));have ho:=b _ (sI hr);subst ho;have hr:=p;refine aU (bN (aU ?_));obtain rfl:=sI hr;exact aW [2] [vI d] ⟨a,rfl,q,g⟩
  refine aN (bT (aC (aY (aA 2 [(8,vI (wr (s1+1)))] (aV ?_)))));have hL:=n _ (sI hr);exact cY ⟨wr (s1+1),a,hL,rfl,q,g,l⟩
 refine cT (bG ?_);have ho:=b _ (sI hr);exact bG (xE (f _ _ ⟨(),a,ho,rfl,q,g⟩))
def QE(N:Nat)(p0:oN)(p1:oN):Ta:=
 (MI N p0.1 p1.1).bind fun y1=>(HA N p0.2.1 p1.2.1).bind fun a=>(HA N p0.2.2 p1.2.2).bind fun b=>(MX N ([y1,a,b])).bind fun a=>some a
theorem qJe{p0:oN}{p1:oN}{r:Int}(g:St m (O) w)(hr:QE N p0 p1=some r):Calls prog 62 #[.agg (Vj p0),.agg (Vj p1)] w fun e w'=>∃m',eP m m' e (vI r) (O) w':=by
 refine bP g func62 rfl ntmps62 fun q=>aB (dY 2 80 (.agg (Vj p0)) g fun f F R A g b=>dY 3 80 (.agg (Vj p1)) g fun k y S o g c=> ?_);have b:=b.o o;refine aG 1 [] (aF (dO [(18,fun w'=>Inv y w'/\True)] kr g fun U _ g=> ?_));have a:=y.le_refl;refine tA g a (bL 0 5 (vP f 0) (eE 1 6 (vI p0.1) b (bL 2 7 (vP k 0) (eE 3 8 (vI p1.1) c (bL 5 10 (vP f 1) (eE 6 11 (vT p0.2.1) (b.drop 1) (bL 7 12 (vP k 1) (eE 8 13 (vT p1.2.1) (c.drop 1) (bL 10 15 (vP f 2) (eE 11 16 (vT p0.d) (b.drop 2) (bL 12 17 (vP k 2) (eE 13 18 (vT p1.d) (c.drop 2) (aZ 4 kr (eJ 9 hr (fun _ h=>qJf g h) ?_))))))))))))));rintro y1 hr _ V ⟨G,rfl,p,g⟩;refine⟨_,rfl,?_⟩;have a:=a.t p;refine tA g a (aZ 9 kr (eJ 14 hr (fun _ h=>WN g h) ?_));rintro l hr _ Y ⟨H,rfl,s,g⟩;refine⟨_,rfl,?_⟩;have a:=a.t s;refine tA g a (aZ 14 kr (eJ 19 hr (fun _ h=>WN g h) ?_));rintro n hr _ Z ⟨K,rfl,u,g⟩;refine⟨_,rfl,?_⟩;have a:=a.t u;refine tA g a (aZ 15 kr (oB (d:=20) (t:=22) (e:=3) (len:=3) (parts:= #[(0,(.tmp 9)),(1,(.tmp 14)),(2,(.tmp 19))]) (aR .i64) (xs:=[y1,l,n]) [vI y1,vI l,vI n] kr rfl (fun _=>oA kr _) rfl rfl g ⟨[vI y1],_,rfl,rfl,⟨[vI l],_,rfl,rfl,⟨[vI n],_,rfl,rfl,rfl⟩⟩⟩ fun E M w7 v g D=> ?_));have a:=a.t v;refine tA g a (aZ 16 kr (eJ 21 hr (fun _ h=>qJy g D h) ?_))
 rintro z hr _ w8 ⟨B,rfl,x,g⟩;refine⟨_,rfl,?_⟩;have a:=a.t x;refine tA g a (bL 17 4 (vI z) (cO kr ?_));have g:=g.t;refine aC (aM ?_);obtain rfl:=sI hr;exact aW [4] [vI z] ⟨B,rfl,((((((q.t A).t o).t p).t s).t u).t v).t x,g⟩
def qKg:Go.Shelf.Ren:=⟨fun|6=>61|15=>90|14=>89|28=>123|29=>124|20=>115|21=>116|22=>117|23=>118|24=>119|25=>120|26=>121|27=>122|46=>147|47=>148|48=>149|49=>150|50=>151|57=>169|n=>n,fun|22=>44|24=>80|25=>124|3=>3|39=>94|0=>0|53=>196|55=>32|4=>4|46=>190|45=>189|50=>158|5=>5|9=>9|66=>209|70=>213|76=>222|77=>223|n=>n,fun|n=>n⟩
theorem qOm:Go.Proofs.SlLaysF0.n6 prog qKg where
 mixed:=kr
 f6:=⟨Tryz.f61.name,kr,func61.trans (congrArg some kr)⟩
 f14:=⟨Tryz.f89.name,kr,func89.trans (congrArg some kr)⟩
 f15:=func90.trans (congrArg some kr)
 f20:=⟨Tryz.f115.name,kr,func115.trans (congrArg some kr)⟩
 f21:=⟨Tryz.f116.name,kr,func116.trans (congrArg some kr)⟩
 f22:=⟨Tryz.f117.name,kr,func117.trans (congrArg some kr)⟩
 f23:=⟨Tryz.f118.name,kr,func118.trans (congrArg some kr)⟩
 f24:=⟨Tryz.f119.name,kr,func119.trans (congrArg some kr)⟩
 f25:=⟨Tryz.f120.name,kr,func120.trans (congrArg some kr)⟩
 f26:=⟨Tryz.f121.name,kr,func121.trans (congrArg some kr)⟩
 f27:=⟨Tryz.f122.name,kr,func122.trans (congrArg some kr)⟩
 f28:=func123.trans (congrArg some kr)
 f29:=func124.trans (congrArg some kr)
 f46:=⟨Tryz.f147.name,kr,func147.trans (congrArg some kr)⟩
 f47:=func148.trans (congrArg some kr)
 f48:=func149.trans (congrArg some kr)
 f49:=⟨Tryz.f150.name,kr,func150.trans (congrArg some kr)⟩
 f50:=⟨Tryz.f151.name,kr,func151.trans (congrArg some kr)⟩
 f57:=⟨Tryz.f169.name,kr,func169.trans (congrArg some kr)⟩
 t0:=Tryz.underlying0
 a0:=Tryz.isAgg0
 z0:=Tryz.sizeOf0
 v0:=Tryz.zeroValue0
 t3:=Tryz.underlying3
 a3:=Tryz.isAgg3
 z3:=Tryz.sizeOf3
 v3:=Tryz.zeroValue3
 t4:=Tryz.underlying4
 a4:=Tryz.isAgg4
 z4:=Tryz.sizeOf4
 v4:=Tryz.zeroValue4
 t5:=Tryz.underlying5
 a5:=Tryz.isAgg5
 z5:=Tryz.sizeOf5
 v5:=Tryz.zeroValue5
 t9:=Tryz.underlying9
 a9:=Tryz.isAgg9
 z9:=Tryz.sizeOf9
 v9:=Tryz.zeroValue9
 t22:=Tryz.underlying44
 a22:=Tryz.isAgg44
 z22:=Tryz.sizeOf44
 v22:=Tryz.zeroValue44
 t25:=Tryz.underlying124
 a25:=Tryz.isAgg124
 z25:=Tryz.sizeOf124
 v25:=Tryz.zeroValue124
 t39:=Tryz.underlying94
 a39:=Tryz.isAgg94
 z39:=Tryz.sizeOf94
 v39:=Tryz.zeroValue94
 t45:=Tryz.underlying189
 a45:=Tryz.isAgg189
 z45:=Tryz.sizeOf189
 v45:=Tryz.zeroValue189
 t46:=Tryz.underlying190
 a46:=Tryz.isAgg190
 z46:=Tryz.sizeOf190
 v46:=Tryz.zeroValue190
 t50:=Tryz.underlying158
 a50:=Tryz.isAgg158
 z50:=Tryz.sizeOf158
 v50:=Tryz.zeroValue158
 t53:=Tryz.underlying196
 a53:=Tryz.isAgg196
 z53:=Tryz.sizeOf196
 v53:=Tryz.zeroValue196
 t55:=Tryz.underlying32
 a55:=Tryz.isAgg32
 z55:=Tryz.sizeOf32
 v55:=Tryz.zeroValue32
 t66:=Tryz.underlying209
 a66:=Tryz.isAgg209
 z66:=Tryz.sizeOf209
 v66:=Tryz.zeroValue209
 t70:=Tryz.underlying213
 a70:=Tryz.isAgg213
 z70:=Tryz.sizeOf213
 v70:=Tryz.zeroValue213
 t76:=Tryz.underlying222
 a76:=Tryz.isAgg222
 z76:=Tryz.sizeOf222
 v76:=Tryz.zeroValue222
 t77:=Tryz.underlying223
 a77:=Tryz.isAgg223
 z77:=Tryz.sizeOf223
 v77:=Tryz.zeroValue223
theorem qKf(x y:Int):MI N x y=some (tV x y):=by
 have h:∀z:Int,HE N z=some false:=fun z=>by simp[HE]
 simp only[MI,h,j0,tV]
 by_cases h1:x<y
 .simp[h1]
 by_cases h2:x>y
 .simp[h1,h2]
 simp[h1,h2]
theorem qJk(x y:BA):HA N x y=some (pN x y):=by simp[HA,OW]
theorem qRa(hN:10<=N)(a b c:Int):MX N [a,b,c]=some (if a≠0 then a else if b≠0 then b else c):=by
 obtain⟨k,rfl⟩:∃k,N=k+4:=⟨N-4,by omega⟩;have e:wr 1=1:=by decide
 have g:wr 2=2:=by decide
 have l:wr 3=3:=by decide
 have h:bS [a,b,c] 0=some a:=rfl;have d:bS [a,b,c] 1=some b:=rfl;have f:bS [a,b,c] 2=some c:=rfl;simp only[MX,aK,QK,jA,jB,h,j0]
 by_cases ha:a=0
 .subst ha
  by_cases hb:b=0
  .subst hb
   by_cases A:c=0
   .subst A;simp[e,g,l,d,f]
   simp[e,g,d,f,A]
  simp[e,d,hb]
 simp[ha]
theorem qJg(hN:10<=N)(x y:oN):QE N x y=some (rQ tV (rQ pN pN) x y):=by
 simp only[QE,qKf,qJk,qRa hN,j0]
 rfl
def yJ(N:Nat)(l:mT):Option mT:=if 10<=N/\l.length<4611686018427387904 then some (xP (Go.Proofs.ltOf (rQ tV (rQ pN pN))) l) else none
theorem qGh{l r:mT}(h:yJ N l=some r):r.length=l.length:=by
 unfold yJ at h
 split at h
 .simp only[jG] at h;subst h;exact(CP l).length_eq
 cases h
theorem qGi{a:Option Addr}{nn cc:Nat}{T:List Value}{l r:mT}{e:TypeId}(g:St m (lI a (cU (fun x:oN=>((Vn x):List Value)) l T) e::O) w)(hs:OAS a nn cc 3 T)(hn:List.length l=nn)(h:yJ N l=some r):
  Calls prog 61 #[.slice a nn cc,.func (.func 62) #[] #[]] w fun e' w'=>e'= .returned (.tuple #[])/\St m (lI a (cU (fun x:oN=>((Vn x):List Value)) r T) e::O) w':=by
 unfold yJ at h
 split at h
 .rename_i hb
  obtain⟨hN,hlen⟩:=hb;simp only[jG] at h;subst h;subst hn;have hl:Lin (rQ tV (rQ pN pN)):=NI qCr (NI NQ NQ);rw[<-qNt hl];have:=qLt (f:=(fun x:oN=>((Vn x):List Value))) (k:=3) qOm Tryz.isAgg80 Tryz.sizeOf80 (fun _=>rfl) (fun _ _ hv=>by simp only[jI,gS,or_false] at hv;rcases hv with rfl|rfl|rfl<;>rfl) (rQ tV (rQ pN pN)) hl.swo hl.total 62 (enters_of func62 kr rfl) (fun x y W=>by
   refine(qJe (qDf W) (qJg hN x y)).mono fun e' w' h=> ?_;obtain⟨m',b,c,d⟩:=h;exact⟨m',b,c,d⟩) g hs hlen
  exact this
 cases h
def FN(N:Nat)(a:Option (oN×Bool))(s1:mT):Option (mT⊕mT):=
 (match a with|none=>some (.inr s1)|some a=>(eM 40 s1 ([a.1])).bind fun a=>some (.inl a))
instance dec_evaluate_machine_run_L1:DecidableEq T3k:=(@instDecidableEqProd _ _ (@instDecidableEqProd _ _ (@Option.instDecidableEq _ (@instDecidableEqList _ (@instDecidableEqProd _ _ (@instDecidableEqProd _ _ inferInstance (@instDecidableEqProd _ _ inferInstance inferInstance)) inferInstance))) (@instDecidableEqProd _ _ inferInstance (@instDecidableEqProd _ _ inferInstance inferInstance))) (@instDecidableEqProd _ _ (@instDecidableEqProd _ _ inferInstance (@instDecidableEqProd _ _ inferInstance inferInstance)) (@instDecidableEqProd _ _ inferInstance (@instDecidableEqProd _ _ (@instDecidableEqList _ (@instDecidableEqProd _ _ inferInstance (@instDecidableEqProd _ _ inferInstance inferInstance))) inferInstance))))
def yQ(N:Nat)(p0:cS)(p1:iK)(p2:Tb):Option T3k:=
 (FO N (p0.1,p0.2.1,p0.2.2.1,p0.2.2.2.1,p0.2.2.2.2.1,p0.2.2.2.2.2.1,p0.2.2.2.2.2.2.1,p0.2.2.2.2.2.2.2) p1 p2).bind fun y1=>(JX y1.1.1).bind fun a=>DM (FN N) (Option.getD y1.1.1 []) ([]:mT) (fun a=>(yJ N a).bind fun a=>some (y1.1,(y1.2,y1.1.2.2.2,a,y1.1.2.1)))
theorem WB{p0:cS}{p1:iK}{p2:Tb}{a v F A z G B q3 d4 d3 p H D}{r:T3k}(g:St m (aD v F A::aD z G B::cA a a1 c1 v a2 c2 z p0.1::aD q3 d4 d3::aD p H D::lT bp0 a a3 c3 q3 p p0::O) w)(r1:RepS C1 m a1 c1 p0.1.1)(r2:MapQ cR C7 true m v F A p0.1.d.1)(r3:RepS aH m a2 c2 p0.1.e.1)(r4:MapQ bA C8 true m z G B p0.1.f)(r5:RepS C3 m a3 c3 p0.2.1)(r6:MapQ bA cK false m q3 d4 d3 p0.e.1)(r7:MapQ cM eD false m p H D p0.k)(r8:RepS (aR .i64) m a4 c4 p2)(hr:yQ N p0 p1 p2=some r):Calls prog 25 #[vP bp0 0,.agg (Ve p1),vS a4 p2 c4] w fun e w'=>∃d7 d8 c0 c8 m',bW m m' e (.agg (Vo r.2.1.1 r.2.1.2.1 r.2.1.d r.d.1 c0 r.e.1 c8 r.f)) (kR c0 r.e.1 c8 80 3::aD v F A::aD z G B::cA a a1 c1 v a2 c2 z p0.1::aD q3 d7 d8::aD p H D::dV bp0 a a3 c3 q3 p p0 r.1.2.1 r.1.d.1 r.1.e::O) w' (MapQ bA cK false m' q3 d7 d8 r.1.1/\RepS C9 m' c0 c8 r.e.1):=by
 refine bP g func25 rfl ntmps25 fun q=>aB (dY 4 66 (.agg (Ve p1)) g fun b1 m1 w1 b g e0=>bX 6 46 (.agg #[vI 0,vI 0,vI 0,vB false,v6,vI 0]) g fun b2 w2 g=>aQ (aB (aA 1 [(10,vP bp0 0)] (cI 11 (.agg (Ve p1)) g e0 (aA 1 [(12,vS a4 p2 c4)] (aL 13 hr (qHb (p0:=p0) (p1:=p1) g.f6.f6.f6.f6.f6.f6 (r1.o b) (r2.o b) (r3.o b) (r4.o b) (r5.o b) (r6.o b) (r7.o b) (r8.o b)) ?_))))));rintro y1 hr _ w3 ⟨M,E,m2,rfl,e2,g,r9⟩;refine bX 7 43 (.agg (Vm 0 0 0)) g fun b3 w4 g=>bF (.agg (Vl y1.2)) g fun w5 g=>aQ (aB (aG 1 [(8,vf)] (aF (aB (bH 3 17 116 16 3 (.map q3) g.t.t.t.t.t.t.h ?_)))));have⟨u1,e9,hr⟩:=aX hr;obtain⟨S,rfl⟩:=MapQ.at r9 e9;refine bU (SK (ek:=bA) (c:=cK) (agg:=false) (d:=18) (t:=116) (kt:=80) (et:=4) (x:=(.tmp 17)) kr rfl (ev (.map (some S))) kr g.f4 r9 fun b5 w6 g e6=>aQ (bB ?_));have g:=qBy (f:=(fun x:oN=>((Vn x):List Value))) (g.nilroom 80 3);obtain⟨PKu2,a9,hr⟩:=LoopP.start hr
 refine dW (.exit 0) (fun L' w'=>∃(o1:mT),∃R Y T1,∃(d1:Array Nat) (c9:List (oN×Bool)),∃o,PKu2 o1/\L'=[(0,vP bp0 0),(6,vP b2 0),(7,vP b3 0),(8,vS R o1 Y)]/\m.le o/\St o (kB b3 (Vl y1.2) 43::cA a a1 c1 v a2 c2 z p0.1::kB bp0 #[vP a 0,vS a3 p0.2.1 c3,.int .u64 p0.d.1,.map (some S),vI y1.1.2.1,vI y1.1.d.1,vB y1.1.e,.map p] 121::kB b2 #[vI 0,vI 0,vI 0,vB false,vf,vI 0] 46::aD (some S) M E::aD v F A::aD z G B::aD p H D::lI R (cU (fun x:oN=>((Vn x):List Value)) o1 T1) 80::qH b5 (some S) E d1::O) w'/\RepS C1 o a1 c1 p0.1.1/\RepS aH o a2 c2 p0.1.e.1/\RepS C3 o a3 c3 p0.2.1/\MapQ bA cK false o (some S) M E y1.1.1/\MapQ cR C7 true o v F A p0.1.d.1/\MapQ bA C8 true o z G B p0.1.f/\MapQ cM eD false o p H D p0.k/\OAS R o1.length Y 3 T1/\ItR bA cK false o M d1 c9) ?_ ?_
 .rintro _ w7 ⟨o1,R,Y,T1,d1,c9,o,U,rfl,q,g,r1,r3,r5,r9,r2,r4,r7,b0,d5⟩;have hr:=a9 _ U;clear U a9;refine cX (aC (aS 1 [(27,vS R o1 Y)] ?_));have⟨y2,b8,hr⟩:=aX hr;have g:=g.f8;refine bU (nN 28 61 #[vS R o1 Y,.func (.func 62) #[] #[]] kr rfl ((qGi g b0 rfl b8).mono ?_));rintro _ d6 ⟨rfl,g⟩;refine⟨_,rfl,?_⟩;have a8:=((qGh b8).trans rfl);refine aV ?_;have g:=g.f9.t;refine aC (aF (dO [(12,fun w'=>Inv o w'/\Piece.holds o w' (kB b3 (Vl y1.2) 43)/\Piece.holds o w' (kB bp0 #[vP a 0,vS a3 p0.2.1 c3,.int .u64 p0.d.1,.map (some S),vI y1.1.2.1,vI y1.1.d.1,vB y1.1.e,.map p] 121)/\True)] kr g fun d9 _ g=> ?_));have Z:=o.le_refl;refine⟨bO (aT g Z),cV 0 29 (.agg (Vl y1.2)) cZ (cE 3 [(1,30,vP bp0 0),(2,31,vP bp0 0),(3,32,vP bp0 6)] (cV 4 33 (vB y1.1.e) pO (cE 4 [(5,34,vS R o1 Y),(6,35,vP bp0 0),(7,36,vP bp0 0),(8,37,vP bp0 4)] (cV 9 38 (vI y1.1.2.1) pO (bL 10 39 (.agg (Vo y1.2.1 y1.d.1 y1.e y1.1.e R o1 Y y1.1.2.1)) (aZ 11 kr (iX 46 6 39 (.agg (Vo y1.2.1 y1.d.1 y1.e y1.1.e R o1 Y y1.1.2.1)) g.f4 fun d2 g=>⟨bO (aT g Z),cO kr (aC (aM ?_))⟩)))))))⟩;obtain rfl:=sI hr;have g:=g.f1
  obtain⟨m7,e5,g,b9⟩:=St.freezeM (c:=C9) (f:=(fun x:oN=>((Vn x):List Value))) g b0 a8 (fun _=>rfl) (fun _ x=>⟨_,_,rfl,rfl,⟨_,_,rfl,rfl,rfl⟩⟩);have g:=(congrArg (fun nn_:Nat=>St m7 (kR R y2 Y 80 3::kB b2 #[vI y1.2.1,vI y1.d.1,vI y1.e,vB y1.1.e,.slice R nn_ Y,vI y1.1.2.1] 46::kB b3 (Vl y1.2) 43::cA a a1 c1 v a2 c2 z p0.1::kB bp0 #[vP a 0,vS a3 p0.2.1 c3,.int .u64 p0.d.1,.map (some S),vI y1.1.2.1,vI y1.1.d.1,vB y1.1.e,.map p] 121::aD (some S) M E::aD v F A::aD z G B::aD p H D::O) d2) a8.symm).mp g;refine OP [(6,vP b2 0)] (by(try simp only[vS,a8]);kernel_rfl) ?_;exact eI 6 46 [] [] g.t.h ⟨M,E,R,Y,m7,rfl,q.t e5,g.f1.t.f1.t.f2.f6.f4.f4.f6.f6.f6,r9.o e5,b9⟩
 intro d2;refine dJ (fun k1 L' w'=>∃(s1:mT),∃a6 c6 T2,∃(b0:Array Nat) (a8:List (oN×Bool)),∃U,LoopP (FN N) a8 s1 PKu2 k1/\L'=[(0,vP bp0 0),(6,vP b2 0),(7,vP b3 0),(8,vS a6 s1 c6),(18,vP b5 0)]/\m.le U/\St U (kB b3 (Vl y1.2) 43::cA a a1 c1 v a2 c2 z p0.1::kB bp0 #[vP a 0,vS a3 p0.2.1 c3,.int .u64 p0.d.1,.map (some S),vI y1.1.2.1,vI y1.1.d.1,vB y1.1.e,.map p] 121::kB b2 #[vI 0,vI 0,vI 0,vB false,vf,vI 0] 46::aD (some S) M E::aD v F A::aD z G B::aD p H D::lI a6 (cU (fun x:oN=>((Vn x):List Value)) s1 T2) 80::qH b5 (some S) E b0::O) w'/\RepS C1 U a1 c1 p0.1.1/\RepS aH U a2 c2 p0.1.e.1/\RepS C3 U a3 c3 p0.2.1/\MapQ bA cK false U (some S) M E y1.1.1/\MapQ cR C7 true U v F A p0.1.d.1/\MapQ bA C8 true U z G B p0.1.f/\MapQ cM eD false U p H D p0.k/\OAS a6 s1.length c6 3 T2/\ItR bA cK false U M b0 a8) (List.length (Option.getD y1.1.1 [])+1) ⟨([]:mT),none,0,[],#[],(Option.getD y1.1.1 []),m2,hr,rfl,(q.t b).t e2,g.f1.f1.f7.f6.f6.f5.f9.f9.f9.f9,(r1.o b).o e2,(r3.o b).o e2,(r5.o b).o e2,r9,(r2.o b).o e2,(r4.o b).o e2,(r7.o b).o e2,(OAS.nil 3),e6⟩ ?_;rintro k1 _ w8 ⟨s1,a6,c6,T2,b0,a8,U,hL,rfl,q,g,r1,r3,r5,r9,r2,r4,r7,d6,d5⟩;rcases k1 with _|k1
 .exact LoopP.zero hL
 refine aB ?_;have g:=g.f4.f9;refine bU (TF (ek:=bA) (c:=cK) (agg:=false) (d:=19) (x:=(.tmp 18)) kr rfl (ev (vP b5 0)) g r9 d5 ?_ ?_)
 .intro Z w9 g;obtain⟨g0,hr,b9,b8⟩:=hL.nil Z;clear hL;refine aG 1 [(20,vB false)] (aF (pI false kr (fun h=>Bool.noConfusion h) ?_));intro _;refine cT (bG ?_);obtain rfl:=sI hr;have ho:=b8 _ rfl;have g:=g.f9.f9.f9.f9.f5.f9.f9.f9.f9;exact bG (xE (d2 _ _ ⟨s1,a6,c6,T2,b0,a8,U,ho,rfl,q,g,r1,r3,r5,r9,r2,r4,r7,d6,d5⟩))
 rintro Z d9 g2 g3 g4 f0 rfl g e7 e4;obtain⟨g0,hr,b9,b8⟩:=hL.cons f0;clear hL;refine aG 1 [(20,vB true)] (aF (pI true kr ?_ (fun h=>Bool.noConfusion h)));intro _;refine aN (aC (bB (aB ?_)));have g:=g.f1.f1;refine bU (SF (ek:=bA) (c:=cK) (agg:=false) (d:=21) (x:=(.tmp 18)) (K:= .agg (Vj Z.1)) (V:=vB Z.2) kr rfl (ev (vP b5 0)) g r9 e4 (aA 1 [(22,.agg (Vj Z.1))] (bX 9 80 (.agg #[vI 0,vT eB,vT eB]) g fun b6 g5 g=>bF (.agg (Vj Z.1)) g fun g6 g=>aQ (aY (aA 1 [(23,vS a6 s1 c6)] (bD 24 (.agg (Vj Z.1)) g.h (eH 25 80 1 C9 [Z.1] g fun b7 m5 g7 e3 g g1=> ?_)))))));have g:=g.f11;have⟨l1,f3,hr⟩:=aX hr;refine bU (XW (d:=26) (t:=44) (u:=44) (e:=80) (by_:=40) (x:=(.tmp 23)) (y:=(.tmp 25)) (c:=C9) (f:=(fun x:oN=>((Vn x):List Value))) (l:=s1) (fun _ _ _ h=>by obtain⟨_,_,rfl,rfl,⟨_,_,rfl,rfl,rfl⟩⟩:=h;rfl) (fun _=>rfl) kr rfl (ev (vS a6 s1 c6)) (ev (vS (aP b7) ([Z.1]) 1)) g d6 rfl kr (.inl kr) g1.src f3 fun a7 c7 T3 g8 e8 g=>aA 1 [(8,vS a7 l1 c7)] (aV ?_));have g:=g.f1.t;refine bT ?_;obtain rfl:=sI hr;have hL:=b9 _ rfl;exact cY ⟨l1,a7,c7,T3,g2,d9,m5,hL,rfl,q.t e3,g.f1.t.f1.f1.f9.f9.f9.f5.f9.f9.f9.f9,r1.o e3,r3.o e3,r5.o e3,r9.o e3,r2.o e3,r4.o e3,r7.o e3,e8,e7.o e3⟩
def xI(N:Nat)(p0:To)(p1:Ty)(p2:Int)(p3:Tn):Option (uD×Int):=
 (HT N p0).bind fun y1=>(if(!y1.2.1)then(some true) else((AX N p1).bind fun a=>some (!a)):Th).bind fun a=>if a then(some (((0,0,0),false,([]:mT),0),1)) else((vQ N y1 2 p3.1 p3.2).bind fun c=>if(c.2.2.2.2.2 !=1)then(some (((0,0,0),false,([]:mT),0),18)) else((eA (some []:Option (List (Int×dL))) 1 (some 50:dL)).bind fun a=>(eA a 2 (some 51:dL)).bind fun a=>(eA a 3 (some 52:dL)).bind fun a=>(eA a 4 (some 53:dL)).bind fun a=>(eA a 5 (some 54:dL)).bind fun a=>(eA a 6 (some 55:dL)).bind fun a=>(eA a 7 (some 56:dL)).bind fun a=>(eA a 8 (some 57:dL)).bind fun a=>(eA a 9 (some 58:dL)).bind fun a=>(eA a 10 (some 59:dL)).bind fun a=>(pT N (y1,p1,p2,(some []:tF),0,0,false,a) ([(2,p3.1,p3.2)])).bind fun b=>(yQ N (y1,p1,p2,b.1,b.2.1,b.2.2.1,b.2.2.2,a) c ([]:Tb)).bind fun y5=>some ((y5.2.1,y5.2.2.1,y5.2.2.2.1,y5.2.2.2.2),0)))
theorem QG{p0:To}{p1:Ty}{p2:Int}{p3:Tn}{r:uD×Int}(g:St m (O) w)(r1:RepS C1 m a1 c1 p0)(H:RepS C3 m a2 c2 p1)(hr:xI N p0 p1 p2 p3=some r):Calls prog 7 #[.agg #[vS a1 p0 c1],.agg #[vS a2 p1 c2],.int .u64 p2,.agg (V2 p3)] w fun e w'=>∃a7 a8 m',bW m m' e (.tuple #[.agg (Vo r.1.1.1 r.1.1.2.1 r.1.1.d r.1.2.1 a7 r.1.d.1 a8 r.1.e),vI r.2]) (kR a7 r.1.d.1 a8 80 3::O) w' (RepS C9 m' a7 a8 r.1.d.1):=by
 refine bP g func7 rfl ntmps7 fun q=>aB (dY 4 28 (.agg #[vS a1 p0 c1]) g fun b1 m1 w1 e1 g d4=>dY 5 31 (.agg #[vS a2 p1 c2]) g fun b2 m2 w2 e2 g B=>dY 7 41 (.agg (V2 p3)) g fun M m3 w3 R g D=>bX 8 46 (.agg #[vI 0,vI 0,vI 0,vB false,v6,vI 0]) g fun b4 w4 g=>aG 1 [] (aB (cI 13 (.agg #[vS a1 p0 c1]) g ((d4.o e2).o R) (aL 14 hr (XJ g (((r1.o e1).o e2).o R)) ?_))));rintro y1 hr _ w5 ⟨F,a3,c3,q1,c0,a9,a4,c4,q2,c6,b0,m4,rfl,S,g,U,V,Y,Z⟩;have B:=(B.o R).o S;have H:=(((H.o e1).o e2).o R).o S;refine aG 1 [(10,vP F 0)] (aF (aB (eV 10 hr (fun o1 L' w'=>∃E,L'=[(2,.int .u64 p2),(5,vP b2 0),(7,vP M 0),(8,vP b4 0),(10,vP F 0),(24,vB o1)]/\m.le E/\St E (cA F a3 c3 q1 a4 c4 q2 y1::kB b4 #[vI 0,vI 0,vI 0,vB false,vf,vI 0] 46::aD q1 c0 a9::aD q2 c6 b0::O) w'/\MRow E b2 0 [vS a2 p1 c2]/\RepS C3 E a2 c2 p1/\MRow E M 0 [vT p3.1,vT p3.2]/\RepS C1 E a3 c3 y1.1/\RepS aH E a4 c4 y1.e.1/\MapQ cR C7 true E q1 c0 a9 y1.d.1/\MapQ bA C8 true E q2 c6 b0 y1.f) ?_ ?_)))
 .rintro o1 hr _ w6 ⟨E,rfl,q,g,B,H,D,U,Y,V,Z⟩;refine aQ (aJ hr ?_ ?_)<;>intro A hr
  .refine aS 1 [(25,.agg #[vI 0,vI 0,vI 0,vB false,vf,vI 0])] (bF (.agg #[vI 0,vI 0,vI 0,vB false,vf,vI 0]) g.f1 fun a g=>aG 1 [(9,vI 1)] (aM (aU ?_)));cases hr;refine eI 8 46 [9] [vI 1] g.h ?_;have g:=(g.nilroom 80 3).front1;exact⟨none,0,E,rfl,q,g.t.f1.t.f1.t.f1.t,(RepS.nil _ _)⟩
  refine aN (aC (aS 2 [(26,vP F 0),(27,vP M 0)] (cI 28 (vT p3.1) g D (aA 1 [(29,vP M 1)] (cI 30 (vT p3.2) g (D.drop 1) (aL 31 hr (GM g.f3.f3 U V Y Z) ?_))))));rintro y3 hr _ w9 ⟨m7,rfl,a,g⟩;refine bX 11 66 (.agg dX) g fun b6 n5 g=>bF (.agg (Ve y3)) g fun n6 g=>aQ (aF (aB (bH 1 33 3 32 5 (vI y3.h) g.h (aG 1 [(34,vB (y3.h !=1))] (aJ hr ?_ ?_)))))<;>intro A hr
  .refine aS 1 [(35,.agg #[vI 0,vI 0,vI 0,vB false,vf,vI 0])] (bF (.agg #[vI 0,vI 0,vI 0,vB false,vf,vI 0]) g.f4 fun b g=>aG 1 [(9,vI 18)] (aM (aU ?_)));cases hr;refine eI 8 46 [9] [vI 18] g.h ?_;have g:=(g.nilroom 80 3).front1;exact⟨none,0,m7,rfl,q.t a,g.t.f1.t.f1.t.f1.t.f1.t,(RepS.nil _ _)⟩
  refine aN (aC (aS 1 [(36,vP F 0)] (cI 37 (.agg #[vS a2 p1 c2]) g (B.o a) (aA 1 [(38,.int .u64 p2)] (bU (nN 39 23 #[vP F 0,.agg #[vS a2 p1 c2],.int .u64 p2] kr rfl (nT func23 rfl ntmps23 (aB (dY 4 31 (.agg #[vS a2 p1 c2]) g fun b7 m8 n7 b g d5=>aG 1 [] (aB (aA 1 [(7,vP F 0)] (cI 8 (.agg #[vS a2 p1 c2]) g d5 (aA 1 [(9,.int .u64 p2)] (bU (pF (d:=10) (t:=116) kr rfl g fun b8 n8 g=>bU (pF (d:=11) (t:=119) kr rfl g fun o n9 g=> ?_))))))))))))))));have⟨l5,d6,hr⟩:=aX hr;refine bU (lC (ek:=cM) (c:=eD) (agg:=false) (k:=1) (yv:=(some 50:dL)) (cs:=[.func (.func 50) #[] #[]]) (z:= .nilFunc) (v:=(.func (.func 50) #[] #[])) (kt:=3) (et:=117) (t:=119) (x:=(.tmp 11)) (y:=(.const (vI 1))) (u:=(.func 50)) kr (ev (.map (some o))) (ev (vI 1)) (ev (.func (.func 50) #[] #[])) kr (iU kr) g (MapQ.new cM eD false _ _) rfl rfl d6 fun k6 h9 o0 g r7=> ?_);have⟨l6,d7,hr⟩:=aX hr;refine bU (lC (ek:=cM) (c:=eD) (agg:=false) (k:=2) (yv:=(some 51:dL)) (cs:=[.func (.func 51) #[] #[]]) (z:= .nilFunc) (v:=(.func (.func 51) #[] #[])) (kt:=3) (et:=117) (t:=119) (x:=(.tmp 11)) (y:=(.const (vI 2))) (u:=(.func 51)) kr (ev (.map (some o))) (ev (vI 2)) (ev (.func (.func 51) #[] #[])) kr (iU kr) g r7 rfl rfl d7 fun k7 k0 o3 g r8=> ?_);have⟨l7,d8,hr⟩:=aX hr
  refine bU (lC (ek:=cM) (c:=eD) (agg:=false) (k:=3) (yv:=(some 52:dL)) (cs:=[.func (.func 52) #[] #[]]) (z:= .nilFunc) (v:=(.func (.func 52) #[] #[])) (kt:=3) (et:=117) (t:=119) (x:=(.tmp 11)) (y:=(.const (vI 3))) (u:=(.func 52)) kr (ev (.map (some o))) (ev (vI 3)) (ev (.func (.func 52) #[] #[])) kr (iU kr) g r8 rfl rfl d8 fun k8 k1 o5 g r9=> ?_);have⟨l8,d9,hr⟩:=aX hr;refine bU (lC (ek:=cM) (c:=eD) (agg:=false) (k:=4) (yv:=(some 53:dL)) (cs:=[.func (.func 53) #[] #[]]) (z:= .nilFunc) (v:=(.func (.func 53) #[] #[])) (kt:=3) (et:=117) (t:=119) (x:=(.tmp 11)) (y:=(.const (vI 4))) (u:=(.func 53)) kr (ev (.map (some o))) (ev (vI 4)) (ev (.func (.func 53) #[] #[])) kr (iU kr) g r9 rfl rfl d9 fun k9 k2 o6 g f9=> ?_);have⟨l9,e0,hr⟩:=aX hr;refine bU (lC (ek:=cM) (c:=eD) (agg:=false) (k:=5) (yv:=(some 54:dL)) (cs:=[.func (.func 54) #[] #[]]) (z:= .nilFunc) (v:=(.func (.func 54) #[] #[])) (kt:=3) (et:=117) (t:=119) (x:=(.tmp 11)) (y:=(.const (vI 5))) (u:=(.func 54)) kr (ev (.map (some o))) (ev (vI 5)) (ev (.func (.func 54) #[] #[])) kr (iU kr) g f9 rfl rfl e0 fun l0 k3 o7 g g0=> ?_);have⟨n0,e8,hr⟩:=aX hr
  refine bU (lC (ek:=cM) (c:=eD) (agg:=false) (k:=6) (yv:=(some 55:dL)) (cs:=[.func (.func 55) #[] #[]]) (z:= .nilFunc) (v:=(.func (.func 55) #[] #[])) (kt:=3) (et:=117) (t:=119) (x:=(.tmp 11)) (y:=(.const (vI 6))) (u:=(.func 55)) kr (ev (.map (some o))) (ev (vI 6)) (ev (.func (.func 55) #[] #[])) kr (iU kr) g g0 rfl rfl e8 fun l1 k4 o8 g g1=> ?_);have⟨n1,c8,hr⟩:=aX hr;refine bU (lC (ek:=cM) (c:=eD) (agg:=false) (k:=7) (yv:=(some 56:dL)) (cs:=[.func (.func 56) #[] #[]]) (z:= .nilFunc) (v:=(.func (.func 56) #[] #[])) (kt:=3) (et:=117) (t:=119) (x:=(.tmp 11)) (y:=(.const (vI 7))) (u:=(.func 56)) kr (ev (.map (some o))) (ev (vI 7)) (ev (.func (.func 56) #[] #[])) kr (iU kr) g g1 rfl rfl c8 fun l2 k5 o9 g g2=> ?_);have⟨n2,c9,hr⟩:=aX hr;refine bU (lC (ek:=cM) (c:=eD) (agg:=false) (k:=8) (yv:=(some 57:dL)) (cs:=[.func (.func 57) #[] #[]]) (z:= .nilFunc) (v:=(.func (.func 57) #[] #[])) (kt:=3) (et:=117) (t:=119) (x:=(.tmp 11)) (y:=(.const (vI 8))) (u:=(.func 57)) kr (ev (.map (some o))) (ev (vI 8)) (ev (.func (.func 57) #[] #[])) kr (iU kr) g g2 rfl rfl c9 fun h3 g8 q0 g g3=> ?_);have⟨n3,d1,hr⟩:=aX hr
  refine bU (lC (ek:=cM) (c:=eD) (agg:=false) (k:=9) (yv:=(some 58:dL)) (cs:=[.func (.func 58) #[] #[]]) (z:= .nilFunc) (v:=(.func (.func 58) #[] #[])) (kt:=3) (et:=117) (t:=119) (x:=(.tmp 11)) (y:=(.const (vI 9))) (u:=(.func 58)) kr (ev (.map (some o))) (ev (vI 9)) (ev (.func (.func 58) #[] #[])) kr (iU kr) g g3 rfl rfl d1 fun h4 g9 q3 g g4=> ?_);have⟨a6,d2,hr⟩:=aX hr
  refine bU (lC (ek:=cM) (c:=eD) (agg:=false) (k:=10) (yv:=(some 59:dL)) (cs:=[.func (.func 59) #[] #[]]) (z:= .nilFunc) (v:=(.func (.func 59) #[] #[])) (kt:=3) (et:=117) (t:=119) (x:=(.tmp 11)) (y:=(.const (vI 10))) (u:=(.func 59)) kr (ev (.map (some o))) (ev (vI 10)) (ev (.func (.func 59) #[] #[])) kr (iU kr) g g4 rfl rfl d2 fun h5 h0 q4 g c7=>aA 2 [(13,.agg #[vP F 0,vS a2 p1 c2,.int .u64 p2,.map (some b8),vI 0,vI 0,vB false,.map (some o)])] (bU (qI 14 121 13 (.agg #[vP F 0,vS a2 p1 c2,.int .u64 p2,.map (some b8),vI 0,vI 0,vB false,.map (some o)]) g fun G q5 g=>aG 1 [(6,vP G 0)] (aM (aW [6] [vP G 0] ⟨_,rfl,aG 1 [(12,vP G 0)] (aB (aA 2 [(40,vP G 0),(41,vP M 0)] (cI 42 (vT p3.1) g ((D.o a).o b) (aA 1 [(43,vP M 1)] (cI 44 (vT p3.2) g (((D.o a).o b).drop 1) (aA 1 [(45,.agg #[vI 2,vT p3.1,vT p3.2])] (eH 46 80 1 C9 [(2,p3.1,p3.2)] g fun h8 l3 q6 l g g5=>aL 47 hr (BE (p0:=(y1,p1,p2,(some []:tF),0,0,false,a6)) g.f1.f2.f3.f7.f7.f7 (((U.o a).o b).o l) (((V.o a).o b).o l) (((Y.o a).o b).o l) (((Z.o a).o b).o l) (((H.o a).o b).o l) (MapQ.new bA cK false _ _) (c7.o l) g5) ?_)))))))⟩)))));rintro y4 hr _ q7 ⟨h6,h1,l4,rfl,p,g,g6⟩;refine aV ?_;have g:=g.f6.t
  refine aC (aS 1 [(48,vP G 0)] (bD 49 (.agg (Ve y3)) g.t.t.t.t.t.t.h (aL 50 hr (WB (p0:=(y1,p1,p2,y4.1,y4.2.1,y4.d.1,y4.e,a6)) (p1:=y3) g.f5.f5.f5.f5.f5.f5 ((((U.o a).o b).o l).o p) ((((V.o a).o b).o l).o p) ((((Y.o a).o b).o l).o p) ((((Z.o a).o b).o l).o p) ((((H.o a).o b).o l).o p) g6 ((c7.o l).o p) (RepS.nil _ _)) ?_)));rintro y5 hr _ q8 ⟨h7,h2,a5,c5,f0,rfl,d3,g,n4,g7⟩;refine bF (.agg (Vo y5.2.1.1 y5.2.1.2.1 y5.2.1.d y5.d.1 a5 y5.e.1 c5 y5.f)) g.f8 fun q9 g=>aG 1 [(9,vI 0)] (aM ?_);cases hr;exact eI 8 46 [9] [vI 0] g.h ⟨a5,c5,f0,rfl,((((q.t a).t b).t l).t p).t d3,g.t.f1.t.f1.t.f1.t.f1.t.f1.t.f1.t.f1.t,g7⟩
 intro o1 hr K;refine bH 3 18 4 17 1 (vB y1.2.1) g.t.t.h (aA 2 [(20,vB (!y1.2.1))] (cQ 20 hr ?_ ?_))<;>intro A hr
 .exact aA 4 [(24,vB true)] (bJ (K hr ⟨m4,rfl,(((q.t e1).t e2).t R).t S,g.f1.f1.f3.f3,B,H,D.o S,U,Y,V,Z⟩))
 refine cI 21 (.agg #[vS a2 p1 c2]) g B (aL 22 hr (VW g H) ?_);rintro l hr _ o ⟨b,rfl,a,g⟩;exact aA 2 [(24,vB (!l))] (bJ (K hr ⟨b,rfl,((((q.t e1).t e2).t R).t S).t a,g.f1.f1.f3.f3,B.o a,H.o a,(D.o S).o a,U.o a,Y.o a,V.o a,Z.o a⟩))
def BC(N:Nat)(p0:uD)(p1:uD)(s1:Int):Tg:=
 if(decide (s1<(List.length p0.2.2.1:Int)))then((bS p0.2.2.1 s1).bind fun a=>(bS p1.2.2.1 s1).bind fun b=>if(!((a.1==b.1)&&((a.2.1.toList==b.2.1.toList)&&((a.2.2.toList==b.2.2.toList)&&true))))then(some (.inr (.inr (false)))) else(some (.inl (IntKind.wrap .i64 (s1+1))))) else(some (.inr (.inl ())))
def FT(N:Nat)(p0:uD)(p1:uD):Th:=
 (if(!((p0.1.1==p1.1.1)&&((p0.1.2.1==p1.1.2.1)&&((p0.1.2.2==p1.1.2.2)&&true))))then(some true) else(if(!(p0.2.1==p1.2.1))then(some true) else(if(p0.2.2.2 !=p1.2.2.2)then(some true) else(some ((List.length p0.2.2.1:Int) !=(List.length p1.2.2.1:Int))))):Th).bind fun a=>if a then(some false) else((aK (BC N p0 p1) N 0).bind fun a=>(match a with| .inl o2=>some true| .inr (z)=>some z))
theorem qHp{p0:uD}{p1:uD}{r:Bool}(g:St m (O) w)(f:RepS C9 m a1 c1 p0.d.1)(k:RepS C9 m a2 c2 p1.d.1)(hr:FT N p0 p1=some r):Calls prog 8 #[.agg (Vo p0.1.1 p0.1.2.1 p0.1.d p0.2.1 a1 p0.d.1 c1 p0.e),.agg (Vo p1.1.1 p1.1.2.1 p1.1.d p1.2.1 a2 p1.d.1 c2 p1.e)] w fun e w'=>∃m',eP m m' e (vB r) (O) w':=by
 refine bP g func8 rfl ntmps8 fun q=>aB (dY 2 46 (.agg (Vo p0.1.1 p0.1.2.1 p0.1.d p0.2.1 a1 p0.d.1 c1 p0.e)) g fun l m1 w1 H g a=>dY 3 46 (.agg (Vo p1.1.1 p1.1.2.1 p1.1.d p1.2.1 a2 p1.d.1 c2 p1.e)) g fun n F w2 D g b=> ?_);have q:=(q.t H).t D;have f:=(f.o H).o D;have k:=(k.o H).o D;have a:=a.o D;refine aG 1 [] (aF (aB (eV 28 hr (fun R L' w'=>∃o,L'=[(2,vP l 0),(3,vP n 0),(33,vB R)]/\m.le o/\St o (O) w'/\MRow o l 0 [vI p0.1.1,vI p0.1.2.1,vI p0.1.d,vB p0.2.1,vS a1 p0.d.1 c1,vI p0.e]/\RepS C9 o a1 c1 p0.d.1/\MRow o n 0 [vI p1.1.1,vI p1.1.2.1,vI p1.1.d,vB p1.2.1,vS a2 p1.d.1 c2,vI p1.e]/\RepS C9 o a2 c2 p1.d.1) ?_ ?_)))
 .rintro R hr _ w3 ⟨o,rfl,q,g,a,f,b,k⟩;refine aQ (aJ hr ?_ ?_)<;>intro A hr
  .refine aI 1 [(4,vB false)] (aM (aU ?_));cases hr;exact aW [4] [vB false] ⟨o,rfl,q,g⟩
  refine aN (aC (aF (aS 1 [(34,vP l 4)] (cI 35 (vS a1 p0.d.1 c1) g (a.drop 4) (aG 2 [(36,vI (p0.2.2.1.length:Int)),(37,vI 0)] (bB ?_))))));have⟨z,hr,Z⟩:=aX hr;refine dW (.exit 0) (fun L' w'=>∃(o2:Unit),∃G,(.inl o2)=z/\L'=[]/\m.le G/\St G (O) w') ?_ ?_
  .rintro _ c ⟨o2,G,rfl,rfl,q,g⟩;have hr:=Z;refine cX (aC (aI 1 [(4,vB true)] (aM ?_)));cases hr;exact aW [4] [vB true] ⟨G,rfl,q,g⟩
  intro B;refine dJ (fun E L' w'=>∃(s1:Int),∃c,aK (BC N p0 p1) E s1=some z/\L'=[(2,vP l 0),(3,vP n 0),(36,vI (p0.2.2.1.length:Int)),(37,vI s1)]/\m.le c/\St c (O) w'/\MRow c l 0 [vI p0.1.1,vI p0.1.2.1,vI p0.1.d,vB p0.2.1,vS a1 p0.d.1 c1,vI p0.e]/\RepS C9 c a1 c1 p0.d.1/\MRow c n 0 [vI p1.1.1,vI p1.1.2.1,vI p1.1.d,vB p1.2.1,vS a2 p1.d.1 c2,vI p1.e]/\RepS C9 c a2 c2 p1.d.1) N ⟨0,o,hr,rfl,q,g,a,f,b,k⟩ ?_;rintro E _ w5 ⟨s1,c,hL,rfl,q,g,a,f,b,k⟩;obtain⟨E,a7,rfl,hr,M,u⟩:=dN hL;refine aI 1 [(38,vB (decide (s1<(p0.2.2.1.length:Int))))] (aF (aJ hr ?_ ?_))<;>intro A hr
  .refine aN (aC (aF (bB (aI 2 [(5,vI s1)] (aF (dO [(11,fun w'=>Inv c w'/\True)] kr g fun w6 _ g=> ?_))))));have v:=c.le_refl;refine tA g v (bL 0 40 (vP l 4) (eE 1 41 (vS a1 p0.d.1 c1) (a.drop 4) (bL 2 42 (vI s1) ?_)));have⟨p,V,hr⟩:=aX hr;refine oI (t:=44) (e:=80) (x:=(.tmp 41)) (y:=(.tmp 42)) 3 43 C9 kr rfl kr (.head _) (cP (iN (cP (cP (iN (cP mJ)))))) (ev (vS a1 p0.d.1 c1)) (ev (vI s1)) kr f V ?_;rintro b3 f1 a5 ⟨_,_,rfl,rfl,⟨_,_,rfl,rfl,rfl⟩⟩ S;refine eE 4 44 (.agg (Vj p)) S (bL 5 45 (vP n 4) (eE 6 46 (vS a2 p1.d.1 c2) (b.drop 4) (bL 7 47 (vI s1) ?_)));have⟨s,Y,hr⟩:=aX hr;refine oI (t:=44) (e:=80) (x:=(.tmp 46)) (y:=(.tmp 47)) 8 48 C9 kr rfl kr (.head _) (cP (iN (cP (cP (iN (cP mJ)))))) (ev (vS a2 p1.d.1 c2)) (ev (vI s1)) kr k Y ?_;rintro b4 f2 a6 ⟨_,_,rfl,rfl,⟨_,_,rfl,rfl,rfl⟩⟩ U;refine eE 9 49 (.agg (Vj s)) U (aZ 10 kr (ZV (d:=50) (t:=80) (t2:=80) (x:=(.tmp 44)) (y:=(.tmp 49)) (xs:=(Vj p)) (ys:=(Vj s)) ((p.1==s.1)&&((p.2.1.toList==s.2.1.toList)&&((p.2.2.toList==s.2.2.toList)&&true))) kr rfl (ev (.agg (Vj p))) (ev (.agg (Vj s))) kr kr kr (tA g v (cO kr (aC (aJ hr ?_ ?_))))))<;>intro A hr
   .refine aI 1 [(4,vB false)] (aM (bN (aU ?_)));have ho:=u _ (sI hr);subst ho;have hr:=Z;refine aU (bN (aU ?_));cases hr;exact aW [4] [vB false] ⟨c,rfl,q,g⟩
   refine aN (bT (aC (aY (aA 2 [(37,vI (wr (s1+1)))] (aV ?_)))));have hL:=M _ (sI hr);exact cY ⟨wr (s1+1),c,hL,rfl,q,g,a,f,b,k⟩
  refine cT (bG ?_);have ho:=u _ (sI hr);exact bG (xE (B _ _ ⟨(),c,ho,rfl,q,g⟩))
 intro R hr K;refine aA 1 [(6,vP l 0)] (cI 7 (.agg (Vl p0.1)) g a (aA 1 [(8,vP n 0)] (cI 9 (.agg (Vl p1.1)) g b (bU (ZV (d:=10) (t:=43) (t2:=43) (x:=(.tmp 7)) (y:=(.tmp 9)) (xs:=(Vl p0.1)) (ys:=(Vl p1.1)) ((p0.1.1==p1.1.1)&&((p0.1.2.1==p1.1.2.1)&&((p0.1.d==p1.1.d)&&true))) kr rfl (ev (.agg (Vl p0.1))) (ev (.agg (Vl p1.1))) kr kr kr (aA 1 [(11,vB (!((p0.1.1==p1.1.1)&&((p0.1.2.1==p1.1.2.1)&&((p0.1.d==p1.1.d)&&true)))))] (cQ 11 hr ?_ ?_)))))))<;>intro A hr
 .exact aA 22 [(33,vB true)] (bJ (K hr ⟨F,rfl,q,g,a,f,b,k⟩))
 refine aA 1 [(12,vP l 3)] (cI 13 (vB p0.2.1) g (a.drop 3) (aA 1 [(14,vP n 3)] (cI 15 (vB p1.2.1) g (b.drop 3) (aA 3 [(18,vB (!(p0.2.1==p1.2.1)))] (cQ 18 hr ?_ ?_)))))<;>intro A hr
 .exact aA 15 [(33,vB true)] (bJ (K hr ⟨F,rfl,q,g,a,f,b,k⟩))
 refine aA 1 [(19,vP l 5)] (cI 20 (vI p0.e) g (a.drop 5) (aA 1 [(21,vP n 5)] (cI 22 (vI p1.e) g (b.drop 5) (aA 3 [(25,vB (p0.e !=p1.e))] (cQ 25 hr ?_ ?_)))))<;>intro A hr
 .exact aA 8 [(33,vB true)] (bJ (K hr ⟨F,rfl,q,g,a,f,b,k⟩))
 exact aA 1 [(26,vP l 4)] (cI 27 (vS a1 p0.d.1 c1) g (a.drop 4) (aA 2 [(28,vI (p0.2.2.1.length:Int)),(29,vP n 4)] (cI 30 (vS a2 p1.d.1 c2) g (b.drop 4) (aA 3 [(33,vB ((p0.2.2.1.length:Int) !=(p1.2.2.1.length:Int)))] (bJ (K hr ⟨F,rfl,q,g,a,f,b,k⟩))))))
def WW(N:Nat)(p0:Int):Th:=
 (xD N p0).bind fun y1=>some (!y1)
theorem qJh{p0:Int}{r:Bool}(g:St m (O) w)(hr:WW N p0=some r):Calls prog 64 #[vI p0] w fun e w'=>∃m',eP m m' e (vB r) (O) w':=by
 refine bP g func64 rfl ntmps64 fun q=>aI 1 [] (aB (aA 1 [(3,vI p0)] (aL 4 hr (PV g) ?_)));rintro y1 hr _ c ⟨b,rfl,a,g⟩;refine aG 2 [(2,vB (!y1))] (aM ?_);obtain rfl:=sI hr;exact aW [2] [vB (!y1)] ⟨b,rfl,q.t a,g⟩
def WT(N:Nat)(p5:Tb)(s1:Int):EX:=
 if(decide (s1<(List.length p5:Int)))then((bS p5 s1).bind fun a=>(WW N a).bind fun a=>if a then(some (.inr (.inr (s1)))) else(some (.inl (IntKind.wrap .i64 (s1+1))))) else(some (.inr (.inl ())))
def XF(N:Nat)(p0:To)(p1:Ty)(p2:Int)(p3:BA)(p4:BA)(p5:Tb):Option (Int×uD×Int):=
 (HT N p0).bind fun y1=>(if(!y1.2.1)then(some true) else((AX N p1).bind fun a=>if(!a)then(some true) else(((aK (WT N p5) N 0).bind fun a=>(match a with| .inl a=>some (-1)| .inr (z)=>some z):Ta).bind fun o2=>some (decide (o2>=0)))):Th).bind fun a=>if a then(some (0,((0,0,0),false,([]:mT),0),1)) else((vQ N y1 1 p3 p4).bind fun b=>if(b.2.2.2.2.2 !=1)then(some (0,((0,0,0),false,([]:mT),0),18)) else((bS (((bC y1.2.2.1 b.2.2.2.1).getD ((⟨#[]⟩:BA),([]:T8),([]:eU))).2.2) b.2.2.2.2.1).bind fun a=>if((List.length p5:Int) !=(List.length a.2.2.1:Int))then(some (0,((0,0,0),false,([]:mT),0),13)) else((eA (some []:Option (List (Int×dL))) 1 (some 50:dL)).bind fun a=>(eA a 2 (some 51:dL)).bind fun a=>(eA a 3 (some 52:dL)).bind fun a=>(eA a 4 (some 53:dL)).bind fun a=>(eA a 5 (some 54:dL)).bind fun a=>(eA a 6 (some 55:dL)).bind fun a=>(eA a 7 (some 56:dL)).bind fun a=>(eA a 8 (some 57:dL)).bind fun a=>(eA a 9 (some 58:dL)).bind fun a=>(eA a 10 (some 59:dL)).bind fun a=>(pT N (y1,p1,p2,(some []:tF),0,0,false,a) ([(1,p3,p4)])).bind fun y5=>(yQ N (y1,p1,p2,y5.1,y5.2.1,y5.2.2.1,y5.2.2.2,a) b p5).bind fun a=>some (a.2.1.2.1,(a.2.1,a.2.2.1,a.2.2.2.1,a.2.2.2.2),0))))
theorem qJm{p0:To}{p1:Ty}{p2:Int}{p3:BA}{p4:BA}{p5:Tb}{r:Int×uD×Int}(g:St m (O) w)(r1:RepS C1 m a1 c1 p0)(B:RepS C3 m a2 c2 p1)(E:RepS (aR .i64) m a3 c3 p5)(hr:XF N p0 p1 p2 p3 p4 p5=some r):Calls prog 26 #[.agg #[vS a1 p0 c1],.agg #[vS a2 p1 c2],.int .u64 p2,vT p3,vT p4,vS a3 p5 c3] w fun e w'=>∃d9 e0 m',bW m m' e (.tuple #[vI r.1,.agg (Vo r.2.1.1.1 r.2.1.1.2.1 r.2.1.1.d r.2.1.2.1 d9 r.2.1.d.1 e0 r.2.1.e),vI r.d]) (kR d9 r.2.1.d.1 e0 80 3::O) w' (RepS C9 m' d9 e0 r.2.1.d.1):=by
 refine bP g func26 rfl ntmps26 fun q=>aB (dY 6 28 (.agg #[vS a1 p0 c1]) g fun b1 m1 w1 e1 g g6=>dY 7 31 (.agg #[vS a2 p1 c2]) g fun b2 m2 w2 e2 g b=>aA 1 [] (bX 13 46 (.agg #[vI 0,vI 0,vI 0,vB false,v6,vI 0]) g fun b3 w3 g=>aG 1 [] (aB (cI 18 (.agg #[vS a1 p0 c1]) g (g6.o e2) (aL 19 hr (XJ g ((r1.o e1).o e2)) ?_)))));rintro y1 hr _ w4 ⟨D,a4,c4,F,b0,V,a5,c5,S,c0,Y,m3,rfl,e3,g,G,p,H,M⟩;have q:=((q.t e1).t e2).t e3;have E:=((E.o e1).o e2).o e3;have b:=b.o e3;have B:=((B.o e1).o e2).o e3;refine aG 1 [(15,vP D 0)] (aF (aB (eV 14 hr (fun o1 L' w'=>∃m4,L'=[(2,.int .u64 p2),(3,vT p3),(4,vT p4),(5,vS a3 p5 c3),(7,vP b2 0),(13,vP b3 0),(15,vP D 0),(33,vB o1)]/\m.le m4/\St m4 (cA D a4 c4 F a5 c5 S y1::kB b3 #[vI 0,vI 0,vI 0,vB false,vf,vI 0] 46::aD F b0 V::aD S c0 Y::O) w'/\RepS (aR .i64) m4 a3 c3 p5/\MRow m4 b2 0 [vS a2 p1 c2]/\RepS C3 m4 a2 c2 p1/\RepS C1 m4 a4 c4 y1.1/\RepS aH m4 a5 c5 y1.e.1/\MapQ cR C7 true m4 F b0 V y1.d.1/\MapQ bA C8 true m4 S c0 Y y1.f) ?_ ?_)))
 .rintro o1 hr _ w5 ⟨m4,rfl,q,g,E,b,B,G,H,p,M⟩;refine aQ (aJ hr ?_ ?_)<;>intro A hr
  .refine aS 2 [(34,.agg #[vI 0,vI 0,vI 0,vB false,vf,vI 0]),(12,vI 0)] (bF (.agg #[vI 0,vI 0,vI 0,vB false,vf,vI 0]) g.f1 fun a g=>aG 1 [(14,vI 1)] (aM (aU ?_)));cases hr;refine oT [.tmp 12,.cell 13 46,.tmp 14] [vI 0,.agg #[vI 0,vI 0,vI 0,vB false,vf,vI 0],vI 1] rfl (ResAll.cons (ResAt.tmp kr) (ResAll.cons (ResAt.blk (v:= .agg #[vI 0,vI 0,vI 0,vB false,vf,vI 0]) (o:=0) kr g.h kr) (ResAll.cons (ResAt.tmp kr) ResAll.nil))) ?_;have g:=(g.nilroom 80 3).front1;exact⟨none,0,m4,rfl,q,g.t.f1.t.f1.t.f1.t,(RepS.nil _ _)⟩
  refine aN (aC (aS 3 [(35,vP D 0),(36,vT p3),(37,vT p4)] (aL 38 hr (GM g.f3.f3 G p H M) ?_)));rintro U hr _ s6 ⟨d3,rfl,e6,g⟩;have q:=q.t e6;have p:=p.o e6;refine bX 16 66 (.agg dX) g fun b6 s7 g=>bF (.agg (Ve U)) g fun s8 g=>aQ (aF (aB (bH 1 40 3 39 5 (vI U.h) g.h (aG 1 [(41,vB (U.h !=1))] (aJ hr ?_ ?_)))))<;>intro A hr
  .refine aS 2 [(42,.agg #[vI 0,vI 0,vI 0,vB false,vf,vI 0]),(12,vI 0)] (bF (.agg #[vI 0,vI 0,vI 0,vB false,vf,vI 0]) g.f4 fun a g=>aG 1 [(14,vI 18)] (aM (aU ?_)));cases hr;refine oT [.tmp 12,.cell 13 46,.tmp 14] [vI 0,.agg #[vI 0,vI 0,vI 0,vB false,vf,vI 0],vI 18] rfl (ResAll.cons (ResAt.tmp kr) (ResAll.cons (ResAt.blk (v:= .agg #[vI 0,vI 0,vI 0,vB false,vf,vI 0]) (o:=0) kr g.h kr) (ResAll.cons (ResAt.tmp kr) ResAll.nil))) ?_;have g:=(g.nilroom 80 3).front1;exact⟨none,0,d3,rfl,q,g.t.f1.t.f1.t.f1.t.f1.t,(RepS.nil _ _)⟩
  refine aN (aC (aF (aF (dO [(17,fun w'=>Inv d3 w'/\Piece.holds d3 w' (kB b6 (Ve U) 66)/\Piece.holds d3 w' (cA D a4 c4 F a5 c5 S y1)/\True)] kr g fun s9 _ g=> ?_))));have d7:=d3.le_refl;refine⟨bO (aT g d7),cE 5 [(0,43,vS a3 p5 c3),(1,44,vI (p5.length:Int)),(2,45,vP D 0),(3,46,vP D 0),(4,47,vP D 2)] (cV 5 48 (.map F) pO (bL 6 49 (vP b6 3) (cV 7 50 (vT U.e.1) cZ (bL 10 53 (vP b6 4) (cV 11 54 (vI U.f.1) cZ (aZ 8 kr (qT (ek:=cR) (c:=C7) (agg:=true) (k:=U.e.1) (zx:=(eB,([]:T8),([]:eU))) (zcs:=[vT eB,v2,vd]) (z:=(.agg #[vT eB,v2,vd])) (kt:=9) (et:=102) (d:=51) (t:=69) (x:=(.tmp 48)) (y:=(.tmp 50)) (ok:=false) kr rfl (ev (.map F)) (ev (vT U.e.1)) kr (uR kr) g.t.h p ⟨_,_,rfl,rfl,⟨_,_,rfl,(nJ (RepS.nil _ _)),(nJ (RepS.nil _ _))⟩⟩ rfl ?_)))))))⟩;rintro n4 ⟨_,_,rfl,rfl,⟨_,_,rfl,⟨a6,c6,rfl,r8⟩,⟨a7,c7,rfl,r9⟩⟩⟩;refine⟨bO (aT g d7),bL 9 52 (.slice a7 (List.length (((bC y1.d.1 U.e.1).getD (eB,([]:T8),([]:eU))).2.2)) c7) ?_⟩;have⟨x2,g9,hr⟩:=aX hr;refine oI (t:=100) (e:=105) (x:=(.tmp 52)) (y:=(.tmp 54)) 12 55 C6 kr rfl kr (.head _) (cP (cP mJ)) (ev (.slice a7 (List.length (((bC y1.d.1 U.e.1).getD (eB,([]:T8),([]:eU))).2.2)) c7)) (ev (vI U.f.1)) kr r9 g9 ?_;rintro b7 f2 n5 ⟨_,_,rfl,rfl,⟨_,_,rfl,rfl,⟨_,_,rfl,⟨a8,c8,rfl,s3⟩,⟨a9,c9,rfl,s4⟩⟩⟩⟩ g8
  refine bL 13 56 (.pointer (some ⟨b7,f2+2,none⟩)) (eE 14 57 (vS a8 x2.d.1 c8) (g8.drop 2) (cE 2 [(15,58,vI (x2.2.2.1.length:Int)),(16,59,vB ((p5.length:Int) !=(x2.2.2.1.length:Int)))] (cO kr (aC (aJ hr ?_ ?_)))))<;>intro A hr
  .refine aS 2 [(60,.agg #[vI 0,vI 0,vI 0,vB false,vf,vI 0]),(12,vI 0)] (bF (.agg #[vI 0,vI 0,vI 0,vB false,vf,vI 0]) g.f4 fun a g=>aG 1 [(14,vI 13)] (aM (aU ?_)));cases hr;refine oT [.tmp 12,.cell 13 46,.tmp 14] [vI 0,.agg #[vI 0,vI 0,vI 0,vB false,vf,vI 0],vI 13] rfl (ResAll.cons (ResAt.tmp kr) (ResAll.cons (ResAt.blk (v:= .agg #[vI 0,vI 0,vI 0,vB false,vf,vI 0]) (o:=0) kr g.h kr) (ResAll.cons (ResAt.tmp kr) ResAll.nil))) ?_;have g:=(g.nilroom 80 3).front1;exact⟨none,0,d3,rfl,q,g.t.f1.t.f1.t.f1.t.f1.t,(RepS.nil _ _)⟩
  refine aN (aC (aS 1 [(61,vP D 0)] (cI 62 (.agg #[vS a2 p1 c2]) g (b.o e6) (aA 1 [(63,.int .u64 p2)] (bU (nN 64 23 #[vP D 0,.agg #[vS a2 p1 c2],.int .u64 p2] kr rfl (nT func23 rfl ntmps23 (aB (dY 4 31 (.agg #[vS a2 p1 c2]) g fun b8 o7 t3 e7 g g7=>aG 1 [] (aB (aA 1 [(7,vP D 0)] (cI 8 (.agg #[vS a2 p1 c2]) g g7 (aA 1 [(9,.int .u64 p2)] (bU (pF (d:=10) (t:=116) kr rfl g fun b9 t4 g=>bU (pF (d:=11) (t:=119) kr rfl g fun l t5 g=> ?_))))))))))))))));have⟨q0,h0,hr⟩:=aX hr;refine bU (lC (ek:=cM) (c:=eD) (agg:=false) (k:=1) (yv:=(some 50:dL)) (cs:=[.func (.func 50) #[] #[]]) (z:= .nilFunc) (v:=(.func (.func 50) #[] #[])) (kt:=3) (et:=117) (t:=119) (x:=(.tmp 11)) (y:=(.const (vI 1))) (u:=(.func 50)) kr (ev (.map (some l))) (ev (vI 1)) (ev (.func (.func 50) #[] #[])) kr (iU kr) g (MapQ.new cM eD false _ _) rfl rfl h0 fun n6 l7 t6 g h3=> ?_);have⟨q3,h1,hr⟩:=aX hr;refine bU (lC (ek:=cM) (c:=eD) (agg:=false) (k:=2) (yv:=(some 51:dL)) (cs:=[.func (.func 51) #[] #[]]) (z:= .nilFunc) (v:=(.func (.func 51) #[] #[])) (kt:=3) (et:=117) (t:=119) (x:=(.tmp 11)) (y:=(.const (vI 2))) (u:=(.func 51)) kr (ev (.map (some l))) (ev (vI 2)) (ev (.func (.func 51) #[] #[])) kr (iU kr) g h3 rfl rfl h1 fun n7 l8 t7 g h4=> ?_);have⟨q4,h2,hr⟩:=aX hr
  refine bU (lC (ek:=cM) (c:=eD) (agg:=false) (k:=3) (yv:=(some 52:dL)) (cs:=[.func (.func 52) #[] #[]]) (z:= .nilFunc) (v:=(.func (.func 52) #[] #[])) (kt:=3) (et:=117) (t:=119) (x:=(.tmp 11)) (y:=(.const (vI 3))) (u:=(.func 52)) kr (ev (.map (some l))) (ev (vI 3)) (ev (.func (.func 52) #[] #[])) kr (iU kr) g h4 rfl rfl h2 fun n8 l9 t8 g h5=> ?_);have⟨q5,f0,hr⟩:=aX hr;refine bU (lC (ek:=cM) (c:=eD) (agg:=false) (k:=4) (yv:=(some 53:dL)) (cs:=[.func (.func 53) #[] #[]]) (z:= .nilFunc) (v:=(.func (.func 53) #[] #[])) (kt:=3) (et:=117) (t:=119) (x:=(.tmp 11)) (y:=(.const (vI 4))) (u:=(.func 53)) kr (ev (.map (some l))) (ev (vI 4)) (ev (.func (.func 53) #[] #[])) kr (iU kr) g h5 rfl rfl f0 fun n9 n0 t9 g h6=> ?_);have⟨q6,f9,hr⟩:=aX hr;refine bU (lC (ek:=cM) (c:=eD) (agg:=false) (k:=5) (yv:=(some 54:dL)) (cs:=[.func (.func 54) #[] #[]]) (z:= .nilFunc) (v:=(.func (.func 54) #[] #[])) (kt:=3) (et:=117) (t:=119) (x:=(.tmp 11)) (y:=(.const (vI 5))) (u:=(.func 54)) kr (ev (.map (some l))) (ev (vI 5)) (ev (.func (.func 54) #[] #[])) kr (iU kr) g h6 rfl rfl f9 fun o0 n1 u0 g h7=> ?_);have⟨q7,g0,hr⟩:=aX hr
  refine bU (lC (ek:=cM) (c:=eD) (agg:=false) (k:=6) (yv:=(some 55:dL)) (cs:=[.func (.func 55) #[] #[]]) (z:= .nilFunc) (v:=(.func (.func 55) #[] #[])) (kt:=3) (et:=117) (t:=119) (x:=(.tmp 11)) (y:=(.const (vI 6))) (u:=(.func 55)) kr (ev (.map (some l))) (ev (vI 6)) (ev (.func (.func 55) #[] #[])) kr (iU kr) g h7 rfl rfl g0 fun o5 n2 u1 g h8=> ?_);have⟨q8,g1,hr⟩:=aX hr;refine bU (lC (ek:=cM) (c:=eD) (agg:=false) (k:=7) (yv:=(some 56:dL)) (cs:=[.func (.func 56) #[] #[]]) (z:= .nilFunc) (v:=(.func (.func 56) #[] #[])) (kt:=3) (et:=117) (t:=119) (x:=(.tmp 11)) (y:=(.const (vI 7))) (u:=(.func 56)) kr (ev (.map (some l))) (ev (vI 7)) (ev (.func (.func 56) #[] #[])) kr (iU kr) g h8 rfl rfl g1 fun o6 n3 u2 g h9=> ?_);have⟨q9,g2,hr⟩:=aX hr;refine bU (lC (ek:=cM) (c:=eD) (agg:=false) (k:=8) (yv:=(some 57:dL)) (cs:=[.func (.func 57) #[] #[]]) (z:= .nilFunc) (v:=(.func (.func 57) #[] #[])) (kt:=3) (et:=117) (t:=119) (x:=(.tmp 11)) (y:=(.const (vI 8))) (u:=(.func 57)) kr (ev (.map (some l))) (ev (vI 8)) (ev (.func (.func 57) #[] #[])) kr (iU kr) g h9 rfl rfl g2 fun l1 k6 u3 g k0=> ?_);have⟨r0,g3,hr⟩:=aX hr
  refine bU (lC (ek:=cM) (c:=eD) (agg:=false) (k:=9) (yv:=(some 58:dL)) (cs:=[.func (.func 58) #[] #[]]) (z:= .nilFunc) (v:=(.func (.func 58) #[] #[])) (kt:=3) (et:=117) (t:=119) (x:=(.tmp 11)) (y:=(.const (vI 9))) (u:=(.func 58)) kr (ev (.map (some l))) (ev (vI 9)) (ev (.func (.func 58) #[] #[])) kr (iU kr) g k0 rfl rfl g3 fun l2 k7 u4 g k2=> ?_);have⟨d8,g4,hr⟩:=aX hr
  refine bU (lC (ek:=cM) (c:=eD) (agg:=false) (k:=10) (yv:=(some 59:dL)) (cs:=[.func (.func 59) #[] #[]]) (z:= .nilFunc) (v:=(.func (.func 59) #[] #[])) (kt:=3) (et:=117) (t:=119) (x:=(.tmp 11)) (y:=(.const (vI 10))) (u:=(.func 59)) kr (ev (.map (some l))) (ev (vI 10)) (ev (.func (.func 59) #[] #[])) kr (iU kr) g k2 rfl rfl g4 fun l3 k8 u5 g e8=>aA 2 [(13,.agg #[vP D 0,vS a2 p1 c2,.int .u64 p2,.map (some b9),vI 0,vI 0,vB false,.map (some l)])] (bU (qI 14 121 13 (.agg #[vP D 0,vS a2 p1 c2,.int .u64 p2,.map (some b9),vI 0,vI 0,vB false,.map (some l)]) g fun d4 u6 g=>aG 1 [(6,vP d4 0)] (aM (aW [6] [vP d4 0] ⟨_,rfl,aG 1 [(17,vP d4 0)] (aB (aA 4 [(65,vP d4 0),(68,.agg #[vI 1,vT p3,vT p4])] (eH 69 80 1 C9 [(1,p3,p4)] g fun l6 o8 u7 R g k3=>aL 70 hr (BE (p0:=(y1,p1,p2,(some []:tF),0,0,false,d8)) g.f1.f2.f3.f7.f7.f7 (((G.o e6).o e7).o R) ((p.o e7).o R) (((H.o e6).o e7).o R) (((M.o e6).o e7).o R) (((B.o e6).o e7).o R) (MapQ.new bA cK false _ _) (e8.o R) k3) ?_)))⟩)))));rintro y5 hr _ u9 ⟨l4,k9,o9,rfl,Z,g,k4⟩;refine aV ?_;have g:=g.f6.t
  refine aC (aS 1 [(71,vP d4 0)] (bD 72 (.agg (Ve U)) g.t.t.t.t.t.t.h (aA 1 [(73,vS a3 p5 c3)] (aL 74 hr (WB (p0:=(y1,p1,p2,y5.1,y5.2.1,y5.d.1,y5.e,d8)) (p1:=U) g.f5.f5.f5.f5.f5.f5 ((((G.o e6).o e7).o R).o Z) (((p.o e7).o R).o Z) ((((H.o e6).o e7).o R).o Z) ((((M.o e6).o e7).o R).o Z) ((((B.o e6).o e7).o R).o Z) k4 ((e8.o R).o Z) ((((E.o e6).o e7).o R).o Z)) ?_))));rintro a hr _ v0 ⟨l5,l0,d1,d2,d5,rfl,g5,g,s5,k5⟩;refine bF (.agg (Vo a.2.1.1 a.2.1.2.1 a.2.1.d a.d.1 d1 a.e.1 d2 a.f)) g.f8 fun v1 g=>aQ (aF (dO [(7,fun w'=>Inv d5 w'/\True),(5,fun w'=>Inv d5 w'/\Piece.holds d5 w' (kB b3 (Vo a.2.1.1 a.2.1.2.1 a.2.1.d a.d.1 d1 a.e.1 d2 a.f) 46)/\True)] kr g fun v3 _ g=> ?_));have d6:=d5.le_refl;refine⟨iE (aT g d6) (aT g d6),cE 2 [(0,75,vP b3 0),(1,76,vP b3 1)] (pK 3 76 2 77 1 (vI a.2.1.2.1) (.tail _ (.head _)) cZ (pK 46 13 3 78 0 (.agg (Vo a.2.1.1 a.2.1.2.1 a.2.1.d a.d.1 d1 a.e.1 d2 a.f)) (.tail _ (.head _)) cZ (bL 4 12 (vI a.2.1.2.1) (aZ 5 kr (iX 46 13 78 (.agg (Vo a.2.1.1 a.2.1.2.1 a.2.1.d a.d.1 d1 a.e.1 d2 a.f)) g fun v4 g=>⟨pQ (aT g d6),bL 6 14 (vI 0) (cO kr (aC (aM ?_)))⟩)))))⟩;cases hr
  refine oT [.tmp 12,.cell 13 46,.tmp 14] [vI a.2.1.2.1,.agg (Vo a.2.1.1 a.2.1.2.1 a.2.1.d a.d.1 d1 a.e.1 d2 a.f),vI 0] rfl (ResAll.cons (ResAt.tmp kr) (ResAll.cons (ResAt.blk (v:= .agg (Vo a.2.1.1 a.2.1.2.1 a.2.1.d a.d.1 d1 a.e.1 d2 a.f)) (o:=0) kr g.h kr) (ResAll.cons (ResAt.tmp kr) ResAll.nil))) ?_;exact⟨d1,d2,d5,rfl,(((q.t e7).t R).t Z).t g5,g.t.f1.t.f1.t.f1.t.f1.t.f1.t.f1.t.f1.t,k5⟩
 intro o1 hr K;refine bH 3 23 4 22 1 (vB y1.2.1) g.t.t.h (aA 2 [(25,vB (!y1.2.1))] (cQ 25 hr ?_ ?_))<;>intro A hr
 .exact aA 8 [(33,vB true)] (bJ (K hr ⟨m3,rfl,q,g.f1.f1.f3.f3,E,b,B,G,H,p,M⟩))
 refine cI 26 (.agg #[vS a2 p1 c2]) g b (aL 27 hr (VW g B) ?_);rintro y2 hr _ w6 ⟨m5,rfl,a,g⟩;refine aA 3 [(30,vB (!y2))] (cQ 30 hr ?_ ?_)<;>intro A hr
 .exact aA 3 [(33,vB true)] (bJ (K hr ⟨m5,rfl,q.t a,g.f1.f1.f3.f3,E.o a,b.o a,B.o a,G.o a,H.o a,p.o a,M.o a⟩))
 refine aA 1 [(31,vS a3 p5 c3)] (bU (nN 32 63 #[vS a3 p5 c3,.func (.func 64) #[] #[]] kr rfl (nT func63 rfl ntmps63 (aI 1 [] (aB (aA 2 [(5,vS a3 p5 c3),(6,.func (.func 64) #[] #[])] ?_))))));have⟨o2,hr,j1⟩:=aX hr;refine bU (nN 7 94 #[vS a3 p5 c3,.func (.func 64) #[] #[]] kr rfl (NA (fun v' w'=>∃R,v'=(vI o2)/\m.le R/\St R (cA D a4 c4 F a5 c5 S y1::kB b3 #[vI 0,vI 0,vI 0,vB false,vf,vI 0] 46::aD F b0 V::aD S c0 Y::O) w'/\RepS (aR .i64) R a3 c3 p5/\MRow R b2 0 [vS a2 p1 c2]/\RepS C3 R a2 c2 p1/\RepS C1 R a4 c4 y1.1/\RepS aH R a5 c5 y1.e.1/\MapQ cR C7 true R F b0 V y1.d.1/\MapQ bA C8 true R S c0 Y y1.f) ?_ ?_))
 .have hr:=j1;rintro _ l ⟨R,rfl,q,g,E,b,B,G,H,p,M⟩;refine⟨_,rfl,?_⟩;exact aG 2 [(4,vB (decide (o2>=0)))] (aM (aW [4] [vB (decide (o2>=0))] ⟨_,rfl,aA 1 [(33,vB (decide (o2>=0)))] (bJ (K hr ⟨R,rfl,q,g.f3.f3.f3.f3,E,b,B,G,H,p,M⟩))⟩))
 refine nT func94 rfl ntmps94 (aI 1 [] (aF (aI 3 [(7,vI (p5.length:Int)),(8,vI 0)] (bB ?_))));have⟨d2,hr,j2⟩:=aX hr;refine dW (.exit 0) (fun L' w'=>∃(o3:Unit),∃U,(.inl o3)=d2/\L'=[]/\m.le U/\St U (cA D a4 c4 F a5 c5 S y1::kB b3 #[vI 0,vI 0,vI 0,vB false,vf,vI 0] 46::aD F b0 V::aD S c0 Y::O) w'/\RepS (aR .i64) U a3 c3 p5/\MRow U b2 0 [vS a2 p1 c2]/\RepS C3 U a2 c2 p1/\RepS C1 U a4 c4 y1.1/\RepS aH U a5 c5 y1.e.1/\MapQ cR C7 true U F b0 V y1.d.1/\MapQ bA C8 true U S c0 Y y1.f) ?_ ?_
 .rintro _ l ⟨o3,U,rfl,rfl,q,g,E,b,B,G,H,p,M⟩;have hr:=j2;refine cX (aC (aI 1 [(4,vI (-1))] (aM ?_)));cases hr;exact aW [4] [vI (-1)] ⟨_,rfl,⟨U,rfl,q,g.f3.f3.f3.f3,E,b,B,G,H,p,M⟩⟩
 intro d3;refine dJ (fun k1 L' w'=>∃(s1:Int),∃Z,aK (WT N p5) k1 s1=some d2/\L'=[(0,vS a3 p5 c3),(1,.func (.func 64) #[] #[]),(7,vI (p5.length:Int)),(8,vI s1)]/\m.le Z/\St Z (cA D a4 c4 F a5 c5 S y1::kB b3 #[vI 0,vI 0,vI 0,vB false,vf,vI 0] 46::aD F b0 V::aD S c0 Y::O) w'/\RepS (aR .i64) Z a3 c3 p5/\MRow Z b2 0 [vS a2 p1 c2]/\RepS C3 Z a2 c2 p1/\RepS C1 Z a4 c4 y1.1/\RepS aH Z a5 c5 y1.e.1/\MapQ cR C7 true Z F b0 V y1.d.1/\MapQ bA C8 true Z S c0 Y y1.f) N ⟨0,m5,hr,rfl,q.t a,g.f1.f1.f3.f3,E.o a,b.o a,B.o a,G.o a,H.o a,p.o a,M.o a⟩ ?_;rintro k1 _ w9 ⟨s1,Z,hL,rfl,q,g,E,b,B,G,H,p,M⟩;obtain⟨k1,d7,rfl,hr,d4,d1⟩:=dN hL;refine aI 1 [(9,vB (decide (s1<(p5.length:Int))))] (aF (aJ hr ?_ ?_))<;>intro A hr
 .refine aN (aC (aF (bB (aI 2 [(5,vI s1)] (aB (aA 3 [(11,.func (.func 64) #[] #[]),(12,vS a3 p5 c3),(13,vI s1)] (iH 14 E hr ?_)))))));rintro x1 hr b5 f1 d6 rfl d5;refine iG 15 3 14 f1 (vI x1) g d5 (aL 16 hr (qJh g) ?_);rintro y3 hr _ d8 ⟨m9,rfl,l,g⟩;refine aQ (aJ hr ?_ ?_)<;>intro A hr
  .refine aI 2 [(4,vI s1)] (aM (bN (aU ?_)));have ho:=d1 _ (sI hr);subst ho;have hr:=j2;refine aU (bN (aU ?_));obtain rfl:=sI hr;exact aW [4] [vI s1] ⟨_,rfl,⟨m9,rfl,q.t l,g.f3.f3.f3.f3,E.o l,b.o l,B.o l,G.o l,H.o l,p.o l,M.o l⟩⟩
  refine aN (bT (aC (aY (aA 2 [(8,vI (wr (s1+1)))] (aV ?_)))));have hL:=d4 _ (sI hr);exact cY ⟨wr (s1+1),m9,hL,rfl,q.t l,g.f3.f3.f3.f3,E.o l,b.o l,B.o l,G.o l,H.o l,p.o l,M.o l⟩
 refine cT (bG ?_);have ho:=d1 _ (sI hr);have g:=g.f3.f3.f3.f3;exact bG (xE (d3 _ _ ⟨(),Z,ho,rfl,q,g,E,b,B,G,H,p,M⟩))
def LV(N:Nat):Th:=
 (xI N ([((⟨#[97,46,115,114,99]⟩:BA),(⟨#[112,97,99,107,97,103,101,32,112,59,32,102,117,110,99,32,102,40,120,41,32,61,32,120,32,42,32,120,59,32,116,101,115,116,32,116,32,61,32,102,40,50,41,32,61,61,32,52,59]⟩:BA))]) ([]:Ty) 0 ((⟨#[112]⟩:BA),(⟨#[116]⟩:BA))).bind fun y1=>(XF N ([((⟨#[97,46,115,114,99]⟩:BA),(⟨#[112,97,99,107,97,103,101,32,112,59,32,102,117,110,99,32,102,40,120,41,32,61,32,120,32,42,32,120,59,32,116,101,115,116,32,116,32,61,32,102,40,50,41,32,61,61,32,52,59]⟩:BA))]) ([]:Ty) 0 (⟨#[112]⟩:BA) (⟨#[102]⟩:BA) ([(3:Int)])).bind fun a=>(if(y1.2==0)then(if(a.2.2==0)then(if((y1.1.1.1==1)&&((y1.1.1.2.1==1)&&((y1.1.1.2.2==0)&&true)))then(if(y1.1.2.2.2==7)then(if((List.length y1.1.2.2.1:Int)==2)then(some (a.1==9)) else(some false)) else(some false)) else(some false)) else(some false)) else(some false):Th).bind fun a=>some a
theorem qIe{r:Bool}(g:St m (O) w)(hr:LV N=some r):Calls prog 9 #[] w fun e w'=>∃m',eP m m' e (vB r) (O) w':=by
 refine bP g func9 rfl ntmps9 fun q=>aI 1 [] (aB (aA 1 [(7,.agg (V3 ba wO))] (eH 8 62 1 C1 [(ba,wO)] g fun f V w1 H g b=>aA 1 [(9,.agg #[.slice (aP f) (List.length ([(ba,wO)])) 1])] (bX 1 28 (.agg #[v6]) g fun E w2 g=>bF (.agg #[.slice (aP f) (List.length ([(ba,wO)])) 1]) g fun w3 g=>aQ (aB (bD 11 (.agg #[.slice (aP f) (List.length ([(ba,wO)])) 1]) g.h (aA 2 [(12,.agg #[v8]),(13,.agg (V3 be bf))] (aL 14 hr (QG (p3:=(be,bf)) g b (RepS.nil _ _)) ?_))))))));rintro y1 hr _ w4 ⟨n,o,Y,rfl,B,g,c⟩;refine aA 3 [(15,.agg (Vo y1.1.1.1 y1.1.1.2.1 y1.1.1.d y1.1.2.1 n y1.1.d.1 o y1.1.e)),(16,vI y1.2)] (bX 2 46 (.agg #[vI 0,vI 0,vI 0,vB false,v6,vI 0]) g fun F w5 g=>bF (.agg (Vo y1.1.1.1 y1.1.1.2.1 y1.1.1.d y1.1.2.1 n y1.1.d.1 o y1.1.e)) g fun w6 g=>aG 1 [(3,vI y1.2)] (aB (bD 18 (.agg #[.slice (aP f) (List.length ([(ba,wO)])) 1]) g.t.t.h (aA 1 [(19,.agg #[v8])] (eH 20 3 1 (aR .i64) [(3:Int)] g fun U Z w7 v g M=>aL 21 hr (qJm g ((b.o B).o v) (RepS.nil _ _) M) ?_)))));rintro a hr _ w8 ⟨s,u,p,rfl,D,g,l⟩;have q:=(((q.t H).t B).t v).t D;have b:=((b.o B).o v).o D;have c:=(c.o v).o D
 refine aA 4 [(22,vI a.1),(23,.agg (Vo a.2.1.1.1 a.2.1.1.2.1 a.2.1.1.d a.2.1.2.1 s a.2.1.d.1 u a.2.1.e)),(24,vI a.d)] (bX 5 46 (.agg #[vI 0,vI 0,vI 0,vB false,v6,vI 0]) g fun G w9 g=>aA 1 [(4,vI a.1)] (bF (.agg (Vo a.2.1.1.1 a.2.1.1.2.1 a.2.1.1.d a.2.1.2.1 s a.2.1.d.1 u a.2.1.e)) g fun R g=>aA 1 [(6,vI a.d)] (aV ?_)));have g:=g.f2.t;refine aC (aB (eV 28 hr (fun z L' w'=>∃k,L'=[(0,vB z)]/\m.le k/\St k (kB G (Vo a.2.1.1.1 a.2.1.1.2.1 a.2.1.1.d a.2.1.2.1 s a.2.1.d.1 u a.2.1.e) 46::kB F (Vo y1.1.1.1 y1.1.1.2.1 y1.1.1.d y1.1.2.1 n y1.1.d.1 o y1.1.e) 46::kB E #[.slice (aP f) (List.length ([(ba,wO)])) 1] 28::kR s a.2.1.d.1 u 80 3::kR n y1.1.d.1 o 80 3:: .room (aP f) (List.length ([(ba,wO)])) 1 62 2::O) w'/\RepS C9 k s u a.2.1.d.1/\RepS C9 k n o y1.1.d.1/\RepS C1 k (aP f) 1 ([(ba,wO)])) ?_ ?_))
 .rintro z hr _ S ⟨k,rfl,q,g,l,c,b⟩;refine aQ (aM ?_);obtain rfl:=sI hr;exact aW [0] [vB z] ⟨k,rfl,q,g.t.t.t.t.t.t⟩
 intro z hr K;refine aA 3 [(27,vB (y1.2==0))] (cQ 27 hr ?_ ?_)<;>intro A hr
 .refine aA 4 [(31,vB (a.d==0))] (cQ 31 hr ?_ ?_)<;>intro A hr
  .refine bH 1 33 43 32 0 (.agg (Vl y1.1.1)) g.t.t.h (aA 1 [(34,.agg (Vm 1 1 0))] (bU (qAg (d:=35) (t:=43) (t2:=43) (x:=(.tmp 33)) (y:=(.tmp 34)) (xs:=(Vl y1.1.1)) (ys:=(Vm 1 1 0)) ((y1.1.1.1==1)&&((y1.1.1.2.1==1)&&((y1.1.1.d==0)&&true))) kr rfl (ev (.agg (Vl y1.1.1))) (ev (.agg (Vm 1 1 0))) kr kr kr (aA 2 [(37,vB ((y1.1.1.1==1)&&((y1.1.1.2.1==1)&&((y1.1.1.d==0)&&true))))] (cQ 37 hr ?_ ?_)))))<;>intro A hr
   .refine bH 1 39 3 38 5 (vI y1.1.e) g.t.t.h (aA 3 [(42,vB (y1.1.e==7))] (cQ 42 hr ?_ ?_))<;>intro A hr
    .refine bH 1 44 44 43 4 (vS n y1.1.d.1 o) g.t.t.h (aA 4 [(48,vB ((y1.1.2.2.1.length:Int)==2))] (cQ 48 hr ?_ ?_))<;>intro A hr
     .exact aA 4 [(0,vB (a.1==9))] (bJ (K hr ⟨p,rfl,q,g.f5.f4.f3.f5.f5.f5,l,c,b⟩))
     exact aA 4 [(0,vB false)] (bJ (K hr ⟨p,rfl,q,g.f5.f4.f3.f5.f5.f5,l,c,b⟩))
    exact aA 10 [(0,vB false)] (bJ (K hr ⟨p,rfl,q,g.f5.f4.f3.f5.f5.f5,l,c,b⟩))
   exact aA 15 [(0,vB false)] (bJ (K hr ⟨p,rfl,q,g.f5.f4.f3.f5.f5.f5,l,c,b⟩))
  exact aA 21 [(0,vB false)] (bJ (K hr ⟨p,rfl,q,g.f5.f4.f3.f5.f5.f5,l,c,b⟩))
 exact aA 25 [(0,vB false)] (bJ (K hr ⟨p,rfl,q,g.f5.f4.f3.f5.f5.f5,l,c,b⟩))
def AO(N:Nat)(y1:T11)(c:EN)(a:To)(s1:Int):Tg:=
 if(decide (s1<(List.length a:Int)))then((bS a s1).bind fun b=>(xI N y1.2.1 y1.2.2.1 y1.2.2.2 b).bind fun a=>(xI N c.1 y1.2.2.1 y1.2.2.2 b).bind fun y5=>(if(a.2 !=0)then(some true) else(if(y5.2 !=0)then(some true) else((FT N (a.1.1,a.1.2.1,a.1.2.2.1,a.1.2.2.2) (y5.1.1,y5.1.2.1,y5.1.2.2.1,y5.1.2.2.2)).bind fun a=>some (!a))):Th).bind fun o2=>if o2 then(some (.inr (.inr (false)))) else(some (.inl (IntKind.wrap .i64 (s1+1))))) else(some (.inr (.inl ())))
def KJ(N:Nat)(p0:Tb):Th:=
 (LU N (p0,0)).bind fun y1=>(MF N y1.2.1 (⟨#[122,122,47,110,101,119,46,115,114,99]⟩:BA) (⟨#[112,97,99,107,97,103,101,32,122,122,59,32,105,109,112,111,114,116,32,112,59,32,102,117,110,99,32,102,40,97,41,32,61,32,97,59,32,116,101,115,116,32,116,32,61,32,102,40,49,41,59]⟩:BA)).bind fun a=>if(a.2 !=0)then(some false) else((LT N y1.2.1).bind fun b=>(aK (AO N y1 a b) N 0).bind fun a=>(match a with| .inl a=>(LV N).bind fun a=>some a| .inr (z)=>some z))
theorem qGp{p0:Tb}{r:Bool}(g:St m (O) w)(r1:RepS (aR .i64) m a1 c1 p0)(hr:KJ N p0=some r):Calls prog 3 #[vS a1 p0 c1] w fun e w'=>∃m',eP m m' e (vB r) (O) w':=by
 refine bP g func3 rfl ntmps3 fun q=>aI 1 [] (aB (aA 2 [(16,.agg #[vS a1 p0 c1,vI 0])] (bU (qI 17 25 16 (.agg #[vS a1 p0 c1,vI 0]) g fun b1 w1 g=>aG 1 [(3,vP b1 0)] (aB (aA 1 [(19,vP b1 0)] (aL 20 hr (qIg (p0:=(p0,0)) g r1) ?_)))))));rintro y1 hr _ w2 ⟨U,Z,c,f,l,n,m2,rfl,e2,g,y,k,o⟩;refine aA 4 [(21,.agg #[vS c y1.2.1 f]),(22,.agg #[vS l y1.d.1 n]),(23,.int .u64 y1.e)] (bX 4 28 (.agg #[v6]) g fun b2 w3 g=>bX 5 31 (.agg #[v6]) g fun b3 w4 g=>bF (.agg #[vS c y1.2.1 f]) g.f1 fun w5 g=>bF (.agg #[vS l y1.d.1 n]) g.f1 fun w6 g=>aG 1 [(6,.int .u64 y1.e)] (aB (bD 25 (.agg #[vS c y1.2.1 f]) g.t.h (aL 26 hr (qIw g k) ?_))));rintro b hr _ w7 ⟨p,s,m3,rfl,e3,g,v⟩;refine aA 3 [(27,.agg #[vS p b.1 s]),(28,vI b.2)] (bX 7 28 (.agg #[v6]) g fun b4 w8 g=>bF (.agg #[vS p b.1 s]) g fun w9 g=>aG 1 [(8,vI b.2)] (aF (aI 2 [(30,vB (b.2 !=0))] (aJ hr ?_ ?_))))<;>intro A hr
 .refine aI 1 [(2,vB false)] (aM (aU ?_));cases hr;exact aW [2] [vB false] ⟨m3,rfl,(q.t e2).t e3,g.t.t.t.t.t.t.t⟩
 refine aN (aC (aF (aB (bD 31 (.agg #[vS c y1.2.1 f]) g.t.t.t.h (aL 32 hr (qIj g (k.o e3)) ?_)))));rintro x hr _ d4 ⟨F,G,m4,rfl,e4,g,z⟩;refine aG 2 [(33,vI (x.length:Int)),(34,vI 0)] (bB ?_);have⟨b0,hr,j1⟩:=aX hr;refine dW (.exit 0) (fun L' w'=>∃(o1:Unit),∃M,(.inl o1)=b0/\L'=[]/\m.le M/\St M (kB b4 #[vS p b.1 s] 28::kB b3 #[vS l y1.d.1 n] 31::kB b2 #[vS c y1.2.1 f] 28::kB b1 (V1 y1.1 U Z) 25::kR F x G 41 2::kR p b.1 s 62 2::kR c y1.2.1 f 62 2::kR l y1.d.1 n 93 2::O) w'/\RepS C1 M p s b.1/\RepS C3 M l n y1.d.1/\RepS C1 M c f y1.2.1/\RepS (aR .i64) M U Z y1.1.1) ?_ ?_
 .rintro _ D ⟨o1,M,rfl,rfl,q,g,v,o,k,y⟩;have hr:=j1;refine cX (aC (aB (aL 67 hr (qIe g) ?_)));rintro u hr _ E ⟨a,rfl,B,g⟩;refine aA 1 [(2,vB u)] (aV ?_);have g:=g.f4.t;refine aC (aM ?_);obtain rfl:=sI hr;exact aW [2] [vB u] ⟨a,rfl,q.t B,g.t.t.t.t.t.t.t⟩
 intro b9;refine dJ (fun k1 L' w'=>∃(s1:Int),∃B,aK (AO N y1 b x) k1 s1=some b0/\L'=[(4,vP b2 0),(5,vP b3 0),(6,.int .u64 y1.e),(7,vP b4 0),(32,vS F x G),(33,vI (x.length:Int)),(34,vI s1)]/\m.le B/\St B (kB b4 #[vS p b.1 s] 28::kB b3 #[vS l y1.d.1 n] 31::kB b2 #[vS c y1.2.1 f] 28::kB b1 (V1 y1.1 U Z) 25::kR F x G 41 2::kR p b.1 s 62 2::kR c y1.2.1 f 62 2::kR l y1.d.1 n 93 2::O) w'/\RepS C1 B F G x/\RepS C1 B p s b.1/\RepS C3 B l n y1.d.1/\RepS C1 B c f y1.2.1/\RepS (aR .i64) B U Z y1.1.1) N ⟨0,m4,hr,rfl,((q.t e2).t e3).t e4,g.f6.f6.f4.f3.f7.f7.f7.f7,z,v.o e4,(o.o e3).o e4,(k.o e3).o e4,(y.o e3).o e4⟩ ?_;rintro k1 _ d5 ⟨s1,B,hL,rfl,q,g,z,v,o,k,y⟩;obtain⟨k1,d3,rfl,hr,c0,a9⟩:=dN hL;refine aI 1 [(35,vB (decide (s1<(x.length:Int))))] (aF (aJ hr ?_ ?_))<;>intro A hr
 .refine aN (aC (aF (bB (aB (iH 36 z hr ?_)))));rintro S hr b5 f1 d2 ⟨_,_,rfl,rfl,rfl⟩ c9;refine iG 37 41 36 f1 (.agg (V2 S)) g c9 (bX 10 41 (.agg (V3 eB eB)) g fun b6 d6 g=>bF (.agg (V2 S)) g fun d7 g=>aQ (aB (bD 39 (.agg #[vS c y1.2.1 f]) g.t.t.t.h (bD 40 (.agg #[vS l y1.d.1 n]) g.t.t.h (aA 1 [(41,.int .u64 y1.e)] (bD 42 (.agg (V2 S)) g.h (aL 43 hr (QG (p3:=S) g k o) ?_)))))));rintro a hr _ d8 ⟨V,c7,m7,rfl,D,g,R⟩;refine aA 3 [(44,.agg (Vo a.1.1.1 a.1.1.2.1 a.1.1.d a.1.2.1 V a.1.d.1 c7 a.1.e)),(45,vI a.2)] (bX 11 46 (.agg #[vI 0,vI 0,vI 0,vB false,v6,vI 0]) g fun b7 d9 g=>bF (.agg (Vo a.1.1.1 a.1.1.2.1 a.1.1.d a.1.2.1 V a.1.d.1 c7 a.1.e)) g fun e0 g=>aG 1 [(12,vI a.2)] (aB (bD 47 (.agg #[vS p b.1 s]) g.t.t.t.h (bD 48 (.agg #[vS l y1.d.1 n]) g.t.t.t.t.h (aA 1 [(49,.int .u64 y1.e)] (bD 50 (.agg (V2 S)) g.t.t.h (aL 51 hr (QG (p3:=S) g (v.o D) (o.o D)) ?_)))))));rintro y5 hr _ e1 ⟨Y,c8,m8,rfl,H,g,r8⟩;have q:=(q.t D).t H;have z:=(z.o D).o H;have v:=(v.o D).o H;have o:=(o.o D).o H;have R:=R.o H;have k:=(k.o D).o H;have y:=(y.o D).o H
  refine aA 3 [(52,.agg (Vo y5.1.1.1 y5.1.1.2.1 y5.1.1.d y5.1.2.1 Y y5.1.d.1 c8 y5.1.e)),(53,vI y5.2)] (bX 13 46 (.agg #[vI 0,vI 0,vI 0,vB false,v6,vI 0]) g fun b8 e9 g=>bF (.agg (Vo y5.1.1.1 y5.1.1.2.1 y5.1.1.d y5.1.2.1 Y y5.1.d.1 c8 y5.1.e)) g fun f0 g=>aG 1 [(14,vI y5.2)] (aB (eV 12 hr (fun o2 L' w'=>∃u,L'=[(4,vP b2 0),(5,vP b3 0),(6,.int .u64 y1.e),(7,vP b4 0),(32,vS F x G),(33,vI (x.length:Int)),(34,vI s1),(65,vB o2)]/\m.le u/\St u (kB b8 (Vo y5.1.1.1 y5.1.1.2.1 y5.1.1.d y5.1.2.1 Y y5.1.d.1 c8 y5.1.e) 46::kB b7 (Vo a.1.1.1 a.1.1.2.1 a.1.1.d a.1.2.1 V a.1.d.1 c7 a.1.e) 46::kB b6 (V2 S) 41::kB b4 #[vS p b.1 s] 28::kB b3 #[vS l y1.d.1 n] 31::kB b2 #[vS c y1.2.1 f] 28::kB b1 (V1 y1.1 U Z) 25::kR Y y5.1.d.1 c8 80 3::kR V a.1.d.1 c7 80 3::kR F x G 41 2::kR p b.1 s 62 2::kR c y1.2.1 f 62 2::kR l y1.d.1 n 93 2::O) w'/\RepS C1 u F G x/\RepS C9 u Y c8 y5.1.d.1/\RepS C9 u V c7 a.1.d.1/\RepS C1 u p s b.1/\RepS C3 u l n y1.d.1/\RepS C1 u c f y1.2.1/\RepS (aR .i64) u U Z y1.1.1) ?_ ?_)))
  .rintro o2 hr _ E ⟨u,rfl,q,g,z,r8,R,v,o,k,y⟩;refine aQ (aJ hr ?_ ?_)<;>intro A hr
   .refine aS 1 [(2,vB false)] (aV ?_);have g:=g.f9.t;refine aC (aM (bN (aU ?_)));have ho:=a9 _ (sI hr);subst ho;have hr:=j1;refine aU (bN (aU ?_));cases hr;exact aW [2] [vB false] ⟨u,rfl,q,g.t.t.t.t.t.t.t.t.t.t.t.t⟩
   refine aN (bT (aC (aY (aA 2 [(34,vI (wr (s1+1)))] (aV ?_)))));have hL:=c0 _ (sI hr);exact cY ⟨wr (s1+1),u,hL,rfl,q,g.t.t.t.f4.t.f4.t.f7.f7.f7.f7.f7.f7.f7.f7,z,v,o,k,y⟩
  intro o2 hr K;refine aA 3 [(56,vB (a.2 !=0))] (cQ 56 hr ?_ ?_)<;>intro A hr
  .exact aA 9 [(65,vB true)] (bJ (K hr ⟨m8,rfl,q,g.f12.f12.f12.f12.f7.f6.f12.f12.f12.f12.f12.f12.f12,z,r8,R,v,o,k,y⟩))
  refine aA 4 [(60,vB (y5.2 !=0))] (cQ 60 hr ?_ ?_)<;>intro A hr
  .exact aA 5 [(65,vB true)] (bJ (K hr ⟨m8,rfl,q,g.f12.f12.f12.f12.f7.f6.f12.f12.f12.f12.f12.f12.f12,z,r8,R,v,o,k,y⟩))
  refine bD 61 (.agg (Vo a.1.1.1 a.1.1.2.1 a.1.1.d a.1.2.1 V a.1.d.1 c7 a.1.e)) g.t.t.h (bD 62 (.agg (Vo y5.1.1.1 y5.1.1.2.1 y5.1.1.d y5.1.2.1 Y y5.1.d.1 c8 y5.1.e)) g.h (aL 63 hr (qHp (p0:=a.1) (p1:=y5.1) g R r8) ?_));rintro y6 hr _ f2 ⟨d1,rfl,E,g⟩;exact aA 2 [(65,vB (!y6))] (bJ (K hr ⟨d1,rfl,q.t E,g.f12.f12.f12.f12.f7.f6.f12.f12.f12.f12.f12.f12.f12,z.o E,r8.o E,R.o E,v.o E,o.o E,k.o E,y.o E⟩))
 refine cT (bG ?_);have ho:=a9 _ (sI hr);have g:=g.f7.f7.f7.f7.f7.f7.f7.f7;exact bG (xE (b9 _ _ ⟨(),B,ho,rfl,q,g,v,o,k,y⟩))
end
section
open Go Go.Dc Go.Proofs
theorem TG{N:Nat}(a:30<N):yU N=some (some kdL):=by
 unfold yU
 rw[show Nat.blt 30 N=true by simpa[Nat.blt_eq] using a];rfl
end
section
open Go Go.Dc
theorem iV(s:BA):s.data.toList.length=s.size:=by simp
theorem nI{s:BA}{i:Nat}(h:i<s.data.toList.length):iC s (i:Int)=some (s.data.toList[i]):=by
 have h':i<s.size:=by simpa using h
 rw[TC h']
 simp[ByteArray.getElem_eq_getElem_data]
def tw(p:UInt8->Bool)(l:List UInt8)(a:Nat):Nat:=a+((l.drop a).takeWhile p).length
section
variable {p:UInt8->Bool} {l:List UInt8} {a:Nat}
theorem oW(h:a<=l.length):a<=tw p l a/\tw p l a<=l.length:=by
 have:=(dB p (l:=l.drop a)).length_le
 simp only[kP] at this
 unfold tw;omega
theorem xM(h:a<l.length)(b:p l[a]=true):tw p l (a+1)=tw p l a:=by
 unfold tw
 rw[jH h,gL b]
 simp only[jA];omega
theorem xO(h:a<l.length)(b:p l[a]=false):tw p l a=a:=by
 unfold tw
 rw[jH h,fB (by simp[b])]
 simp
theorem DQ(h:l.length<=a):tw p l a=a:=by
 unfold tw
 rw[jQ h];rfl
theorem UU:∀(d a:Nat),a+d=l.length->∀h:tw p l a<l.length,p (l[tw p l a]'h)=false
 |0,a,c,h=>by rw[DQ aa] at h;omega
 |d+1,a,c,h=>by
  have b:a<l.length:=by omega
  cases hb:p l[a] with
  |true=>
   have e:=xM b hb
   have:=UU d (a+1) aa (by rw[e];exact h)
   simpa only[e] using this
  |false=>
   have e:=xO b hb
   simpa only[e] using hb
theorem DK{β:Type}{f:Int->Option (Int⊕β)}(out:Nat->β)(go:∀i:Nat,∀h:i<l.length,p l[i]=true->f (i:Int)=some (.inl ((i:Int)+1)))
  (no:∀i:Nat,∀h:i<l.length,p l[i]=false->f (i:Int)=some (.inr (out i))) (en:f (l.length:Int)=some (.inr (out l.length))):
  ∀(d a N:Nat),a+d=l.length->d<N->aK f N (a:Int)=some (out (tw p l a))
 |d,a,0,_,h=>by omega
 |0,a,N+1,c,h=>by
  have:a=l.length:=by omega
  subst this
  rw[DQ (jP _)];simp[aK,en]
 |d+1,a,N+1,c,h=>by
  have b:a<l.length:=by omega
  cases hb:p l[a] with
  |true=>
   have:=DK out go no en d (a+1) N aa aa
   rw[xM b hb] at this
   simpa[aK,go a b hb] using this
  |false=>
   rw[xO b hb];simp[aK,no a b hb]
end
def kd(c:UInt8):Int:=uB (c.toNat:Int)
def cD(ks:List Int)(c:UInt8):Bool:=ks.any fun k=>kd c==k
theorem YQ{N:Nat}{s:BA}{ks:List Int}{i:Nat}(h:i<s.data.toList.length)(c:ks.length<=10)(b:10<N):aK (CK N s (some kdL) ks (i:Int)) N (false,0)=some (cD ks (s.data.toList[i])):=by
 have key:=DF (f:=CK N s (some kdL) ks (i:Int)) (fun j=>((ks.take j).any (fun k=>kd (s.data.toList[i])==k),(j:Int))) ks.length (cD ks (s.data.toList[i])) (fun j a=> ?_) ?_ (N:=N) aa
 .simpa using key
 .simp only[CK]
  rw[if_pos (by simpa using a),eR a,nI h]
  simp only[j0]
  rw[bZ aa aa,kT a,List.any_append]
  cases(ks.take j).any (fun k=>kd (s.data.toList[i])==k)
  .simp[kd,uB,bC]
  simp
 simp only[CK]
 rw[if_neg ae,fN]
 rfl
theorem IB{N:Nat}{s:BA}{ks:List Int}{i:Nat}(hi:i<=s.data.toList.length)(e:s.data.toList.length<1000000)(c:ks.length<=10)(d:s.data.toList.length+10<N):
  vW N s (i:Int) (some kdL) ks=some ((tw (cD ks) s.data.toList i:Nat):Int):=by
 have g:=iV s
 have key:=DK (f:=CM N s (some kdL) ks) (l:=s.data.toList) (p:=cD ks) (fun n=>(n:Int)) (fun j b a=>by
   simp only[CM]
   rw[if_pos ad,YQ b c aa,a]
   simp only[j0]
   rw[bZ aa aa]
   rfl) (fun j b a=>by
   simp only[CM]
   rw[if_pos ad,YQ b c aa,a]
   rfl) (by
   simp only[CM]
   rw[if_neg ad]) (s.data.toList.length-i) i N aa aa
 unfold vW
 rw[key]
 rfl
theorem UT(c:UInt8):(bC (some kdL) (c.toNat:Int)).getD 0=kd c:=rfl
theorem mK{l:List UInt8}{i:Nat}(h:i<l.length):l.getD i 0=l[i]:=by simp[jU,h]
theorem qCj{β:Type}{p:UInt8->Bool}{l:List UInt8}{a0:Nat}{f:Int->Option (Int⊕β)}(out:Nat->β)(go:∀i:Nat,∀h:i<l.length,p l[i]=true->f (i:Int)=some (.inl ((i:Int)+1)))
  (no:∀i:Nat,∀h:i<l.length,a0<=i->p l[i]=false->f (i:Int)=some (.inr (out i))) (en:f (l.length:Int)=some (.inr (out l.length))):
  ∀(d a N:Nat),a0<=a->a+d=l.length->d<N->aK f N (a:Int)=some (out (tw p l a))
 |d,a,0,_,_,h=>by omega
 |0,a,N+1,_,e,h=>by
  have:a=l.length:=by omega
  subst this
  rw[DQ (jP _)];simp[aK,en]
 |d+1,a,N+1,c,e,h=>by
  have b:a<l.length:=by omega
  cases hb:p l[a] with
  |true=>
   have:=qCj out go no en d (a+1) N aa aa aa
   rw[xM b hb] at this
   simpa[aK,go a b hb] using this
  |false=>
   rw[xO b hb];simp[aK,no a b c hb]
def AB(n:Int)(c:UInt8):Int:=if 9007199254740993<10*n+((c.toNat:Int)-48) then 9007199254740993 else 10*n+((c.toNat:Int)-48)
def rC(ds:List UInt8):Int:=ds.foldl AB 0
def oS(c:UInt8):Bool:=decide (32<=c.toNat)&&decide (c.toNat<=126)&&c !=34
def xU:Int×BA×Int×Int:=(0,⟨#[]⟩,0,0)
def rO(l:List UInt8)(i:Nat):Nat:=if l.getD i 0=61/\l.getD (i+1) 0=61 then i+2 else i+1
def eO(s:BA)(i:Nat):(Int×BA×Int×Int)×Int×Int:=
 if kd (s.data.toList.getD i 0)=1 then
  if tw (cD [1,2,3]) s.data.toList i-i>24 then(xU,0,2) else((1,s.extract i (tw (cD [1,2,3]) s.data.toList i),0,0),((tw (cD [1,2,3]) s.data.toList i:Nat):Int),0)
 else if kd (s.data.toList.getD i 0)=2 then
  if rC ((s.data.toList.drop i).takeWhile (cD [2]))>9007199254740992 then(xU,0,3) else((2,⟨#[]⟩,rC ((s.data.toList.drop i).takeWhile (cD [2])),0),((tw (cD [2]) s.data.toList i:Nat):Int),0)
 else if kd (s.data.toList.getD i 0)=7 then
  if s.data.toList.getD (tw oS s.data.toList (i+1)) 0=34 then((3,s.extract (i+1) (tw oS s.data.toList (i+1)),0,0),((tw oS s.data.toList (i+1)+1:Nat):Int),0) else(xU,0,9)
 else if kd (s.data.toList.getD i 0)=8 then
  ((4,s.extract i (rO s.data.toList i),0,0),((rO s.data.toList i:Nat):Int),0)
 else(xU,0,9)
theorem NN:∀c:UInt8,kd c=2->48<=c.toNat/\c.toNat<=57:=by
 have h:((List.range 256).all fun n=> !(decide (kd (UInt8.ofNat n)=2))||(decide (48<=n)&&decide (n<=57)))=true:=by kernel_rfl
 intro c a
 have:=jN.1 h c.toNat (gV.2 c.toNat_lt)
 simpa[a] using this
theorem qKd{s:BA}{p:UInt8->Bool}{i:Nat}:(s.extract i (tw p s.data.toList i)).data.toList=(s.data.toList.drop i).takeWhile p:=by
 simp only[ByteArray.data_extract,gT]
 have h:=List.prefix_iff_eq_take.1 (List.takeWhile_prefix p (l:=s.data.toList.drop i))
 rw[kY,show tw p s.data.toList i-i=((s.data.toList.drop i).takeWhile p).length by unfold tw;omega]
 exact h.symm
theorem SO(l:List UInt8)(c:UInt8):rC (l++[c])=AB (rC l) c:=by simp[rC]
theorem IK{p:UInt8->Bool}:∀{l:List UInt8} {c:UInt8},c∈l.takeWhile p->p c=true
 |[],_,h=>by simp at h
 |x::l,c,h=>by
  cases hx:p x with
  |true=>
   rw[gL hx] at h
   rcases jI.1 h with rfl|h
   .exact hx
   exact IK h
  |false=>rw[fB (by simp[hx])] at h;cases h
theorem qQp{N:Nat}{ds:List UInt8}(b:∀c∈ds,kd c=2)(k:ds.length<1000000)(h:ds.length<N):aK (CI N ds) N (0,0)=some (rC ds):=by
 have d:∀j,j<=ds.length->0<=rC (ds.take j)/\rC (ds.take j)<=9007199254740993:=by
  intro j
  induction j with
  |zero=>intro _;simp[rC]
  |succ j g=>
   intro a
   have:=g aa
   rw[kT aa]
   have e:=NN _ (b _ (jT (show j<ds.length by omega)))
   rw[SO]
   unfold AB
   split<;>omega
 have key:=DF (f:=CI N ds) (fun j=>(rC (ds.take j),(j:Int))) ds.length (rC ds) (fun j a=> ?_) ?_ (N:=N) aa
 .exact key
 .have e:=NN _ (b _ (jT a))
  have g:=d j aa
  simp only[CI]
  rw[if_pos (by simpa using a),eR a]
  simp only[j0]
  rw[wu8 aa aa,bZ (x:=10*rC (ds.take j)) aa aa,bZ (x:=((ds[j]).toNat:Int)-48) aa aa,bZ (x:=(j:Int)+1) aa aa,bZ aa aa,kT a,SO]
  rfl
 simp only[CI]
 rw[if_neg ae,fN]
theorem tM{s:BA}{i e:Nat}(a:i<=e)(b:e<=s.data.toList.length):nD s (i:Int) (e:Int)=some (s.extract i e):=by
 have:=iV s
 rw[MZ aa aa aa]
 simp
theorem qSr{N:Nat}{s:BA}{i j:Nat}(c:j<s.data.toList.length)(g:s.data.toList.length<1000000)(a:oS (s.data.toList[j])=true):xG N s (i:Int) (j:Int)=some (.inl ((j:Int)+1)):=by
 have h:=iV s
 simp only[oS,jJ,j6,fH,ne_eq] at a
 obtain⟨⟨d,f⟩,b⟩:=a
 have h3':¬((s.data.toList[j]).toNat:Int)=34:=fun e=>b (UInt8.toNat_inj.1 (by show _=34;omega))
 simp only[xG,nI c,j0]
 rw[if_pos ad,if_pos ad]
 simp only[j0]
 rw[if_pos ad,if_neg (by simpa using h3'),bZ aa aa]
theorem qRs{N:Nat}{s:BA}{i j:Nat}(hi:i<s.data.toList.length)(b:j<s.data.toList.length)(d:s.data.toList.length<1000000)(a:i+1<=j)(c:oS (s.data.toList[j])=false):
  xG N s (i:Int) (j:Int)=some (.inr (if s.data.toList.getD j 0=34 then(.inr ((3,s.extract (i+1) j,0,0),((j+1:Nat):Int),0)) else(.inl ()))):=by
 have f:=iV s
 simp only[xG,nI b,j0,mK b]
 rw[if_pos ad]
 by_cases h34:s.data.toList[j]=34
 .rw[h34]
  simp only[show((34:UInt8).toNat:Int)=34 from rfl]
  rw[bZ (x:=(i:Int)+1) aa aa,bZ aa aa,<-gE,tM a aa]
  rfl
 have h3':¬((s.data.toList[j]).toNat:Int)=34:=fun e=>h34 (UInt8.toNat_inj.1 (by show _=34;omega))
 rw[if_neg h34]
 simp only[oS,Bool.and_eq_false_iff,decide_eq_false_iff_not,bne_eq_false_iff_eq,h34,or_false] at c
 by_cases h1:32<=(s.data.toList[j]).toNat
 .rw[if_pos ad]
  simp only[j0]
  rw[if_neg ad]
 rw[if_neg ad]
 simp
theorem RV{s:BA}{i:Nat}(a:i<=s.data.toList.length):nD s (i:Int) (s.size:Int)=some (s.extract i s.data.toList.length):=by
 have b:=iV s
 rw[<-tM a (jP _),b]
theorem mI(x y:BA):(x.toList==y.toList)=decide (x=y):=by
 rw[jY]
 simp only[kF,j6]
 constructor
 .intro h
  rw[ByteArray.toList_eq,ByteArray.toList_eq] at h
  exact Go.WideShapes.bytes_inj h
 rintro rfl;rfl
theorem qOa{N:Nat}{s:BA}{i:Nat}(hi:i<s.data.toList.length):MG N (s.extract i s.data.toList.length) (⟨#[61,61]⟩:BA)=some (decide (s.data.toList.getD i 0=61/\s.data.toList.getD (i+1) 0=61)):=by
 have g:=iV s
 have b:(s.extract i s.data.toList.length).size=s.data.toList.length-i:=by rw[ByteArray.size_extract];omega
 simp only[MG,OZ,b,show(⟨#[61,61]⟩:BA).size=2 from rfl]
 by_cases h:i+1<s.data.toList.length
 .have a:((s.extract i s.data.toList.length).extract 0 2).data.toList=[s.data.toList[i],s.data.toList[i+1]]:=by
   simp only[ByteArray.data_extract,gT,kY,jS]
   rw[List.take_take,jH hi,jH h]
   have:min (2-0) (s.data.toList.length-i)=2:=by omega
   rw[this];rfl
  have c:nD (s.extract i s.data.toList.length) 0 ((2:Nat):Int)=some ((s.extract i s.data.toList.length).extract 0 2):=by
   have:=tM (s:=s.extract i s.data.toList.length) (i:=0) (e:=2) aa (by rw[iV,b];omega)
   simpa only[Int.natCast_zero] using this
  rw[if_pos ad,c]
  simp only[j0,mI]
  rw[mK hi,mK h]
  generalize (s.extract i s.data.toList.length).extract 0 2=X at a
  refine congrArg some (decide_eq_decide.2 ?_)
  constructor
  .intro e
   rw[e] at a
   have hd':[(61:UInt8),61]=[s.data.toList[i],s.data.toList[i+1]]:=a
   simp only[kL,and_true] at hd'
   exact⟨hd'.1.symm,hd'.2.symm⟩
  rintro⟨d,f⟩
  apply Go.WideShapes.bytes_inj
  rw[a,d,f]
 rw[if_neg ad]
 have a:s.data.toList.getD (i+1) 0=0:=by rw[jU,List.getElem?_eq_none aa];rfl
 rw[a]
 simp
theorem qRb{N:Nat}{s:BA}{i:Nat}(hi:i<s.data.toList.length)(d:s.data.toList.length<1000000)(r:s.data.toList.length+20<N):MR N s (i:Int) (some kdL)=some (eO s i):=by
 have t:=iV s
 simp only[MR,nI hi,j0,UT,eO,mK hi,kF]
 by_cases h1:kd (s.data.toList[i])=1
 .simp only[h1,jE]
  have b:=oW (p:=cD [1,2,3]) (l:=s.data.toList) (a:=i) aa
  rw[IB aa d ae aa]
  simp only[j0]
  rw[bZ aa aa,tM b.1 b.2]
  by_cases h:tw (cD [1,2,3]) s.data.toList i-i>24
  .rw[if_pos ad,if_pos h];rfl
  rw[if_neg ad,if_neg h];rfl
 simp only[h1,jC]
 by_cases h2:kd (s.data.toList[i])=2
 .simp only[h2,jE]
  have b:=oW (p:=cD [2]) (l:=s.data.toList) (a:=i) aa
  have q:=iV (s.extract i (tw (cD [2]) s.data.toList i))
  have k:=qKd (s:=s) (p:=cD [2]) (i:=i)
  have o:((s.data.toList.drop i).takeWhile (cD [2])).length<=s.data.toList.length:=by
   have:=(dB (cD [2]) (l:=s.data.toList.drop i)).length_le
   simp only[kP] at this;omega
  rw[IB aa d ae aa]
  simp only[j0]
  rw[tM b.1 b.2]
  simp only[j0]
  have g:bytesOf (s.extract i (tw (cD [2]) s.data.toList i))=some ((s.data.toList.drop i).takeWhile (cD [2])):=by
   unfold bytesOf;rw[<-k,if_pos];rw[<-q,k];simp only[maxLen];omega
  rw[g]
  simp only[j0]
  rw[qQp (fun c n=> ?_) aa aa]
  .simp only[j0,j6]
   split<;>rfl
  have:=IK n
  simpa[cD] using this
 simp only[h2,jC]
 by_cases h7:kd (s.data.toList[i])=7
 .simp only[h7,jE]
  have key:=qCj (a0:=i+1) (f:=xG N s (i:Int)) (l:=s.data.toList) (p:=oS) (fun e=>if s.data.toList.getD e 0=34 then(.inr ((3,s.extract (i+1) e,0,0),((e+1:Nat):Int),0)) else(.inl ()))
   (fun j k b=>qSr k d b) (fun j k g b=>qRs hi k d g b) (by
    simp only[xG]
    rw[if_neg ad,if_neg ae]
    rfl) (s.data.toList.length-(i+1)) (i+1) N (jP _) aa aa
  rw[bZ (x:=(i:Int)+1) aa aa,<-gE,key]
  simp only[j0]
  split
  .rename_i h;split at h<;>simp_all [xU]
  rename_i h;split at h<;>simp_all
 simp only[h7,jC]
 by_cases h8:kd (s.data.toList[i])=8
 .simp only[h8,jE]
  rw[RV aa,bZ (x:=(i:Int)+1) aa aa]
  simp only[j0]
  rw[qOa hi]
  simp only[j0,j6]
  by_cases h:s.data.toList.getD i 0=61/\s.data.toList.getD (i+1) 0=61
  .have k:i+1<s.data.toList.length:=by
    rcases hQ (i+1) s.data.toList.length with h'|h'
    .exact h'
    have g:s.data.toList.getD (i+1) 0=0:=by rw[jU,List.getElem?_eq_none h'];rfl
    rw[g] at h;exact absurd h.2 ac
   have b:rO s.data.toList i=i+2:=by rw[rO,if_pos h]
   rw[if_pos h,bZ aa aa,b]
   simp only[j0]
   rw[show((i:Int)+1+1)=((i+2:Nat):Int) by omega,tM aa aa]
   rfl
  have b:rO s.data.toList i=i+1:=by rw[rO,if_neg h]
  rw[if_neg h,b]
  simp only[j0]
  rw[<-gE,tM aa aa]
  rfl
 simp only[h8,jC]
 rfl
theorem qFf{p:UInt8->Bool}{l:List UInt8}(h:∀c∈l,p c=true):tw p l 0=l.length:=by
 unfold tw
 have:l.takeWhile p=l:=by
  induction l with
  |nil=>rfl
  |cons c l b=>rw[gL (h c (jL ..)),b fun d a=>h d (jO _ a)]
 simp[this]
abbrev cB:=Int×BA×Int×Int
theorem qCi{ks:List Int}{k:Int}{c:UInt8}(a:k∈ks)(h:kd c=k):cD ks c=true:=by
 unfold cD;exact fQ.2 ⟨k,a,by simp[h]⟩
theorem zP{p:UInt8->Bool}{l:List UInt8}{a:Nat}(h:a<l.length)(b:p l[a]=true):a<tw p l a:=by
 rw[<-xM h b];have:=(oW (p:=p) (l:=l) (a:=a+1) aa).1;omega
theorem HY{l:List UInt8}{i:Nat}(h:l.getD i 0≠0):i<l.length:=by
 rcases hQ i l.length with h'|h'
 .exact h'
 exfalso;apply h;rw[jU,List.getElem?_eq_none h'];rfl
theorem NX{s:BA}{i:Nat}(hi:i<s.data.toList.length)(h:(eO s i).2.2=0):∃e:Nat,(eO s i).2.1=(e:Int)/\i<e/\e<=s.data.toList.length/\
  (((eO s i).1.1=1\/(eO s i).1.1=4)/\(eO s i).1.2.1=s.extract i e\/(eO s i).1.1=2/\(eO s i).1.2.1=⟨#[]⟩\/(eO s i).1.1=3/\(eO s i).1.2.1.size+i<e):=by
 have d:=iV s
 unfold eO at h ⊢
 rw[mK hi] at h ⊢
 by_cases h1:kd (s.data.toList[i])=1
 .rw[if_pos h1] at h ⊢
  split at h
  .cases h
  rename_i h24
  rw[if_neg h24]
  have b:=oW (p:=cD [1,2,3]) (l:=s.data.toList) (a:=i) aa
  exact⟨_,rfl,zP hi (qCi ae h1),b.2,.inl ⟨.inl rfl,rfl⟩⟩
 rw[if_neg h1] at h ⊢
 by_cases h2:kd (s.data.toList[i])=2
 .rw[if_pos h2] at h ⊢
  split at h
  .cases h
  rename_i h24
  rw[if_neg h24]
  have b:=oW (p:=cD [2]) (l:=s.data.toList) (a:=i) aa
  exact⟨_,rfl,zP hi (qCi ae h2),b.2,.inr (.inl ⟨rfl,rfl⟩)⟩
 rw[if_neg h2] at h ⊢
 by_cases h7:kd (s.data.toList[i])=7
 .rw[if_pos h7] at h ⊢
  split at h
  .rename_i h24
   rw[if_pos h24]
   have b:=oW (p:=oS) (l:=s.data.toList) (a:=i+1) aa
   have c:tw oS s.data.toList (i+1)<s.data.toList.length:=HY (by rw[h24];decide)
   refine⟨_,rfl,by omega,by omega,.inr (.inr ⟨rfl,?_⟩)⟩
   simp only[ByteArray.size_extract]
   omega
  cases h
 rw[if_neg h7] at h ⊢
 by_cases h8:kd (s.data.toList[i])=8
 .rw[if_pos h8] at h ⊢
  refine⟨_,rfl,?_,?_,.inl ⟨.inr rfl,rfl⟩⟩
  .unfold rO;split<;>omega
  unfold rO
  split
  .rename_i hh
   have:i+1<s.data.toList.length:=HY (by rw[hh.2];decide)
   omega
  omega
 rw[if_neg h8] at h
 cases h
def eX(c:UInt8):Bool:=c !=10
def nC:Nat->BA->Nat->(Int×Int)⊕List cB
 |0,_,_=> .inr []
 |k+1,s,i=>
  if tw (cD [5]) s.data.toList i=s.data.toList.length then .inr [(5,⟨#[]⟩,0,(s.data.toList.length:Int))]
  else if kd (s.data.toList.getD (tw (cD [5]) s.data.toList i) 0)=6 then nC k s (tw eX s.data.toList (tw (cD [5]) s.data.toList i))
  else if(eO s (tw (cD [5]) s.data.toList i)).2.2≠0 then .inl ((tw (cD [5]) s.data.toList i:Nat),(eO s (tw (cD [5]) s.data.toList i)).2.2)
  else match nC k s (eO s (tw (cD [5]) s.data.toList i)).2.1.toNat with
   | .inl x=> .inl x
   | .inr r=> .inr (((eO s (tw (cD [5]) s.data.toList i)).1.1,(eO s (tw (cD [5]) s.data.toList i)).1.2.1,(eO s (tw (cD [5]) s.data.toList i)).1.2.2.1,((tw (cD [5]) s.data.toList i:Nat):Int))::r)
def uU(acc:List cB):(Int×Int)⊕List cB->List cB×Int×Int
 | .inl x=>([],x.1,x.2)
 | .inr r=>(acc++r,0,0)
def lD(s:BA):List cB×Int×Int:=if s.data.toList.length>16384 then([],0,2) else uU [] (nC (s.data.toList.length+1) s 0)
theorem qSz{s:BA}{i:Nat}(hi:i<=s.data.toList.length):
  (if rD (s.extract i s.data.toList.length) 10<0 then((s.data.toList.length-i:Nat):Int) else rD (s.extract i s.data.toList.length) 10)=((tw eX s.data.toList i-i:Nat):Int):=by
 have x:=iV s
 have n:(s.extract i s.data.toList.length).size=s.data.toList.length-i:=by rw[ByteArray.size_extract];omega
 have v:=oW (p:=eX) (l:=s.data.toList) (a:=i) hi
 have f:∀j,j<s.data.toList.length-i->(s.extract i s.data.toList.length)[j]! =s.data.toList.getD (i+j) 0:=by
  intro j b
  have hj':i+j<s.data.toList.length:=by omega
  rw[mK hj',getElem!_pos _ _ (by rw[n];exact b),ByteArray.getElem_extract]
  simp[ByteArray.getElem_eq_getElem_data]
 have g:∀d a,a+d=s.data.toList.length->∀j,a<=j->j<tw eX s.data.toList a->s.data.toList.getD j 0≠10:=by
  intro d
  induction d with
  |zero=>intro a o j b e;rw[DQ aa] at e;omega
  |succ d q=>
   intro a o j b e
   have c:a<s.data.toList.length:=by omega
   cases hc:eX (s.data.toList[a]) with
   |true=>
    rw[<-xM c hc] at e
    rcases Nat.eq_or_lt_of_le b with rfl|b
    .rw[mK c];simpa[eX] using hc
    exact q (a+1) aa j b e
   |false=>rw[xO c hc] at e;omega
 have g:=g (s.data.toList.length-i) i aa
 unfold rD
 rw[n]
 cases hf:(List.range (s.data.toList.length-i)).find? (fun j=>(s.extract i s.data.toList.length)[j]! ==(10:Int).toNat.toUInt8) with
 |none=>
  rw[List.find?_eq_none] at hf
  simp only
  rw[if_pos aa]
  have:¬tw eX s.data.toList i<s.data.toList.length:=by
   intro c
   have b:=UU (p:=eX) (l:=s.data.toList) (s.data.toList.length-i) i aa c
   have e:=hf (tw eX s.data.toList i-i) (gV.2 aa)
   rw[f _ aa,show i+(tw eX s.data.toList i-i)=tw eX s.data.toList i by omega,mK c] at e
   simp only[eX,bne_eq_false_iff_eq] at b
   rw[b] at e
   exact e ac
  omega
 |some k=>
  have b:=List.find?_some hf
  have r:k<s.data.toList.length-i:=gV.1 (gO hf)
  simp only
  rw[if_neg aa]
  rw[f k r] at b
  have b:s.data.toList.getD (i+k) 0=10:=by simpa using b
  have e:¬i+k<tw eX s.data.toList i:=fun h=>g (i+k) aa h b
  have t:¬tw eX s.data.toList i<i+k:=by
   intro c
   have hlt':tw eX s.data.toList i<s.data.toList.length:=by omega
   have q:=UU (p:=eX) (l:=s.data.toList) (s.data.toList.length-i) i aa hlt'
   have u:=List.not_of_lt_findIdx (xs:=List.range (s.data.toList.length-i)) (p:=fun j=>(s.extract i s.data.toList.length)[j]! ==(10:Int).toNat.toUInt8) (i:=tw eX s.data.toList i-i)
   have o:=(List.find?_range_eq_some.1 hf).2.2 (tw eX s.data.toList i-i) aa
   rw[f _ aa,show i+(tw eX s.data.toList i-i)=tw eX s.data.toList i by omega,mK hlt'] at o
   simp only[eX,bne_eq_false_iff_eq] at q
   rw[q] at o
   simp at o
  omega
theorem RC{N:Nat}{s:BA}(n:s.data.toList.length<=16384)(g:s.data.toList.length+40<N):∀(k M i:Nat) (acc:List cB),i<=s.data.toList.length->s.data.toList.length<i+k->k<=M->acc.length<=i->
  aK (GY N s (some kdL)) M (acc,(i:Int))=some (uU acc (nC k s i))
 |0,_,i,_,f,o,_,_=>by omega
 |k+1,0,_,_,_,_,q,_=>by omega
 |k+1,M+1,i,acc,f,o,q,v=>by
  have y:=iV s
  have t:=oW (p:=cD [5]) (l:=s.data.toList) (a:=i) f
  simp only[aK,nC]
  have c:GY N s (some kdL) (acc,(i:Int))=if tw (cD [5]) s.data.toList i=s.data.toList.length then some (.inr (acc++[(5,⟨#[]⟩,0,(s.data.toList.length:Int))],0,0))
    else if kd (s.data.toList.getD (tw (cD [5]) s.data.toList i) 0)=6 then some (.inl (acc,((tw eX s.data.toList (tw (cD [5]) s.data.toList i):Nat):Int)))
    else if(eO s (tw (cD [5]) s.data.toList i)).2.2≠0 then some (.inr ([],(tw (cD [5]) s.data.toList i:Nat),(eO s (tw (cD [5]) s.data.toList i)).2.2))
    else some (.inl (acc++[((eO s (tw (cD [5]) s.data.toList i)).1.1,(eO s (tw (cD [5]) s.data.toList i)).1.2.1,(eO s (tw (cD [5]) s.data.toList i)).1.2.2.1,((tw (cD [5]) s.data.toList i:Nat):Int))],(eO s (tw (cD [5]) s.data.toList i)).2.1)):=by
   simp only[GY]
   rw[IB f aa ae aa]
   simp only[j0]
   generalize hE:tw (cD [5]) s.data.toList i=e at t ⊢
   by_cases he:e=s.data.toList.length
   .rw[if_pos he,if_pos (by rw[kF];omega),iS ag aa,he]
    rfl
   have b:e<s.data.toList.length:=by omega
   rw[if_neg he,if_neg (by rw[kF];omega),nI b]
   simp only[j0,UT,kF,mK b]
   by_cases h6:kd (s.data.toList[e])=6
   .rw[if_pos h6,if_pos h6,RV aa]
    have h:=qSz (s:=s) (i:=e) aa
    have d:=oW (p:=eX) (l:=s.data.toList) (a:=e) aa
    have u:(if(decide (rD (s.extract e s.data.toList.length) 10<0))then(some (IntKind.wrap .i64 ((ByteArray.size s:Int)-(e:Int)))) else(some (rD (s.extract e s.data.toList.length) 10)):Option Int)=some ((tw eX s.data.toList e-e:Nat):Int):=by
     rw[<-h,bZ aa aa]
     by_cases hi:rD (s.extract e s.data.toList.length) 10<0
     .rw[if_pos (by simpa using hi),if_pos hi];congr 1;omega
     rw[if_neg (by simpa using hi),if_neg hi]
    simp only[j0,PY,EZ]
    rw[u]
    simp only[j0]
    rw[bZ aa aa]
    congr 3;omega
   rw[if_neg h6,if_neg h6,qRb b aa aa]
   simp only[j0,fH]
   by_cases h0:(eO s e).2.2≠0
   .rw[if_pos h0,if_pos h0]
   rw[if_neg h0,if_neg h0,iS ag aa]
   rfl
  rw[c]
  by_cases he:tw (cD [5]) s.data.toList i=s.data.toList.length
  .rw[if_pos he,if_pos he];rfl
  rw[if_neg he,if_neg he]
  have b:tw (cD [5]) s.data.toList i<s.data.toList.length:=by omega
  by_cases h6:kd (s.data.toList.getD (tw (cD [5]) s.data.toList i) 0)=6
  .rw[if_pos h6,if_pos h6]
   have d:=oW (p:=eX) (l:=s.data.toList) (a:=tw (cD [5]) s.data.toList i) aa
   have h:=zP (p:=eX) b (by
    rw[mK b] at h6
    simp only[eX,fH,ne_eq]
    intro e;rw[e] at h6;exact absurd h6 ac)
   exact RC n g k M _ acc d.2 aa aa aa
  rw[if_neg h6,if_neg h6]
  by_cases h0:(eO s (tw (cD [5]) s.data.toList i)).2.2≠0
  .rw[if_pos h0,if_pos h0];rfl
  rw[if_neg h0,if_neg h0]
  obtain⟨e,d,u,h,_⟩:=NX b (by simpa using h0)
  rw[d]
  simp only[j0,kD]
  rw[RC n g k M e _ h aa aa ai]
  cases nC k s e with
  |inl x=>rfl
  |inr r=>simp[uU]
theorem qOw{N:Nat}{s:BA}(a:20000<N):MN N s=some (lD s):=by
 have b:=iV s
 unfold MN lD
 by_cases h:s.data.toList.length>16384
 .rw[if_pos ad,if_pos h]
 rw[if_neg ad,if_neg h,TG aa]
 have:=RC (N:=N) (s:=s) aa aa (s.data.toList.length+1) N 0 [] aa aa aa ae
 simp only[j0]
 rw[show((0:Nat):Int)=0 from rfl] at this
 rw[this]
 rfl
def xY(t:cB):Int:=t.2.2.2+(t.2.1.size:Int)+(if t.1=2 then 1 else 0)
def UY(s:BA):Int->List cB->Prop
 |_,[]=>True
 |e,t::r=>e<=t.2.2.2/\t.2.2.2+(t.2.1.size:Int)<=s.size/\(t.1=5↔r=[])/\(t.1=1\/t.1=4->s.extract t.2.2.2.toNat (t.2.2.2+(t.2.1.size:Int)).toNat=t.2.1/\0<t.2.1.size)/\UY s (xY t) r
theorem RO{s:BA}:∀(k i:Nat) (e:Int) (r:List cB),i<=s.data.toList.length->s.data.toList.length<i+k->e<=i->nC k s i= .inr r->UY s e r/\r≠[]/\r.length<=s.data.toList.length+1-i
 |0,i,e,r,A,G,H,c=>by omega
 |k+1,i,e,r,A,G,H,c=>by
  have M:=iV s
  have K:=oW (p:=cD [5]) (l:=s.data.toList) (a:=i) A
  simp only[nC] at c
  generalize hE:tw (cD [5]) s.data.toList i=a at K c
  split at c
  .obtain rfl:=(Sum.inr.inj c).symm
   refine⟨⟨by show e<=(s.data.toList.length:Int);omega,by show(s.data.toList.length:Int)+((0:Nat):Int)<=_;omega,by simp,fun h=>by simp at h,trivial⟩,by simp,by simp;omega⟩
  rename_i he
  have o:a<s.data.toList.length:=by omega
  split at c
  .rename_i h6
   have u:=oW (p:=eX) (l:=s.data.toList) (a:=a) aa
   have d:=zP (p:=eX) o (by
    rw[mK o] at h6
    simp only[eX,fH,ne_eq]
    intro e;rw[e] at h6;exact absurd h6 ac)
   obtain⟨v,y,F⟩:=RO k _ e r u.2 aa aa c
   exact⟨v,y,by omega⟩
  split at c
  .cases c
  rename_i h0
  obtain⟨b,B,u,D,E⟩:=NX o (by simpa using h0)
  rw[B,kD] at c
  generalize (eO s a).1=t at c E
  cases z:nC k s b with
  |inl x=>rw[z] at c;cases c
  |inr q=>
   rw[z] at c
   obtain rfl:=(Sum.inr.inj c).symm
   have g:(s.extract a b).size=b-a:=by rw[ByteArray.size_extract];omega
   have f:xY (t.1,t.2.1,t.2.2.1,(a:Int))<=b/\(a:Int)+(t.2.1.size:Int)<=b/\t.1≠5/\(t.1=1\/t.1=4->t.2.1=s.extract a b):=by
    rcases E with ⟨n,d⟩|⟨n,d⟩|⟨n,d⟩
    .refine⟨?_,?_,by omega,fun _=>d⟩
     .simp only[xY,d,g];rw[if_neg aa];omega
     rw[d,g];omega
    .have:(⟨#[]⟩:BA).size=0:=rfl
     refine⟨?_,?_,by omega,fun h=>by omega⟩
     .simp only[xY,d,this];rw[if_pos n];omega
     rw[d,this];omega
    refine⟨?_,by omega,by omega,fun h=>by omega⟩
    simp only[xY];rw[if_neg aa];omega
   obtain⟨v,y,F⟩:=RO k b (xY (t.1,t.2.1,t.2.2.1,(a:Int))) q D aa f.1 z
   refine⟨⟨by show e<=(a:Int);omega,?_,?_,?_,v⟩,by simp,by simp only[jA];omega⟩
   .show(a:Int)+(t.2.1.size:Int)<=_;omega
   .exact⟨fun h=>absurd h f.2.2.1,fun h=>absurd h y⟩
   intro h
   have:=f.2.2.2 h
   show s.extract (Int.toNat (a:Int)) ((a:Int)+(t.2.1.size:Int)).toNat=t.2.1/\0<t.2.1.size
   rw[this,g,kD,show((a:Int)+((b-a:Nat):Int)).toNat=b by omega]
   exact⟨rfl,by omega⟩
theorem SY{s:BA}:∀(k i:Nat) (x:Int×Int),i<=s.data.toList.length->s.data.toList.length<i+k->nC k s i= .inl x->0<=x.1/\x.1<=s.size/\x.2≠0
 |0,i,x,h,r,c=>by omega
 |k+1,i,x,h,r,c=>by
  have v:=iV s
  have t:=oW (p:=cD [5]) (l:=s.data.toList) (a:=i) h
  simp only[nC] at c
  generalize hE:tw (cD [5]) s.data.toList i=a at t c
  split at c
  .cases c
  rename_i he
  have d:a<s.data.toList.length:=by omega
  split at c
  .rename_i h6
   have f:=oW (p:=eX) (l:=s.data.toList) (a:=a) aa
   have g:=zP (p:=eX) d (by
    rw[mK d] at h6
    simp only[eX,fH,ne_eq]
    intro e;rw[e] at h6;exact absurd h6 ac)
   exact SY k _ x f.2 aa c
  split at c
  .rename_i h0
   obtain rfl:=Sum.inl.inj c
   exact⟨by simp only;omega,by simp only;omega,h0⟩
  rename_i h0
  obtain⟨b,n,f,o,u⟩:=NX d (by simpa using h0)
  rw[n,kD] at c
  cases g:nC k s b with
  |inl y=>rw[g] at c;obtain rfl:=Sum.inl.inj c;exact SY k b y o aa g
  |inr q=>rw[g] at c;cases c
theorem xS{p:UInt8->Bool}(h:((List.range 256).all fun n=>p (UInt8.ofNat n))=true)(c:UInt8):p c=true:=by
 have:=jN.1 h c.toNat (gV.2 c.toNat_lt)
 simpa using this
theorem SG{N:Nat}(c:UInt8):BZ N (c.toNat:Int)=some (kd c==1):=by
 have h:=xS (p:=fun c=>(decide (97<=c.toNat)&&decide (c.toNat<=122))==(kd c==1)) ah c
 rw[kF] at h
 rw[<-h]
 unfold BZ
 by_cases h1:97<=c.toNat
 .rw[if_pos ad]
  simp only[h1,decide_true,dA,j0]
  congr 1
  exact decide_eq_decide.2 aa
 rw[if_neg ad]
 simp[h1]
theorem HX{N:Nat}(c:UInt8):yR N (c.toNat:Int)=some (cD [1,2,3] c):=by
 have h:=xS (p:=fun c=>(kd c==1||(decide (48<=c.toNat)&&decide (c.toNat<=57)||decide (c.toNat=95)))==cD [1,2,3] c) ah c
 rw[kF] at h
 rw[<-h]
 unfold yR
 rw[SG]
 simp only[j0]
 cases kd c==1
 .have a:((c.toNat:Int)==95)=decide (c.toNat=95):=by rw[jY,kF,j6];omega
  simp only[j9,jC,dH,a]
  by_cases h1:48<=c.toNat
  .by_cases h2:c.toNat<=57
   .rw[if_pos ad,if_pos ad];simp[h1,h2]
   rw[if_pos ad,if_neg ad];simp[h2]
  rw[if_neg ad];simp[h1]
 rfl
theorem SA(c:UInt8):kd c=2↔48<=c.toNat/\c.toNat<=57:=by
 have h:=xS (p:=fun c=>(kd c==2)==(decide (48<=c.toNat)&&decide (c.toNat<=57))) ah c
 rw[kF,jY] at h
 simpa using h
theorem qAs(c:UInt8):kd c=7↔c=34:=by
 have h:=xS (p:=fun c=>(kd c==7)==(c==34)) ah c
 rw[kF,jY] at h
 simpa using h
def signs:List UInt8:=[59,44,40,41,43,45,42,47,37,60,61]
theorem qBl(c:UInt8):kd c=8↔signs.contains c=true:=by
 have h:=xS (p:=fun c=>(kd c==8)==signs.contains c) ah c
 rw[kF,jY] at h
 simpa using h
theorem qNk(c:UInt8):cD [5] c=true↔c.toNat=32\/c.toNat=9\/c.toNat=10\/c.toNat=13:=by
 have h:=xS (p:=fun c=>cD [5] c==(decide (c.toNat=32)||(decide (c.toNat=9)||(decide (c.toNat=10)||decide (c.toNat=13))))) ah c
 rw[kF,jY] at h
 simpa using h
theorem qLm(c:UInt8):kd c=6↔c.toNat=35:=by
 have h:=xS (p:=fun c=>(kd c==6)==decide (c.toNat=35)) ah c
 rw[kF,jY] at h
 simpa using h
def pM(n:Int)(c:UInt8):Int:=if n<=9007199254740992 then n*10+((c.toNat:Int)-48) else n
theorem qOl(l:List UInt8)(c:UInt8):(l++[c]).foldl pM 0=pM (l.foldl pM 0) c:=by simp
theorem qEb:∀(n:Nat) (ds:List UInt8),ds.length=n->(∀c∈ds,kd c=2)->0<=ds.foldl pM 0/\ds.foldl pM 0<=90071992547409930/\rC ds=if ds.foldl pM 0>9007199254740992 then 9007199254740993 else ds.foldl pM 0
 |0,ds,h,_=>by obtain rfl:=hZ.1 h;simp[rC]
 |n+1,ds,h,k=>by
  obtain⟨l,c,rfl⟩:∃l c,ds=l++[c]:=by
   rcases List.eq_nil_or_concat ds with e|⟨l,c,e⟩
   .rw[e] at h;cases h
   exact⟨l,c,by simpa using e⟩
  obtain⟨d,f,a⟩:=qEb n l (by simpa using h) (fun c g=>k c (gB _ g))
  have g:=NN c (k c ae)
  rw[qOl,SO]
  by_cases hu:l.foldl pM 0<=9007199254740992
  .rw[if_neg aa] at a
   rw[a]
   generalize l.foldl pM 0=u at d f hu
   have b:pM u c=u*10+((c.toNat:Int)-48):=if_pos hu
   rw[b]
   unfold AB
   refine⟨by omega,by omega,?_⟩
   by_cases h4:9007199254740993<10*u+((c.toNat:Int)-48)
   .rw[if_pos h4,if_pos aa]
   rw[if_neg h4]
   by_cases h5:u*10+((c.toNat:Int)-48)>9007199254740992
   .rw[if_pos h5];omega
   rw[if_neg h5];omega
  rw[if_pos aa] at a
  rw[a]
  generalize l.foldl pM 0=u at d f hu
  have b:pM u c=u:=if_neg hu
  have o:AB 9007199254740993 c=9007199254740993:=if_pos aa
  rw[b,o,if_pos aa]
  exact⟨d,f,rfl⟩
theorem qGe(c:UInt8):cD [2] c=decide (48<=c.toNat/\c.toNat<=57):=by
 rw[jY,j6,<-SA];simp[cD]
theorem XX{N:Nat}{s:BA}:∀(d i M:Nat) (n:Int),i+d=s.data.toList.length->s.data.toList.length<1000000->d<M->0<=n->n<=90071992547409930->
  aK (FQ N s) M ((i:Int),n)=some (((tw (cD [2]) s.data.toList i:Nat):Int),((s.data.toList.drop i).takeWhile (cD [2])).foldl pM n)
 |d,i,0,n,_,_,h,_,_=>by omega
 |0,i,M+1,n,c,b,e,f,g=>by
  have l:=iV s
  rw[DQ aa,jQ aa]
  simp only[aK,FQ]
  rw[if_neg ad]
  rfl
 |d+1,i,M+1,n,c,b,e,f,g=>by
  have l:=iV s
  have hi:i<s.data.toList.length:=by omega
  simp only[aK,FQ]
  rw[if_pos ad,nI hi]
  simp only[j0]
  have k:(if decide (((s.data.toList[i]).toNat:Int)>=48)then some (decide (((s.data.toList[i]).toNat:Int)<=57)) else some false)=some (cD [2] (s.data.toList[i])):=by
   rw[qGe]
   by_cases h48:48<=(s.data.toList[i]).toNat
   .rw[if_pos ad];congr 1;exact decide_eq_decide.2 aa
   rw[if_neg ad];congr 1;exact(jR aa).symm
  rw[k]
  simp only[j0]
  rw[jH hi]
  cases hb:cD [2] (s.data.toList[i]) with
  |false=>
   rw[xO hi hb,fB (by rw[hb];exact gK)]
   rfl
  |true=>
   have o:48<=(s.data.toList[i]).toNat/\(s.data.toList[i]).toNat<=57:=by rw[qGe] at hb;simpa using hb
   rw[<-xM hi hb,gL hb,kC,if_pos rfl]
   have a:(if decide (n<=9007199254740992)then some (IntKind.wrap .i64 (IntKind.wrap .i64 (n*10)+IntKind.wrap .i64 (IntKind.wrap .u8 (((s.data.toList[i]).toNat:Int)-48)))) else some n)=some (pM n (s.data.toList[i])):=by
    unfold pM
    by_cases a:n<=9007199254740992
    .rw[if_pos (by simpa using a),if_pos a,wu8 aa aa,bZ (x:=n*10) aa aa,bZ (x:=((s.data.toList[i]).toNat:Int)-48) aa aa,bZ aa aa]
    rw[if_neg (by simpa using a),if_neg a]
   rw[a]
   simp only[j0]
   rw[bZ aa aa,<-gE]
   exact XX d (i+1) M _ aa b aa (by unfold pM;split<;>omega) (by unfold pM;split<;>omega)
theorem qBq(c:UInt8):(if decide ((c.toNat:Int)>=32)then(if decide ((c.toNat:Int)<=126)then some ((c.toNat:Int) !=34) else some false) else some false)=some (oS c):=by
 unfold oS
 by_cases h1:32<=c.toNat
 .rw[if_pos ad]
  by_cases h2:c.toNat<=126
  .rw[if_pos ad]
   simp only[h1,h2,decide_true,dA]
   congr 1
   rw[jY,fH,fH]
   exact⟨fun h e=>h (by rw[e];rfl),fun h e=>h (UInt8.toNat_inj.1 (by show _=34;omega))⟩
  rw[if_neg ad];simp[h2]
 rw[if_neg ad];simp[h1]
theorem qKr{N:Nat}{s:BA}(d i M:Nat)(c:i+d=s.data.toList.length)(h:s.data.toList.length<1000000)(g:d<M):aK (yL N s) M (i:Int)=some ((tw oS s.data.toList i:Nat):Int):=by
 have k:=iV s
 refine DK (f:=yL N s) (l:=s.data.toList) (p:=oS) (fun e=>(e:Int)) (fun j b a=> ?_) (fun j b a=> ?_) ?_ d i M c g
 .simp only[yL]
  rw[if_pos ad,nI b]
  simp only[j0,qBq,a]
  rw[if_pos trivial,bZ aa aa]
 .simp only[yL]
  rw[if_pos ad,nI b]
  simp only[j0,qBq,a]
  rfl
 simp only[yL]
 rw[if_neg ad]
 rfl
theorem qEx{N:Nat}{s:BA}{p1 a:Int}:KZ N s p1 a=if(decide (a<(signs.length:Int)))then((bS signs a).bind fun b=>(iC s p1).bind fun c=>if((c.toNat:Int)==(b.toNat:Int))then((nD s p1 (IntKind.wrap .i64 (p1+1))).bind fun d=>some (.inr (.inr (((4,d,0,p1),IntKind.wrap .i64 (p1+1),0))))) else(some (.inl (IntKind.wrap .i64 (a+1))))) else(some (.inr (.inl ()))):=rfl
theorem XU{N:Nat}{s:BA}{i:Nat}(hi:i<s.data.toList.length)(g:s.data.toList.length<1000000):∀(d j M:Nat),j+d=signs.length->d<M->
  aK (KZ N s (i:Int)) M (j:Int)=some (if(signs.drop j).contains (s.data.toList[i])then .inr ((4,s.extract i (i+1),0,(i:Int)),((i+1:Nat):Int),0) else .inl ())
 |d,j,0,_,h=>by omega
 |0,j,M+1,e,f=>by
  simp only[aK,qEx]
  rw[if_neg ad,jQ aa]
  rfl
 |d+1,j,M+1,e,f=>by
  have b:j<signs.length:=by omega
  have k:signs.length=11:=rfl
  simp only[aK,qEx]
  rw[if_pos ad,eR b,nI hi,jH b]
  simp only[j0,List.contains_cons]
  by_cases he:s.data.toList[i]=signs[j]
  .rw[if_pos (by rw[he];exact fC _),bZ (x:=(i:Int)+1) aa aa,<-gE,tM aa aa]
   simp only[j0]
   rw[if_pos (by rw[he];simp)]
  have c:¬((s.data.toList[i]).toNat:Int)=((signs[j]).toNat:Int):=fun h=>he (UInt8.toNat_inj.1 aa)
  have a:(s.data.toList[i]==signs[j])=false:=beq_eq_false_iff_ne.2 he
  rw[if_neg (by simpa using c),bZ aa aa,<-gE]
  simp only[j0,a,dH]
  exact XU hi g d (j+1) M aa aa
def VL(s:BA)(i:Nat):(Int×BA×Int×Int)×Int×Int:=
 if(eO s i).2.2=0 then(((eO s i).1.1,(eO s i).1.2.1,(eO s i).1.2.2.1,(i:Int)),(eO s i).2.1,0) else eO s i
theorem qLj{N:Nat}{s:BA}{i:Nat}(hi:i<s.data.toList.length)(n:s.data.toList.length<1000000)(v:s.data.toList.length+20<N):LS N s (i:Int)=some (VL s i):=by
 have y:=iV s
 simp only[LS,nI hi,j0,SG,VL,eO,mK hi,kF]
 by_cases h1:kd (s.data.toList[i])=1
 .simp only[h1,jE]
  have d:=oW (p:=cD [1,2,3]) (l:=s.data.toList) (a:=i) aa
  have key:=DK (f:=BN N s) (l:=s.data.toList) (p:=cD [1,2,3]) (fun e=>(e:Int)) (fun j b d=>by
   simp only[BN]
   rw[if_pos ad,nI b]
   simp only[j0,HX,d]
   rw[if_pos trivial,bZ aa aa]) (fun j b d=>by
   simp only[BN]
   rw[if_pos ad,nI b]
   simp only[j0,HX,d]
   rfl) (by
   simp only[BN]
   rw[if_neg ad]
   rfl) (s.data.toList.length-i) i N aa aa
  rw[key]
  simp only[j0]
  rw[bZ aa aa,tM d.1 d.2]
  by_cases h:tw (cD [1,2,3]) s.data.toList i-i>24
  .rw[if_pos ad,if_pos h];rfl
  rw[if_neg ad,if_neg h];rfl
 simp only[h1,jC]
 by_cases h2:kd (s.data.toList[i])=2
 .simp only[h2,jE]
  have q:=(SA _).1 h2
  rw[if_pos ad]
  simp only[j0]
  obtain⟨b,k,o⟩:=qEb _ _ rfl (fun c (g:c∈(s.data.toList.drop i).takeWhile (cD [2]))=>by simpa[cD] using IK g)
  rw[if_pos ad,XX (s.data.toList.length-i) i N 0 aa n aa aa aa,o]
  simp only[j0,j6]
  generalize ((s.data.toList.drop i).takeWhile (cD [2])).foldl pM 0=u at b k
  by_cases h4:u>9007199254740992
  .simp[h4,xU]
  simp[h4]
 simp only[h2,jC]
 have t:¬(48<=(s.data.toList[i]).toNat/\(s.data.toList[i]).toNat<=57):=fun h=>h2 ((SA _).2 h)
 have k:(if decide (((s.data.toList[i]).toNat:Int)>=48)then some (decide (((s.data.toList[i]).toNat:Int)<=57)) else some false)=some false:=by
  by_cases h48:48<=(s.data.toList[i]).toNat
  .rw[if_pos ad];congr 1;rw[decide_eq_false_iff_not];omega
  rw[if_neg ad]
 rw[k]
 simp only[j0,j9,jC]
 by_cases h7:kd (s.data.toList[i])=7
 .have g:s.data.toList[i]=34:=(qAs _).1 h7
  simp only[h7,jE]
  rw[if_pos (by rw[g];rfl),bZ (x:=(i:Int)+1) aa aa,<-gE]
  have d:=oW (p:=oS) (l:=s.data.toList) (a:=i+1) aa
  rw[qKr (s.data.toList.length-(i+1)) (i+1) N aa n aa]
  simp only[j0]
  generalize tw oS s.data.toList (i+1)=e at d
  by_cases he:e=s.data.toList.length
  .rw[if_pos aa]
   have:¬s.data.toList.getD e 0=34:=fun h=>by have:=HY (l:=s.data.toList) (i:=e) (by rw[h];decide);omega
   rw[if_neg this]
   rfl
  have b:e<s.data.toList.length:=by omega
  rw[if_neg aa,nI b,mK b]
  simp only[j0]
  by_cases h34:s.data.toList[e]=34
  .rw[if_pos h34,if_neg (by rw[h34];decide),tM d.1 d.2]
   simp only[j0,jE]
   rw[bZ aa aa,<-gE]
  have h34':¬((s.data.toList[e]).toNat:Int)=34:=fun h=>h34 (UInt8.toNat_inj.1 (by show _=34;omega))
  rw[if_neg h34,if_pos (by simpa using h34')]
  simp[xU]
 have h34':¬((s.data.toList[i]).toNat:Int)=34:=fun h=>h7 ((qAs _).2 (UInt8.toNat_inj.1 (by show _=34;omega)))
 simp only[h7,jC,h34']
 have q:(if((s.data.toList[i]).toNat:Int)=61 then(if decide (IntKind.wrap .i64 ((i:Int)+1)<(s.size:Int))then((iC s (IntKind.wrap .i64 ((i:Int)+1))).bind fun o=>some ((o.toNat:Int)==61)) else some false) else some false)=some (decide (s.data.toList.getD i 0=61/\s.data.toList.getD (i+1) 0=61)):=by
  rw[mK hi]
  by_cases h61:s.data.toList[i]=61
  .rw[if_pos (by rw[h61];rfl),bZ aa aa,<-gE]
   by_cases b:i+1<s.data.toList.length
   .rw[if_pos ad,nI b,mK b]
    simp only[j0]
    congr 1
    rw[jY,kF,j6]
    exact⟨fun h=>⟨h61,UInt8.toNat_inj.1 (by show _=61;omega)⟩,fun h=>by rw[h.2];rfl⟩
   rw[if_neg ad]
   congr 1
   refine(jR fun h=> ?_).symm
   have:=HY (l:=s.data.toList) (i:=i+1) (by rw[h.2];decide)
   omega
  rw[if_neg (fun h=>h61 (UInt8.toNat_inj.1 (by show _=61;omega)))]
  congr 1
  exact(jR fun h=>h61 h.1).symm
 rw[q]
 simp only[j0,j6]
 by_cases h61:s.data.toList.getD i 0=61/\s.data.toList.getD (i+1) 0=61
 .have b:i+1<s.data.toList.length:=HY (by rw[h61.2];decide)
  have d:kd (s.data.toList[i])=8:=by rw[<-mK hi,h61.1];kernel_rfl
  have g:rO s.data.toList i=i+2:=by rw[rO,if_pos h61]
  have r:s.extract i (i+2)=(⟨#[61,61]⟩:BA):=by
   apply Go.WideShapes.bytes_inj
   simp only[ByteArray.data_extract,gT,kY]
   rw[jH hi,jH b,<-mK hi,<-mK b,h61.1,h61.2,show i+2-i=2 by omega]
   rfl
  simp only[h61,and_self,jE,d,g,r]
  rw[bZ aa aa]
  simp
 have g:rO s.data.toList i=i+1:=by rw[rO,if_neg h61]
 have key:=XU (N:=N) hi n 11 0 N rfl aa
 rw[show((0:Nat):Int)=0 from rfl] at key
 rw[if_neg h61,key]
 by_cases d:kd (s.data.toList[i])=8
 .have:=(qBl _).1 d
  simp only[d,jE,jS,this,j0,g]
 have:¬signs.contains (s.data.toList[i])=true:=fun h=>d ((qBl _).2 h)
 simp only[d,jC,jS,this,j0]
 simp[xU]
def mM:Nat->List UInt8->Nat->Nat
 |0,_,i=>i
 |k+1,l,i=>
  if tw (cD [5]) l i=l.length then l.length
  else if kd (l.getD (tw (cD [5]) l i) 0)=6 then mM k l (tw eX l (tw (cD [5]) l i))
  else tw (cD [5]) l i
theorem qMu{N:Nat}{s:BA}{i:Nat}(hi:i<=s.data.toList.length)(k:s.data.toList.length<1000000)(g:s.data.toList.length+10<N):aK (yN N s) N (i:Int)=some ((tw eX s.data.toList i:Nat):Int):=by
 have n:=iV s
 have d:∀c:UInt8,((c.toNat:Int) !=10)=eX c:=fun c=>by
  rw[jY,fH,eX,fH]
  exact⟨fun h e=>h (by rw[e];rfl),fun h e=>h (UInt8.toNat_inj.1 (by show _=10;omega))⟩
 refine DK (f:=yN N s) (l:=s.data.toList) (p:=eX) (fun e=>(e:Int)) (fun j b a=> ?_) (fun j b a=> ?_) ?_ (s.data.toList.length-i) i N aa aa
 .simp only[yN]
  rw[if_pos ad,nI b]
  simp only[j0,d,a]
  rw[if_pos trivial,bZ aa aa]
 .simp only[yN]
  rw[if_pos ad,nI b]
  simp only[j0,d,a]
  rfl
 simp only[yN]
 rw[if_neg ad]
 rfl
theorem qMs{s:BA}{i:Nat}(hi:i<s.data.toList.length):((iC s (i:Int)).bind fun b=>if((b.toNat:Int)==32)then(some true) else((iC s (i:Int)).bind fun d=>if((d.toNat:Int)==9)then(some true) else((iC s (i:Int)).bind fun e=>if((e.toNat:Int)==10)then(some true) else((iC s (i:Int)).bind fun f=>some ((f.toNat:Int)==13)))))=some (cD [5] (s.data.toList[i])):=by
 simp only[nI hi,j0,kF]
 generalize s.data.toList[i]=c
 have a:=qNk c
 by_cases h1:(c.toNat:Int)=32
 .rw[if_pos h1,a.2 aa]
 rw[if_neg h1]
 by_cases h2:(c.toNat:Int)=9
 .rw[if_pos h2,a.2 aa]
 rw[if_neg h2]
 by_cases h3:(c.toNat:Int)=10
 .rw[if_pos h3,a.2 aa]
 rw[if_neg h3]
 congr 1
 rw[jY,kF,a]
 omega
theorem qMw{N:Nat}{s:BA}{i:Nat}(hi:i<s.data.toList.length)(c:s.data.toList.length<1000000)(b:s.data.toList.length+10<N):
  BQ N s (i:Int)=some (if cD [5] (s.data.toList[i])then .inl (((i+1:Nat)):Int) else if kd (s.data.toList[i])=6 then .inl ((tw eX s.data.toList i:Nat):Int) else .inr (.inr (i:Int))):=by
 have d:=iV s
 simp only[BQ]
 rw[if_pos ad,qMs hi]
 simp only[j0]
 by_cases h5:cD [5] (s.data.toList[i])=true
 .rw[if_pos h5,if_pos h5,bZ aa aa,<-gE]
 rw[if_neg h5,if_neg h5,nI hi]
 simp only[j0,kF]
 have a:=qLm (s.data.toList[i])
 by_cases h6:kd (s.data.toList[i])=6
 .rw[if_pos (by have:=a.1 h6;omega),if_pos h6,qMu aa c b]
  rfl
 rw[if_neg (fun h=>h6 (a.2 aa)),if_neg h6]
theorem SR{N:Nat}{s:BA}(f:s.data.toList.length<1000000)(c:s.data.toList.length+10<N):∀(d i k M:Nat),i+d=s.data.toList.length->d<k->d<M->∃z,aK (BQ N s) M (i:Int)=some z/\(z= .inl ((mM k s.data.toList i:Nat):Int)\/z= .inr ((mM k s.data.toList i:Nat):Int))
 |d,i,k,0,_,_,h=>by omega
 |d,i,0,M,_,h,_=>by omega
 |0,i,k+1,M+1,g,n,o=>by
  have r:=iV s
  refine⟨.inl ((s.data.toList.length:Nat):Int),?_,.inl ?_⟩
  .simp only[aK,BQ]
   rw[if_neg ad]
   simp only[j0]
   congr 2;omega
  simp only[mM]
  rw[DQ aa,if_pos aa]
 |d+1,i,k+1,M+1,g,n,o=>by
  have r:=iV s
  have hi:i<s.data.toList.length:=by omega
  simp only[aK]
  rw[qMw hi f c]
  simp only[j0]
  cases h5:cD [5] (s.data.toList[i]) with
  |true=>
   rw[if_pos rfl]
   have:=SR f c d (i+1) (k+1) M aa aa aa
   simp only[mM,xM hi h5] at this ⊢
   exact this
  |false=>
   rw[if_neg gK]
   by_cases h6:kd (s.data.toList[i])=6
   .have b:mM (k+1) s.data.toList i=mM k s.data.toList (tw eX s.data.toList i):=by
     simp only[mM,xO hi h5,mK hi,h6,jE]
     rw[if_neg aa]
    rw[b,if_pos h6]
    have t:=oW (p:=eX) (l:=s.data.toList) (a:=i) aa
    have q:=zP (p:=eX) hi (by
     simp only[eX,fH,ne_eq]
     intro e;rw[e] at h6;exact absurd h6 ac)
    exact SR f c (s.data.toList.length-tw eX s.data.toList i) _ k M aa aa aa
   have b:mM (k+1) s.data.toList i=i:=by
    simp only[mM,xO hi h5,mK hi,h6,jC]
    rw[if_neg aa]
   rw[b,if_neg h6]
   exact⟨_,rfl,.inr rfl⟩
theorem qDq{N:Nat}{s:BA}{i k:Nat}(hi:i<=s.data.toList.length)(d:s.data.toList.length<1000000)(c:s.data.toList.length+10<N)(e:s.data.toList.length<i+k):GS N s (i:Int)=some ((mM k s.data.toList i:Nat):Int):=by
 obtain⟨z,a,b⟩:=SR d c (s.data.toList.length-i) i k N aa aa aa
 unfold GS
 rw[a]
 rcases b with rfl|rfl<;>rfl
theorem qBf{s:BA}:∀(k i:Nat),i<=s.data.toList.length->s.data.toList.length<i+k->i<=mM k s.data.toList i/\mM k s.data.toList i<=s.data.toList.length/\
  (mM k s.data.toList i=s.data.toList.length->nC k s i= .inr [(5,⟨#[]⟩,0,(s.data.toList.length:Int))])/\
  (mM k s.data.toList i<s.data.toList.length->∃k',(∀b,mM k s.data.toList i<b->s.data.toList.length<b+k')/\nC k s i=
   if(eO s (mM k s.data.toList i)).2.2≠0 then .inl ((mM k s.data.toList i:Nat),(eO s (mM k s.data.toList i)).2.2)
   else match nC k' s (eO s (mM k s.data.toList i)).2.1.toNat with
    | .inl x=> .inl x
    | .inr r=> .inr (((eO s (mM k s.data.toList i)).1.1,(eO s (mM k s.data.toList i)).1.2.1,(eO s (mM k s.data.toList i)).1.2.2.1,((mM k s.data.toList i:Nat):Int))::r))
 |0,i,d,t=>by omega
 |k+1,i,d,t=>by
  have f:=oW (p:=cD [5]) (l:=s.data.toList) (a:=i) d
  simp only[mM,nC]
  by_cases he:tw (cD [5]) s.data.toList i=s.data.toList.length
  .simp only[he,jE]
   exact⟨d,jP _,fun _=>trivial,fun h=>absurd h (Nat.lt_irrefl _)⟩
  simp only[he,jC]
  have c:tw (cD [5]) s.data.toList i<s.data.toList.length:=by omega
  by_cases h6:kd (s.data.toList.getD (tw (cD [5]) s.data.toList i) 0)=6
  .simp only[h6,jE]
   have g:=oW (p:=eX) (l:=s.data.toList) (a:=tw (cD [5]) s.data.toList i) aa
   have u:=zP (p:=eX) c (by
    rw[mK c] at h6
    simp only[eX,fH,ne_eq]
    intro e;rw[e] at h6;exact absurd h6 ac)
   obtain⟨v,n,o,q⟩:=qBf k (tw eX s.data.toList (tw (cD [5]) s.data.toList i)) g.2 aa
   exact⟨by omega,n,o,q⟩
  simp only[h6,jC]
  exact⟨f.1,f.2,fun h=>absurd h he,fun _=>⟨k,fun b hb'=>by omega,rfl⟩⟩
theorem XA{N:Nat}{s:BA}(E:s.data.toList.length<=16384)(B:s.data.toList.length+40<N):∀(d i k M:Nat) (acc:List cB),i+d=s.data.toList.length->d<M->s.data.toList.length<i+k->acc.length<=i->
  ∃z,aK (KR N s) M (acc,((mM k s.data.toList i:Nat):Int))=some z/\((∃o,z= .inl o/\o.length<=s.data.toList.length/\uU acc (nC k s i)=(o++[(5,⟨#[]⟩,0,(s.size:Int))],0,0))\/z= .inr (uU acc (nC k s i)))
 |d,i,k,0,acc,_,h,_,_=>by omega
 |d,i,k,M+1,acc,G,H,A,K=>by
  have F:=iV s
  obtain⟨v,y,g,l⟩:=qBf (s:=s) k i aa A
  generalize hA:mM k s.data.toList i=a at v y g l
  simp only[aK,KR]
  by_cases he:a=s.data.toList.length
  .refine⟨.inl acc,?_,.inl ⟨acc,rfl,by omega,?_⟩⟩
   .rw[if_neg ad]
    rfl
   rw[g he,<-F];rfl
  have b:a<s.data.toList.length:=by omega
  obtain⟨k',n,p⟩:=l b
  rw[if_pos ad,qLj b aa aa]
  simp only[j0,VL]
  by_cases h0:(eO s a).2.2=0
  .obtain⟨e,c,f,q,_⟩:=NX b h0
   rw[if_pos h0]
   simp only[fU,j9,jC]
   rw[iS ag aa,c]
   simp only[j0]
   rw[qDq (k:=k') q aa aa (n e f)]
   simp only[j0]
   obtain⟨z,t,u⟩:=XA E B (s.data.toList.length-e) e k' M (acc++[((eO s a).1.1,(eO s a).1.2.1,(eO s a).1.2.2.1,(a:Int))]) aa aa (n e f) ai
   have D:uU acc (nC k s i)=uU (acc++[((eO s a).1.1,(eO s a).1.2.1,(eO s a).1.2.2.1,(a:Int))]) (nC k' s e):=by
    rw[p,if_neg (by simp[h0]),c,kD]
    cases nC k' s e with
    |inl x=>rfl
    |inr r=>simp[uU]
   rw[D]
   exact⟨z,t,u⟩
  rw[if_neg h0]
  have c:((eO s a).2.2 !=0)=true:=by simpa using h0
  simp only[c,jE,j0]
  refine⟨_,rfl,.inr ?_⟩
  rw[p,if_pos h0]
  rfl
theorem qKv{N:Nat}{s:BA}(e:20000<N):LO N s=some (lD s):=by
 have g:=iV s
 unfold LO lD
 by_cases h:s.data.toList.length>16384
 .rw[if_pos ad,if_pos h]
 rw[if_neg ad,if_neg h]
 have a:=qDq (N:=N) (s:=s) (i:=0) (k:=s.data.toList.length+1) aa aa aa aa
 rw[show((0:Nat):Int)=0 from rfl] at a
 rw[a]
 simp only[j0]
 obtain⟨z,b,c⟩:=XA (N:=N) (s:=s) aa aa s.data.toList.length 0 (s.data.toList.length+1) N [] aa aa aa ae
 rw[b]
 rcases c with ⟨o,rfl,f,d⟩|rfl
 .simp only[j0]
  rw[iS ag aa,d]
  rfl
 rfl
def uW(s:BA):Bool:=decide (1<=s.data.toList.length/\s.data.toList.length<=24/\kd (s.data.toList.getD 0 0)=1/\tw (cD [1,2,3]) s.data.toList 0=s.data.toList.length)
theorem zA{s:BA}(h:¬(1<=s.data.toList.length/\s.data.toList.length<=24/\kd (s.data.toList.getD 0 0)=1/\tw (cD [1,2,3]) s.data.toList 0=s.data.toList.length)):false=uW s:=(jR h).symm
theorem qOd{s:BA}(h:1<=s.data.toList.length/\s.data.toList.length<=24/\kd (s.data.toList.getD 0 0)=1/\tw (cD [1,2,3]) s.data.toList 0=s.data.toList.length):true=uW s:=(jM h).symm
theorem qRx{N:Nat}{s:BA}(b:100<N):HO N s=some (uW s):=by
 have c:=iV s
 simp only[HO,TG (show 30<N by omega),j0]
 by_cases h1:1<=s.data.toList.length
 .by_cases h2:s.data.toList.length<=24
  .rw[if_pos ad,if_pos ad]
   have hi:=nI (s:=s) (i:=0) aa
   rw[show((0:Nat):Int)=0 from rfl] at hi
   rw[hi]
   simp only[j0,UT,kF]
   have a:=IB (N:=N) (s:=s) (ks:=[1,2,3]) (i:=0) aa aa ae aa
   rw[show((0:Nat):Int)=0 from rfl] at a
   by_cases h3:kd (s.data.toList[0])=1
   .rw[if_pos h3,a]
    simp only[j0]
    congr 1
    rw[jY,kF,uW,j6,mK aa]
    exact⟨fun h=>⟨h1,h2,h3,by omega⟩,fun h=>by have:=h.2.2.2;omega⟩
   rw[if_neg h3]
   refine congrArg some (zA fun h=> ?_)
   rw[mK aa] at h
   exact h3 h.2.2.1
  rw[if_pos ad,if_neg ad]
  exact congrArg some (zA fun h=>h2 h.2.1)
 rw[if_neg ad]
 exact congrArg some (zA fun h=>h1 h.1)
theorem qMm{N:Nat}{s:BA}(c:100<N):GU N s=some (uW s):=by
 have d:=iV s
 simp only[GU]
 by_cases h1:1<=s.data.toList.length
 .by_cases h2:s.data.toList.length<=24
  .rw[if_neg ad,if_neg ad]
   have hi:=nI (s:=s) (i:=0) aa
   rw[show((0:Nat):Int)=0 from rfl] at hi
   rw[hi]
   simp only[j0,SG]
   by_cases h3:kd (s.data.toList[0])=1
   .rw[h3,if_neg ae]
    have key:=DK (f:=BS N s) (l:=s.data.toList) (p:=cD [1,2,3]) (fun e=>if e=s.data.toList.length then .inl () else .inr false) (fun j b a=>by
     simp only[BS]
     rw[if_pos ad,nI b]
     simp only[j0,HX,a]
     rw[bZ aa aa]
     rfl) (fun j b a=>by
     simp only[BS]
     rw[if_pos ad,nI b]
     simp only[j0,HX,a]
     rw[if_neg (show ¬j=s.data.toList.length by omega)]
     rfl) (by
     simp only[BS]
     rw[if_neg ad]
     simp) s.data.toList.length 0 N aa aa
    rw[show((0:Nat):Int)=0 from rfl] at key
    rw[key]
    simp only[j0]
    by_cases h4:tw (cD [1,2,3]) s.data.toList 0=s.data.toList.length
    .rw[if_pos h4]
     exact congrArg some (qOd ⟨h1,h2,by rw[mK aa];exact h3,h4⟩)
    rw[if_neg h4]
    exact congrArg some (zA fun h=>h4 h.2.2.2)
   rw[if_pos (by rw[fV,beq_eq_false_iff_ne];exact h3)]
   refine congrArg some (zA fun h=> ?_)
   rw[mK aa] at h
   exact h3 h.2.2.1
  rw[if_neg ad,if_pos ad]
  simp only[j0,jE]
  exact congrArg some (zA fun h=>h2 h.2.1)
 rw[if_pos ad]
 simp only[j0,jE]
 exact congrArg some (zA fun h=>h1 h.1)
def sp:List UInt8->List (List UInt8)
 |[]=>[[]]
 |c::l=>if c=47 then[]::sp l else match sp l with
  |[]=>[[c]]
  |p::q=>(c::p)::q
theorem DW:∀l:List UInt8,sp l≠[]
 |[]=>by simp[sp]
 |c::l=>by
  simp only[sp]
  split
  .simp
  split<;>simp
theorem UO:∀l:List UInt8,(sp l).length=l.count 47+1
 |[]=>rfl
 |c::l=>by
  simp only[sp]
  split
  .rename_i h;subst h;simp[UO l]
  rename_i h
  have:=UO l
  split
  .rename_i e;exact absurd e (DW l)
  rename_i e
  rw[e] at this
  simp only[jA] at this ⊢
  rw[List.count_cons_of_ne h,<-this]
def nA(c:UInt8):Bool:=c !=47
theorem qEa:∀l:List UInt8,sp l=if(l.takeWhile nA).length=l.length then[l] else l.takeWhile nA::sp (l.drop ((l.takeWhile nA).length+1))
 |[]=>rfl
 |c::l=>by
  have b:=qEa l
  by_cases h:c=47
  .subst h
   rw[fB ac]
   simp[sp]
  have a:nA c=true:=by simpa[nA] using h
  rw[gL a]
  simp only[sp,h,jC,b,jA,Nat.add_right_cancel_iff,List.drop_succ_cons]
  by_cases he:(l.takeWhile nA).length=l.length
  .simp[he]
  simp[he]
def uS:Nat->Nat->List UInt8->Option (Nat×Nat)
 |a,b,[]=>some (a,b)
 |a,b,c::l=>if c=47 then(if b=0 then none else uS (a+1) 0 l) else if cD [1,2,3,4] c then(if b+1>24 then none else uS a (b+1) l) else none
def qUw(p:List UInt8):Prop:=1<=p.length/\p.length<=24/\∀c∈p,cD [1,2,3,4] c=true
theorem SU:∀(l:List UInt8) (a b:Nat),b<=24->((∃x y,uS a b l=some (x,y)/\0<y/\x<=8)↔
  ∃p q,sp l=p::q/\1<=b+p.length/\b+p.length<=24/\(∀c∈p,cD [1,2,3,4] c=true)/\(∀r∈q,qUw r)/\a+q.length<=8)
 |[],a,b,v=>by
  constructor
  .rintro⟨x,y,h,e,g⟩
   simp only[uS,jG,Prod.mk.injEq] at h
   exact⟨[],[],rfl,by simp;omega,by simpa using v,by simp,by simp,by simp;omega⟩
  rintro⟨p,q,h,e,g,_,_,f⟩
  simp only[sp,kL] at h
  obtain⟨rfl,rfl⟩:=h
  simp only[jB] at e f
  exact⟨a,b,rfl,by omega,by omega⟩
 |c::l,a,b,v=>by
  by_cases hc:c=47
  .have t:sp (c::l)=[]::sp l:=by simp[sp,hc]
   rw[t]
   simp only[uS,hc,jE]
   by_cases h0:b=0
   .subst h0
    simp only[jE]
    constructor
    .rintro⟨x,y,h,_⟩;cases h
    rintro⟨p,q,h,e,_⟩
    simp only[kL] at h
    rw[<-h.1] at e;simp at e
   rw[if_neg h0]
   rw[SU l (a+1) 0 aa]
   constructor
   .rintro⟨p,q,h,e,g,f,n,o⟩
    refine⟨[],sp l,rfl,by simp;omega,by simpa using v,by simp,?_,by rw[h];simp only[jA];omega⟩
    intro r s
    rw[h] at s
    rcases jI.1 s with rfl|s
    .exact⟨by omega,by omega,f⟩
    exact n r s
   rintro⟨p,q,h,e,g,f,n,o⟩
   simp only[kL] at h
   obtain⟨rfl,rfl⟩:=h
   obtain⟨p,q,k⟩:∃p q,sp l=p::q:=by
    cases u:sp l with
    |nil=>exact absurd u (DW l)
    |cons p q=>exact⟨p,q,rfl⟩
   rw[k] at n o
   obtain⟨A,B,z⟩:=n p (jL ..)
   exact⟨p,q,k,by omega,by omega,z,fun r s=>n r (jO _ s),by simp only[jA] at o;omega⟩
  obtain⟨p0,z,k⟩:∃p q,sp l=p::q:=by
   cases u:sp l with
   |nil=>exact absurd u (DW l)
   |cons p q=>exact⟨p,q,rfl⟩
  have t:sp (c::l)=(c::p0)::z:=by simp only[sp,hc,jC,k]
  rw[t]
  simp only[uS,hc,jC]
  by_cases u:cD [1,2,3,4] c=true
  .rw[if_pos u]
   by_cases h24:b+1>24
   .rw[if_pos h24]
    constructor
    .rintro⟨x,y,h,_⟩;cases h
    rintro⟨p,q,h,e,g,_⟩
    simp only[kL] at h
    rw[<-h.1] at g
    simp only[jA] at g
    omega
   rw[if_neg h24,SU l a (b+1) aa]
   constructor
   .rintro⟨p,q,h,e,g,f,n,o⟩
    rw[k] at h
    simp only[kL] at h
    obtain⟨rfl,rfl⟩:=h
    refine⟨_,_,rfl,by simp only[jA];omega,by simp only[jA];omega,?_,n,o⟩
    intro d s
    rcases jI.1 s with rfl|s
    .exact u
    exact f d s
   rintro⟨p,q,h,e,g,f,n,o⟩
   simp only[kL] at h
   obtain⟨rfl,rfl⟩:=h
   simp only[jA] at e g
   exact⟨p0,z,k,by omega,by omega,fun d s=>f d (jO _ s),n,o⟩
  rw[if_neg u]
  constructor
  .rintro⟨x,y,h,_⟩;cases h
  rintro⟨p,q,h,e,g,f,_⟩
  simp only[kL] at h
  rw[<-h.1] at f
  exact absurd (f c (jL ..)) u
theorem inK4{N:Nat}(c:UInt8):((yR N (c.toNat:Int)).bind fun y1=>if y1 then(some true) else(some ((c.toNat:Int)==46)))=some (cD [1,2,3,4] c):=by
 have h:=xS (p:=fun c=>(cD [1,2,3] c||decide (c.toNat=46))==cD [1,2,3,4] c) ah c
 rw[kF] at h
 rw[<-h,HX]
 simp only[j0]
 have e:((c.toNat:Int)==46)=decide (c.toNat=46):=by rw[jY,kF,j6];omega
 rw[e]
 cases cD [1,2,3] c<;>simp
theorem QU{N:Nat}{s:BA}(c:s.data.toList.length<1000000):∀(d i M a b:Nat),i+d=s.data.toList.length->d<M->a<=i+1->b<=24->
  aK (FY N s) M ((a:Int),(b:Int),(i:Int))=some (match uS a b (s.data.toList.drop i) with|some z=> .inl ((z.1:Int),(z.2:Int))|none=> .inr false)
 |d,i,0,_,_,_,h,_,_=>by omega
 |0,i,M+1,a,b,e,f,g,k=>by
  have l:=iV s
  simp only[aK,FY]
  rw[if_neg ad,jQ aa]
  rfl
 |d+1,i,M+1,a,b,e,f,g,k=>by
  have l:=iV s
  have hi:i<s.data.toList.length:=by omega
  simp only[aK,FY]
  rw[if_pos ad,jH hi,nI hi]
  simp only[j0,inK4,kF,uS]
  by_cases hc:s.data.toList[i]=47
  .rw[if_pos (show((s.data.toList[i]).toNat:Int)=47 by rw[hc];rfl),if_pos hc]
   by_cases hb:b=0
   .rw[if_pos (show(b:Int)=0 by omega),if_pos hb]
    rfl
   rw[if_neg (show ¬(b:Int)=0 by omega),if_neg hb,bZ (x:=(a:Int)+1) aa aa]
   simp only[j0]
   rw[if_neg ae,bZ aa aa]
   have:=QU (N:=N) c d (i+1) M (a+1) 0 aa aa aa aa
   exact this
  have hc':¬((s.data.toList[i]).toNat:Int)=47:=fun h=>hc (UInt8.toNat_inj.1 (by show _=47;omega))
  rw[if_neg hc',if_neg hc]
  by_cases hk:cD [1,2,3,4] (s.data.toList[i])=true
  .rw[if_pos hk,if_pos hk,bZ (x:=(b:Int)+1) aa aa]
   simp only[j0]
   by_cases h24:b+1>24
   .rw[if_pos ad,if_pos h24]
    rfl
   rw[if_neg ad,if_neg h24,bZ aa aa]
   have:=QU (N:=N) c d (i+1) M a (b+1) aa aa aa aa
   exact this
  rw[if_neg hk,if_neg hk]
  rfl
def iY(l:List UInt8):Bool:=decide (l.length<=80/\(sp l).length<=8/\∀p∈sp l,1<=p.length/\p.length<=24/\∀c∈p,cD [1,2,3,4] c=true)
theorem qAx(l:List UInt8):iY l=true↔l.length<=80/\∃x y,uS 1 0 l=some (x,y)/\0<y/\x<=8:=by
 rw[SU l 1 0 aa]
 simp only[iY,j6]
 obtain⟨p,q,hpq⟩:∃p q,sp l=p::q:=by
  cases a:sp l with
  |nil=>exact absurd a (DW l)
  |cons p q=>exact⟨p,q,rfl⟩
 constructor
 .rintro⟨c,d,b⟩
  rw[hpq] at d b
  obtain⟨f,g,e⟩:=b p (jL ..)
  exact⟨c,p,q,hpq,by omega,by omega,e,fun r a=>b r (jO _ a),by simp only[jA] at d;omega⟩
 rintro⟨c,p',q',h,d,b,e,f,g⟩
 refine⟨c,by rw[h];simp only[jA];omega,?_⟩
 intro r a
 rw[h] at a
 rcases jI.1 a with rfl|a
 .exact⟨by omega,by omega,e⟩
 exact f r a
theorem MV{N:Nat}{s:BA}(c:100<N):xC N s=some (iY s.data.toList):=by
 have d:=iV s
 simp only[xC]
 by_cases h80:s.data.toList.length<=80
 .rw[if_neg ad]
  have key:=QU (N:=N) (s:=s) aa s.data.toList.length 0 N 1 0 aa aa aa aa
  rw[show((0:Nat):Int)=0 from rfl,show((1:Nat):Int)=1 from rfl,jS] at key
  rw[key]
  have a:=qAx s.data.toList
  cases hR:uS 1 0 s.data.toList with
  |none=>
   simp only[j0]
   refine congrArg some ?_
   rw[jY,a]
   constructor
   .intro h;cases h
   rintro⟨_,x,y,h,_⟩;rw[hR] at h;cases h
  |some z=>
   obtain⟨x,y⟩:=z
   simp only[j0]
   by_cases hy:0<y
   .rw[if_pos ad]
    simp only[j0]
    refine congrArg some ?_
    rw[jY,a,j6]
    constructor
    .intro h;exact⟨h80,x,y,hR,hy,by omega⟩
    rintro⟨_,x',y',h,_,b⟩;rw[hR] at h;simp only[jG,Prod.mk.injEq] at h;omega
   rw[if_neg ad]
   simp only[j0]
   refine congrArg some ?_
   rw[jY,a]
   constructor
   .intro h;cases h
   rintro⟨_,x',y',h,b,_⟩;rw[hR] at h;simp only[jG,Prod.mk.injEq] at h;omega
 rw[if_pos ad]
 refine congrArg some ?_
 rw[jY,qAx]
 exact⟨fun h=>(by cases h),fun h=>absurd h.1 h80⟩
end
end Go.Proofs.YtleaknfdlaokiaaGreatDoor
