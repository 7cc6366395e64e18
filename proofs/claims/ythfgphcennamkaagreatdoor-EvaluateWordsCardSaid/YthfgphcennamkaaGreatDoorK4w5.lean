/- No condition but those of each theorem. -/
import Derived.Test.YthfgphcennamkaaGreatDoorProg
import Derived.WalkKit
import Derived.Deep.LoopGhost
import Derived.KernelRfl
import Derived.OrdersHeld
import Derived.OrdersIn
import Derived.LoopNIn
import Derived.Sort.LoopGhostIn
import Derived.Laws.AppendOwn
import Derived.RangeFuncLeaves
import Derived.RangeFuncRecord
import Derived.MapKept
import Derived.Maps.RangeRun
import Derived.ChangeKeysEq
import Derived.HandedShaped
import Derived.ChangeStays
import Derived.ChangeSame
import Derived.OpenShut
import Derived.WideShapes
import Derived.JoinedOf
import Derived.ReadAgain
import Derived.ChangeAt
import Derived.RowKit
import Derived.Lib.Overlaps
import Derived.Shelf.SlSortCmp.NoneTotal
import Derived.WalkSmall
import Derived.Recover
import Derived.Test.YthfgphcennamkaaGreatDoorK3w5
namespace Go.Proofs.YthfgphcennamkaaGreatDoor
section
open Go Go.Dc Go.Proofs.Tryz
set_option maxHeartbeats 4000000
set_option maxRecDepth 100000
variable {N c1 bp0 c2 c3 c4 c5 c6 c7 c8 c9:Nat} {m:Mem} {O:List Piece} {w:World} {a1 a2 a3 a4 a5 a6 a7 a8 a9:Option Addr}
def CN(N:Nat)(d:Tn)(c:JH)(s2:Int×uF):Option (Int×uF⊕uF):=
 if(decide (s2.1<(List.length c.1.2.2:Int)))=true then((bQ c.1.2.2 s2.1).bind fun b=>((HN N b.1 c.1.1 b.2.1).bind fun a=>(if((bD s2.2 a).isSome)=true then(some (((bD s2.2 a).getD ((⟨#[]⟩:BA),(⟨#[]⟩:BA),0,(⟨#[]⟩:BA),0,0)).1,((bD s2.2 a).getD ((⟨#[]⟩:BA),(⟨#[]⟩:BA),0,(⟨#[]⟩:BA),0,0)).2.1,((bD s2.2 a).getD ((⟨#[]⟩:BA),(⟨#[]⟩:BA),0,(⟨#[]⟩:BA),0,0)).2.2.1,((bD s2.2 a).getD ((⟨#[]⟩:BA),(⟨#[]⟩:BA),0,(⟨#[]⟩:BA),0,0)).2.2.2.1,((bD s2.2 a).getD ((⟨#[]⟩:BA),(⟨#[]⟩:BA),0,(⟨#[]⟩:BA),0,0)).2.2.2.2.1,IntKind.wrap .i64 ((((bD s2.2 a).getD ((⟨#[]⟩:BA),(⟨#[]⟩:BA),0,(⟨#[]⟩:BA),0,0)).2.2.2.2.2)+1))) else(some (c.1.1,b.2.1,b.1,d.1,s2.1,1)):Option iG).bind fun b=>(dZ s2.2 a b).bind fun a=>some a:Option uF).bind fun a=>some (.inl (IntKind.wrap .i64 (s2.1+1),a))) else(some (.inr s2.2))
def CO(N:Nat)(p0:To)(s1:Int×EP):Option (Int×EP⊕EP):=
 if(decide (s1.1<(List.length p0:Int)))=true then(((bQ p0 s1.1).bind fun a=>(LY N a.1).bind fun b=>if(!b)=true then(some s1.2) else((MJ N a.2).bind fun b=>if(b.2.2 !=0)=true then((eQ 16 s1.2.1 ([a.1])).bind fun c=>some (c,s1.2.2.1,s1.2.2.2)) else((dZ s1.2.2.1 a.1 b.1).bind fun c=>(aK (CN N a b) N (0,s1.2.2.2)).bind fun o4=>some (s1.2.1,c,o4))):Option EP).bind fun a=>some (.inl (IntKind.wrap .i64 (s1.1+1),a.1,a.2.1,a.2.2))) else(some (.inr s1.2))
def HI(N:Nat)(p0:To):Option sM:=
 ((QA N p0).bind fun y1=>some (y1==0):Th).bind fun a=>if(!a)=true then(some (p0,a,(some []:Option (List JQ)),([]:T8),(some []:uF))) else((aK (CO N p0) N (0,([]:T8),(some []:Option (List JQ)),(some []:uF))).bind fun o2=>some (p0,a,o2.2.1,o2.1,o2.2.2))
theorem XC{p0:To}{r:sM}(g:St m (O) w)(o:RepS C1 m a1 c1 p0)(hr:HI N p0=some r):Calls prog 15 #[.agg #[vS a1 p0 c1]] w fun e w'=>∃rb l6 l8,∃(rq2:dK),∃n0 n2 l7 l9,∃(l3:dK),∃n1 n3 m',bX m m' e (vP rb 0) (aC rq2 n0 n2::aC l3 n1 n3::bZ rb l6 l8 rq2 l7 l9 l3 r::O) w' (RepS C1 m' l6 l8 r.1/\MapQ cQ C7 true m' rq2 n0 n2 r.d.1/\RepS aH m' l7 l9 r.e.1/\MapQ bA C8 true m' l3 n1 n3 r.f):=by
 refine bP g func15 rfl ntmps15 fun q=>aB (eE 1 29 (.agg #[vS a1 p0 c1]) g fun b1 m1 w1 e1 g d5=> ?_);have q:=q.t e1;have o:=o.o e1;refine aG 1 [] (aF (cK .normal hr (fun o1 L' w'=>∃B p l m2,L'=[(1,vP b1 0),(3,vP l 0)]/\m.le m2/\St m2 (kB l #[vS a1 p0 c1,vB o1,.map (some B),v2,.map (some p)] 65::aC (some B) #[] 0::aC (some p) #[] 0::O) w'/\MRow m2 b1 0 [vS a1 p0 c1]/\RepS C1 m2 a1 c1 p0) ?_ ?_))
 .rintro o1 hr _ w2 ⟨B,p,l,m2,rfl,q,g,d5,o⟩;refine aD (aF (aB (bG 3 22 4 21 1 (vB o1) g.h (aG 1 [(23,vB (!o1))] (aJ hr ?_ ?_)))))<;>intro A hr
  .refine aI 2 [(2,vP l 0)] (aN (aU ?_));obtain rfl:=sI hr;exact aW [2] [vP l 0] ⟨l,a1,c1,(some B),#[],0,none,0,(some p),#[],0,m2,rfl,q,g.f2.f2,o,(MapQ.new cQ C7 true _ _),(RepS.nil _ _),(MapQ.new bA C8 true _ _)⟩
  refine aO (aD (aF (aT 1 [(25,vP b1 0)] (cL 26 (vS a1 p0 c1) g d5 (aG 2 [(27,vI (p0.length:Int)),(28,vI 0)] (bB (cK (.exit 0) hr (fun g8 L' w'=>∃(o2:EP),∃a2 c2 h9 h4 k0 h5 m5,o2=g8/\L'=[(3,vP l 0)]/\m.le m5/\St m5 (kB l #[vS a1 p0 c1,vB o1,.map (some B),vS a2 o2.1 c2,.map (some p)] 65::aC (some B) h9 h4::aC (some p) k0 h5::kR a2 o2.1 c2 9 1::O) w'/\RepS C1 m5 a1 c1 p0/\RepS aH m5 a2 c2 o2.1/\MapQ cQ C7 true m5 (some B) h9 h4 o2.2.1/\MapQ bA C8 true m5 (some p) k0 h5 o2.d) ?_ ?_)))))))
  .rintro g8 hr _ D ⟨o2,a2,c2,h9,h4,k0,h5,m5,rfl,rfl,q,g,o,a,b,n⟩;refine cX (aD (aI 2 [(2,vP l 0)] (aN ?_)));obtain rfl:=sI hr;exact aW [2] [vP l 0] ⟨l,a1,c1,(some B),h9,h4,a2,c2,(some p),k0,h5,m5,rfl,q,g.f3.t.f2.f2,o,b,a,n⟩
  intro g8 hr l4;have g:=(g.nilroom 9 1).front3.front3.front3;refine dL (fun k1 L' w'=>∃(s1:Int×EP),∃D E g5 g4 g2 g1 m6,aK (CO N p0) k1 s1=some g8/\L'=[(3,vP l 0),(26,vS a1 p0 c1),(27,vI (p0.length:Int)),(28,vI s1.1)]/\m.le m6/\St m6 (kB l #[vS a1 p0 c1,vB o1,.map (some B),vS D s1.2.1 E,.map (some p)] 65::aC (some B) g5 g4::aC (some p) g2 g1::kR D s1.2.1 E 9 1::O) w'/\RepS C1 m6 a1 c1 p0/\RepS aH m6 D E s1.2.1/\MapQ cQ C7 true m6 (some B) g5 g4 s1.d.1/\MapQ bA C8 true m6 (some p) g2 g1 s1.e) N ⟨(0,([]:T8),(some []:Option (List JQ)),(some []:uF)),none,0,#[],0,#[],0,m2,hr,rfl,q,g,o,(RepS.nil _ _),(MapQ.new cQ C7 true _ _),(MapQ.new bA C8 true _ _)⟩ ?_;rintro k1 _ w9 ⟨s1,D,E,g5,g4,g2,g1,m6,hL,rfl,q,g,o,Y,r6,r7⟩;obtain⟨k1,q9,rfl,hr,n6,n4⟩:=dQ hL;refine aI 1 [(29,vB (decide (s1.1<(p0.length:Int))))] (aF (aJ hr ?_ ?_))<;>intro A hr
  .refine aO (aD (aF (cK .normal hr (fun o3 L' w'=>∃a4 c4 k3 h6 k4 h7 m7,L'=[(3,vP l 0),(26,vS a1 p0 c1),(27,vI (p0.length:Int)),(28,vI s1.1)]/\m.le m7/\St m7 (kB l #[vS a1 p0 c1,vB o1,.map (some B),vS a4 o3.1 c4,.map (some p)] 65::aC (some B) k3 h6::aC (some p) k4 h7::kR a4 o3.1 c4 9 1::O) w'/\RepS C1 m7 a1 c1 p0/\RepS aH m7 a4 c4 o3.1/\MapQ cQ C7 true m7 (some B) k3 h6 o3.2.1/\MapQ bA C8 true m7 (some p) k4 h7 o3.d) ?_ ?_)))
   .rintro o3 hr _ F ⟨a4,c4,k3,h6,k4,h7,m7,rfl,q,g,o,b,n,a⟩;refine aD (aY (aA 2 [(28,vI (wr (s1.1+1)))] (aV ?_)));have hL:=n6 _ (sI hr);exact cZ ⟨(wr (s1.1+1),o3.1,o3.2.1,o3.d),a4,c4,k3,h6,k4,h7,m7,hL,rfl,q,g.f3.f3.f3.f3,o,b,n,a⟩
   intro o3 hr k6;refine bB (aB (iJ 30 o hr ?_));rintro S hr b8 f1 q7 ⟨_,_,rfl,rfl,rfl⟩ n9;refine iI 31 75 30 f1 (.agg (V2 S)) g n9 (cD 5 75 (.agg #[vT eB,vT eB]) g fun b9 s3 g=>bJ (.agg (V2 S)) g fun s4 g=>aQ (aF (aB (bG 1 33 9 32 0 (vT S.1) g.h (aL 34 hr (qHx g) ?_)))));rintro y2 hr _ s5 ⟨m8,rfl,e4,g⟩;have q:=q.t e4;have o:=o.o e4;have Y:=Y.o e4;have r6:=r6.o e4;have r7:=r7.o e4;refine aG 1 [(35,vB (!y2))] (aJ hr ?_ ?_)<;>intro A hr
   .refine cS (bF (cX ?_));cases hr;exact xE (k6 _ _ ⟨D,E,g5,g4,g2,g1,m8,rfl,q,g.t.f3.f3.f3.f3,o,Y,r6,r7⟩)
   refine aO (aD (aB (bG 1 38 9 37 1 (vT S.2) g.h (aL 39 hr (qIk g) ?_))));rintro n hr _ s6 ⟨U,V,M,R,m9,rfl,e5,g,G,F⟩;refine aA 4 [(40,.agg (V7 n.1 U V M R)),(41,vI n.2.1),(42,vI n.d)] (cD 6 98 (.agg #[vT eB,v6,v6]) g fun d9 s7 g=>bJ (.agg (V7 n.1 U V M R)) g fun s8 g=>aG 2 [(8,vI n.d)] (aF (aI 2 [(44,vB (n.d !=0))] (aJ hr ?_ ?_))))<;>intro A hr
   .refine aF (dN [(12,fun w'=>Inv m9 w'/\Piece.holds m9 w' (kB b9 (V2 S) 75)/\True),(11,fun w'=>Inv m9 w'/\Piece.holds m9 w' (kB l #[vS a1 p0 c1,vB o1,.map (some B),vS D s1.2.1 E,.map (some p)] 65)/\True)] kr g fun d4 _ g=> ?_);have a:=m9.le_refl;refine⟨eY (aS g a) (aS g a),cE 4 [(0,45,vP l 0),(1,46,vP l 0),(2,47,vP l 0),(3,48,vP l 3)] (pE 62 48 4 49 3 (vS D s1.2.1 E) (.tail _ (.head _)) cY (bK 5 50 (vP b9 0) (cV 6 51 (vT S.1) cY (aZ 7 kr (nZ (d:=52) (t:=62) (e:=9) (len:=1) (parts:= #[(0,(.tmp 51))]) aH (xs:=[S.1]) [vT S.1] kr rfl (fun _=>nY kr _) rfl rfl g ⟨[vT S.1],_,rfl,rfl,rfl⟩ fun d2 d3 d6 b g c0=> ?_)))))⟩;have a:=Mem.le_trans a b;refine⟨eY (aS g a) (aS g a),aZ 8 kr (rI 53 62 62 9 16 49 52 g.f8 (.inl kr) ((Y.o e5).o b) c0.src hr fun l1 hr Z c7 b0 d7 H g d1=> ?_)⟩;have a:=Mem.le_trans a H;refine⟨eY (aS g a) (aS g a),cE 2 [(9,54,vP l 0),(10,55,vP l 3)] (aZ 11 kr (rA 62 55 53 3 (vS Z l1 c7) #[vS a1 p0 c1,vB o1,.map (some B),vS Z l1 c7,.map (some p)] g.f6 fun d8 g=>⟨pJ (aS g a),cO kr ?_⟩))⟩;have g:=g.f2.t;refine aD (cS (bF (cX ?_)));cases hr;exact xE (k6 _ _ ⟨Z,c7,g5,g4,g2,g1,b0,rfl,((q.t e5).t b).t H,g.f2.t.f2.t.f2.t.f2.t.f1.f3.f3.f3,((o.o e5).o b).o H,d1,((r6.o e5).o b).o H,((r7.o e5).o b).o H⟩)
   refine aO (aD (aF (dN [(8,fun w'=>Inv m9 w'/\Piece.holds m9 w' (kB d9 (V7 n.1 U V M R) 98)/\Piece.holds m9 w' (kB b9 (V2 S) 75)/\Piece.holds m9 w' (kB l #[vS a1 p0 c1,vB o1,.map (some B),vS D s1.2.1 E,.map (some p)] 65)/\True)] kr g fun s9 _ g=> ?_)));have k9:=m9.le_refl;refine⟨bN (aS g k9),cE 3 [(0,56,vP l 0),(1,57,vP l 0),(2,58,vP l 2)] (cV 3 59 (.map (some B)) AB (bK 4 60 (vP b9 0) (cV 5 61 (vT S.1) pN (cV 6 62 (.agg (V7 n.1 U V M R)) cY ?_))))⟩;have g:=g.f5;have⟨h1,o7,hr⟩:=aX hr
   refine aZ 7 kr (GY (ek:=cQ) (c:=C7) (agg:=true) (k:=S.1) (yv:=n.1) (cs:=(Vb n.1 U V M R)) (z:=(.agg #[vT eB,v2,vd])) (v:=(.agg (V7 n.1 U V M R))) (kt:=9) (et:=98) (t:=61) (x:=(.tmp 59)) (y:=(.tmp 61)) (u:=(.tmp 62)) kr (ev (.map (some B))) (ev (vT S.1)) (ev (.agg (V7 n.1 U V M R))) kr (uS kr) g (r6.o e5) ⟨_,_,rfl,rfl,⟨_,_,rfl,(nG G),(nG F)⟩⟩ rfl o7 fun d2 d1 t3 g H=>⟨bN (aS g k9),cO kr (aD (aB (bG 1 64 96 63 2 (vS M n.1.d R) g.t.h (aG 2 [(65,vI (n.1.2.2.length:Int)),(66,vI 0)] (bB (cK (.exit 2) hr (fun g9 L' w'=>∃(o4:uF),∃k5 h8 d6,o4=g9/\L'=[(3,vP l 0),(26,vS a1 p0 c1),(27,vI (p0.length:Int)),(28,vI s1.1)]/\m.le d6/\St d6 (kB d9 (V7 n.1 U V M R) 98::kB b9 (V2 S) 75::kB l #[vS a1 p0 c1,vB o1,.map (some B),vS D s1.2.1 E,.map (some p)] 65::aC (some B) d2 d1::aC (some p) k5 h8::kR U n.1.2.1 V 9 1::kR M n.1.d R 101 4::kR D s1.2.1 E 9 1::O) w'/\RepS C1 d6 a1 c1 p0/\RepS aH d6 U V n.1.2.1/\RepS C6 d6 M R n.1.d/\RepS aH d6 D E s1.2.1/\MapQ cQ C7 true d6 (some B) d2 d1 h1/\MapQ bA C8 true d6 (some p) k5 h8 o4) ?_ ?_))))))⟩)
   .rintro g9 hr _ b ⟨o4,k5,h8,d6,rfl,rfl,q,g,o,G,F,Y,H,a⟩;refine cX (bT ?_);cases hr;exact xE (k6 _ _ ⟨D,E,d2,d1,k5,h8,d6,rfl,q,g.t.t.f3.t.f3.t.f3.f3.f3.f3,o,Y,H,a⟩)
   intro g9 hr l5;refine dL (fun k2 L' w'=>∃(s2:Int×uF),∃e8 e3 d7,aK (CN N S n) k2 s2=some g9/\L'=[(3,vP l 0),(5,vP b9 0),(6,vP d9 0),(26,vS a1 p0 c1),(27,vI (p0.length:Int)),(28,vI s1.1),(64,vS M n.1.d R),(65,vI (n.1.2.2.length:Int)),(66,vI s2.1)]/\m.le d7/\St d7 (kB d9 (V7 n.1 U V M R) 98::kB b9 (V2 S) 75::kB l #[vS a1 p0 c1,vB o1,.map (some B),vS D s1.2.1 E,.map (some p)] 65::aC (some B) d2 d1::aC (some p) e8 e3::kR U n.1.2.1 V 9 1::kR M n.1.d R 101 4::kR D s1.2.1 E 9 1::O) w'/\RepS C1 d7 a1 c1 p0/\RepS C6 d7 M R n.1.d/\RepS aH d7 U V n.1.2.1/\RepS aH d7 D E s1.2.1/\MapQ cQ C7 true d7 (some B) d2 d1 h1/\MapQ bA C8 true d7 (some p) e8 e3 s2.2) N ⟨(0,s1.e),g2,g1,m9,hr,rfl,q.t e5,g.f7.f4.f4.f7.f4.f7.f7.f7,o.o e5,F,G,Y.o e5,H,r7.o e5⟩ ?_;rintro k2 _ t4 ⟨s2,e8,e3,d7,hL,rfl,q,g,o,F,G,Y,H,b0⟩;obtain⟨k2,r0,rfl,hr,n7,n5⟩:=dQ hL;refine aI 1 [(67,vB (decide (s2.1<(n.1.2.2.length:Int))))] (aF (aJ hr ?_ ?_))<;>intro A hr
   .refine aO (aD (aF (bB (aT 1 [(68,vI s2.1)] (iJ 69 F hr ?_)))));rintro Z hr q6 f2 q8 ⟨_,_,rfl,rfl,⟨_,_,rfl,rfl,⟨_,_,rfl,⟨a8,c8,rfl,d3⟩,⟨a9,c9,rfl,d4⟩⟩⟩⟩ o0;refine iI 70 101 69 f2 (.agg (V8 Z a8 c8 a9 c9)) g o0 (cD 10 101 (.agg #[vI 0,vT eB,v6,v6]) g fun k7 t5 g=>aA 1 [(9,vI s2.1)] (bJ (.agg (V8 Z a8 c8 a9 c9)) g fun t6 g=>aQ (aY (aA 2 [(71,vP l 0),(72,vP d9 0)] (bC 73 (vT n.1.1) g.t.h (bG 1 75 9 74 1 (vT Z.2.1) g.h (bG 1 77 3 76 0 (vI Z.1) g.h (bG 1 79 9 78 0 (vT S.1) g.t.t.h (aA 2 [(81,.agg (Ve n.1.1 Z.2.1 Z.1 S.1 s2.1 1))] ?_)))))))));have⟨o5,hr,j4⟩:=aX hr;refine bS (nJ 82 41 #[vP l 0,.agg (Ve n.1.1 Z.2.1 Z.1 S.1 s2.1 1)] kr rfl (MX (fun v' w'=>∃g7 g6 c0,v'=(.tuple #[])/\m.le c0/\St c0 (kB k7 (V8 Z a8 c8 a9 c9) 101::kB d9 (V7 n.1 U V M R) 98::kB b9 (V2 S) 75::kB l #[vS a1 p0 c1,vB o1,.map (some B),vS D s1.2.1 E,.map (some p)] 65::aC (some B) d2 d1::aC (some p) g7 g6::kR U n.1.2.1 V 9 1::kR M n.1.d R 101 4::kR D s1.2.1 E 9 1::O) w'/\RepS C1 c0 a1 c1 p0/\RepS C6 c0 M R n.1.d/\RepS aH c0 a8 c8 Z.d.1/\RepS C5 c0 a9 c9 Z.e/\RepS aH c0 U V n.1.2.1/\RepS aH c0 D E s1.2.1/\MapQ cQ C7 true c0 (some B) d2 d1 h1/\MapQ bA C8 true c0 (some p) g7 g6 o5) ?_ ?_))
    .have hr:=j4;rintro _ b ⟨g7,g6,c0,rfl,q,g,o,F,d3,d4,G,Y,H,a⟩;refine⟨_,rfl,?_⟩;refine aV (bT (aD (aY (aA 2 [(66,vI (wr (s2.1+1)))] (aV ?_)))));have hL:=n7 _ (sI hr);exact cZ ⟨(wr (s2.1+1),o5),g7,g6,c0,hL,rfl,q,g.t.f7.f7.f7.f7.f7.f7.f7.f7,o,F,G,Y,H,a⟩
    refine nR func41 rfl ntmps41 (aB (bS (qK 3 58 1 (.agg (Ve n.1.1 Z.2.1 Z.1 S.1 s2.1 1)) g fun e0 t7 g=>aQ (aB (bG 1 8 3 7 2 (vI Z.1) g.h (bG 1 10 9 9 0 (vT n.1.1) g.h (bG 1 12 9 11 1 (vT Z.2.1) g.h (aL 13 hr (WQ g) ?_))))))));rintro b hr _ t8 ⟨f0,rfl,e9,g⟩;have q:=q.t e9;have o:=o.o e9;have F:=F.o e9;have d3:=d3.o e9;have d4:=d4.o e9;have G:=G.o e9;have Y:=Y.o e9;have H:=H.o e9;have b0:=b0.o e9;refine cD 4 110 (.agg #[vI 0,vT eB,vT eB]) g fun g0 t9 g=>bJ (.agg (Vi b)) g fun u0 g=>aQ (aF (aF (dN [(12,fun w'=>Inv f0 w'/\Piece.holds f0 w' (kB g0 (Vi b) 110)/\Piece.holds f0 w' (kB l #[vS a1 p0 c1,vB o1,.map (some B),vS D s1.2.1 E,.map (some p)] 65)/\True)] kr g fun u1 _ g=> ?_)));have d8:=f0.le_refl;refine⟨bN (aS g d8),cE 3 [(0,15,vP l 0),(1,16,vP l 0),(2,17,vP l 4)] (cV 3 18 (.map (some p)) pN (cV 4 19 (.agg (Vi b)) cY (tN [5,9] kr ad (uR ?_ ?_))))⟩
    .refine qU (ek:=bA) (c:=C8) (agg:=true) (k:=b) (zx:=(eB,eB,0,eB,0,0)) (zcs:=[vT eB,vT eB,vI 0,vT eB,vI 0,vI 0]) (z:=(.agg dX)) (kt:=110) (et:=58) (d:=20) (t:=63) (x:=(.tmp 18)) (y:=(.tmp 19)) (ok:=true) kr rfl (ev (.map (some p))) (ev (.agg (Vi b))) kr (zP kr kr (fun _ _=>kr) (fun _ _=>kr)) g.t.t.t.t.t.t.t.h b0 ⟨_,_,rfl,rfl,⟨_,_,rfl,rfl,⟨_,_,rfl,rfl,⟨_,_,rfl,rfl,⟨_,_,rfl,rfl,rfl⟩⟩⟩⟩⟩ rfl ?_;rintro n8 ⟨_,_,rfl,rfl,⟨_,_,rfl,rfl,⟨_,_,rfl,rfl,⟨_,_,rfl,rfl,⟨_,_,rfl,rfl,rfl⟩⟩⟩⟩⟩
     refine⟨bN (aS g d8),cE 3 [(6,14,.tuple #[.agg (Vd ((bD s2.2 b).getD (eB,eB,0,eB,0,0))),vB ((bD s2.2 b).isSome)]),(7,21,.agg (Vd ((bD s2.2 b).getD (eB,eB,0,eB,0,0)))),(8,22,vB ((bD s2.2 b).isSome))] (aZ 9 kr (xT 5 58 (.agg dX) g fun k8 o9 g=>⟨bN (aS g d8),aZ 10 kr (iU 58 5 21 (.agg (Vd ((bD s2.2 b).getD (eB,eB,0,eB,0,0)))) g fun q0 g=>⟨bN (aS g d8),bK 11 6 (vB ((bD s2.2 b).isSome)) (cO kr (aD (aI 1 [(23,vB ((bD s2.2 b).isSome))] (cK .normal hr (fun o6 L' w'=>∃a,L'=[(0,vP l 0),(3,vP e0 0),(4,vP g0 0)]/\m.le a/\St a (kB k8 (Vd ((bD s2.2 b).getD (eB,eB,0,eB,0,0))) 58::kB g0 (Vi b) 110::kB e0 (Vd o6) 58::kB k7 (V8 Z a8 c8 a9 c9) 101::kB d9 (V7 n.1 U V M R) 98::kB b9 (V2 S) 75::kB l #[vS a1 p0 c1,vB o1,.map (some B),vS D s1.2.1 E,.map (some p)] 65::aC (some B) d2 d1::aC (some p) e8 e3::kR U n.1.2.1 V 9 1::kR M n.1.d R 101 4::kR D s1.2.1 E 9 1::O) w'/\RepS C1 a a1 c1 p0/\RepS C6 a M R n.1.d/\RepS aH a a8 c8 Z.d.1/\RepS C5 a a9 c9 Z.e/\RepS aH a U V n.1.2.1/\RepS aH a D E s1.2.1/\MapQ cQ C7 true a (some B) d2 d1 h1/\MapQ bA C8 true a (some p) e8 e3 s2.2) ?_ ?_))))⟩)⟩))⟩
     .rintro o6 hr _ q1 ⟨a,rfl,q,g,o,F,d3,d4,G,Y,H,b0⟩;refine aD (dN [(7,fun w'=>Inv a w'/\Piece.holds a w' (kB g0 (Vi b) 110)/\Piece.holds a w' (kB e0 (Vd o6) 58)/\Piece.holds a w' (kB l #[vS a1 p0 c1,vB o1,.map (some B),vS D s1.2.1 E,.map (some p)] 65)/\True)] kr g fun q4 _ g=> ?_);have g3:=a.le_refl;refine⟨bN (aS g g3),cE 3 [(0,29,vP l 0),(1,30,vP l 0),(2,31,vP l 4)] (cV 3 32 (.map (some p)) AB (cV 4 33 (.agg (Vi b)) cY (cV 5 34 (.agg (Vd o6)) pN ?_)))⟩;have g:=g.f8;have⟨o8,l0,hr⟩:=aX hr;refine aZ 6 kr (GY (ek:=bA) (c:=C8) (agg:=true) (k:=b) (yv:=o6) (cs:=(Vf o6)) (z:=(.agg dX)) (v:=(.agg (Vd o6))) (kt:=110) (et:=58) (t:=63) (x:=(.tmp 32)) (y:=(.tmp 33)) (u:=(.tmp 34)) kr (ev (.map (some p))) (ev (.agg (Vi b))) (ev (.agg (Vd o6))) kr (zP kr kr (fun _ _=>kr) (fun _ _=>kr)) g b0 ⟨_,_,rfl,rfl,⟨_,_,rfl,rfl,⟨_,_,rfl,rfl,⟨_,_,rfl,rfl,⟨_,_,rfl,rfl,rfl⟩⟩⟩⟩⟩ rfl l0 fun h3 h2 q5 g l2=>⟨bN (aS g g3),cO kr ?_⟩);cases hr;exact pT [] [] rfl ResAll.nil ⟨_,rfl,⟨h3,h2,a,rfl,q,g.f1.t.f1.t.f1.t.f8.f8.f8.f3.f8.f8.f8.f8.f8,o,F,d3,d4,G,Y,H,l2⟩⟩
     intro o6 hr h0;refine aJ hr ?_ ?_<;>intro A hr
     .refine aB (bC 24 (.agg (Vd ((bD s2.2 b).getD (eB,eB,0,eB,0,0)))) g.h (bJ (.agg (Vd ((bD s2.2 b).getD (eB,eB,0,eB,0,0)))) g.f2 fun q2 g=>aQ (aY (bG 1 26 3 25 5 (vI (((bD s2.2 b).getD (eB,eB,0,eB,0,0)).2.2.2.2.2)) g.h (aA 2 [(27,vI (wr ((((bD s2.2 b).getD (eB,eB,0,eB,0,0)).2.2.2.2.2)+1))),(28,vP e0 5)] (iH (Ve (((bD s2.2 b).getD (eB,eB,0,eB,0,0)).1) (((bD s2.2 b).getD (eB,eB,0,eB,0,0)).2.1) (((bD s2.2 b).getD (eB,eB,0,eB,0,0)).2.2.1) (((bD s2.2 b).getD (eB,eB,0,eB,0,0)).2.2.2.1) (((bD s2.2 b).getD (eB,eB,0,eB,0,0)).2.2.2.2.1) (wr ((((bD s2.2 b).getD (eB,eB,0,eB,0,0)).2.2.2.2.2)+1))) g fun q3 g=>aV ?_))))));cases hr;exact xE (h0 _ _ ⟨f0,rfl,q,g.f11.f11.f11.f11.f11.f11.f11.f11.f11.f9.f11.f11,o,F,d3,d4,G,Y,H,b0⟩)
     refine aO ?_;cases hr;exact xE (h0 _ _ ⟨f0,rfl,q,g.f11.f11.f11.f11.f11.f11.f11.f11.f11.f11.f11.f11,o,F,d3,d4,G,Y,H,b0⟩)
    refine xT 5 58 (.agg dX) g fun k8 o9 g=> ?_;refine⟨bN (aS g d8),aZ 5 kr (qU (ek:=bA) (c:=C8) (agg:=true) (k:=b) (zx:=(eB,eB,0,eB,0,0)) (zcs:=[vT eB,vT eB,vI 0,vT eB,vI 0,vI 0]) (z:=(.agg dX)) (kt:=110) (et:=58) (d:=20) (t:=63) (x:=(.tmp 18)) (y:=(.tmp 19)) (ok:=true) kr rfl (ev (.map (some p))) (ev (.agg (Vi b))) kr (zP kr kr (fun _ _=>kr) (fun _ _=>kr)) g.t.t.t.t.t.t.t.t.h b0 ⟨_,_,rfl,rfl,⟨_,_,rfl,rfl,⟨_,_,rfl,rfl,⟨_,_,rfl,rfl,⟨_,_,rfl,rfl,rfl⟩⟩⟩⟩⟩ rfl ?_)⟩;rintro n8 ⟨_,_,rfl,rfl,⟨_,_,rfl,rfl,⟨_,_,rfl,rfl,⟨_,_,rfl,rfl,⟨_,_,rfl,rfl,rfl⟩⟩⟩⟩⟩
    refine⟨bN (aS g d8),cE 3 [(6,14,.tuple #[.agg (Vd ((bD s2.2 b).getD (eB,eB,0,eB,0,0))),vB ((bD s2.2 b).isSome)]),(7,21,.agg (Vd ((bD s2.2 b).getD (eB,eB,0,eB,0,0)))),(8,22,vB ((bD s2.2 b).isSome))] (aZ 10 kr (iU 58 5 21 (.agg (Vd ((bD s2.2 b).getD (eB,eB,0,eB,0,0)))) g fun q0 g=>⟨bN (aS g d8),bK 11 6 (vB ((bD s2.2 b).isSome)) (cO kr (aD (aI 1 [(23,vB ((bD s2.2 b).isSome))] (cK .normal hr (fun o6 L' w'=>∃a,L'=[(0,vP l 0),(3,vP e0 0),(4,vP g0 0)]/\m.le a/\St a (kB k8 (Vd ((bD s2.2 b).getD (eB,eB,0,eB,0,0))) 58::kB g0 (Vi b) 110::kB e0 (Vd o6) 58::kB k7 (V8 Z a8 c8 a9 c9) 101::kB d9 (V7 n.1 U V M R) 98::kB b9 (V2 S) 75::kB l #[vS a1 p0 c1,vB o1,.map (some B),vS D s1.2.1 E,.map (some p)] 65::aC (some B) d2 d1::aC (some p) e8 e3::kR U n.1.2.1 V 9 1::kR M n.1.d R 101 4::kR D s1.2.1 E 9 1::O) w'/\RepS C1 a a1 c1 p0/\RepS C6 a M R n.1.d/\RepS aH a a8 c8 Z.d.1/\RepS C5 a a9 c9 Z.e/\RepS aH a U V n.1.2.1/\RepS aH a D E s1.2.1/\MapQ cQ C7 true a (some B) d2 d1 h1/\MapQ bA C8 true a (some p) e8 e3 s2.2) ?_ ?_))))⟩))⟩
    .rintro o6 hr _ q1 ⟨a,rfl,q,g,o,F,d3,d4,G,Y,H,b0⟩;refine aD (dN [(7,fun w'=>Inv a w'/\Piece.holds a w' (kB g0 (Vi b) 110)/\Piece.holds a w' (kB e0 (Vd o6) 58)/\Piece.holds a w' (kB l #[vS a1 p0 c1,vB o1,.map (some B),vS D s1.2.1 E,.map (some p)] 65)/\True)] kr g fun q4 _ g=> ?_);have g3:=a.le_refl;refine⟨bN (aS g g3),cE 3 [(0,29,vP l 0),(1,30,vP l 0),(2,31,vP l 4)] (cV 3 32 (.map (some p)) AB (cV 4 33 (.agg (Vi b)) cY (cV 5 34 (.agg (Vd o6)) pN ?_)))⟩;have g:=g.f8;have⟨o8,l0,hr⟩:=aX hr;refine aZ 6 kr (GY (ek:=bA) (c:=C8) (agg:=true) (k:=b) (yv:=o6) (cs:=(Vf o6)) (z:=(.agg dX)) (v:=(.agg (Vd o6))) (kt:=110) (et:=58) (t:=63) (x:=(.tmp 32)) (y:=(.tmp 33)) (u:=(.tmp 34)) kr (ev (.map (some p))) (ev (.agg (Vi b))) (ev (.agg (Vd o6))) kr (zP kr kr (fun _ _=>kr) (fun _ _=>kr)) g b0 ⟨_,_,rfl,rfl,⟨_,_,rfl,rfl,⟨_,_,rfl,rfl,⟨_,_,rfl,rfl,⟨_,_,rfl,rfl,rfl⟩⟩⟩⟩⟩ rfl l0 fun h3 h2 q5 g l2=>⟨bN (aS g g3),cO kr ?_⟩);cases hr;exact pT [] [] rfl ResAll.nil ⟨_,rfl,⟨h3,h2,a,rfl,q,g.f1.t.f1.t.f1.t.f8.f8.f8.f3.f8.f8.f8.f8.f8,o,F,d3,d4,G,Y,H,l2⟩⟩
    intro o6 hr h0;refine aJ hr ?_ ?_<;>intro A hr
    .refine aB (bC 24 (.agg (Vd ((bD s2.2 b).getD (eB,eB,0,eB,0,0)))) g.h (bJ (.agg (Vd ((bD s2.2 b).getD (eB,eB,0,eB,0,0)))) g.f2 fun q2 g=>aQ (aY (bG 1 26 3 25 5 (vI (((bD s2.2 b).getD (eB,eB,0,eB,0,0)).2.2.2.2.2)) g.h (aA 2 [(27,vI (wr ((((bD s2.2 b).getD (eB,eB,0,eB,0,0)).2.2.2.2.2)+1))),(28,vP e0 5)] (iH (Ve (((bD s2.2 b).getD (eB,eB,0,eB,0,0)).1) (((bD s2.2 b).getD (eB,eB,0,eB,0,0)).2.1) (((bD s2.2 b).getD (eB,eB,0,eB,0,0)).2.2.1) (((bD s2.2 b).getD (eB,eB,0,eB,0,0)).2.2.2.1) (((bD s2.2 b).getD (eB,eB,0,eB,0,0)).2.2.2.2.1) (wr ((((bD s2.2 b).getD (eB,eB,0,eB,0,0)).2.2.2.2.2)+1))) g fun q3 g=>aV ?_))))));cases hr;exact xE (h0 _ _ ⟨f0,rfl,q,g.f11.f11.f11.f11.f11.f11.f11.f11.f11.f9.f11.f11,o,F,d3,d4,G,Y,H,b0⟩)
    refine aO ?_;cases hr;exact xE (h0 _ _ ⟨f0,rfl,q,g.f11.f11.f11.f11.f11.f11.f11.f11.f11.f11.f11.f11,o,F,d3,d4,G,Y,H,b0⟩)
   refine cS (bF ?_);have ho:=n5 _ (sI hr);have g:=g.f7.f7.f7.f7.f7.f7.f7.f7;refine bF ?_;exact xE (l5 _ _ ⟨s2.2,e8,e3,d7,ho,rfl,q,g,o,G,F,Y,H,b0⟩)
  refine cS (bF ?_);have ho:=n4 _ (sI hr);have g:=g.f3.f3.f3.f3;refine bF ?_;exact xE (l4 _ _ ⟨s1.2,D,E,g5,g4,g2,g1,m6,ho,rfl,q,g,o,Y,r6,r7⟩)
 intro o1 hr K;refine dN [(9,fun w'=>Inv m1 w'/\True)] kr g fun S _ g=> ?_;have a:=m1.le_refl;refine tA g a (eD 0 11 (.agg #[vS a1 p0 c1]) d5 (eD 1 12 (.agg #[vS a1 p0 c1]) d5 (tN [2,4,5] kr ad (qNy ?_ ?_ ?_))))
 .refine eH 13 hr (fun _ h=>GP g o h) ?_;rintro y1 hr _ R ⟨F,rfl,b,g⟩;refine⟨_,rfl,?_⟩;have a:=Mem.le_trans a b;refine tA g a (bK 3 14 (vB (y1==0)) (tN [4,5] kr ad (uR ?_ ?_)))
  .refine pA (d:=15) (t:=61) kr rfl g fun D G g=> ?_;refine tA g a (aZ 5 kr (pA (d:=16) (t:=63) kr rfl g fun n H g=>tA g a (bK 6 17 (.agg #[vS a1 p0 c1,vB (y1==0),.map (some D),v2,.map (some n)]) (aZ 7 kr (qK 18 65 17 (.agg #[vS a1 p0 c1,vB (y1==0),.map (some D),v2,.map (some n)]) g fun E M g=>tA g a (bK 8 3 (vP E 0) ?_))))));have g:=g.f1.f2;obtain rfl:=sI hr;exact cO kr (mP _ kr (K _ _ ⟨D,n,E,F,rfl,q.t b,g.f1.f1.f2,d5.o b,o.o b⟩))
  refine pA (d:=16) (t:=63) kr rfl g fun D G g=> ?_;refine tA g a (aZ 4 kr (pA (d:=15) (t:=61) kr rfl g fun n H g=>tA g a (bK 6 17 (.agg #[vS a1 p0 c1,vB (y1==0),.map (some n),v2,.map (some D)]) (aZ 7 kr (qK 18 65 17 (.agg #[vS a1 p0 c1,vB (y1==0),.map (some n),v2,.map (some D)]) g fun E M g=>tA g a (bK 8 3 (vP E 0) ?_))))));have g:=g.f2.f2;obtain rfl:=sI hr;exact cO kr (mP _ kr (K _ _ ⟨n,D,E,F,rfl,q.t b,g.f1.f1.f2,d5.o b,o.o b⟩))
 .refine pA (d:=15) (t:=61) kr rfl g fun D R g=> ?_;refine tA g a (tN [2,5] kr ad (uR ?_ ?_))
  .refine eH 13 hr (fun _ h=>GP g o h) ?_;rintro y1 hr _ G ⟨F,rfl,b,g⟩;refine⟨_,rfl,?_⟩;have a:=Mem.le_trans a b;refine tA g a (bK 3 14 (vB (y1==0)) (aZ 5 kr (pA (d:=16) (t:=63) kr rfl g fun n H g=>tA g a (bK 6 17 (.agg #[vS a1 p0 c1,vB (y1==0),.map (some D),v2,.map (some n)]) (aZ 7 kr (qK 18 65 17 (.agg #[vS a1 p0 c1,vB (y1==0),.map (some D),v2,.map (some n)]) g fun E M g=>tA g a (bK 8 3 (vP E 0) ?_)))))));have g:=g.f1.f2;obtain rfl:=sI hr;exact cO kr (mP _ kr (K _ _ ⟨D,n,E,F,rfl,q.t b,g.f1.f1.f2,d5.o b,o.o b⟩))
  refine pA (d:=16) (t:=63) kr rfl g fun n G g=> ?_;refine tA g a (aZ 2 kr (eH 13 hr (fun _ h=>GP g o h) ?_));rintro y1 hr _ H ⟨F,rfl,b,g⟩;refine⟨_,rfl,?_⟩;have a:=Mem.le_trans a b;refine tA g a (cE 2 [(3,14,vB (y1==0)),(6,17,.agg #[vS a1 p0 c1,vB (y1==0),.map (some D),v2,.map (some n)])] (aZ 7 kr (qK 18 65 17 (.agg #[vS a1 p0 c1,vB (y1==0),.map (some D),v2,.map (some n)]) g fun E M g=>tA g a (bK 8 3 (vP E 0) ?_))));have g:=g.f1.f2;obtain rfl:=sI hr;exact cO kr (mP _ kr (K _ _ ⟨D,n,E,F,rfl,q.t b,g.f1.f1.f2,d5.o b,o.o b⟩))
 refine pA (d:=16) (t:=63) kr rfl g fun D R g=> ?_;refine tA g a (tN [2,4] kr ad (uR ?_ ?_))
 .refine eH 13 hr (fun _ h=>GP g o h) ?_;rintro y1 hr _ G ⟨F,rfl,b,g⟩;refine⟨_,rfl,?_⟩;have a:=Mem.le_trans a b;refine tA g a (bK 3 14 (vB (y1==0)) (aZ 4 kr (pA (d:=15) (t:=61) kr rfl g fun n H g=>tA g a (bK 6 17 (.agg #[vS a1 p0 c1,vB (y1==0),.map (some n),v2,.map (some D)]) (aZ 7 kr (qK 18 65 17 (.agg #[vS a1 p0 c1,vB (y1==0),.map (some n),v2,.map (some D)]) g fun E M g=>tA g a (bK 8 3 (vP E 0) ?_)))))));have g:=g.f2.f2;obtain rfl:=sI hr;exact cO kr (mP _ kr (K _ _ ⟨n,D,E,F,rfl,q.t b,g.f1.f1.f2,d5.o b,o.o b⟩))
 refine pA (d:=15) (t:=61) kr rfl g fun n G g=> ?_;refine tA g a (aZ 2 kr (eH 13 hr (fun _ h=>GP g o h) ?_));rintro y1 hr _ H ⟨F,rfl,b,g⟩;refine⟨_,rfl,?_⟩;have a:=Mem.le_trans a b;refine tA g a (cE 2 [(3,14,vB (y1==0)),(6,17,.agg #[vS a1 p0 c1,vB (y1==0),.map (some n),v2,.map (some D)])] (aZ 7 kr (qK 18 65 17 (.agg #[vS a1 p0 c1,vB (y1==0),.map (some n),v2,.map (some D)]) g fun E M g=>tA g a (bK 8 3 (vP E 0) ?_))));have g:=g.f2.f2;obtain rfl:=sI hr;exact cO kr (mP _ kr (K _ _ ⟨n,D,E,F,rfl,q.t b,g.f1.f1.f2,d5.o b,o.o b⟩))
def xI(N:Nat)(p0:Int):Th:=
 (if(decide (p0>=(-9007199254740992)))=true then(some (decide (p0<=9007199254740992))) else(some false):Th).bind fun a=>some a
theorem PR{p0:Int}{r:Bool}(g:St m (O) w)(hr:xI N p0=some r):Calls prog 43 #[vI p0] w fun e w'=>∃m',eN m m' e (vB r) (O) w':=by
 refine bP g func43 rfl ntmps43 fun q=>aI 1 [] (aB (eV 7 hr (fun b L' w'=>∃a,L'=[(2,vB b)]/\m.le a/\St a (O) w') ?_ ?_))
 .rintro b hr _ c ⟨a,rfl,q,g⟩;refine aQ (aN ?_);obtain rfl:=sI hr;exact aW [2] [vB b] ⟨a,rfl,q,g⟩
 intro b hr K;refine aA 3 [(5,vB (decide (p0>=(-9007199254740992))))] (cN 5 hr ?_ ?_)<;>intro A hr
 .refine aA 4 [(2,vB (decide (p0<=9007199254740992)))] ?_;cases hr;exact bH _ kr (K _ _ ⟨m,rfl,q,g⟩)
 refine aA 4 [(2,vB false)] ?_;cases hr;exact bH _ kr (K _ _ ⟨m,rfl,q,g⟩)
def VE(N:Nat)(p0:Tx)(s1:Int):Tg:=
 if(decide (s1<(List.length p0:Int)))=true then((bQ p0 s1).bind fun a=>((HF N a.1).bind fun y1=>if(!y1)=true then(some true) else((xI N a.2).bind fun b=>if(!b)=true then(some true) else(if(decide (s1>0))=true then((bQ p0 (IntKind.wrap .i64 (s1-1))).bind fun b=>some (Op.bytesLess a.1.toList b.1.toList||(a.1.toList==b.1.toList))) else(some false))):Th).bind fun o2=>if o2=true then(some (.inr (.inr (false)))) else(some (.inl (IntKind.wrap .i64 (s1+1))))) else(some (.inr (.inl ())))
def BE(N:Nat)(p0:Tx):Th:=
 if(decide ((List.length p0:Int)>16))=true then(some false) else((aK (VE N p0) N 0).bind fun a=>(match a with| .inl a=>some true| .inr (z)=>some z))
theorem VF{p0:Tx}{r:Bool}(g:St m (O) w)(f:RepS C3 m a1 c1 p0)(hr:BE N p0=some r):Calls prog 16 #[.agg #[vS a1 p0 c1]] w fun e w'=>∃m',eN m m' e (vB r) (O) w':=by
 refine bP g func16 rfl ntmps16 fun q=>aB (eE 1 32 (.agg #[vS a1 p0 c1]) g fun l Z w1 G g a=>aG 1 [] (aF (aT 1 [(5,vP l 0)] (cL 6 (vS a1 p0 c1) g a (aG 2 [(8,vB (decide ((p0.length:Int)>16)))] (aJ hr ?_ ?_))))))<;>intro A hr
 .refine aI 1 [(2,vB false)] (aN (aU ?_));cases hr;exact aW [2] [vB false] ⟨Z,rfl,q.t G,g⟩
 refine aO (aD (aF (aT 1 [(9,vP l 0)] (cL 10 (vS a1 p0 c1) g a (aG 2 [(11,vI (p0.length:Int)),(12,vI 0)] (bB ?_))))));have⟨z,hr,Y⟩:=aX hr;refine dW (.exit 0) (fun L' w'=>∃(o1:Unit),∃F,(.inl o1)=z/\L'=[]/\m.le F/\St F (O) w') ?_ ?_
 .rintro _ c ⟨o1,F,rfl,rfl,q,g⟩;have hr:=Y;refine cX (aD (aI 1 [(2,vB true)] (aN ?_)));cases hr;exact aW [2] [vB true] ⟨F,rfl,q,g⟩
 intro B;refine dL (fun E L' w'=>∃(s1:Int),∃k,aK (VE N p0) E s1=some z/\L'=[(1,vP l 0),(10,vS a1 p0 c1),(11,vI (p0.length:Int)),(12,vI s1)]/\m.le k/\St k (O) w'/\MRow k l 0 [vS a1 p0 c1]/\RepS C3 k a1 c1 p0) N ⟨0,Z,hr,rfl,q.t G,g,a,f.o G⟩ ?_;rintro E _ w3 ⟨s1,k,hL,rfl,q,g,a,f⟩;obtain⟨E,b6,rfl,hr,H,v⟩:=dQ hL;refine aI 1 [(13,vB (decide (s1<(p0.length:Int))))] (aF (aJ hr ?_ ?_))<;>intro A hr
 .refine aO (aD (aF (bB (aT 1 [(14,vI s1)] (iJ 15 f hr ?_)))));rintro c hr b2 f1 b0 ⟨_,_,rfl,rfl,rfl⟩ S;refine iI 16 89 15 f1 (.agg #[vT c.1,vI c.2]) g S (cD 4 89 (.agg #[vT eB,vI 0]) g fun u w4 g=>aA 1 [(3,vI s1)] (bJ (.agg #[vT c.1,vI c.2]) g fun w5 g=>aQ (aF (cK .normal hr (fun o2 L' w'=>∃o,L'=[(1,vP l 0),(10,vS a1 p0 c1),(11,vI (p0.length:Int)),(12,vI s1),(42,vB o2)]/\m.le o/\St o (kB u #[vT c.1,vI c.2] 89::O) w'/\MRow o l 0 [vS a1 p0 c1]/\RepS C3 o a1 c1 p0) ?_ ?_))))
  .rintro o2 hr _ d ⟨o,rfl,q,g,a,f⟩;refine aD (aJ hr ?_ ?_)<;>intro A hr
   .refine aI 1 [(2,vB false)] (aN (bM (aU ?_)));have ho:=v _ (sI hr);subst ho;have hr:=Y;refine aU (bM (aU ?_));cases hr;exact aW [2] [vB false] ⟨o,rfl,q,g.t⟩
   refine aO (bT (aD (aY (aA 2 [(12,vI (wr (s1+1)))] (aV ?_)))));have hL:=H _ (sI hr);exact cZ ⟨wr (s1+1),o,hL,rfl,q,g.t,a,f⟩
  intro o2 hr K;refine dN [(26,fun w'=>Inv k w'/\Piece.holds k w' (kB u #[vT c.1,vI c.2] 89)/\True)] kr g fun w7 _ g=> ?_;have d:=k.le_refl;refine⟨bN (aS g d),?_⟩;have hb1S:=a;have r1S:=f;refine bK 0 17 (vP u 0) (cV 1 18 (vT c.1) cY (aZ 2 kr (eH 19 hr (fun _ h=>WN g h) ?_)));rintro y1 hr _ w8 ⟨m5,rfl,n,g⟩;refine⟨_,rfl,?_⟩;have d:=Mem.le_trans d n;refine⟨bN (aS g d),cE 2 [(3,20,vB (!y1)),(4,21,vB (!y1))] ?_⟩;rcases eI (!y1) with A|A
  .rw[if_pos A] at hr;refine pC (t:=21) (b:=true) (!y1) kr A (cE 21 [(5,22,undef),(6,23,undef),(7,24,undef),(8,25,undef),(9,26,vB true),(10,27,vB true),(11,28,undef),(12,29,undef),(13,30,undef),(14,31,undef),(15,32,undef),(16,33,undef),(17,34,undef),(18,35,undef),(19,36,undef),(20,37,undef),(21,38,undef),(22,39,undef),(23,40,undef),(24,41,undef),(25,42,vB true)] ?_);cases hr;exact cO kr (mP _ kr (K _ _ ⟨m5,rfl,q.t n,g,a.o n,f.o n⟩))
  rw[if_neg (not_true A)] at hr;refine pC (t:=21) (b:=false) (!y1) kr A (bK 5 22 (vP u 1) (cV 6 23 (vI c.2) cY (aZ 7 kr (eH 24 hr (fun _ h=>PR g h) ?_))));rintro s hr _ w9 ⟨M,rfl,D,g⟩;refine⟨_,rfl,?_⟩;have q:=(q.t n).t D;have a:=(a.o n).o D;have f:=(f.o n).o D;have d:=Mem.le_trans d D;refine⟨bN (aS g d),cE 3 [(8,25,vB (!s)),(9,26,vB (!s)),(10,27,vB (!s))] ?_⟩;rcases eI (!s) with A|A
  .rw[if_pos A] at hr;refine pC (t:=27) (b:=true) (!s) kr A (cE 15 [(11,28,undef),(12,29,undef),(13,30,undef),(14,31,undef),(15,32,undef),(16,33,undef),(17,34,undef),(18,35,undef),(19,36,undef),(20,37,undef),(21,38,undef),(22,39,undef),(23,40,undef),(24,41,undef),(25,42,vB true)] ?_);cases hr;exact cO kr (mP _ kr (K _ _ ⟨M,rfl,q,g,a,f⟩))
  rw[if_neg (not_true A)] at hr;refine pC (t:=27) (b:=false) (!s) kr A (cE 3 [(11,28,vI s1),(12,29,vB (decide (s1>0))),(13,30,vB (decide (s1>0)))] ?_);rcases eI (decide (s1>0)) with A|A
  .rw[if_pos A] at hr;refine pC (t:=30) (b:=true) (decide (s1>0)) kr A (bK 14 31 (vP u 0) (cV 15 32 (vT c.1) cY (bK 16 33 (vP l 0) (eD 17 34 (vS a1 p0 c1) hb1S (cE 2 [(18,35,vI s1),(19,36,vI (wr (s1-1)))] ?_)))));have⟨p,V,hr⟩:=aX hr;refine oF (t:=30) (e:=89) (x:=(.tmp 34)) (y:=(.tmp 36)) 20 37 C3 kr rfl kr (.head _) (cP (iL (cP (cP (iL (cP mH)))))) (ev (vS a1 p0 c1)) (ev (vI (wr (s1-1)))) kr r1S V ?_;rintro b4 R b5 ⟨_,_,rfl,rfl,rfl⟩ U;have hq2S:=U;refine bK 21 38 (vP b4 R) (eD 22 39 (vT p.1) hq2S (cE 3 [(23,40,vB (Op.bytesLess c.1.toList p.1.toList||(c.1.toList==p.1.toList))),(24,41,vB (Op.bytesLess c.1.toList p.1.toList||(c.1.toList==p.1.toList))),(25,42,vB (Op.bytesLess c.1.toList p.1.toList||(c.1.toList==p.1.toList)))] ?_));cases hr;exact cO kr (mP _ kr (K _ _ ⟨M,rfl,q,g,a,f⟩))
  rw[if_neg (not_true A)] at hr;refine pC (t:=30) (b:=false) (decide (s1>0)) kr A (cE 12 [(14,31,undef),(15,32,undef),(16,33,undef),(17,34,undef),(18,35,undef),(19,36,undef),(20,37,undef),(21,38,undef),(22,39,undef),(23,40,undef),(24,41,vB false),(25,42,vB false)] ?_);cases hr;exact cO kr (mP _ kr (K _ _ ⟨M,rfl,q,g,a,f⟩))
 refine cS (bF ?_);have ho:=v _ (sI hr);refine bF ?_;exact xE (B _ _ ⟨(),k,ho,rfl,q,g⟩)
def vV(N:Nat)(p0:sM)(p1:Int)(p2:BA)(p3:BA):Option iG:=
 if(!p0.2.1)=true then(some ((⟨#[]⟩:BA),(⟨#[]⟩:BA),0,(⟨#[]⟩:BA),0,0)) else((HN N p1 p2 p3).bind fun y1=>if((bD p0.2.2.2.2 y1).isSome)=true then(some (((bD p0.2.2.2.2 y1).getD ((⟨#[]⟩:BA),(⟨#[]⟩:BA),0,(⟨#[]⟩:BA),0,0)).1,((bD p0.2.2.2.2 y1).getD ((⟨#[]⟩:BA),(⟨#[]⟩:BA),0,(⟨#[]⟩:BA),0,0)).2.1,((bD p0.2.2.2.2 y1).getD ((⟨#[]⟩:BA),(⟨#[]⟩:BA),0,(⟨#[]⟩:BA),0,0)).2.2.1,((bD p0.2.2.2.2 y1).getD ((⟨#[]⟩:BA),(⟨#[]⟩:BA),0,(⟨#[]⟩:BA),0,0)).2.2.2.1,((bD p0.2.2.2.2 y1).getD ((⟨#[]⟩:BA),(⟨#[]⟩:BA),0,(⟨#[]⟩:BA),0,0)).2.2.2.2.1,((bD p0.2.2.2.2 y1).getD ((⟨#[]⟩:BA),(⟨#[]⟩:BA),0,(⟨#[]⟩:BA),0,0)).2.2.2.2.2)) else(some (y1.2.1,p3,p1,(⟨#[]⟩:BA),0,0)))
theorem GF{p0:sM}{p1:Int}{p2:BA}{p3:BA}{n u o b v p r}(g:St m (aC n u o::aC b v p::bZ bp0 a1 c1 n a2 c2 b p0::O) w)(U:RepS C1 m a1 c1 p0.1)(V:MapQ cQ C7 true m n u o p0.d.1)(Y:RepS aH m a2 c2 p0.e.1)(E:MapQ bA C8 true m b v p p0.f)(hr:vV N p0 p1 p2 p3=some r):Calls prog 17 #[vP bp0 0,vI p1,vT p2,vT p3] w fun e w'=>∃m',eN m m' e (.agg (Vd r)) (aC n u o::aC b v p::bZ bp0 a1 c1 n a2 c2 b p0::O) w':=by
 refine bP g func17 rfl ntmps17 fun q=>aB (cD 8 58 (.agg dX) g fun S Z g=>aQ (aF (aB (bG 3 15 4 14 1 (vB p0.2.1) g.t.t.t.h (aG 1 [(16,vB (!p0.2.1))] (aJ hr ?_ ?_))))))<;>intro A hr
 .refine aT 1 [(17,.agg dX)] (bJ (.agg dX) g fun a g=>aQ (aN (aU ?_)));cases hr;refine eR 8 58 [] [] g.h ?_;exact⟨m,rfl,q,g.t.f2.f2.f2⟩
 refine aO (aD (aT 3 [(18,vI p1),(19,vT p2),(20,vT p3)] (aL 21 hr (WQ g) ?_)));rintro y1 hr _ w3 ⟨l,rfl,B,g⟩;have q:=q.t B;refine cD 9 110 (.agg #[vI 0,vT eB,vT eB]) g fun G w4 g=>bJ (.agg (Vi y1)) g fun w5 g=>aQ (aF (aF (dN [(12,fun w'=>Inv l w'/\Piece.holds l w' (kB G (Vi y1) 110)/\Piece.holds l w' (bZ bp0 a1 c1 n a2 c2 b p0)/\True)] kr g fun w6 _ g=> ?_)));have a:=l.le_refl;refine⟨bN (aS g a),cE 3 [(0,23,vP bp0 0),(1,24,vP bp0 0),(2,25,vP bp0 4)] (cV 3 26 (.map b) pN (cV 4 27 (.agg (Vi y1)) cY (tN [5,9] kr ad (uR ?_ ?_))))⟩
 .refine qU (ek:=bA) (c:=C8) (agg:=true) (k:=y1) (zx:=(eB,eB,0,eB,0,0)) (zcs:=[vT eB,vT eB,vI 0,vT eB,vI 0,vI 0]) (z:=(.agg dX)) (kt:=110) (et:=58) (d:=28) (t:=63) (x:=(.tmp 26)) (y:=(.tmp 27)) (ok:=true) kr rfl (ev (.map b)) (ev (.agg (Vi y1))) kr (zP kr kr (fun _ _=>kr) (fun _ _=>kr)) g.t.t.t.h (E.o B) ⟨_,_,rfl,rfl,⟨_,_,rfl,rfl,⟨_,_,rfl,rfl,⟨_,_,rfl,rfl,⟨_,_,rfl,rfl,rfl⟩⟩⟩⟩⟩ rfl ?_;rintro D ⟨_,_,rfl,rfl,⟨_,_,rfl,rfl,⟨_,_,rfl,rfl,⟨_,_,rfl,rfl,⟨_,_,rfl,rfl,rfl⟩⟩⟩⟩⟩;refine⟨bN (aS g a),cE 3 [(6,22,.tuple #[.agg (Vd ((bD p0.f y1).getD (eB,eB,0,eB,0,0))),vB ((bD p0.f y1).isSome)]),(7,29,.agg (Vd ((bD p0.f y1).getD (eB,eB,0,eB,0,0)))),(8,30,vB ((bD p0.f y1).isSome))] (aZ 9 kr (xT 10 58 (.agg dX) g fun H K g=>⟨bN (aS g a),aZ 10 kr (iU 58 10 29 (.agg (Vd ((bD p0.f y1).getD (eB,eB,0,eB,0,0)))) g fun M g=>⟨bN (aS g a),bK 11 11 (vB ((bD p0.f y1).isSome)) (cO kr (aD (aI 1 [(31,vB ((bD p0.f y1).isSome))] (aJ hr ?_ ?_))))⟩)⟩))⟩<;>intro A hr
  .refine aB (bC 32 (.agg (Vd ((bD p0.f y1).getD (eB,eB,0,eB,0,0)))) g.h (bJ (.agg (Vd ((bD p0.f y1).getD (eB,eB,0,eB,0,0)))) g.f2 fun R g=>aQ (aN (aU ?_))));obtain rfl:=sI hr;refine eR 8 58 [] [] g.h ?_;exact⟨l,rfl,q,g.t.t.t.f2.f2.f2⟩
  refine aO (aD (aB (bG 1 34 9 33 1 (vT y1.2.1) g.t.h (aA 3 [(37,.agg (Ve y1.2.1 p3 p1 eB 0 0))] (bJ (.agg (Ve y1.2.1 p3 p1 eB 0 0)) g.f2 fun F g=>aQ (aN ?_))))));cases hr;refine eR 8 58 [] [] g.h ?_;exact⟨l,rfl,q,g.t.t.t.f2.f2.f2⟩
 refine xT 10 58 (.agg dX) g fun H K g=> ?_;refine⟨bN (aS g a),aZ 5 kr (qU (ek:=bA) (c:=C8) (agg:=true) (k:=y1) (zx:=(eB,eB,0,eB,0,0)) (zcs:=[vT eB,vT eB,vI 0,vT eB,vI 0,vI 0]) (z:=(.agg dX)) (kt:=110) (et:=58) (d:=28) (t:=63) (x:=(.tmp 26)) (y:=(.tmp 27)) (ok:=true) kr rfl (ev (.map b)) (ev (.agg (Vi y1))) kr (zP kr kr (fun _ _=>kr) (fun _ _=>kr)) g.t.t.t.t.h (E.o B) ⟨_,_,rfl,rfl,⟨_,_,rfl,rfl,⟨_,_,rfl,rfl,⟨_,_,rfl,rfl,⟨_,_,rfl,rfl,rfl⟩⟩⟩⟩⟩ rfl ?_)⟩;rintro D ⟨_,_,rfl,rfl,⟨_,_,rfl,rfl,⟨_,_,rfl,rfl,⟨_,_,rfl,rfl,⟨_,_,rfl,rfl,rfl⟩⟩⟩⟩⟩;refine⟨bN (aS g a),cE 3 [(6,22,.tuple #[.agg (Vd ((bD p0.f y1).getD (eB,eB,0,eB,0,0))),vB ((bD p0.f y1).isSome)]),(7,29,.agg (Vd ((bD p0.f y1).getD (eB,eB,0,eB,0,0)))),(8,30,vB ((bD p0.f y1).isSome))] (aZ 10 kr (iU 58 10 29 (.agg (Vd ((bD p0.f y1).getD (eB,eB,0,eB,0,0)))) g fun M g=>⟨bN (aS g a),bK 11 11 (vB ((bD p0.f y1).isSome)) (cO kr (aD (aI 1 [(31,vB ((bD p0.f y1).isSome))] (aJ hr ?_ ?_))))⟩))⟩<;>intro A hr
 .refine aB (bC 32 (.agg (Vd ((bD p0.f y1).getD (eB,eB,0,eB,0,0)))) g.h (bJ (.agg (Vd ((bD p0.f y1).getD (eB,eB,0,eB,0,0)))) g.f2 fun R g=>aQ (aN (aU ?_))));obtain rfl:=sI hr;refine eR 8 58 [] [] g.h ?_;exact⟨l,rfl,q,g.t.t.t.f2.f2.f2⟩
 refine aO (aD (aB (bG 1 34 9 33 1 (vT y1.2.1) g.t.h (aA 3 [(37,.agg (Ve y1.2.1 p3 p1 eB 0 0))] (bJ (.agg (Ve y1.2.1 p3 p1 eB 0 0)) g.f2 fun F g=>aQ (aN ?_))))));cases hr;refine eR 8 58 [] [] g.h ?_;exact⟨l,rfl,q,g.t.t.t.f2.f2.f2⟩
def KQ(N:Nat)(p0:cR)(p1:dR)(p2:eA):eF:=
 some (.inr ((p0.2.2.2.1,p0.2.2.2.2.1,p0.2.2.2.2.2.1,p0.2.2.2.2.2.2.1),p2.2.1))
theorem qGd{p0:cR}{p1:dR}{p2:eA}{a o A x p B y b H G u D z r}(g:St m (aC o A x::aC p B y::bZ a a1 c1 o a2 c2 p p0.1::aC b H G::aC u D z::lQ bp0 a a3 c3 b u p0::O) w)(r1:RepS C1 m a1 c1 p0.1.1)(r2:MapQ cQ C7 true m o A x p0.1.d.1)(r3:RepS aH m a2 c2 p0.1.e.1)(r4:MapQ bA C8 true m p B y p0.1.f)(r5:RepS C3 m a3 c3 p0.2.1)(V:MapQ bA cH false m b H G p0.e.1)(r7:MapQ cJ eC false m u D z p0.k)(r8:RepS aH m a4 c4 p1.1.2.1)(r9:RepS C6 m a5 c5 p1.1.d)(Z:RepS aH m a6 c6 p1.2.1.d.1)(b0:RepS C5 m a7 c7 p1.2.1.e)(b3:RepS (aR .i64) m a8 c8 p1.d)(b4:RepS (aR .i64) m a9 c9 p2.f)(hr:KQ N p0 p1 p2=some r):Calls prog 45 #[vP bp0 0,.agg (iK p1 a4 c4 a5 c5 a6 c6 a7 c7 a8 c8),.agg (V9 p2 a9 c9)] w fun e w'=>(∃(F:mQ),∃c l m',r= .inl F/\nB 158 m m' e F.1 (aC o A x::aC p B y::bZ a a1 c1 o a2 c2 p p0.1::aC b c l::aC u D z::dV bp0 a a3 c3 b u p0 F.d.1 F.e.1 F.f::O) w' (MapQ bA cH false m' b c l F.2.1))\/(∃(E:mS),r= .inr E/\∃c l m',bX m m' e (vI E.2) (aC o A x::aC p B y::bZ a a1 c1 o a2 c2 p p0.1::aC b c l::aC u D z::dV bp0 a a3 c3 b u p0 E.1.2.1 E.1.d.1 E.1.e::O) w' (MapQ bA cH false m' b c l E.1.1)):=by
 refine bP g func45 rfl ntmps45 fun q=>aB (eE 4 143 (.agg (iK p1 a4 c4 a5 c5 a6 c6 a7 c7 a8 c8)) g fun b1 m1 w1 K g Y=>eE 5 145 (.agg (V9 p2 a9 c9)) g fun S U w2 M g R=>aG 1 [] (aB (aA 1 [(7,vP S 1)] (cL 8 (vI p2.2.1) g (R.drop 1) (aG 1 [(6,vI p2.2.1)] (aN ?_))))));cases hr;exact aW [6] [vI p2.2.1] (.inr ⟨_,rfl,H,G,U,rfl,(q.t K).t M,g.f5.f5.f5.f5.f5.f5,(V.o K).o M⟩)
def BQ(N:Nat)(p0:cR)(p1:dR)(p2:eA):eF:=
 (bQ p1.2.2 p2.2.1).bind fun a=>some (.inr ((p0.2.2.2.1,p0.2.2.2.2.1,p0.2.2.2.2.2.1,p0.2.2.2.2.2.2.1),a))
theorem qGp{p0:cR}{p1:dR}{p2:eA}{a o A x p B y b H G u D z r}(g:St m (aC o A x::aC p B y::bZ a a1 c1 o a2 c2 p p0.1::aC b H G::aC u D z::lQ bp0 a a3 c3 b u p0::O) w)(r1:RepS C1 m a1 c1 p0.1.1)(r2:MapQ cQ C7 true m o A x p0.1.d.1)(r3:RepS aH m a2 c2 p0.1.e.1)(r4:MapQ bA C8 true m p B y p0.1.f)(r5:RepS C3 m a3 c3 p0.2.1)(r6:MapQ bA cH false m b H G p0.e.1)(r7:MapQ cJ eC false m u D z p0.k)(r8:RepS aH m a4 c4 p1.1.2.1)(r9:RepS C6 m a5 c5 p1.1.d)(b4:RepS aH m a6 c6 p1.2.1.d.1)(b5:RepS C5 m a7 c7 p1.2.1.e)(Y:RepS (aR .i64) m a8 c8 p1.d)(b6:RepS (aR .i64) m a9 c9 p2.f)(hr:BQ N p0 p1 p2=some r):Calls prog 46 #[vP bp0 0,.agg (iK p1 a4 c4 a5 c5 a6 c6 a7 c7 a8 c8),.agg (V9 p2 a9 c9)] w fun e w'=>(∃(F:mQ),∃c l m',r= .inl F/\nB 158 m m' e F.1 (aC o A x::aC p B y::bZ a a1 c1 o a2 c2 p p0.1::aC b c l::aC u D z::dV bp0 a a3 c3 b u p0 F.d.1 F.e.1 F.f::O) w' (MapQ bA cH false m' b c l F.2.1))\/(∃(E:mS),r= .inr E/\∃c l m',bX m m' e (vI E.2) (aC o A x::aC p B y::bZ a a1 c1 o a2 c2 p p0.1::aC b c l::aC u D z::dV bp0 a a3 c3 b u p0 E.1.2.1 E.1.d.1 E.1.e::O) w' (MapQ bA cH false m' b c l E.1.1)):=by
 refine bP g func46 rfl ntmps46 fun q=>aB (eE 4 143 (.agg (iK p1 a4 c4 a5 c5 a6 c6 a7 c7 a8 c8)) g fun Z m1 w1 M g S=>eE 5 145 (.agg (V9 p2 a9 c9)) g fun b2 m2 w2 K g U=>aG 1 [] (aB (aA 1 [(7,vP Z 7)] (cL 8 (vS a8 p1.d c8) g ((S.o K).drop 7) (aA 1 [(9,vP b2 1)] (cL 10 (vI p2.2.1) g (U.drop 1) (iJ 11 ((Y.o M).o K) hr ?_)))))));rintro R hr b3 f1 b0 rfl V;refine iI 12 3 11 f1 (vI R) g V (aG 1 [(6,vI R)] (aN ?_));obtain rfl:=sI hr;exact aW [6] [vI R] (.inr ⟨_,rfl,H,G,m2,rfl,(q.t M).t K,g.f5.f5.f5.f5.f5.f5,(r6.o M).o K⟩)
def GO(N:Nat)(p0:sM)(p1:pP)(p2:BA)(s1:Int×JV):Option (Int×JV⊕JV⊕T7×T7×Int×T7×Int×Int×mR×Nat):=
 if(decide (s1.1<(List.length p1.2.1:Int)))=true then((bQ p1.2.1 s1.1).bind fun a=>(eQ 40 s1.2.2.2.2.2.2.2 ([(1,a,p2)])).bind fun b=>(vV N p0 1 a p2).bind fun a=>if(decide (a.2.2.2.2.2>0))=true then(some (.inr (.inr ((a.1,a.2.1,a.2.2.1,a.2.2.2.1,a.2.2.2.2.1,a.2.2.2.2.2,b,1))))) else(some (.inl (IntKind.wrap .i64 (s1.1+1),a.1,a.2.1,a.2.2.1,a.2.2.2.1,a.2.2.2.2.1,a.2.2.2.2.2,b)))) else(some (.inr (.inl s1.2)))
def CJ(N:Nat)(p0:sM)(p1:pP)(p2:BA):Option T3e:=
 ((eQ 40 ([]:mR) ([(1,p1.1,p2)])).bind fun a=>(vV N p0 1 p1.1 p2).bind fun y1=>if(decide (y1.2.2.2.2.2>0))=true then(some (y1.1,y1.2.1,y1.2.2.1,y1.2.2.2.1,y1.2.2.2.2.1,y1.2.2.2.2.2,a,1)) else((aK (GO N p0 p1 p2) N (0,y1.1,y1.2.1,y1.2.2.1,y1.2.2.2.1,y1.2.2.2.2.1,y1.2.2.2.2.2,a)).bind fun a=>(match a with| .inl o2=>some (o2.1,o2.2.1,o2.2.2.1,o2.2.2.2.1,o2.2.2.2.2.1,o2.2.2.2.2.2.1,o2.2.2.2.2.2.2,0)| .inr (z)=>some z)):Option (T7×T7×Int×T7×Int×Int×mR×Nat)).bind fun a=>if a.2.2.2.2.2.2.2=0 then(if(a.2.2.2.2.2.1==0)=true then(some (((⟨#[]⟩:BA),(⟨#[]⟩:BA),0,(⟨#[]⟩:BA),0,0),a.2.2.2.2.2.2.1,11)) else(if(decide (a.2.2.2.2.2.1>1))=true then(some (((⟨#[]⟩:BA),(⟨#[]⟩:BA),0,(⟨#[]⟩:BA),0,0),a.2.2.2.2.2.2.1,12)) else(some ((a.1,a.2.1,a.2.2.1,a.2.2.2.1,a.2.2.2.2.1,a.2.2.2.2.2.1),a.2.2.2.2.2.2.1,0)))) else(if a.2.2.2.2.2.2.2=1 then(if(a.2.2.2.2.2.1==0)=true then(some (((⟨#[]⟩:BA),(⟨#[]⟩:BA),0,(⟨#[]⟩:BA),0,0),a.2.2.2.2.2.2.1,11)) else(if(decide (a.2.2.2.2.2.1>1))=true then(some (((⟨#[]⟩:BA),(⟨#[]⟩:BA),0,(⟨#[]⟩:BA),0,0),a.2.2.2.2.2.2.1,12)) else(some ((a.1,a.2.1,a.2.2.1,a.2.2.2.1,a.2.2.2.2.1,a.2.2.2.2.2.1),a.2.2.2.2.2.2.1,0)))) else none)
theorem VW{p0:sM}{p1:pP}{p2:BA}{Y U M Z V R}{r:T3e}(g:St m (aC Y U M::aC Z V R::bZ bp0 a1 c1 Y a2 c2 Z p0::O) w)(F:RepS C1 m a1 c1 p0.1)(G:MapQ cQ C7 true m Y U M p0.d.1)(H:RepS aH m a2 c2 p0.e.1)(K:MapQ bA C8 true m Z V R p0.f)(r5:RepS aH m a3 c3 p1.2.1)(r6:RepS C6 m a4 c4 p1.d)(hr:CJ N p0 p1 p2=some r):Calls prog 75 #[vP bp0 0,.agg (V7 p1 a3 c3 a4 c4),vT p2] w fun e w'=>∃d5 d6 m',bX m m' e (.tuple #[.agg (Vd r.1),vS d5 r.2.1 d6,vI r.d]) (kR d5 r.2.1 d6 72 3::aC Y U M::aC Z V R::bZ bp0 a1 c1 Y a2 c2 Z p0::O) w' (RepS C9 m' d5 d6 r.2.1):=by
 have q:=m.le_refl;refine qOh func75 rfl ntmps75 [(0,vP bp0 0),(1,.agg (V7 p1 a3 c3 a4 c4)),(2,vT p2)] kr rfl ?_;refine aB (eE 3 59 (vP bp0 0) g fun b1 m1 w1 e1 g u=>eE 4 98 (.agg (V7 p1 a3 c3 a4 c4)) g fun b2 m2 w2 e2 g g1=>eE 5 9 (vT p2) g fun b3 m3 w3 e3 g p=>cD 6 58 (.agg dX) g fun b4 w4 g=>aG 2 [] (qCs (aB (cD 9 42 (v6) g fun b5 w5 g=>aQ (aB (cD 10 58 (.agg dX) g fun b6 w6 g=>aQ (aF (qDb (aD (aF (aB (cL 12 (.agg (V7 p1 a3 c3 a4 c4)) g (g1.o e3) (bS (nJ 13 108 #[.agg (V7 p1 a3 c3 a4 c4)] kr rfl (nR func108 rfl ntmps108 (aB (bS (qK 1 98 0 (.agg (V7 p1 a3 c3 a4 c4)) g fun b7 w7 g=>aG 1 [] (aB (aG 2 [(2,.func (.func 143) #[] #[vP b7 0])] (aN (aW [2] [.func (.func 143) #[] #[vP b7 0]] ⟨_,rfl,aQ (bB (qKp (f:=143) (cap:= #[vP b7 0]) [.exit 0] kr (CW func143 kr) g fun q3 l1 w8 d2 c0 d1 d3 g=> ?_))⟩))))))))))))))))))))));have⟨a,hr,j1⟩:=aX hr
 refine MX (fun v' w'=>∃c n b,v'=(.tuple #[])/\m.le b/\St b (kB b7 (V7 p1 a3 c3 a4 c4) 98::kB b6 (Ve a.1 a.2.1 a.d.1 a.e.1 a.f.1 a.h.1) 58::kB b5 #[vS c a.j.1 n] 42::kB b4 dX 58::bZ bp0 a1 c1 Y a2 c2 Z p0::sG l1 q3 [.exit 0] a.k::aC Y U M::aC Z V R::IL q3.D::kR c a.j.1 n 72 3::O) w'/\MRow b b1 0 [vP bp0 0]/\MRow b b3 0 [vT p2]/\RepS aH b a3 c3 p1.2.1/\RepS C6 b a4 c4 p1.d/\RepS C9 b c n a.j.1/\RepS C1 b a1 c1 p0.1/\RepS aH b a2 c2 p0.e.1/\MapQ cQ C7 true b Y U M p0.d.1/\MapQ bA C8 true b Z V R p0.f) ?_ ?_
 .have hr:=j1;rintro _ w9 ⟨c,n,b,rfl,q,g,u,p,r5,r6,y,F,H,G,K⟩;refine⟨_,rfl,?_⟩;have g:=g.f5
  by_cases hj1:a.k=0
  .rw[if_pos hj1] at hr;rw[hj1] at g;refine qLb 0 g rfl fun B g=> ?_;refine bT (aD (aF (bB (aB (bG 1 30 3 29 5 (vI a.h.1) g.t.h (aG 2 [(28,vB (a.h.1==0))] (aJ hr ?_ ?_)))))))<;>intro A hr
   .refine aF (dN [(5,fun w'=>Inv b w'/\Piece.holds b w' (kB b5 #[vS c a.j.1 n] 42)/\True)] kr g fun E _ g=> ?_);have z:=b.le_refl;refine⟨bN (aS g z),bK 0 32 (.agg dX) (cV 1 33 (vS c a.j.1 n) cY (aZ 2 kr (iU 58 6 32 (.agg dX) g.f3 fun S g=>⟨bN (aS g z),cE 2 [(3,7,vS c a.j.1 n),(4,8,vI 11)] (cO kr (aD (aN (bM (aU (vX ?_))))))⟩)))⟩;cases hr;refine DO g.f7 fun b0 g=> ?_;refine DP [.cell 6 58,.tmp 7,.tmp 8] [.agg dX,vS c a.j.1 n,vI 11] rfl (ResAll.cons (ResAt.blk (v:= .agg dX) (o:=0) kr g.h kr) (ResAll.cons (ResAt.tmp kr) (ResAll.cons (ResAt.tmp kr) ResAll.nil))) ?_;exact⟨c,n,b,rfl,q,g.t.t.t.t.f2.f2.f3,y⟩
   refine aB (bG 1 36 3 35 5 (vI a.h.1) g.t.h (aG 2 [(34,vB (decide (a.h.1>1)))] (aJ hr ?_ ?_)))<;>intro A hr
   .refine aF (dN [(5,fun w'=>Inv b w'/\Piece.holds b w' (kB b5 #[vS c a.j.1 n] 42)/\True)] kr g fun E _ g=> ?_);have z:=b.le_refl;refine⟨bN (aS g z),bK 0 38 (.agg dX) (cV 1 39 (vS c a.j.1 n) cY (aZ 2 kr (iU 58 6 38 (.agg dX) g.f3 fun S g=>⟨bN (aS g z),cE 2 [(3,7,vS c a.j.1 n),(4,8,vI 12)] (cO kr (aD (aN (bM (aU (vX ?_))))))⟩)))⟩;cases hr;refine DO g.f7 fun b0 g=> ?_;refine DP [.cell 6 58,.tmp 7,.tmp 8] [.agg dX,vS c a.j.1 n,vI 12] rfl (ResAll.cons (ResAt.blk (v:= .agg dX) (o:=0) kr g.h kr) (ResAll.cons (ResAt.tmp kr) (ResAll.cons (ResAt.tmp kr) ResAll.nil))) ?_;exact⟨c,n,b,rfl,q,g.t.t.t.t.f2.f2.f3,y⟩
   refine aO (bT (aD (aF (dN [(5,fun w'=>Inv b w'/\Piece.holds b w' (kB b6 (Ve a.1 a.2.1 a.d.1 a.e.1 a.f.1 a.h.1) 58)/\Piece.holds b w' (kB b5 #[vS c a.j.1 n] 42)/\True)] kr g fun E _ g=> ?_))));have z:=b.le_refl;refine⟨bN (aS g z),cV 0 40 (.agg (Ve a.1 a.2.1 a.d.1 a.e.1 a.f.1 a.h.1)) cY (cV 1 41 (vS c a.j.1 n) pN (aZ 2 kr (iU 58 6 40 (.agg (Ve a.1 a.2.1 a.d.1 a.e.1 a.f.1 a.h.1)) g.f3 fun S g=>⟨bN (aS g z),cE 2 [(3,7,vS c a.j.1 n),(4,8,vI 0)] (cO kr (aD (aN (vX ?_))))⟩)))⟩;obtain rfl:=sI hr;refine DO g.f7 fun b0 g=> ?_;refine DP [.cell 6 58,.tmp 7,.tmp 8] [.agg (Ve a.1 a.2.1 a.d.1 a.e.1 a.f.1 a.h.1),vS c a.j.1 n,vI 0] rfl (ResAll.cons (ResAt.blk (v:= .agg (Ve a.1 a.2.1 a.d.1 a.e.1 a.f.1 a.h.1)) (o:=0) kr g.h kr) (ResAll.cons (ResAt.tmp kr) (ResAll.cons (ResAt.tmp kr) ResAll.nil))) ?_;exact⟨c,n,b,rfl,q,g.t.t.t.t.f2.f2.f3,y⟩
  rw[if_neg hj1] at hr
  by_cases hj2:a.k=1
  .rw[if_pos hj2] at hr;rw[hj2] at g;refine qLw 1 g rfl fun B g=> ?_;refine cS (cX (aD (aF (bB (aB (bG 1 30 3 29 5 (vI a.h.1) g.t.h (aG 2 [(28,vB (a.h.1==0))] (aJ hr ?_ ?_))))))))<;>intro A hr
   .refine aF (dN [(5,fun w'=>Inv b w'/\Piece.holds b w' (kB b5 #[vS c a.j.1 n] 42)/\True)] kr g fun E _ g=> ?_);have z:=b.le_refl;refine⟨bN (aS g z),bK 0 32 (.agg dX) (cV 1 33 (vS c a.j.1 n) cY (aZ 2 kr (iU 58 6 32 (.agg dX) g.f3 fun S g=>⟨bN (aS g z),cE 2 [(3,7,vS c a.j.1 n),(4,8,vI 11)] (cO kr (aD (aN (bM (aU (vX ?_))))))⟩)))⟩;cases hr;refine DO g.f7 fun b0 g=> ?_;refine DP [.cell 6 58,.tmp 7,.tmp 8] [.agg dX,vS c a.j.1 n,vI 11] rfl (ResAll.cons (ResAt.blk (v:= .agg dX) (o:=0) kr g.h kr) (ResAll.cons (ResAt.tmp kr) (ResAll.cons (ResAt.tmp kr) ResAll.nil))) ?_;exact⟨c,n,b,rfl,q,g.t.t.t.t.f2.f2.f3,y⟩
   refine aB (bG 1 36 3 35 5 (vI a.h.1) g.t.h (aG 2 [(34,vB (decide (a.h.1>1)))] (aJ hr ?_ ?_)))<;>intro A hr
   .refine aF (dN [(5,fun w'=>Inv b w'/\Piece.holds b w' (kB b5 #[vS c a.j.1 n] 42)/\True)] kr g fun E _ g=> ?_);have z:=b.le_refl;refine⟨bN (aS g z),bK 0 38 (.agg dX) (cV 1 39 (vS c a.j.1 n) cY (aZ 2 kr (iU 58 6 38 (.agg dX) g.f3 fun S g=>⟨bN (aS g z),cE 2 [(3,7,vS c a.j.1 n),(4,8,vI 12)] (cO kr (aD (aN (bM (aU (vX ?_))))))⟩)))⟩;cases hr;refine DO g.f7 fun b0 g=> ?_;refine DP [.cell 6 58,.tmp 7,.tmp 8] [.agg dX,vS c a.j.1 n,vI 12] rfl (ResAll.cons (ResAt.blk (v:= .agg dX) (o:=0) kr g.h kr) (ResAll.cons (ResAt.tmp kr) (ResAll.cons (ResAt.tmp kr) ResAll.nil))) ?_;exact⟨c,n,b,rfl,q,g.t.t.t.t.f2.f2.f3,y⟩
   refine aO (bT (aD (aF (dN [(5,fun w'=>Inv b w'/\Piece.holds b w' (kB b6 (Ve a.1 a.2.1 a.d.1 a.e.1 a.f.1 a.h.1) 58)/\Piece.holds b w' (kB b5 #[vS c a.j.1 n] 42)/\True)] kr g fun E _ g=> ?_))));have z:=b.le_refl;refine⟨bN (aS g z),cV 0 40 (.agg (Ve a.1 a.2.1 a.d.1 a.e.1 a.f.1 a.h.1)) cY (cV 1 41 (vS c a.j.1 n) pN (aZ 2 kr (iU 58 6 40 (.agg (Ve a.1 a.2.1 a.d.1 a.e.1 a.f.1 a.h.1)) g.f3 fun S g=>⟨bN (aS g z),cE 2 [(3,7,vS c a.j.1 n),(4,8,vI 0)] (cO kr (aD (aN (vX ?_))))⟩)))⟩;obtain rfl:=sI hr;refine DO g.f7 fun b0 g=> ?_;refine DP [.cell 6 58,.tmp 7,.tmp 8] [.agg (Ve a.1 a.2.1 a.d.1 a.e.1 a.f.1 a.h.1),vS c a.j.1 n,vI 0] rfl (ResAll.cons (ResAt.blk (v:= .agg (Ve a.1 a.2.1 a.d.1 a.e.1 a.f.1 a.h.1)) (o:=0) kr g.h kr) (ResAll.cons (ResAt.tmp kr) (ResAll.cons (ResAt.tmp kr) ResAll.nil))) ?_;exact⟨c,n,b,rfl,q,g.t.t.t.t.f2.f2.f3,y⟩
  rw[if_neg hj2] at hr;cases hr
 refine nR func143 rfl ntmps143 (aF (aT 2 [(5,.func (.yield l1) #[] #[]),(6,vP b7 0)] (bC 7 (vT p1.1) g.t.t.h (bS (ZU (d:=8) (l:=l1) (x:=(.tmp 5)) (xs:= #[(.tmp 7)]) (ts:= #[9]) [vT p1.1] kr rfl (ev (.func (.yield l1) #[] #[])) kr d3 d2 c0 d1 rfl kr g ?_)))));intro R1 d8;refine wB rfl ?_;refine aA 1 [(11,vT p1.1)] (aV (qCu g fun g9 g=>bB (aF (wB rfl (bC 15 (vf) g.t.t.t.t.h (aA 1 [(16,vT p1.1)] (cL 17 (vT p2) g p (aA 1 [(18,.agg #[vI 1,vT p1.1,vT p2])] (eO 19 72 1 C9 [(1,p1.1,p2)] g fun b8 m6 h0 e5 g r8=>nK 20 42 42 72 40 15 19 (g.nilroom 72 3) (.inl kr) (RepS.nil _ _) r8.src hr fun l2 hr a6 c6 m7 h1 e6 g r9=> ?_)))))))));have u:=(((u.o e2).o e3).o e5).o e6;have p:=(p.o e5).o e6;have G:=((((G.o e1).o e2).o e3).o e5).o e6;have K:=((((K.o e1).o e2).o e3).o e5).o e6;have F:=((((F.o e1).o e2).o e3).o e5).o e6;have H:=((((H.o e1).o e2).o e3).o e5).o e6;refine bJ (vS a6 l2 c6) g.f6 fun h2 g=>aV ?_;have g:=g.f2.t;refine aD (aF (wB rfl (cL 21 (vP bp0 0) g u (aA 1 [(22,vT p1.1)] (cL 23 (vT p2) g p (aL 24 hr (GF g.f9.f9.f9 F G H K) ?_))))));rintro y1 hr _ h3 ⟨m8,rfl,z,g⟩;refine bJ (.agg (Vd y1)) g.f8 fun h4 g=>aQ (aF (wB rfl (bG 1 26 3 25 5 (vI y1.h) g.h (aG 1 [(27,vB (decide (y1.h>0)))] (aJ hr ?_ ?_)))))<;>intro A hr
 .refine cS (uL rfl (qAv [.exit 0] 0 rfl g.f6 fun y g=>d8 false _ (aG 1 [(9,vB true)] (pD true kr ?_ (fun h=>Bool.noConfusion h)))));intro _;refine aN (aU ?_);cases hr;exact oR [] [] rfl ResAll.nil ⟨_,rfl,⟨a6,c6,m8,rfl,(((((q.t e1).t e2).t e3).t e5).t e6).t z,g.f6.f7.f5.f5.f4.f6.f9.f8.f8.f9,u.o z,p.o z,(((((r5.o e1).o e2).o e3).o e5).o e6).o z,(((((r6.o e1).o e2).o e3).o e5).o e6).o z,r9.o z,F.o z,H.o z,G.o z,K.o z⟩⟩
 refine aO (bT (qAx [.exit 0] g.f6 fun h5 g=>d8 true _ (aG 1 [(9,vB false)] (pD false kr (fun h=>Bool.noConfusion h) ?_))));intro _;refine aO (aD (aB (bG 1 11 62 10 1 (vS a3 p1.2.1 c3) g.t.t.t.t.t.t.t.t.h (aG 2 [(12,vI (p1.2.1.length:Int)),(13,vI 0)] (bB ?_)))));have⟨d4,hr,j2⟩:=aX hr;refine dW (.exit 0) (fun L' w'=>∃(o2:JV),∃a7 c7 m9,(.inl o2)=d4/\L'=[]/\m.le m9/\St m9 (kB b6 (Ve o2.1 o2.2.1 o2.d.1 o2.e.1 o2.f.1 o2.h.1) 58::bZ bp0 a1 c1 Y a2 c2 Z p0::kB b5 #[vS a7 o2.j c7] 42::kB b7 (V7 p1 a3 c3 a4 c4) 98::kB b4 dX 58::sG l1 q3 [.exit 0] 0::aC Y U M::aC Z V R::IL q3.D::kR a7 o2.j c7 72 3::O) w'/\MRow m9 b1 0 [vP bp0 0]/\MRow m9 b3 0 [vT p2]/\RepS C1 m9 a1 c1 p0.1/\RepS aH m9 a2 c2 p0.e.1/\RepS C9 m9 a7 c7 o2.j/\RepS aH m9 a3 c3 p1.2.1/\RepS C6 m9 a4 c4 p1.d/\MapQ cQ C7 true m9 Y U M p0.d.1/\MapQ bA C8 true m9 Z V R p0.f) ?_ ?_
 .rintro _ B ⟨o2,a7,c7,m9,rfl,rfl,q,g,u,p,F,H,y,r5,r6,G,K⟩;have hr:=j2;refine cX ?_;cases hr;exact pT [] [] rfl ResAll.nil ⟨_,rfl,⟨a7,c7,m9,rfl,q,g.f9.f9.f9.f9.f9.f6.f9.f8.f8.f9,u,p,r5,r6,y,F,H,G,K⟩⟩
 intro d7;refine dL (fun k1 L' w'=>∃(s1:Int×JV),∃a8 c8 B,aK (GO N p0 p1 p2) k1 s1=some d4/\L'=[(0,.func (.yield l1) #[] #[]),(11,vS a3 p1.2.1 c3),(12,vI (p1.2.1.length:Int)),(13,vI s1.1)]/\m.le B/\St B (kB b6 (Ve s1.2.1 s1.d.1 s1.e.1 s1.f.1 s1.h.1 s1.j.1) 58::bZ bp0 a1 c1 Y a2 c2 Z p0::kB b5 #[vS a8 s1.k c8] 42::kB b7 (V7 p1 a3 c3 a4 c4) 98::kB b4 dX 58::sG l1 q3 [.exit 0] 0::aC Y U M::aC Z V R::IL q3.D::kR a8 s1.k c8 72 3::O) w'/\RepS aH B a3 c3 p1.2.1/\MRow B b1 0 [vP bp0 0]/\MRow B b3 0 [vT p2]/\RepS C1 B a1 c1 p0.1/\RepS aH B a2 c2 p0.e.1/\RepS C9 B a8 c8 s1.k/\RepS C6 B a4 c4 p1.d/\MapQ cQ C7 true B Y U M p0.d.1/\MapQ bA C8 true B Z V R p0.f) N ⟨(0,y1.1,y1.2.1,y1.d.1,y1.e.1,y1.f.1,y1.h,l2),a6,c6,m8,hr,rfl,(((((q.t e1).t e2).t e3).t e5).t e6).t z,g.f6.f7.f5.f5.f4.f9.f9.f9.f9.f9,(((((r5.o e1).o e2).o e3).o e5).o e6).o z,u.o z,p.o z,F.o z,H.o z,r9.o z,(((((r6.o e1).o e2).o e3).o e5).o e6).o z,G.o z,K.o z⟩ ?_;rintro k1 _ h6 ⟨s1,a8,c8,B,hL,rfl,q,g,r5,u,p,F,H,e4,r6,G,K⟩;obtain⟨k1,g8,rfl,hr,g0,b0⟩:=dQ hL;refine aI 1 [(14,vB (decide (s1.1<(p1.2.1.length:Int))))] (aF (aJ hr ?_ ?_))<;>intro A hr
 .refine aO (aD (aF (bB (aB (iJ 15 r5 hr ?_)))));rintro x1 hr b9 f1 g5 rfl g2;refine iI 16 9 15 f1 (vT x1) g g2 (aG 1 [(4,vT x1)] (aB (aA 2 [(17,.func (.yield l1) #[] #[]),(18,vT x1)] ?_)));have g:=g.f5;refine bS (ZU (d:=19) (l:=l1) (x:=(.tmp 17)) (xs:= #[(.tmp 18)]) (ts:= #[9]) [vT x1] kr rfl (ev (.func (.yield l1) #[] #[])) kr d3 d2 c0 d1 rfl kr g ?_);intro R2 d9;refine wB rfl ?_;refine aA 1 [(11,vT x1)] (aV (qCu g fun h7 g=>bB (aF (wB rfl (bC 15 (vS a8 s1.k c8) g.t.t.t.h (aA 1 [(16,vT x1)] (cL 17 (vT p2) g p (aA 1 [(18,.agg #[vI 1,vT x1,vT p2])] (eO 19 72 1 C9 [(1,x1,p2)] g fun g4 g6 h8 E g g3=>nK 20 42 42 72 40 15 19 g.f10 (.inl kr) (e4.o E) g3.src hr fun l3 hr a9 c9 g7 h9 S g f0=> ?_)))))))));have u:=(u.o E).o S;have p:=(p.o E).o S;refine bJ (vS a9 l3 c9) g.f5 fun k0 g=>aV ?_;have g:=g.f2.t;refine aD (aF (wB rfl (cL 21 (vP bp0 0) g u (aA 1 [(22,vT x1)] (cL 23 (vT p2) g p (aL 24 hr (GF g.f4.f8.f8 ((F.o E).o S) ((G.o E).o S) ((H.o E).o S) ((K.o E).o S)) ?_))))));rintro y2 hr _ k2 ⟨e0,rfl,y,g⟩;have r5:=((r5.o E).o S).o y;have G:=((G.o E).o S).o y;have K:=((K.o E).o S).o y;have F:=((F.o E).o S).o y;have H:=((H.o E).o S).o y;have r6:=((r6.o E).o S).o y
  refine bJ (.agg (Vd y2)) g.f6 fun k3 g=>aQ (aF (wB rfl (bG 1 26 3 25 5 (vI y2.h) g.h (aG 1 [(27,vB (decide (y2.h>0)))] (aJ hr ?_ ?_)))))<;>intro A hr
  .refine cS (uL rfl (qAv [.exit 0] 0 rfl g.f6 fun k4 g=>d9 false _ (aG 1 [(20,vB true)] (pD true kr ?_ (fun h=>Bool.noConfusion h)))));intro _;refine aN (bM (aU ?_));have ho:=b0 _ (sI hr);subst ho;have hr:=j2;refine aU (bM ?_);cases hr;exact oR [] [] rfl ResAll.nil ⟨_,rfl,⟨a9,c9,e0,rfl,((q.t E).t S).t y,g.f6.f9.f5.f5.f4.f6.f9.f8.f8.f9,u.o y,p.o y,r5,r6,f0.o y,F,H,G,K⟩⟩
  refine aO (bT (qAx [.exit 0] g.f6 fun k4 g=>d9 true _ (aG 1 [(20,vB false)] (pD false kr (fun h=>Bool.noConfusion h) ?_))));intro _;refine aO (bT (aD (aY (aA 2 [(13,vI (wr (s1.1+1)))] (aV ?_)))));have hL:=g0 _ (sI hr);exact cZ ⟨(wr (s1.1+1),y2.1,y2.2.1,y2.d.1,y2.e.1,y2.f.1,y2.h,l3),a9,c9,e0,hL,rfl,((q.t E).t S).t y,g.f6.f9.f5.f5.f4.f9.f9.f9.f9.f9,r5,u.o y,p.o y,F,H,f0.o y,r6,G,K⟩
 refine cS (bF ?_);have ho:=b0 _ (sI hr);have g:=g.f9.f9.f9.f9.f9.f9.f9.f9.f9.f9;refine bF ?_;exact xE (d7 _ _ ⟨s1.2,a8,c8,B,ho,rfl,q,g,u,p,F,H,e4,r5,r6,G,K⟩)
def FF(N:Nat)(p1:mR)(s1:Int×tB):Option (Int×tB⊕tB):=
 if(decide (s1.1<(List.length p1:Int)))=true then((bQ p1 s1.1).bind fun a=>(dZ s1.2 a true).bind fun a=>some (.inl (IntKind.wrap .i64 (s1.1+1),a))) else(some (.inr s1.2))
def pR(N:Nat)(p0:cR)(p1:mR):Option wT:=
 (aK (FF N p1) N (0,p0.2.2.2.1)).bind fun a=>some (a,p0.2.2.2.2.1,p0.2.2.2.2.2.1,p0.2.2.2.2.2.2.1)
theorem BG{p0:cR}{p1:mR}{l K E p M F B b b3 b0 o G D}{r:wT}(g:St m (aC K E p::aC M F B::bZ l a1 c1 K a2 c2 M p0.1::aC b b3 b0::aC o G D::lQ bp0 l a3 c3 b o p0::O) w)(r1:RepS C1 m a1 c1 p0.1.1)(r2:MapQ cQ C7 true m K E p p0.1.d.1)(r3:RepS aH m a2 c2 p0.1.e.1)(r4:MapQ bA C8 true m M F B p0.1.f)(r5:RepS C3 m a3 c3 p0.2.1)(r6:MapQ bA cH false m b b3 b0 p0.e.1)(r7:MapQ cJ eC false m o G D p0.k)(r8:RepS C9 m a4 c4 p1)(hr:pR N p0 p1=some r):Calls prog 19 #[vP bp0 0,vS a4 p1 c4] w fun e w'=>∃b7 b8 m',bX m m' e (.tuple #[]) (aC K E p::aC M F B::bZ l a1 c1 K a2 c2 M p0.1::aC b b7 b8::aC o G D::dV bp0 l a3 c3 b o p0 r.2.1 r.d.1 r.e::O) w' (MapQ bA cH false m' b b7 b8 r.1):=by
 refine bP g func19 rfl ntmps19 fun q=>aI 3 [(6,vS a4 p1 c4),(7,vI (p1.length:Int)),(8,vI 0)] (bB (cK (.exit 0) hr (fun R L' w'=>∃(o1:tB),∃V S H,o1=R/\L'=[]/\m.le H/\St H (bZ l a1 c1 K a2 c2 M p0.1::lQ bp0 l a3 c3 b o p0::aC K E p::aC M F B::aC b V S::aC o G D::O) w'/\RepS C1 H a1 c1 p0.1.1/\RepS aH H a2 c2 p0.1.e.1/\RepS C3 H a3 c3 p0.2.1/\MapQ cQ C7 true H K E p p0.1.d.1/\MapQ bA C8 true H M F B p0.1.f/\MapQ bA cH false H b V S o1/\MapQ cJ eC false H o G D p0.k) ?_ ?_))
 .rintro R hr _ U ⟨o1,V,S,H,rfl,rfl,q,g,r1,r3,r5,r2,r4,a,r7⟩;refine cX ?_;cases hr;exact pT [] [] rfl ResAll.nil ⟨V,S,H,rfl,q,g.f1.f5.f5.f3.f5.f5,a⟩
 intro R hr b5;refine dL (fun k1 L' w'=>∃(s1:Int×tB),∃Y U a,aK (FF N p1) k1 s1=some R/\L'=[(0,vP bp0 0),(6,vS a4 p1 c4),(7,vI (p1.length:Int)),(8,vI s1.1)]/\m.le a/\St a (bZ l a1 c1 K a2 c2 M p0.1::lQ bp0 l a3 c3 b o p0::aC K E p::aC M F B::aC b Y U::aC o G D::O) w'/\RepS C9 a a4 c4 p1/\RepS C1 a a1 c1 p0.1.1/\RepS aH a a2 c2 p0.1.e.1/\RepS C3 a a3 c3 p0.2.1/\MapQ cQ C7 true a K E p p0.1.d.1/\MapQ bA C8 true a M F B p0.1.f/\MapQ bA cH false a b Y U s1.2/\MapQ cJ eC false a o G D p0.k) N ⟨(0,p0.e.1),b3,b0,m,hr,rfl,q,g.f4.f4.f3.f3.f5.f5,r8,r1,r3,r5,r2,r4,r6,r7⟩ ?_;rintro k1 _ w2 ⟨s1,Y,U,a,hL,rfl,q,g,r8,r1,r3,r5,r2,r4,b6,r7⟩;obtain⟨k1,d8,rfl,hr,c0,b9⟩:=dQ hL;refine aI 1 [(9,vB (decide (s1.1<(p1.length:Int))))] (aF (aJ hr ?_ ?_))<;>intro A hr
 .refine aO (aD (aF (bB (aB (iJ 10 r8 hr ?_)))));rintro Z hr b1 f1 d7 ⟨_,_,rfl,rfl,⟨_,_,rfl,rfl,rfl⟩⟩ d3;refine iI 11 72 10 f1 (.agg (Vi Z)) g d3 (cD 5 72 (.agg #[vI 0,vT eB,vT eB]) g fun b2 w3 g=>bJ (.agg (Vi Z)) g fun w4 g=>aQ (dN [(6,fun w'=>Inv a w'/\Piece.holds a w' (kB b2 (Vi Z) 72)/\Piece.holds a w' (lQ bp0 l a3 c3 b o p0)/\True)] kr g fun w5 _ g=> ?_));have b4:=a.le_refl;refine⟨bN (aS g b4),cE 3 [(0,12,vP bp0 0),(1,13,vP bp0 0),(2,14,vP bp0 3)] (cV 3 15 (.map b) pN (cV 4 16 (.agg (Vi Z)) cY ?_))⟩;have g:=g.f5;have⟨d5,d4,hr⟩:=aX hr;refine aZ 5 kr (GY (ek:=bA) (c:=cH) (agg:=false) (k:=Z) (yv:=true) (cs:=[vB true]) (z:=(vB false)) (v:=(vB true)) (kt:=72) (et:=4) (t:=113) (x:=(.tmp 15)) (y:=(.tmp 16)) (u:=(.const (vB true))) kr (ev (.map b)) (ev (.agg (Vi Z))) (ev (vB true)) kr (zP kr kr (fun _ _=>kr) (fun _ _=>kr)) g b6 rfl rfl d4 fun d2 d1 w6 g d6=>⟨bN (aS g b4),cO kr (bT (aD (aY (aA 2 [(8,vI (wr (s1.1+1)))] (aV ?_)))))⟩);have hL:=c0 _ (sI hr);exact cZ ⟨(wr (s1.1+1),d5),d2,d1,a,hL,rfl,q,g.f1.t.f5.f1.f5.f5.f5.f5,r8,r1,r3,r5,r2,r4,d6,r7⟩
 refine cS (bF ?_);have ho:=b9 _ (sI hr);have g:=g.f5.f5.f5.f5.f5.f5;refine bF ?_;exact xE (b5 _ _ ⟨s1.2,Y,U,a,ho,rfl,q,g,r1,r3,r5,r2,r4,b6,r7⟩)
end
section
open Go Go.Dc Go.Proofs.Tryz
set_option maxHeartbeats 4000000
set_option maxRecDepth 100000
variable {N bp0 c1 c2 c3 c4 c5 c6 c7 c8 c9:Nat} {m:Mem} {O:List Piece} {w:World} {a1 a2 a3 a4 a5 a6 a7 a8 a9:Option Addr}
def CM(N:Nat)(p0:Int):Option (Int⊕Unit):=
 if(p0 !=0)=true then(some (.inl p0)) else(some (.inr ()))
theorem MB{p0:Int}{r:Int⊕Unit}(g:St m (O) w)(hr:CM N p0=some r):Calls prog 76 #[vI p0] w fun e w'=>(∃(a:Int),∃m',r= .inl a/\pnW 158 m m' e a (O) w')\/(∃(b:Unit),r= .inr b/\∃m',eN m m' e (.tuple #[]) (O) w'):=by
 refine bP g func76 rfl ntmps76 fun q=>(aI 2 [(3,vB (p0 !=0))] (aJ hr ?_ ?_))<;>intro A hr
 .refine aY (aA 3 [(6,.iface 158 (.agg #[vI p0]))] (bS (SE (x:=(.tmp 6)) kr (ev (.iface 158 (.agg #[vI p0]))) ?_)));cases hr;exact cM (.inl ⟨p0,m,rfl,rfl,q,g⟩)
 refine aO ?_;cases hr;exact pT [] [] rfl ResAll.nil (.inr ⟨_,rfl,m,rfl,q,g⟩)
def tJ(N:Nat)(p0:Bool)(p1:Int):Option (Int⊕Unit):=
 if p0=true then(some (.inl p1)) else(some (.inr ()))
theorem vU{p0:Bool}{p1:Int}{r:Int⊕Unit}(g:St m (O) w)(hr:tJ N p0 p1=some r):Calls prog 78 #[vB p0,vI p1] w fun e w'=>(∃(a:Int),∃m',r= .inl a/\pnW 158 m m' e a (O) w')\/(∃(b:Unit),r= .inr b/\∃m',eN m m' e (.tuple #[]) (O) w'):=by
 refine bP g func78 rfl ntmps78 fun q=>(aI 1 [(4,vB p0)] (aJ hr ?_ ?_))<;>intro A hr
 .refine aY (aA 3 [(7,.iface 158 (.agg #[vI p1]))] (bS (SE (x:=(.tmp 7)) kr (ev (.iface 158 (.agg #[vI p1]))) ?_)));cases hr;exact cM (.inl ⟨p1,m,rfl,rfl,q,g⟩)
 refine aO ?_;cases hr;exact pT [] [] rfl ResAll.nil (.inr ⟨_,rfl,m,rfl,q,g⟩)
def GX(N:Nat)(p0:Bool):Ta:=
 if p0=true then(some 1) else(some 0)
theorem PT{p0:Bool}{r:Int}(g:St m (O) w)(hr:GX N p0=some r):Calls prog 80 #[vB p0] w fun e w'=>∃m',eN m m' e (vI r) (O) w':=by
 refine bP g func80 rfl ntmps80 fun q=>aI 1 [] (aF (aI 1 [(3,vB p0)] (aJ hr ?_ ?_)))<;>intro A hr
 .refine aI 1 [(2,vI 1)] (aN (aU ?_));cases hr;exact aW [2] [vI 1] ⟨m,rfl,q,g⟩
 refine aO (aD (aI 1 [(2,vI 0)] (aN ?_)));cases hr;exact aW [2] [vI 0] ⟨m,rfl,q,g⟩
def GH(N:Nat)(p0:sM)(p1:BA)(s1:Int):Option (Int⊕Unit⊕EM):=
 if(decide (s1<(List.length p0.1:Int)))=true then((bQ p0.1 s1).bind fun a=>if(a.1.toList==p1.toList)=true then(some (.inr (.inr ((a.2,true))))) else(some (.inl (IntKind.wrap .i64 (s1+1))))) else(some (.inr (.inl ())))
def uJ(N:Nat)(p0:sM)(p1:BA):Option EM:=
 (aK (GH N p0 p1) N 0).bind fun a=>(match a with| .inl a=>some ((⟨#[]⟩:BA),false)| .inr (z)=>some z)
theorem VT{p0:sM}{p1:BA}{l c a n k b}{r:EM}(g:St m (aC l c a::aC n k b::bZ bp0 a1 c1 l a2 c2 n p0::O) w)(v:RepS C1 m a1 c1 p0.1)(z:MapQ cQ C7 true m l c a p0.d.1)(B:RepS aH m a2 c2 p0.e.1)(D:MapQ bA C8 true m n k b p0.f)(hr:uJ N p0 p1=some r):Calls prog 110 #[vP bp0 0,vT p1] w fun e w'=>∃m',eN m m' e (.tuple #[vT r.1,vB r.2]) (aC l c a::aC n k b::bZ bp0 a1 c1 l a2 c2 n p0::O) w':=by
 refine bP g func110 rfl ntmps110 fun q=>aI 2 [] (aF (aB (bG 4 12 27 11 0 (vS a1 p0.1 c1) g.t.t.h (aG 2 [(13,vI (p0.1.length:Int)),(14,vI 0)] (bB ?_)))));have⟨y,hr,K⟩:=aX hr;refine dW (.exit 0) (fun L' w'=>∃(M:Unit),∃p,(.inl M)=y/\L'=[]/\m.le p/\St p (bZ bp0 a1 c1 l a2 c2 n p0::aC l c a::aC n k b::O) w'/\RepS C1 p a1 c1 p0.1/\RepS aH p a2 c2 p0.e.1/\MapQ cQ C7 true p l c a p0.d.1/\MapQ bA C8 true p n k b p0.f) ?_ ?_
 .rintro _ o ⟨M,p,rfl,rfl,q,g,v,B,z,D⟩;have hr:=K;refine cX (aD (aI 2 [(4,vT eB),(5,vB false)] (aN ?_)));cases hr;exact aW [4,5] [vT eB,vB false] ⟨p,rfl,q,g.f2.f2⟩
 intro E;refine dL (fun F L' w'=>∃(s1:Int),∃o,aK (GH N p0 p1) F s1=some y/\L'=[(1,vT p1),(12,vS a1 p0.1 c1),(13,vI (p0.1.length:Int)),(14,vI s1)]/\m.le o/\St o (bZ bp0 a1 c1 l a2 c2 n p0::aC l c a::aC n k b::O) w'/\RepS C1 o a1 c1 p0.1/\RepS aH o a2 c2 p0.e.1/\MapQ cQ C7 true o l c a p0.d.1/\MapQ bA C8 true o n k b p0.f) N ⟨0,m,hr,rfl,q,g.f1.f1.f2,v,B,z,D⟩ ?_;rintro F _ Z ⟨s1,o,hL,rfl,q,g,v,B,z,D⟩;obtain⟨F,U,rfl,hr,G,x⟩:=dQ hL;refine aI 1 [(15,vB (decide (s1<(p0.1.length:Int))))] (aF (aJ hr ?_ ?_))<;>intro A hr
 .refine aO (aD (aF (bB (aB (iJ 16 v hr ?_)))));rintro u hr V R S ⟨_,_,rfl,rfl,rfl⟩ H;refine iI 17 75 16 R (.agg (V2 u)) g H (cD 7 75 (.agg #[vT eB,vT eB]) g fun Y w3 g=>bJ (.agg (V2 u)) g fun w4 g=>aQ (aB (bG 1 19 9 18 0 (vT u.1) g.h (aG 2 [(21,vB (u.1.toList==p1.toList))] (aJ hr ?_ ?_)))))<;>intro A hr
  .refine aB (bG 1 23 9 22 1 (vT u.2) g.h (aG 2 [(4,vT u.2),(5,vB true)] (aN (bM (aU ?_)))));have ho:=x _ (sI hr);subst ho;have hr:=K;refine aU (bM (aU ?_));cases hr;exact aW [4,5] [vT u.2,vB true] ⟨o,rfl,q,g.t.f2.f2⟩
  refine aO (bT (aD (aY (aA 2 [(14,vI (wr (s1+1)))] (aV ?_)))));have hL:=G _ (sI hr);exact cZ ⟨wr (s1+1),o,hL,rfl,q,g.t.f2.f2.f2,v,B,z,D⟩
 refine cS (bF ?_);have ho:=x _ (sI hr);have g:=g.f2.f2.f2;refine bF ?_;exact xE (E _ _ ⟨(),o,ho,rfl,q,g,v,B,z,D⟩)
def GW(N:Nat)(p0:sM)(p1:BA):Option (Int×T3e):=
 (uJ N p0 p1).bind fun y1=>if y1.2=true then(some (1,((⟨#[]⟩:BA),(⟨#[]⟩:BA),0,(⟨#[]⟩:BA),0,0),[(4,p1,(⟨#[]⟩:BA))],0)) else((eQ 40 ([(4,p1,(⟨#[]⟩:BA))]) ([(3,p1,(⟨#[]⟩:BA))])).bind fun a=>(vV N p0 3 (⟨#[]⟩:BA) p1).bind fun b=>if(b.2.2.2.2.2==0)=true then(some (0,((⟨#[]⟩:BA),(⟨#[]⟩:BA),0,(⟨#[]⟩:BA),0,0),a,14)) else(if(decide (b.2.2.2.2.2>1))=true then(some (3,((⟨#[]⟩:BA),(⟨#[]⟩:BA),0,(⟨#[]⟩:BA),0,0),a,12)) else(some (2,b,a,0))))
theorem qIg{p0:sM}{p1:BA}{G D y H E z}{r:Int×T3e}(g:St m (aC G D y::aC H E z::bZ bp0 a1 c1 G a2 c2 H p0::O) w)(U:RepS C1 m a1 c1 p0.1)(V:MapQ cQ C7 true m G D y p0.d.1)(Y:RepS aH m a2 c2 p0.e.1)(Z:MapQ bA C8 true m H E z p0.f)(hr:GW N p0 p1=some r):Calls prog 109 #[vP bp0 0,vT p1] w fun e w'=>∃M R m',bX m m' e (.tuple #[vI r.1,.agg (Vd r.2.1),vS M r.d.1 R,vI r.e]) (kR M r.d.1 R 72 3::aC G D y::aC H E z::bZ bp0 a1 c1 G a2 c2 H p0::O) w' (RepS C9 m' M R r.d.1):=by
 refine bP g func109 rfl ntmps109 fun q=>aT 1 [] (cD 5 58 (.agg dX) g fun b1 w1 g=>aG 2 [] (aB (aA 2 [(12,.agg #[vI 4,vT p1,vT eB])] (eO 13 72 1 C9 [(4,p1,eB)] g fun p m1 w2 c g r5=>aG 1 [(6,vS (aP p) ([(4,p1,eB)]) 1)] (aF (aT 2 [(15,vP bp0 0),(16,vT p1)] (aL 17 hr (VT g.f4.f4.f4 (U.o c) (V.o c) (Y.o c) (Z.o c)) ?_)))))));rintro y1 hr _ w3 ⟨m2,rfl,n,g⟩;refine aG 5 [(9,vB y1.2)] (aB (aG 1 [(20,vB y1.2)] (aJ hr ?_ ?_)))<;>intro A hr
 .refine aT 3 [(21,.agg dX),(22,vS (aP p) ([(4,p1,eB)]) 1),(4,vI 1)] (bJ (.agg dX) g.f4 fun a g=>aG 2 [(6,vS (aP p) ([(4,p1,eB)]) 1),(7,vI 0)] (aN (aU ?_)));obtain rfl:=sI hr;exact oR [.tmp 4,.cell 5 58,.tmp 6,.tmp 7] [vI 1,.agg dX,vS (aP p) ([(4,p1,eB)]) 1,vI 0] rfl (ResAll.cons (ResAt.tmp kr) (ResAll.cons (ResAt.blk (v:= .agg dX) (o:=0) kr g.h kr) (ResAll.cons (ResAt.tmp kr) (ResAll.cons (ResAt.tmp kr) ResAll.nil)))) ⟨(aP p),1,m2,rfl,(q.t c).t n,g.t.f2.f2.f2.f3,r5.o n⟩
 refine aO (aD (aT 3 [(23,vS (aP p) ([(4,p1,eB)]) 1),(25,.agg #[vI 3,vT p1,vT eB])] (eO 26 72 1 C9 [(3,p1,eB)] g fun b3 m3 w5 u g r6=>nK 27 42 42 72 40 23 26 g.f4 (.inl kr) ((r5.o n).o u) r6.src hr fun k hr a b m4 w6 B g K=>aA 1 [(6,vS a k b)] (aV ?_))));have g:=g.f1.t;refine aD (aT 2 [(28,vP bp0 0),(29,vT p1)] (aL 30 hr (GF g.f3.f3.f3 ((((U.o c).o n).o u).o B) ((((V.o c).o n).o u).o B) ((((Y.o c).o n).o u).o B) ((((Z.o c).o n).o u).o B)) ?_));rintro l hr _ w7 ⟨x,rfl,S,g⟩;have q:=((((q.t c).t n).t u).t B).t S;have K:=K.o S;refine cD 10 58 (.agg dX) g fun b4 w8 g=>bJ (.agg (Vd l)) g fun w9 g=>aQ (aF (bB (aB (bG 1 33 3 32 5 (vI l.h) g.h (aG 2 [(31,vB (l.h==0))] (aJ hr ?_ ?_))))))<;>intro A hr
 .refine aT 3 [(35,.agg dX),(36,vS a k b),(4,vI 0)] (bJ (.agg dX) g.f5 fun F g=>aG 2 [(6,vS a k b),(7,vI 14)] (aN (bM (aU ?_))));obtain rfl:=sI hr;exact oR [.tmp 4,.cell 5 58,.tmp 6,.tmp 7] [vI 0,.agg dX,vS a k b,vI 14] rfl (ResAll.cons (ResAt.tmp kr) (ResAll.cons (ResAt.blk (v:= .agg dX) (o:=0) kr g.h kr) (ResAll.cons (ResAt.tmp kr) (ResAll.cons (ResAt.tmp kr) ResAll.nil)))) ⟨a,b,x,rfl,q,g.t.t.f2.f2.f2.f3,K⟩
 refine aB (bG 1 39 3 38 5 (vI l.h) g.h (aG 2 [(37,vB (decide (l.h>1)))] (aJ hr ?_ ?_)))<;>intro A hr
 .refine aT 3 [(41,.agg dX),(42,vS a k b),(4,vI 3)] (bJ (.agg dX) g.f5 fun F g=>aG 2 [(6,vS a k b),(7,vI 12)] (aN (bM (aU ?_))));obtain rfl:=sI hr;exact oR [.tmp 4,.cell 5 58,.tmp 6,.tmp 7] [vI 3,.agg dX,vS a k b,vI 12] rfl (ResAll.cons (ResAt.tmp kr) (ResAll.cons (ResAt.blk (v:= .agg dX) (o:=0) kr g.h kr) (ResAll.cons (ResAt.tmp kr) (ResAll.cons (ResAt.tmp kr) ResAll.nil)))) ⟨a,b,x,rfl,q,g.t.t.f2.f2.f2.f3,K⟩
 refine aO (bT (aD (aF (dN [(6,fun w'=>Inv x w'/\Piece.holds x w' (kB b4 (Vd l) 58)/\True)] kr g fun b0 _ g=> ?_))));have F:=x.le_refl;refine⟨bN (aS g F),cV 0 43 (.agg (Vd l)) cY (cE 2 [(1,44,vS a k b),(2,4,vI 2)] (aZ 3 kr (iU 58 5 43 (.agg (Vd l)) g.f5 fun b5 g=>⟨bN (aS g F),cE 2 [(4,6,vS a k b),(5,7,vI 0)] (cO kr (aD (aN ?_)))⟩)))⟩;obtain rfl:=sI hr;exact oR [.tmp 4,.cell 5 58,.tmp 6,.tmp 7] [vI 2,.agg (Vd l),vS a k b,vI 0] rfl (ResAll.cons (ResAt.tmp kr) (ResAll.cons (ResAt.blk (v:= .agg (Vd l)) (o:=0) kr g.h kr) (ResAll.cons (ResAt.tmp kr) (ResAll.cons (ResAt.tmp kr) ResAll.nil)))) ⟨a,b,x,rfl,q,g.t.t.f2.f2.f2.f3,K⟩
def vQ(N:Nat)(p0:cR)(p1:BA):Option (wT×Bool×iG×Tm):=
 (GW N p0.1 p1).bind fun y1=>(pR N (p0.1,p0.2.1,p0.2.2.1,p0.2.2.2.1,p0.2.2.2.2.1,p0.2.2.2.2.2.1,p0.2.2.2.2.2.2.1,p0.2.2.2.2.2.2.2) y1.2.2.1).bind fun b=>(uJ N p0.1 p1).bind fun a=>some (b,!a.2,y1.2.1,a.1,y1.2.2.2)
theorem OY{p0:cR}{p1:BA}{b F A u G B x p M K H D y}{r:wT×Bool×iG×Tm}(g:St m (aC F A u::aC G B x::bZ b a1 c1 F a2 c2 G p0.1::aC p M K::aC H D y::lQ bp0 b a3 c3 p H p0::O) w)(Y:RepS C1 m a1 c1 p0.1.1)(Z:MapQ cQ C7 true m F A u p0.1.d.1)(r3:RepS aH m a2 c2 p0.1.e.1)(r4:MapQ bA C8 true m G B x p0.1.f)(r5:RepS C3 m a3 c3 p0.2.1)(r6:MapQ bA cH false m p M K p0.e.1)(r7:MapQ cJ eC false m H D y p0.k)(hr:vQ N p0 p1=some r):Calls prog 81 #[vP bp0 0,vT p1] w fun e w'=>∃R S m',bX m m' e (.tuple #[vB r.2.1,.agg (Vd r.d.1),vT r.e.1,vI r.f]) (aC F A u::aC G B x::bZ b a1 c1 F a2 c2 G p0.1::aC p R S::aC H D y::dV bp0 b a3 c3 p H p0 r.1.2.1 r.1.d.1 r.1.e::O) w' (MapQ bA cH false m' p R S r.1.1):=by
 refine bP g func81 rfl ntmps81 fun q=>aT 1 [] (cD 5 58 (.agg dX) g fun b1 w1 g=>aG 2 [] (aB (bG 3 15 59 14 0 (vP b 0) g.t.t.t.t.t.t.h (aA 1 [(16,vT p1)] (aL 17 hr (qIg g.f3.f3.f3 Y Z r3 r4) ?_)))));rintro y1 hr _ w2 ⟨U,V,m1,rfl,a,g,r8⟩;refine aA 6 [(19,.agg (Vd y1.2.1)),(20,vS U y1.d.1 V),(21,vI y1.e)] (bJ (.agg (Vd y1.2.1)) g.f4 fun w3 g=>aG 2 [(9,vS U y1.d.1 V),(7,vI y1.e)] (aB (aA 2 [(22,vP bp0 0),(23,vS U y1.d.1 V)] (aL 24 hr (BG (p0:=p0) g.f7.f7.f7.f7.f7.f7 (Y.o a) (Z.o a) (r3.o a) (r4.o a) (r5.o a) (r6.o a) (r7.o a) r8) ?_))));rintro y2 hr _ w4 ⟨b2,b0,m2,rfl,z,g,r9⟩;refine aV ?_;have g:=g.f7.t;refine aD (aB (bG 3 29 59 28 0 (vP b 0) g.t.t.t.t.t.h (aA 1 [(30,vT p1)] (aL 31 hr (VT g.f2.f2.f2 ((Y.o a).o z) ((Z.o a).o z) ((r3.o a).o z) ((r4.o a).o z)) ?_))));rintro c hr _ w5 ⟨E,rfl,e3,g⟩;refine aG 5 [(6,vT c.1),(10,vB c.2)] (aF (dN [(9,fun w'=>Inv E w'/\True),(6,fun w'=>Inv E w'/\Piece.holds E w' (kB b1 (Vd y1.2.1) 58)/\True)] kr g fun w6 _ g=> ?_));have l:=E.le_refl
 refine⟨eY (aS g l) (aS g l),cE 2 [(0,34,vB c.2),(1,35,vB (!c.2))] (pE 58 5 2 36 0 (.agg (Vd y1.2.1)) (.tail _ (.head _)) cY (cE 3 [(3,37,vT c.1),(4,38,vI y1.e),(5,4,vB (!c.2))] (aZ 6 kr (iU 58 5 36 (.agg (Vd y1.2.1)) g.f6 fun w7 g=>⟨pJ (aS g l),cE 2 [(7,6,vT c.1),(8,7,vI y1.e)] (cO kr (aD (aN ?_)))⟩))))⟩;obtain rfl:=sI hr;exact oR [.tmp 4,.cell 5 58,.tmp 6,.tmp 7] [vB (!c.2),.agg (Vd y1.2.1),vT c.1,vI y1.e] rfl (ResAll.cons (ResAt.tmp kr) (ResAll.cons (ResAt.blk (v:= .agg (Vd y1.2.1)) (o:=0) kr g.h kr) (ResAll.cons (ResAt.tmp kr) (ResAll.cons (ResAt.tmp kr) ResAll.nil)))) ⟨b2,b0,E,rfl,((q.t a).t z).t e3,g.t.f5.f5.f5.f5.f5.f5,r9.o e3⟩
def BR(N:Nat)(p0:cR)(p1:dR)(p2:eA):eF:=
 (vQ N (p0.1,p0.2.1,p0.2.2.1,p0.2.2.2.1,p0.2.2.2.2.1,p0.2.2.2.2.2.1,p0.2.2.2.2.2.2.1,p0.2.2.2.2.2.2.2) p2.2.2.2.1).bind fun y1=>(CM N y1.2.2.2.2).bind fun a=>(match a with| .inl a=>some (.inl (a,y1.1))| .inr a=>if y1.2.1=true then(some (.inr (y1.1,1))) else(some (.inr (y1.1,(ByteArray.size y1.2.2.2.1:Int)))))
theorem qGt{p0:cR}{p1:dR}{p2:eA}{a u E z x F B b Y V y G D r}(g:St m (aC u E z::aC x F B::bZ a a1 c1 u a2 c2 x p0.1::aC b Y V::aC y G D::lQ bp0 a a3 c3 b y p0::O) w)(r1:RepS C1 m a1 c1 p0.1.1)(r2:MapQ cQ C7 true m u E z p0.1.d.1)(r3:RepS aH m a2 c2 p0.1.e.1)(r4:MapQ bA C8 true m x F B p0.1.f)(r5:RepS C3 m a3 c3 p0.2.1)(r6:MapQ bA cH false m b Y V p0.e.1)(r7:MapQ cJ eC false m y G D p0.k)(r8:RepS aH m a4 c4 p1.1.2.1)(r9:RepS C6 m a5 c5 p1.1.d)(b5:RepS aH m a6 c6 p1.2.1.d.1)(b6:RepS C5 m a7 c7 p1.2.1.e)(b7:RepS (aR .i64) m a8 c8 p1.d)(b8:RepS (aR .i64) m a9 c9 p2.f)(hr:BR N p0 p1 p2=some r):Calls prog 51 #[vP bp0 0,.agg (iK p1 a4 c4 a5 c5 a6 c6 a7 c7 a8 c8),.agg (V9 p2 a9 c9)] w fun e w'=>(∃(K:mQ),∃o p m',r= .inl K/\nB 158 m m' e K.1 (aC u E z::aC x F B::bZ a a1 c1 u a2 c2 x p0.1::aC b o p::aC y G D::dV bp0 a a3 c3 b y p0 K.d.1 K.e.1 K.f::O) w' (MapQ bA cH false m' b o p K.2.1))\/(∃(H:mS),r= .inr H/\∃o p m',bX m m' e (vI H.2) (aC u E z::aC x F B::bZ a a1 c1 u a2 c2 x p0.1::aC b o p::aC y G D::dV bp0 a a3 c3 b y p0 H.1.2.1 H.1.d.1 H.1.e::O) w' (MapQ bA cH false m' b o p H.1.1)):=by
 refine bP g func51 rfl ntmps51 fun q=>aB (eE 4 143 (.agg (iK p1 a4 c4 a5 c5 a6 c6 a7 c7 a8 c8)) g fun b1 m1 w1 c g b4=>eE 5 145 (.agg (V9 p2 a9 c9)) g fun b2 m2 w2 l g b0=>aG 1 [] (aB (aA 2 [(12,vP bp0 0),(13,vP b2 3)] (cL 14 (vT p2.e.1) g (b0.drop 3) (aL 15 hr (OY (p0:=p0) g.f5.f5.f5.f5.f5.f5 ((r1.o c).o l) ((r2.o c).o l) ((r3.o c).o l) ((r4.o c).o l) ((r5.o c).o l) ((r6.o c).o l) ((r7.o c).o l)) ?_)))));rintro y1 hr _ w3 ⟨R,M,m3,rfl,e3,g,S⟩;have q:=((q.t c).t l).t e3;refine aA 5 [(16,vB y1.2.1),(17,.agg (Vd y1.d.1)),(18,vT y1.e.1),(19,vI y1.f)] (cD 8 58 (.agg dX) g fun b3 w4 g=>aA 1 [(7,vB y1.2.1)] (bJ (.agg (Vd y1.d.1)) g fun w5 g=>aG 2 [(9,vT y1.e.1),(10,vI y1.f)] (aB (aA 1 [(20,vI y1.f)] (cW 21 hr (MB g) ?_)))));rintro y2 hr _ w6 (⟨z1,m5,rfl,rfl,Z,g⟩|⟨y3,rfl,m4,rfl,U,g⟩)
 .refine bO ?_;obtain rfl:=sI hr;have g:=g.t.f5.f5.f5.f5.f5.f5;exact cM (.inl ⟨(z1,y1.1),R,M,m5,rfl,rfl,q.t Z,g,S.o Z⟩)
 refine aQ (aF (aI 1 [(22,vB y1.2.1)] (aJ hr ?_ ?_)))<;>intro A hr
 .refine aI 1 [(6,vI 1)] (aN (aU ?_));cases hr;exact aW [6] [vI 1] (.inr ⟨_,rfl,R,M,m4,rfl,q.t U,g.t.f5.f5.f5.f5.f5.f5,S.o U⟩)
 refine aO (aD (aI 3 [(6,vI (y1.2.2.2.1.size:Int))] (aN ?_)));cases hr;exact aW [6] [vI (y1.2.2.2.1.size:Int)] (.inr ⟨_,rfl,R,M,m4,rfl,q.t U,g.t.f5.f5.f5.f5.f5.f5,S.o U⟩)
def BX(N:Nat)(p0:cR)(p1:dR)(p2:eA):eF:=
 (vQ N (p0.1,p0.2.1,p0.2.2.1,p0.2.2.2.1,p0.2.2.2.2.1,p0.2.2.2.2.2.1,p0.2.2.2.2.2.2.1,p0.2.2.2.2.2.2.2) p2.2.2.2.1).bind fun y1=>(GX N (y1.2.2.2.2 !=14)).bind fun a=>some (.inr (y1.1,a))
theorem qGy{p0:cR}{p1:dR}{p2:eA}{a u D z x E A b M K y F B r}(g:St m (aC u D z::aC x E A::bZ a a1 c1 u a2 c2 x p0.1::aC b M K::aC y F B::lQ bp0 a a3 c3 b y p0::O) w)(r1:RepS C1 m a1 c1 p0.1.1)(r2:MapQ cQ C7 true m u D z p0.1.d.1)(r3:RepS aH m a2 c2 p0.1.e.1)(r4:MapQ bA C8 true m x E A p0.1.f)(r5:RepS C3 m a3 c3 p0.2.1)(r6:MapQ bA cH false m b M K p0.e.1)(r7:MapQ cJ eC false m y F B p0.k)(r8:RepS aH m a4 c4 p1.1.2.1)(r9:RepS C6 m a5 c5 p1.1.d)(b4:RepS aH m a6 c6 p1.2.1.d.1)(b5:RepS C5 m a7 c7 p1.2.1.e)(b6:RepS (aR .i64) m a8 c8 p1.d)(b7:RepS (aR .i64) m a9 c9 p2.f)(hr:BX N p0 p1 p2=some r):Calls prog 52 #[vP bp0 0,.agg (iK p1 a4 c4 a5 c5 a6 c6 a7 c7 a8 c8),.agg (V9 p2 a9 c9)] w fun e w'=>(∃(H:mQ),∃o p m',r= .inl H/\nB 158 m m' e H.1 (aC u D z::aC x E A::bZ a a1 c1 u a2 c2 x p0.1::aC b o p::aC y F B::dV bp0 a a3 c3 b y p0 H.d.1 H.e.1 H.f::O) w' (MapQ bA cH false m' b o p H.2.1))\/(∃(G:mS),r= .inr G/\∃o p m',bX m m' e (vI G.2) (aC u D z::aC x E A::bZ a a1 c1 u a2 c2 x p0.1::aC b o p::aC y F B::dV bp0 a a3 c3 b y p0 G.1.2.1 G.1.d.1 G.1.e::O) w' (MapQ bA cH false m' b o p G.1.1)):=by
 refine bP g func52 rfl ntmps52 fun q=>aB (eE 4 143 (.agg (iK p1 a4 c4 a5 c5 a6 c6 a7 c7 a8 c8)) g fun b1 m1 w1 c g b0=>eE 5 145 (.agg (V9 p2 a9 c9)) g fun b2 m2 w2 l g V=>aG 1 [] (aB (aA 2 [(12,vP bp0 0),(13,vP b2 3)] (cL 14 (vT p2.e.1) g (V.drop 3) (aL 15 hr (OY (p0:=p0) g.f5.f5.f5.f5.f5.f5 ((r1.o c).o l) ((r2.o c).o l) ((r3.o c).o l) ((r4.o c).o l) ((r5.o c).o l) ((r6.o c).o l) ((r7.o c).o l)) ?_)))));rintro y1 hr _ w3 ⟨U,R,m3,rfl,e3,g,Y⟩;refine aA 5 [(16,vB y1.2.1),(17,.agg (Vd y1.d.1)),(18,vT y1.e.1),(19,vI y1.f)] (cD 8 58 (.agg dX) g fun b3 w4 g=>aA 1 [] (bJ (.agg (Vd y1.d.1)) g fun w5 g=>aG 2 [(10,vI y1.f)] (aB (aA 2 [(21,vB (y1.f !=14))] (aL 22 hr (PT g) ?_)))));rintro Z hr _ w6 ⟨m4,rfl,S,g⟩;refine aG 1 [(6,vI Z)] (aN ?_);obtain rfl:=sI hr;exact aW [6] [vI Z] (.inr ⟨_,rfl,U,R,m4,rfl,(((q.t c).t l).t e3).t S,g.t.f5.f5.f5.f5.f5.f5,Y.o S⟩)
def CA(N:Nat)(p0:Tx)(p1:BA)(s1:Int):Option (Int⊕Unit⊕Int×Bool):=
 if(decide (s1<(List.length p0:Int)))=true then((bQ p0 s1).bind fun a=>if(a.1.toList==p1.toList)=true then(some (.inr (.inr ((a.2,true))))) else(some (.inl (IntKind.wrap .i64 (s1+1))))) else(some (.inr (.inl ())))
def GQ(N:Nat)(p0:Tx)(p1:BA):Option (Int×Bool):=
 (aK (CA N p0 p1) N 0).bind fun a=>(match a with| .inl a=>some (0,false)| .inr (z)=>some z)
theorem qHv{p0:Tx}{p1:BA}{r:Int×Bool}(g:St m (O) w)(n:RepS C3 m a1 c1 p0)(hr:GQ N p0 p1=some r):Calls prog 82 #[.agg #[vS a1 p0 c1],vT p1] w fun e w'=>∃m',eN m m' e (.tuple #[vI r.1,vB r.2]) (O) w':=by
 refine bP g func82 rfl ntmps82 fun q=>aB (eE 2 32 (.agg #[vS a1 p0 c1]) g fun y B H p g s=>aG 2 [] (aF (aT 1 [(8,vP y 0)] (cL 9 (vS a1 p0 c1) g s (aG 2 [(10,vI (p0.length:Int)),(11,vI 0)] (bB ?_))))));have⟨d,hr,v⟩:=aX hr;refine dW (.exit 0) (fun L' w'=>∃(x:Unit),∃l,(.inl x)=d/\L'=[]/\m.le l/\St l (O) w') ?_ ?_
 .rintro _ a ⟨x,l,rfl,rfl,q,g⟩;have hr:=v;refine cX (aD (aI 2 [(4,vI 0),(5,vB false)] (aN ?_)));cases hr;exact aW [4,5] [vI 0,vB false] ⟨l,rfl,q,g⟩
 intro f;refine dL (fun k L' w'=>∃(s1:Int),∃b,aK (CA N p0 p1) k s1=some d/\L'=[(1,vT p1),(9,vS a1 p0 c1),(10,vI (p0.length:Int)),(11,vI s1)]/\m.le b/\St b (O) w'/\RepS C3 b a1 c1 p0) N ⟨0,B,hr,rfl,q.t p,g,n.o p⟩ ?_;rintro k _ K ⟨s1,b,hL,rfl,q,g,n⟩;obtain⟨k,E,rfl,hr,o,c⟩:=dQ hL;refine aI 1 [(12,vB (decide (s1<(p0.length:Int))))] (aF (aJ hr ?_ ?_))<;>intro A hr
 .refine aO (aD (aF (bB (aB (iJ 13 n hr ?_)))));rintro a hr F z D ⟨_,_,rfl,rfl,rfl⟩ u;refine iI 14 89 13 z (.agg #[vT a.1,vI a.2]) g u (cD 7 89 (.agg #[vT eB,vI 0]) g fun G M g=>bJ (.agg #[vT a.1,vI a.2]) g fun R g=>aQ (aB (bG 1 16 9 15 0 (vT a.1) g.h (aG 2 [(18,vB (a.1.toList==p1.toList))] (aJ hr ?_ ?_)))))<;>intro A hr
  .refine aB (bG 1 20 3 19 1 (vI a.2) g.h (aG 2 [(4,vI a.2),(5,vB true)] (aN (bM (aU ?_)))));have ho:=c _ (sI hr);subst ho;have hr:=v;refine aU (bM (aU ?_));cases hr;exact aW [4,5] [vI a.2,vB true] ⟨b,rfl,q,g.t⟩
  refine aO (bT (aD (aY (aA 2 [(11,vI (wr (s1+1)))] (aV ?_)))));have hL:=o _ (sI hr);exact cZ ⟨wr (s1+1),b,hL,rfl,q,g.t,n⟩
 refine cS (bF ?_);have ho:=c _ (sI hr);refine bF ?_;exact xE (f _ _ ⟨(),b,ho,rfl,q,g⟩)
def AV(N:Nat)(p0:cR)(p1:dR)(p2:eA):eF:=
 (pR N (p0.1,p0.2.1,p0.2.2.1,p0.2.2.2.1,p0.2.2.2.2.1,p0.2.2.2.2.2.1,p0.2.2.2.2.2.2.1,p0.2.2.2.2.2.2.2) ([(5,p2.2.2.2.1,(⟨#[]⟩:BA))])).bind fun y1=>(GQ N p0.2.1 p2.2.2.2.1).bind fun a=>(tJ N (!a.2) 15).bind fun b=>(match b with| .inl b=>some (.inl (b,y1))| .inr b=>some (.inr (y1,a.1)))
theorem qFw{p0:cR}{p1:dR}{p2:eA}{a A G D B H E o Z V x K F r}(g:St m (aC A G D::aC B H E::bZ a a1 c1 A a2 c2 B p0.1::aC o Z V::aC x K F::lQ bp0 a a3 c3 o x p0::O) w)(r1:RepS C1 m a1 c1 p0.1.1)(r2:MapQ cQ C7 true m A G D p0.1.d.1)(r3:RepS aH m a2 c2 p0.1.e.1)(r4:MapQ bA C8 true m B H E p0.1.f)(r5:RepS C3 m a3 c3 p0.2.1)(r6:MapQ bA cH false m o Z V p0.e.1)(r7:MapQ cJ eC false m x K F p0.k)(r8:RepS aH m a4 c4 p1.1.2.1)(r9:RepS C6 m a5 c5 p1.1.d)(b8:RepS aH m a6 c6 p1.2.1.d.1)(b9:RepS C5 m a7 c7 p1.2.1.e)(c0:RepS (aR .i64) m a8 c8 p1.d)(d1:RepS (aR .i64) m a9 c9 p2.f)(hr:AV N p0 p1 p2=some r):Calls prog 53 #[vP bp0 0,.agg (iK p1 a4 c4 a5 c5 a6 c6 a7 c7 a8 c8),.agg (V9 p2 a9 c9)] w fun e w'=>(∃(R:mQ),∃y z m',r= .inl R/\nB 158 m m' e R.1 (aC A G D::aC B H E::bZ a a1 c1 A a2 c2 B p0.1::aC o y z::aC x K F::dV bp0 a a3 c3 o x p0 R.d.1 R.e.1 R.f::O) w' (MapQ bA cH false m' o y z R.2.1))\/(∃(M:mS),r= .inr M/\∃y z m',bX m m' e (vI M.2) (aC A G D::aC B H E::bZ a a1 c1 A a2 c2 B p0.1::aC o y z::aC x K F::dV bp0 a a3 c3 o x p0 M.1.2.1 M.1.d.1 M.1.e::O) w' (MapQ bA cH false m' o y z M.1.1)):=by
 refine bP g func53 rfl ntmps53 fun q=>aB (eE 4 143 (.agg (iK p1 a4 c4 a5 c5 a6 c6 a7 c7 a8 c8)) g fun b1 m1 w1 c g b7=>eE 5 145 (.agg (V9 p2 a9 c9)) g fun b2 m2 w2 l g b4=>aG 1 [] (aB (aA 2 [(9,vP bp0 0),(10,vP b2 3)] (cL 11 (vT p2.e.1) g (b4.drop 3) (aA 1 [(12,.agg #[vI 5,vT p2.e.1,vT eB])] (eO 13 72 1 C9 [(5,p2.e.1,eB)] g fun b3 m3 w3 b g b6=>aL 14 hr (BG (p0:=p0) g.f6.f6.f6.f6.f6.f6 (((r1.o c).o l).o b) (((r2.o c).o l).o b) (((r3.o c).o l).o b) (((r4.o c).o l).o b) (((r5.o c).o l).o b) (((r6.o c).o l).o b) (((r7.o c).o l).o b) b6) ?_))))));rintro y1 hr _ w4 ⟨b0,Y,m4,rfl,U,g,b5⟩;refine aV ?_;have g:=g.f6.t;refine aD (aF (dN [(12,fun w'=>Inv m4 w'/\Piece.holds m4 w' (dV bp0 a a3 c3 o x p0 y1.2.1 y1.d.1 y1.e)/\True)] kr g fun w5 _ g=> ?_));have p:=m4.le_refl;refine⟨bN (aS g p),cE 3 [(0,16,vP bp0 0),(1,17,vP bp0 0),(2,18,vP bp0 1)] (cV 3 19 (.agg #[vS a3 p0.2.1 c3]) cY (bK 4 20 (vP b2 3) (eD 5 21 (vT p2.e.1) (((b4.o b).o U).drop 3) (aZ 6 kr (eH 22 hr (fun _ h=>qHv g ((((r5.o c).o l).o b).o U) h) ?_)))))⟩;rintro u hr _ w6 ⟨m5,rfl,S,g⟩;refine⟨_,rfl,?_⟩;have p:=Mem.le_trans p S;refine⟨bN (aS g p),cE 5 [(7,15,.tuple #[vI u.1,vB u.2]),(8,23,vI u.1),(9,24,vB u.2),(10,7,vI u.1),(11,8,vB u.2)] (cO kr (aD (aT 2 [(26,vB (!u.2))] (cW 27 hr (vU g) ?_))))⟩
 rintro y3 hr _ w7 (⟨z1,m7,rfl,rfl,e7,g⟩|⟨y4,rfl,m6,rfl,e6,g⟩)
 .refine bO ?_;obtain rfl:=sI hr;have g:=g.f5.f5.f5.f5.f5.f5;exact cM (.inl ⟨(z1,y1),b0,Y,m7,rfl,rfl,(((((q.t c).t l).t b).t U).t S).t e7,g,(b5.o S).o e7⟩)
 refine aQ (aB (aG 2 [(6,vI u.1)] (aN ?_)));cases hr;exact aW [6] [vI u.1] (.inr ⟨_,rfl,b0,Y,m6,rfl,(((((q.t c).t l).t b).t U).t S).t e6,g.f5.f5.f5.f5.f5.f5,(b5.o S).o e6⟩)
def BS(N:Nat)(p0:cR)(p1:dR)(p2:eA):eF:=
 (wR .u64 p0.2.2.1 p2.2.1).bind fun a=>some (.inr ((p0.2.2.2.1,p0.2.2.2.2.1,p0.2.2.2.2.2.1,true),IntKind.wrap .i64 (yA .u64 a 1)))
theorem qGu{p0:cR}{p1:dR}{p2:eA}{a p D z u E A b M K c F B r}(g:St m (aC p D z::aC u E A::bZ a a1 c1 p a2 c2 u p0.1::aC b M K::aC c F B::lQ bp0 a a3 c3 b c p0::O) w)(r1:RepS C1 m a1 c1 p0.1.1)(r2:MapQ cQ C7 true m p D z p0.1.d.1)(r3:RepS aH m a2 c2 p0.1.e.1)(r4:MapQ bA C8 true m u E A p0.1.f)(r5:RepS C3 m a3 c3 p0.2.1)(r6:MapQ bA cH false m b M K p0.e.1)(r7:MapQ cJ eC false m c F B p0.k)(r8:RepS aH m a4 c4 p1.1.2.1)(r9:RepS C6 m a5 c5 p1.1.d)(b4:RepS aH m a6 c6 p1.2.1.d.1)(b5:RepS C5 m a7 c7 p1.2.1.e)(b6:RepS (aR .i64) m a8 c8 p1.d)(b7:RepS (aR .i64) m a9 c9 p2.f)(hr:BS N p0 p1 p2=some r):Calls prog 54 #[vP bp0 0,.agg (iK p1 a4 c4 a5 c5 a6 c6 a7 c7 a8 c8),.agg (V9 p2 a9 c9)] w fun e w'=>(∃(H:mQ),∃l o m',r= .inl H/\nB 158 m m' e H.1 (aC p D z::aC u E A::bZ a a1 c1 p a2 c2 u p0.1::aC b l o::aC c F B::dV bp0 a a3 c3 b c p0 H.d.1 H.e.1 H.f::O) w' (MapQ bA cH false m' b l o H.2.1))\/(∃(G:mS),r= .inr G/\∃l o m',bX m m' e (vI G.2) (aC p D z::aC u E A::bZ a a1 c1 p a2 c2 u p0.1::aC b l o::aC c F B::dV bp0 a a3 c3 b c p0 G.1.2.1 G.1.d.1 G.1.e::O) w' (MapQ bA cH false m' b l o G.1.1)):=by
 refine bP g func54 rfl ntmps54 fun q=>aB (eE 4 143 (.agg (iK p1 a4 c4 a5 c5 a6 c6 a7 c7 a8 c8)) g fun b1 m1 w1 V g b3=>eE 5 145 (.agg (V9 p2 a9 c9)) g fun b2 U w2 Y g Z=>aG 1 [] (aB (aA 3 [(9,vP bp0 6)] (iH #[vP a 0,vS a3 p0.2.1 c3,.int .u64 p0.d.1,.map b,vI p0.f.1,vI p0.h.1,vB true,.map c] g.f5 fun w3 g=>aQ (aF (dN [(10,fun w'=>Inv U w'/\Piece.holds U w' (dV bp0 a a3 c3 b c p0 p0.f.1 p0.h.1 true)/\True)] kr g fun w4 _ g=> ?_))))));have R:=U.le_refl;refine⟨bN (aS g R),cE 3 [(0,10,vP bp0 0),(1,11,vP bp0 0),(2,12,vP bp0 2)] (cV 3 13 (.int .u64 p0.d.1) cY (bK 4 14 (vP b2 1) (eD 5 15 (vI p2.2.1) (Z.drop 1) ?_)))⟩;have⟨S,b0,hr⟩:=aX hr;refine aZ 6 kr (qRg (d:=16) (t:=23) (t2:=3) (x:=(.tmp 13)) (y:=(.tmp 15)) kr rfl (ev (.int .u64 p0.d.1)) (ev (vI p2.2.1)) b0 ⟨bN (aS g R),cE 3 [(7,17,.int .u64 (yA .u64 S 1)),(8,18,vI (wr (yA .u64 S 1))),(9,6,vI (wr (yA .u64 S 1)))] (cO kr (aD (aN ?_)))⟩);obtain rfl:=sI hr;exact aW [6] [vI (wr (yA .u64 S 1))] (.inr ⟨_,rfl,M,K,U,rfl,(q.t V).t Y,g.f5.f5.f5.f5.f5,(r6.o V).o Y⟩)
end
section
open Go Go.Dc Go.Proofs.Tryz
set_option maxHeartbeats 4000000
set_option maxRecDepth 100000
variable {N bp0 c1 c2 c3 c4 c5 c6 c7 c8 c9:Nat} {m:Mem} {O:List Piece} {w:World} {a1 a2 a3 a4 a5 a6 a7 a8 a9:Option Addr}
def KU(N:Nat)(Re:cR->dR->(Int)->eF)(Rf:cR->iG->Tb->eF)(Rg:cR->dR->eA->eF)(Rh:cR->dR->eA->eF)(Ri:cR->dR->eA->eF)(Rj:cR->dR->eA->eF)(p0:cR)(p1:dR)(p2:Int):eF:=
 (tJ N (p0.2.2.2.2.1==20000) 16).bind fun y1=>(match y1 with| .inl a=>some (.inl (a,(p0.2.2.2.1,p0.2.2.2.2.1,p0.2.2.2.2.2.1,p0.2.2.2.2.2.2.1)))| .inr a=>(bQ p1.2.1.2.2.2 p2).bind fun a=>(((bD p0.2.2.2.2.2.2.2 a.1).getD (none:dK))).bind fun b=>((if b=45 then KQ N (p0.1,p0.2.1,p0.2.2.1,p0.2.2.2.1,IntKind.wrap .i64 (p0.2.2.2.2.1+1),p0.2.2.2.2.2.1,p0.2.2.2.2.2.2.1,p0.2.2.2.2.2.2.2) (p1.1,p1.2.1,p1.2.2) a else(if b=46 then BQ N (p0.1,p0.2.1,p0.2.2.1,p0.2.2.2.1,IntKind.wrap .i64 (p0.2.2.2.2.1+1),p0.2.2.2.2.2.1,p0.2.2.2.2.2.2.1,p0.2.2.2.2.2.2.2) (p1.1,p1.2.1,p1.2.2) a else(if b=47 then Rg (p0.1,p0.2.1,p0.2.2.1,p0.2.2.2.1,IntKind.wrap .i64 (p0.2.2.2.2.1+1),p0.2.2.2.2.2.1,p0.2.2.2.2.2.2.1,p0.2.2.2.2.2.2.2) (p1.1,p1.2.1,p1.2.2) a else(if b=48 then Rh (p0.1,p0.2.1,p0.2.2.1,p0.2.2.2.1,IntKind.wrap .i64 (p0.2.2.2.2.1+1),p0.2.2.2.2.2.1,p0.2.2.2.2.2.2.1,p0.2.2.2.2.2.2.2) (p1.1,p1.2.1,p1.2.2) a else(if b=49 then Ri (p0.1,p0.2.1,p0.2.2.1,p0.2.2.2.1,IntKind.wrap .i64 (p0.2.2.2.2.1+1),p0.2.2.2.2.2.1,p0.2.2.2.2.2.2.1,p0.2.2.2.2.2.2.2) (p1.1,p1.2.1,p1.2.2) a else(if b=50 then Rj (p0.1,p0.2.1,p0.2.2.1,p0.2.2.2.1,IntKind.wrap .i64 (p0.2.2.2.2.1+1),p0.2.2.2.2.2.1,p0.2.2.2.2.2.2.1,p0.2.2.2.2.2.2.2) (p1.1,p1.2.1,p1.2.2) a else(if b=51 then BR N (p0.1,p0.2.1,p0.2.2.1,p0.2.2.2.1,IntKind.wrap .i64 (p0.2.2.2.2.1+1),p0.2.2.2.2.2.1,p0.2.2.2.2.2.2.1,p0.2.2.2.2.2.2.2) (p1.1,p1.2.1,p1.2.2) a else(if b=52 then BX N (p0.1,p0.2.1,p0.2.2.1,p0.2.2.2.1,IntKind.wrap .i64 (p0.2.2.2.2.1+1),p0.2.2.2.2.2.1,p0.2.2.2.2.2.2.1,p0.2.2.2.2.2.2.2) (p1.1,p1.2.1,p1.2.2) a else(if b=53 then AV N (p0.1,p0.2.1,p0.2.2.1,p0.2.2.2.1,IntKind.wrap .i64 (p0.2.2.2.2.1+1),p0.2.2.2.2.2.1,p0.2.2.2.2.2.2.1,p0.2.2.2.2.2.2.2) (p1.1,p1.2.1,p1.2.2) a else(if b=54 then BS N (p0.1,p0.2.1,p0.2.2.1,p0.2.2.2.1,IntKind.wrap .i64 (p0.2.2.2.2.1+1),p0.2.2.2.2.2.1,p0.2.2.2.2.2.2.1,p0.2.2.2.2.2.2.2) (p1.1,p1.2.1,p1.2.2) a else none)))))))))):eF).bind fun a=>(match a with| .inl a=>some (.inl (a.1,a.2))| .inr a=>some (.inr (a.1,a.2))))
def BH(N:Nat)(Re:cR->dR->(Int)->eF)(Rf:cR->iG->Tb->eF)(Rg:cR->dR->eA->eF)(Rh:cR->dR->eA->eF)(Ri:cR->dR->eA->eF)(Rj:cR->dR->eA->eF)(p0:cR)(p1:iG)(p2:Tb):eF:=
 (tJ N (p0.2.2.2.2.2.1==64) 17).bind fun y1=>(match y1 with| .inl a=>some (.inl (a,(p0.2.2.2.1,p0.2.2.2.2.1,p0.2.2.2.2.2.1,p0.2.2.2.2.2.2.1)))| .inr a=>(bQ (((bD p0.1.2.2.1 p1.2.2.2.1).getD ((⟨#[]⟩:BA),([]:T8),([]:eT))).2.2) p1.2.2.2.2.1).bind fun a=>(Re (p0.1,p0.2.1,p0.2.2.1,p0.2.2.2.1,p0.2.2.2.2.1,IntKind.wrap .i64 (p0.2.2.2.2.2.1+1),p0.2.2.2.2.2.2.1,p0.2.2.2.2.2.2.2) ((((bD p0.1.2.2.1 p1.2.2.2.1).getD ((⟨#[]⟩:BA),([]:T8),([]:eT))).1,((bD p0.1.2.2.1 p1.2.2.2.1).getD ((⟨#[]⟩:BA),([]:T8),([]:eT))).2.1,((bD p0.1.2.2.1 p1.2.2.2.1).getD ((⟨#[]⟩:BA),([]:T8),([]:eT))).2.2),a,p2) (IntKind.wrap .i64 ((List.length a.2.2.2:Int)-1))).bind fun a=>(match a with| .inl a=>some (.inl (a.1,a.2))| .inr a=>some (.inr ((a.1.1,a.1.2.1,IntKind.wrap .i64 (a.1.2.2.1-1),a.1.2.2.2),a.2))))
def tG(N:Nat)(Re:cR->dR->(Int)->eF)(p0:cR)(p1:dR)(p2:eA)(s1:T3g):Option (T3g⊕Tb×T3f⊕tZ):=
 if(decide (s1.2.1<(List.length p2.2.2.2.2:Int)))=true then((bQ p2.2.2.2.2 s1.2.1).bind fun a=>(Re (p0.1,p0.2.1,p0.2.2.1,s1.2.2.2.2.2,s1.2.2.1,s1.2.2.2.1,s1.2.2.2.2.1,p0.2.2.2.2.2.2.2) (p1.1,p1.2.1,p1.2.2) a).bind fun y5=>(match y5 with| .inl a=>some (.inr (.inr (.inl (a.1,a.2))))| .inr a=>(eQ 8 s1.1 ([a.2])).bind fun b=>some (.inl (b,IntKind.wrap .i64 (s1.2.1+1),a.1.2.1,a.1.2.2.1,a.1.2.2.2,a.1.1)))) else(some (.inr (.inl (s1.1,s1.2.2.1,s1.2.2.2.1,s1.2.2.2.2.1,s1.2.2.2.2.2))))
def KP(N:Nat)(Re:cR->dR->(Int)->eF)(Rf:cR->iG->Tb->eF)(Rg:cR->dR->eA->eF)(Rh:cR->dR->eA->eF)(Ri:cR->dR->eA->eF)(Rj:cR->dR->eA->eF)(p0:cR)(p1:dR)(p2:eA):eF:=
 (CJ N p0.1 p1.1 p2.2.2.2.1).bind fun y1=>(pR N (p0.1,p0.2.1,p0.2.2.1,p0.2.2.2.1,p0.2.2.2.2.1,p0.2.2.2.2.2.1,p0.2.2.2.2.2.2.1,p0.2.2.2.2.2.2.2) y1.2.1).bind fun a=>(CM N y1.2.2).bind fun b=>(match b with| .inl b=>some (.inl (b,a))| .inr b=>(aK (tG N Re p0 p1 p2) N (([]:Tb),0,a.2.1,a.2.2.1,a.2.2.2,a.1)).bind fun a=>(match a with| .inl a=>(bQ (((bD p0.1.2.2.1 y1.1.2.2.2.1).getD ((⟨#[]⟩:BA),([]:T8),([]:eT))).2.2) y1.1.2.2.2.2.1).bind fun b=>(tJ N ((List.length a.1:Int) !=(List.length b.2.2.1:Int)) 13).bind fun b=>(match b with| .inl b=>some (.inl (b,(a.2.2.2.2,a.2.1,a.2.2.1,a.2.2.2.1)))| .inr b=>(Rf (p0.1,p0.2.1,p0.2.2.1,a.2.2.2.2,a.2.1,a.2.2.1,a.2.2.2.1,p0.2.2.2.2.2.2.2) y1.1 a.1).bind fun a=>(match a with| .inl a=>some (.inl (a.1,a.2))| .inr a=>some (.inr (a.1,a.2))))| .inr (z)=>some z))
def xB(N:Nat)(Re:cR->dR->(Int)->eF)(Rf:cR->iG->Tb->eF)(Rg:cR->dR->eA->eF)(Rh:cR->dR->eA->eF)(Ri:cR->dR->eA->eF)(Rj:cR->dR->eA->eF)(p0:cR)(p1:dR)(p2:eA):eF:=
 (bQ p2.2.2.2.2 0).bind fun a=>(Re (p0.1,p0.2.1,p0.2.2.1,p0.2.2.2.1,p0.2.2.2.2.1,p0.2.2.2.2.2.1,p0.2.2.2.2.2.2.1,p0.2.2.2.2.2.2.2) (p1.1,p1.2.1,p1.2.2) a).bind fun y1=>(match y1 with| .inl a=>some (.inl (a.1,a.2))| .inr b=>(bQ p2.2.2.2.2 1).bind fun a=>(Re (p0.1,p0.2.1,p0.2.2.1,b.1.1,b.1.2.1,b.1.2.2.1,b.1.2.2.2,p0.2.2.2.2.2.2.2) (p1.1,p1.2.1,p1.2.2) a).bind fun a=>(match a with| .inl a=>some (.inl (a.1,a.2))| .inr a=>(if(p2.2.2.1==1)=true then(some (.inl (IntKind.wrap .i64 (b.2+a.2)))) else(if(p2.2.2.1==2)=true then(some (.inl (IntKind.wrap .i64 (b.2-a.2)))) else(if(p2.2.2.1==3)=true then((if(a.2 !=0)=true then((vF .i64 9007199254740992 (if(IntKind.wrap .i64 (0-a.2))>a.2 then(IntKind.wrap .i64 (0-a.2)) else a.2)).bind fun c=>some (decide ((if(IntKind.wrap .i64 (0-b.2))>b.2 then(IntKind.wrap .i64 (0-b.2)) else b.2)>c))) else(some false):Th).bind fun o2=>(tJ N o2 3).bind fun y5=>(match y5 with| .inl c=>some (.inr (.inl (c,a.1)))| .inr c=>some (.inl (IntKind.wrap .i64 (b.2*a.2))))) else((if(p2.2.2.1==4)=true then(some (p2.2.2.1==4)) else(some (p2.2.2.1==5)):Th).bind fun c=>if c=true then((tJ N (a.2==0) 4).bind fun c=>(match c with| .inl c=>some (.inr (.inl (c,a.1)))| .inr c=>(vF .i64 b.2 a.2).bind fun c=>if(p2.2.2.1==5)=true then((yB b.2 a.2).bind fun d=>some (.inl d)) else(some (.inl c)))) else(if(p2.2.2.1==6)=true then((GX N (decide (b.2<a.2))).bind fun c=>some (.inl c)) else((GX N (b.2==a.2)).bind fun b=>some (.inl b)))))):Option (Int⊕tZ)).bind fun b=>(match b with| .inl b=>(xI N b).bind fun c=>(tJ N (!c) 3).bind fun c=>(match c with| .inl c=>some (.inl (c,a.1))| .inr c=>some (.inr (a.1,b)))| .inr z=>some z)))
def BD(N:Nat)(Re:cR->dR->(Int)->eF)(Rf:cR->iG->Tb->eF)(Rg:cR->dR->eA->eF)(Rh:cR->dR->eA->eF)(Ri:cR->dR->eA->eF)(Rj:cR->dR->eA->eF)(p0:cR)(p1:dR)(p2:eA):eF:=
 (bQ p2.2.2.2.2 0).bind fun a=>(Re (p0.1,p0.2.1,p0.2.2.1,p0.2.2.2.1,p0.2.2.2.2.1,p0.2.2.2.2.2.1,p0.2.2.2.2.2.2.1,p0.2.2.2.2.2.2.2) (p1.1,p1.2.1,p1.2.2) a).bind fun y1=>(match y1 with| .inl a=>some (.inl (a.1,a.2))| .inr a=>if(a.2 !=0)=true then((bQ p2.2.2.2.2 1).bind fun b=>(Re (p0.1,p0.2.1,p0.2.2.1,a.1.1,a.1.2.1,a.1.2.2.1,a.1.2.2.2,p0.2.2.2.2.2.2.2) (p1.1,p1.2.1,p1.2.2) b).bind fun b=>(match b with| .inl b=>some (.inl (b.1,b.2))| .inr b=>some (.inr (b.1,b.2)))) else((bQ p2.2.2.2.2 2).bind fun b=>(Re (p0.1,p0.2.1,p0.2.2.1,a.1.1,a.1.2.1,a.1.2.2.1,a.1.2.2.2,p0.2.2.2.2.2.2.2) (p1.1,p1.2.1,p1.2.2) b).bind fun y5=>(match y5 with| .inl a=>some (.inl (a.1,a.2))| .inr a=>some (.inr (a.1,a.2)))))
def KT(N:Nat)(Re:cR->dR->(Int)->eF)(Rf:cR->iG->Tb->eF)(Rg:cR->dR->eA->eF)(Rh:cR->dR->eA->eF)(Ri:cR->dR->eA->eF)(Rj:cR->dR->eA->eF)(p0:cR)(p1:dR)(p2:eA):eF:=
 (vQ N (p0.1,p0.2.1,p0.2.2.1,p0.2.2.2.1,p0.2.2.2.2.1,p0.2.2.2.2.2.1,p0.2.2.2.2.2.2.1,p0.2.2.2.2.2.2.2) p2.2.2.2.1).bind fun y1=>(CM N y1.2.2.2.2).bind fun a=>(match a with| .inl a=>some (.inl (a,y1.1))| .inr a=>(if y1.2.1=true then(some 1) else(some (ByteArray.size y1.2.2.2.1:Int)):Ta).bind fun b=>(bQ p2.2.2.2.2 0).bind fun a=>(Re (p0.1,p0.2.1,p0.2.2.1,y1.1.1,y1.1.2.1,y1.1.2.2.1,y1.1.2.2.2,p0.2.2.2.2.2.2.2) (p1.1,p1.2.1,p1.2.2) a).bind fun a=>(match a with| .inl a=>some (.inl (a.1,a.2))| .inr y5=>(if(decide (y5.2<0))=true then(some true) else(some (decide (y5.2>=b))):Th).bind fun o2=>(tJ N o2 3).bind fun a=>(match a with| .inl a=>some (.inl (a,y5.1))| .inr a=>if(!y1.2.1)=true then((eX y1.2.2.2.1 y5.2).bind fun a=>some (.inr (y5.1,IntKind.wrap .i64 (a.toNat:Int)))) else((Rf (p0.1,p0.2.1,p0.2.2.1,y5.1.1,y5.1.2.1,y5.1.2.2.1,y5.1.2.2.2,p0.2.2.2.2.2.2.2) y1.2.2.1 ([]:Tb)).bind fun a=>(match a with| .inl a=>some (.inl (a.1,a.2))| .inr a=>some (.inr (a.1,Int.tmod (IntKind.wrap .i64 ((Int.tmod a.2 256)+256)) 256)))))))
def iC(N:Nat):Nat->(cR->dR->(Int)->eF)×(((((List (BA×BA)))×Bool×(Option (List (BA×(BA×List BA×(List (Int×BA×List BA×(List (Int×Int×Int×BA×List Int))))))))×List BA×(Option (List ((Int×BA×BA)×(BA×BA×Int×BA×Int×Int)))))×((List (BA×Int)))×Int×(Option (List ((Int×BA×BA)×Bool)))×Int×Int×Bool×(Option (List (Int×Option Nat))))->iG->Tb->eF)×(((((List (BA×BA)))×Bool×(Option (List (BA×(BA×List BA×(List (Int×BA×List BA×(List (Int×Int×Int×BA×List Int))))))))×List BA×(Option (List ((Int×BA×BA)×(BA×BA×Int×BA×Int×Int)))))×((List (BA×Int)))×Int×(Option (List ((Int×BA×BA)×Bool)))×Int×Int×Bool×(Option (List (Int×Option Nat))))->dR->eA->eF)×(((((List (BA×BA)))×Bool×(Option (List (BA×(BA×List BA×(List (Int×BA×List BA×(List (Int×Int×Int×BA×List Int))))))))×List BA×(Option (List ((Int×BA×BA)×(BA×BA×Int×BA×Int×Int)))))×((List (BA×Int)))×Int×(Option (List ((Int×BA×BA)×Bool)))×Int×Int×Bool×(Option (List (Int×Option Nat))))->dR->eA->eF)×(((((List (BA×BA)))×Bool×(Option (List (BA×(BA×List BA×(List (Int×BA×List BA×(List (Int×Int×Int×BA×List Int))))))))×List BA×(Option (List ((Int×BA×BA)×(BA×BA×Int×BA×Int×Int)))))×((List (BA×Int)))×Int×(Option (List ((Int×BA×BA)×Bool)))×Int×Int×Bool×(Option (List (Int×Option Nat))))->dR->eA->eF)×(((((List (BA×BA)))×Bool×(Option (List (BA×(BA×List BA×(List (Int×BA×List BA×(List (Int×Int×Int×BA×List Int))))))))×List BA×(Option (List ((Int×BA×BA)×(BA×BA×Int×BA×Int×Int)))))×((List (BA×Int)))×Int×(Option (List ((Int×BA×BA)×Bool)))×Int×Int×Bool×(Option (List (Int×Option Nat))))->dR->eA->eF)
 |0=>((fun _ _ _=>none),(fun _ _ _=>none),(fun _ _ _=>none),(fun _ _ _=>none),(fun _ _ _=>none),(fun _ _ _=>none))
 |D+1=>(KU N (iC N D).1 (iC N D).2.1 (iC N D).2.2.1 (iC N D).2.2.2.1 (iC N D).2.2.2.2.1 (iC N D).2.2.2.2.2,BH N (iC N D).1 (iC N D).2.1 (iC N D).2.2.1 (iC N D).2.2.2.1 (iC N D).2.2.2.2.1 (iC N D).2.2.2.2.2,KP N (iC N D).1 (iC N D).2.1 (iC N D).2.2.1 (iC N D).2.2.2.1 (iC N D).2.2.2.2.1 (iC N D).2.2.2.2.2,xB N (iC N D).1 (iC N D).2.1 (iC N D).2.2.1 (iC N D).2.2.2.1 (iC N D).2.2.2.2.1 (iC N D).2.2.2.2.2,BD N (iC N D).1 (iC N D).2.1 (iC N D).2.2.1 (iC N D).2.2.2.1 (iC N D).2.2.2.2.1 (iC N D).2.2.2.2.2,KT N (iC N D).1 (iC N D).2.1 (iC N D).2.2.1 (iC N D).2.2.2.1 (iC N D).2.2.2.2.1 (iC N D).2.2.2.2.2)
def BO(N:Nat)(p0:cR)(p1:iG)(p2:Tb):eF:=(iC N N).2.1 p0 p1 p2
abbrev BI(F:cR->dR->(Int)->eF):Prop:=∀{m O w} {p0:cR} {p1:dR} {p2:Int} {l a z D f t o A E h u p B G b d c k x q} {y:Option Addr} {S H U K V M Y R Z r} (g:St m (aC f t o::aC h u p::bZ a z D f A E h p0.1::aC b d c::aC k x q::lQ l a B G b k p0::O) w) (r1:RepS C1 m z D p0.1.1) (r2:MapQ cQ C7 true m f t o p0.1.2.2.1) (r3:RepS aH m A E p0.1.2.2.2.1) (r4:MapQ bA C8 true m h u p p0.1.2.2.2.2) (r5:RepS C3 m B G p0.2.1) (r6:MapQ bA cH false m b d c p0.2.2.2.1) (c:MapQ cJ eC false m k x q p0.2.2.2.2.2.2.2) (c:RepS aH m y S p1.1.2.1) (c:RepS C6 m H U p1.1.2.2) (c:RepS aH m K V p1.2.1.2.2.1) (c:RepS C5 m M Y p1.2.1.2.2.2) (c:RepS (aR .i64) m R Z p1.2.2) (hr:F p0 p1 p2=some r),Calls prog 77 #[vP l 0,.agg (iK p1 y S H U K V M Y R Z),vI p2] w fun e w'=>(∃(y:mQ),∃c d m',r= .inl y/\nB 158 m m' e y.1 (aC f t o::aC h u p::bZ a z D f A E h p0.1::aC b c d::aC k x q::dV l a B G b k p0 y.2.2.1 y.2.2.2.1 y.2.2.2.2::O) w' (MapQ bA cH false m' b c d y.2.1))\/(∃(y:mS),r= .inr y/\∃c d m',bX m m' e (vI y.2) (aC f t o::aC h u p::bZ a z D f A E h p0.1::aC b c d::aC k x q::dV l a B G b k p0 y.1.2.1 y.1.2.2.1 y.1.2.2.2::O) w' (MapQ bA cH false m' b c d y.1.1))
abbrev AW(F:cR->iG->Tb->eF):Prop:=∀{m O w} {p0:cR} {p1:iG} {p2:Tb} {l a z D f t o A E h u p B G b d c k x q} {y:Option Addr} {H r} (g:St m (aC f t o::aC h u p::bZ a z D f A E h p0.1::aC b d c::aC k x q::lQ l a B G b k p0::O) w) (K:RepS C1 m z D p0.1.1) (K:MapQ cQ C7 true m f t o p0.1.2.2.1) (K:RepS aH m A E p0.1.2.2.2.1) (K:MapQ bA C8 true m h u p p0.1.2.2.2.2) (K:RepS C3 m B G p0.2.1) (K:MapQ bA cH false m b d c p0.2.2.2.1) (c:MapQ cJ eC false m k x q p0.2.2.2.2.2.2.2) (c:RepS (aR .i64) m y H p2) (hr:F p0 p1 p2=some r),Calls prog 79 #[vP l 0,.agg (Vd p1),vS y p2 H] w fun e w'=>(∃(y:mQ),∃c d m',r= .inl y/\nB 158 m m' e y.1 (aC f t o::aC h u p::bZ a z D f A E h p0.1::aC b c d::aC k x q::dV l a B G b k p0 y.2.2.1 y.2.2.2.1 y.2.2.2.2::O) w' (MapQ bA cH false m' b c d y.2.1))\/(∃(y:mS),r= .inr y/\∃c d m',bX m m' e (vI y.2) (aC f t o::aC h u p::bZ a z D f A E h p0.1::aC b c d::aC k x q::dV l a B G b k p0 y.1.2.1 y.1.2.2.1 y.1.2.2.2::O) w' (MapQ bA cH false m' b c d y.1.1))
abbrev BF(F:cR->dR->eA->eF):Prop:=∀{m O w} {p0:cR} {p1:dR} {p2:eA} {l a z D f t o A E h u p B G b d c k x q} {y:Option Addr} {U H V K Y M Z R c8 S c9 r} (g:St m (aC f t o::aC h u p::bZ a z D f A E h p0.1::aC b d c::aC k x q::lQ l a B G b k p0::O) w) (r1:RepS C1 m z D p0.1.1) (r2:MapQ cQ C7 true m f t o p0.1.2.2.1) (r3:RepS aH m A E p0.1.2.2.2.1) (r4:MapQ bA C8 true m h u p p0.1.2.2.2.2) (r5:RepS C3 m B G p0.2.1) (r6:MapQ bA cH false m b d c p0.2.2.2.1) (c:MapQ cJ eC false m k x q p0.2.2.2.2.2.2.2) (c:RepS aH m y U p1.1.2.1) (c:RepS C6 m H V p1.1.2.2) (c:RepS aH m K Y p1.2.1.2.2.1) (c:RepS C5 m M Z p1.2.1.2.2.2) (c:RepS (aR .i64) m R c8 p1.2.2) (c:RepS (aR .i64) m S c9 p2.2.2.2.2) (hr:F p0 p1 p2=some r),Calls prog 47 #[vP l 0,.agg (iK p1 y U H V K Y M Z R c8),.agg (V9 p2 S c9)] w fun e w'=>(∃(y:mQ),∃c d m',r= .inl y/\nB 158 m m' e y.1 (aC f t o::aC h u p::bZ a z D f A E h p0.1::aC b c d::aC k x q::dV l a B G b k p0 y.2.2.1 y.2.2.2.1 y.2.2.2.2::O) w' (MapQ bA cH false m' b c d y.2.1))\/(∃(y:mS),r= .inr y/\∃c d m',bX m m' e (vI y.2) (aC f t o::aC h u p::bZ a z D f A E h p0.1::aC b c d::aC k x q::dV l a B G b k p0 y.1.2.1 y.1.2.2.1 y.1.2.2.2::O) w' (MapQ bA cH false m' b c d y.1.1))
abbrev AS(F:cR->dR->eA->eF):Prop:=∀{m O w} {p0:cR} {p1:dR} {p2:eA} {l a z D f t o A E h u p B G b d c k x q} {y:Option Addr} {U H V K Y M Z R c8 S c9 r} (g:St m (aC f t o::aC h u p::bZ a z D f A E h p0.1::aC b d c::aC k x q::lQ l a B G b k p0::O) w) (r1:RepS C1 m z D p0.1.1) (r2:MapQ cQ C7 true m f t o p0.1.2.2.1) (r3:RepS aH m A E p0.1.2.2.2.1) (r4:MapQ bA C8 true m h u p p0.1.2.2.2.2) (r5:RepS C3 m B G p0.2.1) (r6:MapQ bA cH false m b d c p0.2.2.2.1) (c:MapQ cJ eC false m k x q p0.2.2.2.2.2.2.2) (c:RepS aH m y U p1.1.2.1) (c:RepS C6 m H V p1.1.2.2) (c:RepS aH m K Y p1.2.1.2.2.1) (c:RepS C5 m M Z p1.2.1.2.2.2) (c:RepS (aR .i64) m R c8 p1.2.2) (c:RepS (aR .i64) m S c9 p2.2.2.2.2) (hr:F p0 p1 p2=some r),Calls prog 48 #[vP l 0,.agg (iK p1 y U H V K Y M Z R c8),.agg (V9 p2 S c9)] w fun e w'=>(∃(y:mQ),∃c d m',r= .inl y/\nB 158 m m' e y.1 (aC f t o::aC h u p::bZ a z D f A E h p0.1::aC b c d::aC k x q::dV l a B G b k p0 y.2.2.1 y.2.2.2.1 y.2.2.2.2::O) w' (MapQ bA cH false m' b c d y.2.1))\/(∃(y:mS),r= .inr y/\∃c d m',bX m m' e (vI y.2) (aC f t o::aC h u p::bZ a z D f A E h p0.1::aC b c d::aC k x q::dV l a B G b k p0 y.1.2.1 y.1.2.2.1 y.1.2.2.2::O) w' (MapQ bA cH false m' b c d y.1.1))
abbrev AT(F:cR->dR->eA->eF):Prop:=∀{m O w} {p0:cR} {p1:dR} {p2:eA} {l a z D f t o A E h u p B G b d c k x q} {y:Option Addr} {U H V K Y M Z R c8 S c9 r} (g:St m (aC f t o::aC h u p::bZ a z D f A E h p0.1::aC b d c::aC k x q::lQ l a B G b k p0::O) w) (r1:RepS C1 m z D p0.1.1) (r2:MapQ cQ C7 true m f t o p0.1.2.2.1) (r3:RepS aH m A E p0.1.2.2.2.1) (r4:MapQ bA C8 true m h u p p0.1.2.2.2.2) (r5:RepS C3 m B G p0.2.1) (r6:MapQ bA cH false m b d c p0.2.2.2.1) (c:MapQ cJ eC false m k x q p0.2.2.2.2.2.2.2) (c:RepS aH m y U p1.1.2.1) (c:RepS C6 m H V p1.1.2.2) (c:RepS aH m K Y p1.2.1.2.2.1) (c:RepS C5 m M Z p1.2.1.2.2.2) (c:RepS (aR .i64) m R c8 p1.2.2) (c:RepS (aR .i64) m S c9 p2.2.2.2.2) (hr:F p0 p1 p2=some r),Calls prog 49 #[vP l 0,.agg (iK p1 y U H V K Y M Z R c8),.agg (V9 p2 S c9)] w fun e w'=>(∃(y:mQ),∃c d m',r= .inl y/\nB 158 m m' e y.1 (aC f t o::aC h u p::bZ a z D f A E h p0.1::aC b c d::aC k x q::dV l a B G b k p0 y.2.2.1 y.2.2.2.1 y.2.2.2.2::O) w' (MapQ bA cH false m' b c d y.2.1))\/(∃(y:mS),r= .inr y/\∃c d m',bX m m' e (vI y.2) (aC f t o::aC h u p::bZ a z D f A E h p0.1::aC b c d::aC k x q::dV l a B G b k p0 y.1.2.1 y.1.2.2.1 y.1.2.2.2::O) w' (MapQ bA cH false m' b c d y.1.1))
abbrev BJ(F:cR->dR->eA->eF):Prop:=∀{m O w} {p0:cR} {p1:dR} {p2:eA} {l a z D f t o A E h u p B G b d c k x q} {y:Option Addr} {U H V K Y M Z R c8 S c9 r} (g:St m (aC f t o::aC h u p::bZ a z D f A E h p0.1::aC b d c::aC k x q::lQ l a B G b k p0::O) w) (r1:RepS C1 m z D p0.1.1) (r2:MapQ cQ C7 true m f t o p0.1.2.2.1) (r3:RepS aH m A E p0.1.2.2.2.1) (r4:MapQ bA C8 true m h u p p0.1.2.2.2.2) (r5:RepS C3 m B G p0.2.1) (r6:MapQ bA cH false m b d c p0.2.2.2.1) (c:MapQ cJ eC false m k x q p0.2.2.2.2.2.2.2) (c:RepS aH m y U p1.1.2.1) (c:RepS C6 m H V p1.1.2.2) (c:RepS aH m K Y p1.2.1.2.2.1) (c:RepS C5 m M Z p1.2.1.2.2.2) (c:RepS (aR .i64) m R c8 p1.2.2) (c:RepS (aR .i64) m S c9 p2.2.2.2.2) (hr:F p0 p1 p2=some r),Calls prog 50 #[vP l 0,.agg (iK p1 y U H V K Y M Z R c8),.agg (V9 p2 S c9)] w fun e w'=>(∃(y:mQ),∃c d m',r= .inl y/\nB 158 m m' e y.1 (aC f t o::aC h u p::bZ a z D f A E h p0.1::aC b c d::aC k x q::dV l a B G b k p0 y.2.2.1 y.2.2.2.1 y.2.2.2.2::O) w' (MapQ bA cH false m' b c d y.2.1))\/(∃(y:mS),r= .inr y/\∃c d m',bX m m' e (vI y.2) (aC f t o::aC h u p::bZ a z D f A E h p0.1::aC b c d::aC k x q::dV l a B G b k p0 y.1.2.1 y.1.2.2.1 y.1.2.2.2::O) w' (MapQ bA cH false m' b c d y.1.1))
theorem qGg{Re Rf Rg Rh Ri Rj}(b4:BI Re)(b0:AW Rf)(p:BF Rg)(b:AS Rh)(l:AT Ri)(u:BJ Rj){p0:cR}{p1:dR}{p2:Int}{R q1 c0 b7 q2 d1 b8 q3 d4 d3 q4 d2 b9 r}(g:St m (aC q1 c0 b7::aC q2 d1 b8::bZ R a1 c1 q1 a2 c2 q2 p0.1::aC q3 d4 d3::aC q4 d2 b9::lQ bp0 R a3 c3 q3 q4 p0::O) w)(S:RepS C1 m a1 c1 p0.1.1)(U:MapQ cQ C7 true m q1 c0 b7 p0.1.d.1)(V:RepS aH m a2 c2 p0.1.e.1)(Y:MapQ bA C8 true m q2 d1 b8 p0.1.f)(Z:RepS C3 m a3 c3 p0.2.1)(K:MapQ bA cH false m q3 d4 d3 p0.e.1)(M:MapQ cJ eC false m q4 d2 b9 p0.k)(r8:RepS aH m a4 c4 p1.1.2.1)(r9:RepS C6 m a5 c5 p1.1.d)(B:RepS aH m a6 c6 p1.2.1.d.1)(A:RepS C5 m a7 c7 p1.2.1.e)(D:RepS (aR .i64) m a8 c8 p1.d)(hr:KU N Re Rf Rg Rh Ri Rj p0 p1 p2=some r):Calls prog 77 #[vP bp0 0,.agg (iK p1 a4 c4 a5 c5 a6 c6 a7 c7 a8 c8),vI p2] w fun e w'=>(∃(z0:mQ),∃b5 b6 m',r= .inl z0/\nB 158 m m' e z0.1 (aC q1 c0 b7::aC q2 d1 b8::bZ R a1 c1 q1 a2 c2 q2 p0.1::aC q3 b5 b6::aC q4 d2 b9::dV bp0 R a3 c3 q3 q4 p0 z0.d.1 z0.e.1 z0.f::O) w' (MapQ bA cH false m' q3 b5 b6 z0.2.1))\/(∃(y0:mS),r= .inr y0/\∃b5 b6 m',bX m m' e (vI y0.2) (aC q1 c0 b7::aC q2 d1 b8::bZ R a1 c1 q1 a2 c2 q2 p0.1::aC q3 b5 b6::aC q4 d2 b9::dV bp0 R a3 c3 q3 q4 p0 y0.1.2.1 y0.1.d.1 y0.1.e::O) w' (MapQ bA cH false m' q3 b5 b6 y0.1.1)):=by
 refine bP g func77 rfl ntmps77 fun q=>aB (eE 4 143 (.agg (iK p1 a4 c4 a5 c5 a6 c6 a7 c7 a8 c8)) g fun b1 m1 w1 H g d5=> ?_);have q:=q.t H;refine aG 1 [] (aB (bG 3 11 3 10 4 (vI p0.f.1) g.t.t.t.t.t.h (aA 1 [(12,vB (p0.f.1==20000))] (cW 13 hr (vU g) ?_))));rintro y1 hr _ w2 (⟨z1,m3,rfl,rfl,e3,g⟩|⟨y2,rfl,m2,rfl,F,g⟩)
 .refine bO ?_;obtain rfl:=sI hr;have g:=g.f5.f5.f5.f5.f5.f5;exact cM (.inl ⟨(z1,(p0.e.1,p0.f.1,p0.h.1,p0.j.1)),d4,d3,m3,rfl,rfl,q.t e3,g,(K.o H).o e3⟩)
 have r8:=(r8.o H).o F;have r9:=(r9.o H).o F;have B:=(B.o H).o F;have A:=(A.o H).o F;have D:=(D.o H).o F;have U:=(U.o H).o F;have Y:=(Y.o H).o F;have S:=(S.o H).o F;have V:=(V.o H).o F;have K:=(K.o H).o F;have M:=(M.o H).o F;have Z:=(Z.o H).o F;refine aQ (aB (aA 3 [(14,vP bp0 0),(16,vP bp0 4)] (bC 17 (vI p0.f.1) g.t.t.t.t.t.h (aA 3 [(18,vI (wr (p0.f.1+1))),(20,vP bp0 4)] (iH #[vP R 0,vS a3 p0.2.1 c3,.int .u64 p0.d.1,.map q3,vI (wr (p0.f.1+1)),vI p0.h.1,vB p0.j.1,.map q4] g.f5 fun w4 g=>aQ (aB (aA 2 [(22,vP b1 6)] (cL 23 (vS a7 p1.2.1.e c7) g ((d5.o F).drop 6) (aA 1 [(24,vI p2)] (iJ 25 A hr ?_))))))))));rintro E hr b2 f1 e9 ⟨_,_,rfl,rfl,⟨_,_,rfl,rfl,⟨_,_,rfl,rfl,⟨_,_,rfl,rfl,⟨a9,c9,rfl,G⟩⟩⟩⟩⟩ e6;refine iI 26 145 25 f1 (.agg (V9 E a9 c9)) g e6 (cD 7 145 (.agg #[vI 0,vI 0,vI 0,vT eB,v6]) g fun b3 w5 g=>bJ (.agg (V9 E a9 c9)) g fun w6 g=>aQ (aF (dN [(12,fun w'=>Inv m2 w'/\Piece.holds m2 w' (kB b3 (V9 E a9 c9) 145)/\True),(10,fun w'=>Inv m2 w'/\Piece.holds m2 w' (dV bp0 R a3 c3 q3 q4 p0 (wr (p0.f.1+1)) p0.h.1 p0.j.1)/\True)] kr g fun w7 _ g=> ?_)));have o:=m2.le_refl
 refine⟨eY (aS g o) (aS g o),cE 4 [(0,27,vP bp0 0),(1,28,vP bp0 0),(2,29,vP bp0 7),(4,31,vP b3 0)] (cV 5 32 (vI E.1) cY (bK 7 34 (vP bp0 0) (eD 8 35 (.agg (iK p1 a4 c4 a5 c5 a6 c6 a7 c7 a8 c8)) (d5.o F) (cV 9 36 (.agg (V9 E a9 c9)) cY (aZ 3 kr (qTd 30 116 29 7 (.map q4) g.t.h ⟨eY (aS g o) (aS g o),aZ 6 kr (qU (ek:=cJ) (c:=eC) (agg:=false) (k:=E.1) (zx:=(none:dK)) (zcs:=[.nilFunc]) (z:= .nilFunc) (kt:=3) (et:=114) (d:=33) (t:=116) (x:=(.tmp 30)) (y:=(.tmp 32)) (ok:=false) kr rfl (ev (.map q4)) (ev (vI E.1)) kr (iR kr) g.t.t.t.t.t.t.h M rfl rfl ?_)⟩))))))⟩;rintro f0 rfl;refine⟨eY (aS g o) (aS g o),?_⟩;have⟨f2,e0,hr⟩:=aX hr;rw[e0];have g:=g.f1.f6.f6.f6.f6.f6;have⟨y3,a,hr⟩:=aX hr
 refine aZ 10 kr (qY 37 f2 #[vP bp0 0,.agg (iK p1 a4 c4 a5 c5 a6 c6 a7 c7 a8 c8),.agg (V9 E a9 c9)] (by(iterate 10 (rcases dynM a with rfl|a;exact kr));cases a) rfl ((vD a (fun a=>qGd (p0:=(p0.1,p0.2.1,p0.d.1,p0.e.1,wr (p0.f.1+1),p0.h.1,p0.j.1,p0.k)) (p1:=p1) (p2:=E) g S U V Y Z K M r8 r9 B A D G a) (fun a=>vD a (fun a=>qGp (p0:=(p0.1,p0.2.1,p0.d.1,p0.e.1,wr (p0.f.1+1),p0.h.1,p0.j.1,p0.k)) (p1:=p1) (p2:=E) g S U V Y Z K M r8 r9 B A D G a) (fun a=>vD a (fun a=>p (p0:=(p0.1,p0.2.1,p0.d.1,p0.e.1,wr (p0.f.1+1),p0.h.1,p0.j.1,p0.k)) (p1:=p1) (p2:=E) g S U V Y Z K M r8 r9 B A D G a) (fun a=>vD a (fun a=>b (p0:=(p0.1,p0.2.1,p0.d.1,p0.e.1,wr (p0.f.1+1),p0.h.1,p0.j.1,p0.k)) (p1:=p1) (p2:=E) g S U V Y Z K M r8 r9 B A D G a) (fun a=>vD a (fun a=>l (p0:=(p0.1,p0.2.1,p0.d.1,p0.e.1,wr (p0.f.1+1),p0.h.1,p0.j.1,p0.k)) (p1:=p1) (p2:=E) g S U V Y Z K M r8 r9 B A D G a) (fun a=>vD a (fun a=>u (p0:=(p0.1,p0.2.1,p0.d.1,p0.e.1,wr (p0.f.1+1),p0.h.1,p0.j.1,p0.k)) (p1:=p1) (p2:=E) g S U V Y Z K M r8 r9 B A D G a) (fun a=>vD a (fun a=>qGt (p0:=(p0.1,p0.2.1,p0.d.1,p0.e.1,wr (p0.f.1+1),p0.h.1,p0.j.1,p0.k)) (p1:=p1) (p2:=E) g S U V Y Z K M r8 r9 B A D G a) (fun a=>vD a (fun a=>qGy (p0:=(p0.1,p0.2.1,p0.d.1,p0.e.1,wr (p0.f.1+1),p0.h.1,p0.j.1,p0.k)) (p1:=p1) (p2:=E) g S U V Y Z K M r8 r9 B A D G a) (fun a=>vD a (fun a=>qFw (p0:=(p0.1,p0.2.1,p0.d.1,p0.e.1,wr (p0.f.1+1),p0.h.1,p0.j.1,p0.k)) (p1:=p1) (p2:=E) g S U V Y Z K M r8 r9 B A D G a) (fun a=>vD a (fun a=>qGu (p0:=(p0.1,p0.2.1,p0.d.1,p0.e.1,wr (p0.f.1+1),p0.h.1,p0.j.1,p0.k)) (p1:=p1) (p2:=E) g S U V Y Z K M r8 r9 B A D G a) (fun a=>(by cases a)))))))))))).mono ?_))
 rintro _ w8 (⟨z2,d9,d7,m5,rfl,rfl,e5,g,e8⟩|⟨y4,rfl,d8,d6,m4,rfl,e4,g,e7⟩)
 .refine .inr ⟨_,rfl,?_⟩;have o:=Mem.le_trans o e5;refine bO ?_;obtain rfl:=sI hr;have g:=g.f6.t.f5.f5.f5.f5.f5.f5;exact cM (.inl ⟨z2,d9,d7,m5,rfl,rfl,(q.t F).t e5,g,e8⟩)
 refine .inl ⟨_,rfl,?_⟩;have o:=Mem.le_trans o e4;refine⟨pJ (aS g o),bK 11 6 (vI y4.2) (cO kr (aD (aN ?_)))⟩;cases hr;exact aW [6] [vI y4.2] (.inr ⟨_,rfl,d8,d6,m4,rfl,(q.t F).t e4,g.f6.t.f5.f5.f5.f5.f5.f5,e7⟩)
theorem qFy{Re Rf Rg Rh Ri Rj}(a:BI Re)(F:AW Rf)(K:BF Rg)(D:AS Rh)(E:AT Ri)(M:BJ Rj){p0:cR}{p1:iG}{p2:Tb}{b R d1 b8 q2 d2 b9 B d7 d4 S d3 c0 r}(g:St m (aC R d1 b8::aC q2 d2 b9::bZ b a1 c1 R a2 c2 q2 p0.1::aC B d7 d4::aC S d3 c0::lQ bp0 b a3 c3 B S p0::O) w)(r1:RepS C1 m a1 c1 p0.1.1)(r2:MapQ cQ C7 true m R d1 b8 p0.1.d.1)(r3:RepS aH m a2 c2 p0.1.e.1)(r4:MapQ bA C8 true m q2 d2 b9 p0.1.f)(r5:RepS C3 m a3 c3 p0.2.1)(r6:MapQ bA cH false m B d7 d4 p0.e.1)(r7:MapQ cJ eC false m S d3 c0 p0.k)(r8:RepS (aR .i64) m a4 c4 p2)(hr:BH N Re Rf Rg Rh Ri Rj p0 p1 p2=some r):Calls prog 79 #[vP bp0 0,.agg (Vd p1),vS a4 p2 c4] w fun e w'=>(∃(z0:mQ),∃b6 b7 m',r= .inl z0/\nB 158 m m' e z0.1 (aC R d1 b8::aC q2 d2 b9::bZ b a1 c1 R a2 c2 q2 p0.1::aC B b6 b7::aC S d3 c0::dV bp0 b a3 c3 B S p0 z0.d.1 z0.e.1 z0.f::O) w' (MapQ bA cH false m' B b6 b7 z0.2.1))\/(∃(y0:mS),r= .inr y0/\∃b6 b7 m',bX m m' e (vI y0.2) (aC R d1 b8::aC q2 d2 b9::bZ b a1 c1 R a2 c2 q2 p0.1::aC B b6 b7::aC S d3 c0::dV bp0 b a3 c3 B S p0 y0.1.2.1 y0.1.d.1 y0.1.e::O) w' (MapQ bA cH false m' B b6 b7 y0.1.1)):=by
 refine bP g func79 rfl ntmps79 fun q=>aB (eE 4 58 (.agg (Vd p1)) g fun b1 m1 w1 u g b0=> ?_);have r6:=r6.o u;refine aG 1 [] (aB (bG 3 13 3 12 5 (vI p0.h.1) g.t.t.t.t.t.h (aA 1 [(14,vB (p0.h.1==64))] (cW 15 hr (vU g) ?_))));rintro y1 hr _ w2 (⟨z1,m3,rfl,rfl,e3,g⟩|⟨y2,rfl,m2,rfl,o,g⟩)
 .refine bO ?_;obtain rfl:=sI hr;have g:=g.f5.f5.f5.f5.f5.f5;exact cM (.inl ⟨(z1,(p0.e.1,p0.f.1,p0.h.1,p0.j.1)),d7,d4,m3,rfl,rfl,(q.t u).t e3,g,r6.o e3⟩)
 have q:=(q.t u).t o;have b0:=b0.o o;have r2:=(r2.o u).o o;refine aQ (aB (aA 3 [(16,vP bp0 0),(18,vP bp0 5)] (bC 19 (vI p0.h.1) g.t.t.t.t.t.h (aA 3 [(20,vI (wr (p0.h.1+1))),(22,vP bp0 5)] (iH #[vP b 0,vS a3 p0.2.1 c3,.int .u64 p0.d.1,.map B,vI p0.f.1,vI (wr (p0.h.1+1)),vB p0.j.1,.map S] g.f5 fun w4 g=>aQ (aF (dN [(12,fun w'=>Inv m2 w'/\Piece.holds m2 w' (dV bp0 b a3 c3 B S p0 p0.f.1 (wr (p0.h.1+1)) p0.j.1)/\Piece.holds m2 w' (bZ b a1 c1 R a2 c2 q2 p0.1)/\True)] kr g fun w5 _ g=> ?_)))))));have A:=m2.le_refl;refine⟨bN (aS g A),cE 3 [(0,23,vP bp0 0),(1,24,vP bp0 0),(2,25,vP bp0 0)] (cV 3 26 (vP b 0) cY (cE 2 [(4,27,vP b 0),(5,28,vP b 2)] (cV 6 29 (.map R) pN (bK 7 30 (vP b1 3) (eD 8 31 (vT p1.e.1) (b0.drop 3) (tN [9,10] kr ad (uR ?_ ?_)))))))⟩
 .refine qU (ek:=cQ) (c:=C7) (agg:=true) (k:=p1.e.1) (zx:=(eB,([]:T8),([]:eT))) (zcs:=[vT eB,v2,vd]) (z:=(.agg #[vT eB,v2,vd])) (kt:=9) (et:=98) (d:=32) (t:=61) (x:=(.tmp 29)) (y:=(.tmp 31)) (ok:=false) kr rfl (ev (.map R)) (ev (vT p1.e.1)) kr (uS kr) g.t.h r2 ⟨_,_,rfl,rfl,⟨_,_,rfl,(nG (RepS.nil _ _)),(nG (RepS.nil _ _))⟩⟩ rfl ?_;rintro f0 ⟨_,_,rfl,rfl,⟨_,_,rfl,⟨a5,c5,rfl,r9⟩,⟨U,Y,rfl,b5⟩⟩⟩;refine⟨bN (aS g A),aZ 10 kr (xT 7 98 (.agg #[vT eB,v6,v6]) g fun b2 w6 g=>⟨bN (aS g A),aZ 11 kr (iU 98 7 32 (.agg #[vT (((bD p0.1.d.1 p1.e.1).getD (eB,([]:T8),([]:eT))).1),.slice a5 (List.length (((bD p0.1.d.1 p1.e.1).getD (eB,([]:T8),([]:eT))).2.1)) c5,.slice U (List.length (((bD p0.1.d.1 p1.e.1).getD (eB,([]:T8),([]:eT))).2.2)) Y]) g fun w7 g=>⟨bN (aS g A),cO kr (aD (aB (bG 1 34 96 33 2 (.slice U (List.length (((bD p0.1.d.1 p1.e.1).getD (eB,([]:T8),([]:eT))).2.2)) Y) g.h (aA 1 [(35,vP b1 4)] (cL 36 (vI p1.f.1) g (b0.drop 4) (iJ 37 b5 hr ?_))))))⟩)⟩)⟩;rintro l hr b3 f1 f3 ⟨_,_,rfl,rfl,⟨_,_,rfl,rfl,⟨_,_,rfl,⟨V,Z,rfl,e6⟩,⟨G,H,rfl,e7⟩⟩⟩⟩ e0
  refine iI 38 101 37 f1 (.agg (V8 l V Z G H)) g e0 (cD 8 101 (.agg #[vI 0,vT eB,v6,v6]) g fun b4 w8 g=>bJ (.agg (V8 l V Z G H)) g fun w9 g=>aQ (aB (aA 1 [(39,vP bp0 0)] (bC 40 (.agg #[vT (((bD p0.1.d.1 p1.e.1).getD (eB,([]:T8),([]:eT))).1),.slice a5 (List.length (((bD p0.1.d.1 p1.e.1).getD (eB,([]:T8),([]:eT))).2.1)) c5,.slice U (List.length (((bD p0.1.d.1 p1.e.1).getD (eB,([]:T8),([]:eT))).2.2)) Y]) g.t.h (bC 41 (.agg (V8 l V Z G H)) g.h (aA 3 [(43,.agg #[vT (((bD p0.1.d.1 p1.e.1).getD (eB,([]:T8),([]:eT))).1),.slice a5 (List.length (((bD p0.1.d.1 p1.e.1).getD (eB,([]:T8),([]:eT))).2.1)) c5,.slice U (List.length (((bD p0.1.d.1 p1.e.1).getD (eB,([]:T8),([]:eT))).2.2)) Y,vI l.1,vT l.2.1,vS V l.d.1 Z,vS G l.e H,vS a4 p2 c4]),(44,vP b4 3)] (bC 45 (vS G l.e H) g.h (aA 2 [(47,vI (wr ((l.2.2.2.length:Int)-1)))] (cW 48 hr (a (p0:=(p0.1,p0.2.1,p0.d.1,p0.e.1,p0.f.1,wr (p0.h.1+1),p0.j.1,p0.k)) (p1:=(((bD p0.1.d.1 p1.e.1).getD (eB,([]:T8),([]:eT))),l,p2)) g.f2.f7.f7.f7.f7.f7 ((r1.o u).o o) r2 ((r3.o u).o o) ((r4.o u).o o) ((r5.o u).o o) (r6.o o) ((r7.o u).o o) r9 b5 e6 e7 ((r8.o u).o o)) ?_)))))))));rintro y3 hr _ f4 (⟨z2,d9,d6,m5,rfl,rfl,e5,g,e9⟩|⟨p,rfl,d8,d5,m4,rfl,e4,g,e8⟩)
  .refine bO ?_;obtain rfl:=sI hr;have g:=g.f6.t.f6.t.f5.f5.f5.f5.f5.f5;exact cM (.inl ⟨z2,d9,d6,m5,rfl,rfl,q.t e5,g,e9⟩)
  refine aG 1 [(9,vI p.2)] (aB (aA 3 [(49,vP bp0 0),(51,vP bp0 5)] (bC 52 (vI p.1.d.1) g.t.t.t.t.t.h (aA 3 [(53,vI (wr (p.1.d.1-1))),(55,vP bp0 5)] (iH #[vP b 0,vS a3 p0.2.1 c3,.int .u64 p0.d.1,.map B,vI p.1.2.1,vI (wr (p.1.d.1-1)),vB p.1.e,.map S] g.f5 fun f8 g=>aQ (aB (aG 2 [(6,vI p.2)] (aN ?_))))))));cases hr;exact aW [6] [vI p.2] (.inr ⟨_,rfl,d8,d5,m4,rfl,q.t e4,g.f6.t.f6.t.f5.f5.f5.f5.f5,e8⟩)
 refine xT 7 98 (.agg #[vT eB,v6,v6]) g fun b2 w6 g=> ?_;refine⟨bN (aS g A),aZ 9 kr (qU (ek:=cQ) (c:=C7) (agg:=true) (k:=p1.e.1) (zx:=(eB,([]:T8),([]:eT))) (zcs:=[vT eB,v2,vd]) (z:=(.agg #[vT eB,v2,vd])) (kt:=9) (et:=98) (d:=32) (t:=61) (x:=(.tmp 29)) (y:=(.tmp 31)) (ok:=false) kr rfl (ev (.map R)) (ev (vT p1.e.1)) kr (uS kr) g.t.t.h r2 ⟨_,_,rfl,rfl,⟨_,_,rfl,(nG (RepS.nil _ _)),(nG (RepS.nil _ _))⟩⟩ rfl ?_)⟩;rintro f0 ⟨_,_,rfl,rfl,⟨_,_,rfl,⟨a5,c5,rfl,r9⟩,⟨U,Y,rfl,b5⟩⟩⟩;refine⟨bN (aS g A),aZ 11 kr (iU 98 7 32 (.agg #[vT (((bD p0.1.d.1 p1.e.1).getD (eB,([]:T8),([]:eT))).1),.slice a5 (List.length (((bD p0.1.d.1 p1.e.1).getD (eB,([]:T8),([]:eT))).2.1)) c5,.slice U (List.length (((bD p0.1.d.1 p1.e.1).getD (eB,([]:T8),([]:eT))).2.2)) Y]) g fun w7 g=>⟨bN (aS g A),cO kr (aD (aB (bG 1 34 96 33 2 (.slice U (List.length (((bD p0.1.d.1 p1.e.1).getD (eB,([]:T8),([]:eT))).2.2)) Y) g.h (aA 1 [(35,vP b1 4)] (cL 36 (vI p1.f.1) g (b0.drop 4) (iJ 37 b5 hr ?_))))))⟩)⟩;rintro l hr b3 f1 f3 ⟨_,_,rfl,rfl,⟨_,_,rfl,rfl,⟨_,_,rfl,⟨V,Z,rfl,e6⟩,⟨G,H,rfl,e7⟩⟩⟩⟩ e0
 refine iI 38 101 37 f1 (.agg (V8 l V Z G H)) g e0 (cD 8 101 (.agg #[vI 0,vT eB,v6,v6]) g fun b4 w8 g=>bJ (.agg (V8 l V Z G H)) g fun w9 g=>aQ (aB (aA 1 [(39,vP bp0 0)] (bC 40 (.agg #[vT (((bD p0.1.d.1 p1.e.1).getD (eB,([]:T8),([]:eT))).1),.slice a5 (List.length (((bD p0.1.d.1 p1.e.1).getD (eB,([]:T8),([]:eT))).2.1)) c5,.slice U (List.length (((bD p0.1.d.1 p1.e.1).getD (eB,([]:T8),([]:eT))).2.2)) Y]) g.t.h (bC 41 (.agg (V8 l V Z G H)) g.h (aA 3 [(43,.agg #[vT (((bD p0.1.d.1 p1.e.1).getD (eB,([]:T8),([]:eT))).1),.slice a5 (List.length (((bD p0.1.d.1 p1.e.1).getD (eB,([]:T8),([]:eT))).2.1)) c5,.slice U (List.length (((bD p0.1.d.1 p1.e.1).getD (eB,([]:T8),([]:eT))).2.2)) Y,vI l.1,vT l.2.1,vS V l.d.1 Z,vS G l.e H,vS a4 p2 c4]),(44,vP b4 3)] (bC 45 (vS G l.e H) g.h (aA 2 [(47,vI (wr ((l.2.2.2.length:Int)-1)))] (cW 48 hr (a (p0:=(p0.1,p0.2.1,p0.d.1,p0.e.1,p0.f.1,wr (p0.h.1+1),p0.j.1,p0.k)) (p1:=(((bD p0.1.d.1 p1.e.1).getD (eB,([]:T8),([]:eT))),l,p2)) g.f2.f7.f7.f7.f7.f7 ((r1.o u).o o) r2 ((r3.o u).o o) ((r4.o u).o o) ((r5.o u).o o) (r6.o o) ((r7.o u).o o) r9 b5 e6 e7 ((r8.o u).o o)) ?_)))))))));rintro y3 hr _ f4 (⟨z2,d9,d6,m5,rfl,rfl,e5,g,e9⟩|⟨p,rfl,d8,d5,m4,rfl,e4,g,e8⟩)
 .refine bO ?_;obtain rfl:=sI hr;have g:=g.f6.t.f6.t.f5.f5.f5.f5.f5.f5;exact cM (.inl ⟨z2,d9,d6,m5,rfl,rfl,q.t e5,g,e9⟩)
 refine aG 1 [(9,vI p.2)] (aB (aA 3 [(49,vP bp0 0),(51,vP bp0 5)] (bC 52 (vI p.1.d.1) g.t.t.t.t.t.h (aA 3 [(53,vI (wr (p.1.d.1-1))),(55,vP bp0 5)] (iH #[vP b 0,vS a3 p0.2.1 c3,.int .u64 p0.d.1,.map B,vI p.1.2.1,vI (wr (p.1.d.1-1)),vB p.1.e,.map S] g.f5 fun f8 g=>aQ (aB (aG 2 [(6,vI p.2)] (aN ?_))))))));cases hr;exact aW [6] [vI p.2] (.inr ⟨_,rfl,d8,d5,m4,rfl,q.t e4,g.f6.t.f6.t.f5.f5.f5.f5.f5,e8⟩)
theorem qGb{Re Rf Rg Rh Ri Rj}(D:BI Re)(u:AW Rf)(g8:BF Rg)(g4:AS Rh)(g5:AT Ri)(g9:BJ Rj){p0:cR}{p1:dR}{p2:eA}{o R d3 c0 Z d4 d1 S q7 q6 V d5 d2 r}(g:St m (aC R d3 c0::aC Z d4 d1::bZ o a1 c1 R a2 c2 Z p0.1::aC S q7 q6::aC V d5 d2::lQ bp0 o a3 c3 S V p0::O) w)(r1:RepS C1 m a1 c1 p0.1.1)(Y:MapQ cQ C7 true m R d3 c0 p0.1.d.1)(r3:RepS aH m a2 c2 p0.1.e.1)(r4:MapQ bA C8 true m Z d4 d1 p0.1.f)(r5:RepS C3 m a3 c3 p0.2.1)(r6:MapQ bA cH false m S q7 q6 p0.e.1)(r7:MapQ cJ eC false m V d5 d2 p0.k)(r8:RepS aH m a4 c4 p1.1.2.1)(r9:RepS C6 m a5 c5 p1.1.d)(g0:RepS aH m a6 c6 p1.2.1.d.1)(g1:RepS C5 m a7 c7 p1.2.1.e)(g2:RepS (aR .i64) m a8 c8 p1.d)(g3:RepS (aR .i64) m a9 c9 p2.f)(hr:KP N Re Rf Rg Rh Ri Rj p0 p1 p2=some r):Calls prog 47 #[vP bp0 0,.agg (iK p1 a4 c4 a5 c5 a6 c6 a7 c7 a8 c8),.agg (V9 p2 a9 c9)] w fun e w'=>(∃(z0:mQ),∃k3 k4 m',r= .inl z0/\nB 158 m m' e z0.1 (aC R d3 c0::aC Z d4 d1::bZ o a1 c1 R a2 c2 Z p0.1::aC S k3 k4::aC V d5 d2::dV bp0 o a3 c3 S V p0 z0.d.1 z0.e.1 z0.f::O) w' (MapQ bA cH false m' S k3 k4 z0.2.1))\/(∃(y0:mS),r= .inr y0/\∃k3 k4 m',bX m m' e (vI y0.2) (aC R d3 c0::aC Z d4 d1::bZ o a1 c1 R a2 c2 Z p0.1::aC S k3 k4::aC V d5 d2::dV bp0 o a3 c3 S V p0 y0.1.2.1 y0.1.d.1 y0.1.e::O) w' (MapQ bA cH false m' S k3 k4 y0.1.1)):=by
 refine bP g func47 rfl ntmps47 fun q=>aB (eE 4 143 (.agg (iK p1 a4 c4 a5 c5 a6 c6 a7 c7 a8 c8)) g fun b1 m1 w1 e1 g d6=>eE 5 145 (.agg (V9 p2 a9 c9)) g fun b2 m2 w2 e2 g n0=> ?_);have q:=(q.t e1).t e2;have r8:=(r8.o e1).o e2;have r9:=(r9.o e1).o e2;have d6:=d6.o e2;have Y:=(Y.o e1).o e2;have r4:=(r4.o e1).o e2;have r1:=(r1.o e1).o e2;have r3:=(r3.o e1).o e2;have r7:=(r7.o e1).o e2;have r5:=(r5.o e1).o e2;refine aG 1 [] (aF (dN [(17,fun w'=>Inv m2 w'/\Piece.holds m2 w' (lQ bp0 o a3 c3 S V p0)/\True)] kr g fun w3 _ g=> ?_));have U:=m2.le_refl;refine⟨bN (aS g U),cE 3 [(0,14,vP bp0 0),(1,15,vP bp0 0),(2,16,vP bp0 0)] (cV 3 17 (vP o 0) cY (bK 4 18 (vP b1 0) (eD 5 19 (.agg (V7 p1.1 a4 c4 a5 c5)) d6 (bK 6 20 (vP b2 3) (eD 7 21 (vT p2.e.1) (n0.drop 3) (tN [8,13] kr ad (uR ?_ ?_)))))))⟩
 .refine eH 22 hr (fun _ h=>VW (p1:=p1.1) g.f2.f2.f2 r1 Y r3 r4 r8 r9 h) ?_;rintro y1 hr _ w4 ⟨d7,d8,m3,rfl,b,g,o0⟩;refine⟨_,rfl,?_⟩;have U:=Mem.le_trans U b;refine⟨bN (aS g U),cE 4 [(9,13,.tuple #[.agg (Vd y1.1),vS d7 y1.2.1 d8,vI y1.d]),(10,23,.agg (Vd y1.1)),(11,24,vS d7 y1.2.1 d8),(12,25,vI y1.d)] (aZ 13 kr (xT 7 58 (.agg dX) g fun b3 w5 g=>⟨bN (aS g U),aZ 14 kr (iU 58 7 23 (.agg (Vd y1.1)) g fun w6 g=>⟨bN (aS g U),cE 2 [(15,8,vS d7 y1.2.1 d8),(16,9,vI y1.d)] (cO kr (aD (aT 2 [(26,vP bp0 0),(27,vS d7 y1.2.1 d8)] (aL 28 hr (BG (p0:=p0) g.f7.f7.f7.f7.f7.f7 (r1.o b) (Y.o b) (r3.o b) (r4.o b) (r5.o b) (((r6.o e1).o e2).o b) (r7.o b) o0) ?_))))⟩)⟩))⟩;rintro y2 hr _ w7 ⟨h7,h6,m4,rfl,E,g,h8⟩;refine aV ?_;have g:=g.f7.t;refine aD (aT 1 [(29,vI y1.d)] (cW 30 hr (MB g) ?_));rintro y3 hr _ w8 (⟨z1,m6,rfl,rfl,e6,g⟩|⟨y4,rfl,m5,rfl,F,g⟩)
  .refine bO ?_;obtain rfl:=sI hr;have g:=g.f6.t.f5.f5.f5.f5.f5.f5;exact cM (.inl ⟨(z1,y2),h7,h6,m6,rfl,rfl,((q.t b).t E).t e6,g,h8.o e6⟩)
  refine aQ (aB (aG 1 [(10,vb)] (aF (aT 1 [(31,vP b2 4)] (cL 32 (vS a9 p2.f c9) g ((((n0.o b).o E).o F).drop 4) (aG 2 [(33,vI (p2.2.2.2.2.length:Int)),(34,vI 0)] (bB ?_)))))));have⟨h0,hr,j1⟩:=aX hr;refine dW (.exit 0) (fun L' w'=>∃(a:Tb×T3f),∃b0 b8 f0 d9 H,(.inl a)=h0/\L'=[(0,vP bp0 0),(7,vP b3 0),(10,vS b0 a.1 b8)]/\m.le H/\St H (bZ o a1 c1 R a2 c2 Z p0.1::dV bp0 o a3 c3 S V p0 a.2.1 a.d.1 a.e.1::kB b3 (Vd y1.1) 58::aC R d3 c0::aC Z d4 d1::aC S f0 d9::aC V d5 d2::kR b0 a.1 b8 3 1::O) w'/\RepS (aR .i64) H b0 b8 a.1/\RepS C1 H a1 c1 p0.1.1/\RepS aH H a2 c2 p0.1.e.1/\RepS C3 H a3 c3 p0.2.1/\MapQ cQ C7 true H R d3 c0 p0.1.d.1/\MapQ bA C8 true H Z d4 d1 p0.1.f/\MapQ bA cH false H S f0 d9 a.f/\MapQ cJ eC false H V d5 d2 p0.k) ?_ ?_
  .rintro _ t6 ⟨a,b0,b8,f0,d9,H,rfl,rfl,q,g,o3,r1,r3,r5,Y,r4,h9,r7⟩;have hr:=j1;refine cX (aD (aF (dN [(21,fun w'=>Inv H w'/\Piece.holds H w' (bZ o a1 c1 R a2 c2 Z p0.1)/\Piece.holds H w' (dV bp0 o a3 c3 S V p0 a.2.1 a.d.1 a.e.1)/\Piece.holds H w' (kB b3 (Vd y1.1) 58)/\True)] kr g fun u1 _ g=> ?_)));have M:=H.le_refl;refine⟨bN (aS g M),cE 5 [(0,46,vS b0 a.1 b8),(1,47,vI (a.1.length:Int)),(2,48,vP bp0 0),(3,49,vP bp0 0),(4,50,vP bp0 0)] (cV 5 51 (vP o 0) pN (cE 2 [(6,52,vP o 0),(7,53,vP o 2)] (cV 8 54 (.map R) cY (bK 9 55 (vP b3 3) (cV 10 56 (vT y1.1.e.1) AB (bK 13 59 (vP b3 4) (cV 14 60 (vI y1.1.f.1) AB (aZ 11 kr (qU (ek:=cQ) (c:=C7) (agg:=true) (k:=y1.1.e.1) (zx:=(eB,([]:T8),([]:eT))) (zcs:=[vT eB,v2,vd]) (z:=(.agg #[vT eB,v2,vd])) (kt:=9) (et:=98) (d:=57) (t:=61) (x:=(.tmp 54)) (y:=(.tmp 56)) (ok:=false) kr rfl (ev (.map R)) (ev (vT y1.1.e.1)) kr (uS kr) g.t.t.t.h Y ⟨_,_,rfl,rfl,⟨_,_,rfl,(nG (RepS.nil _ _)),(nG (RepS.nil _ _))⟩⟩ rfl ?_)))))))))⟩;rintro s5 ⟨_,_,rfl,rfl,⟨_,_,rfl,⟨q8,r0,rfl,t3⟩,⟨h3,h5,rfl,o9⟩⟩⟩;refine⟨bN (aS g M),bK 12 58 (.slice h3 (List.length (((bD p0.1.d.1 y1.1.e.1).getD (eB,([]:T8),([]:eT))).2.2)) h5) ?_⟩;have⟨x2,n3,hr⟩:=aX hr
   refine oF (t:=96) (e:=101) (x:=(.tmp 58)) (y:=(.tmp 60)) 15 61 C6 kr rfl kr (.head _) (cP mH) (ev (.slice h3 (List.length (((bD p0.1.d.1 y1.1.e.1).getD (eB,([]:T8),([]:eT))).2.2)) h5)) (ev (vI y1.1.f.1)) kr o9 n3 ?_;rintro b6 f2 s6 ⟨_,_,rfl,rfl,⟨_,_,rfl,rfl,⟨_,_,rfl,⟨l2,l3,rfl,t4⟩,⟨q9,s3,rfl,t5⟩⟩⟩⟩ n2;refine bK 16 62 (.pointer (some ⟨b6,f2+2,none⟩)) (eD 17 63 (vS l2 x2.d.1 l3) (n2.drop 2) (cE 2 [(18,64,vI (x2.2.2.1.length:Int)),(19,65,vB ((a.1.length:Int) !=(x2.2.2.1.length:Int)))] ?_));have⟨y7,n4,hr⟩:=aX hr;refine aZ 20 kr (qY 66 78 #[vB ((a.1.length:Int) !=(x2.2.2.1.length:Int)),vI 13] kr rfl ((vU g n4).mono ?_));rintro _ u2 (⟨z3,n7,rfl,rfl,g6,g⟩|⟨y8,rfl,s8,rfl,B,g⟩)
   .refine .inr ⟨_,rfl,?_⟩;have M:=Mem.le_trans M g6;refine bO ?_;obtain rfl:=sI hr;have g:=g.f2.t.f6.t.f1.f5.f5.f3.f5.f5;exact cM (.inl ⟨(z3,(a.f,a.2.1,a.d.1,a.e.1)),f0,d9,n7,rfl,rfl,q.t g6,g,h9.o g6⟩)
   refine .inl ⟨_,rfl,?_⟩;have M:=Mem.le_trans M B;refine⟨bN (aS g M),cO kr (aD (aT 1 [(67,vP bp0 0)] (bC 68 (.agg (Vd y1.1)) g.t.t.h (aA 1 [(69,vS b0 a.1 b8)] (cW 70 hr (u (p0:=(p0.1,p0.2.1,p0.d.1,a.f,a.2.1,a.d.1,a.e.1,p0.k)) (p1:=y1.1) g.f1.f6.f6.f3.f6.f6 (r1.o B) (Y.o B) (r3.o B) (r4.o B) (r5.o B) (h9.o B) (r7.o B) (o3.o B)) ?_)))))⟩;rintro y9 hr _ u3 (⟨z4,k9,k7,n9,rfl,rfl,l7,g,q5⟩|⟨k5,rfl,k8,k6,n8,rfl,l6,g,q0⟩)
   .refine bO ?_;obtain rfl:=sI hr;have g:=g.f6.t.f6.t.f5.f5.f5.f5.f5.f5;exact cM (.inl ⟨z4,k9,k7,n9,rfl,rfl,(q.t B).t l7,g,q5⟩)
   refine aA 1 [(6,vI k5.2)] (aV ?_);have g:=g.f7.t;refine aD (aN ?_);cases hr;exact aW [6] [vI k5.2] (.inr ⟨_,rfl,k8,k6,n8,rfl,(q.t B).t l6,g.f6.t.f5.f5.f5.f5.f5.f5,q0⟩)
  intro h1;have g:=(g.nilroom 3 1).front5.front5.front4.front4.front7.front7.front7
  refine dL (fun k1 L' w'=>∃(s1:T3g),∃b7 b9 f9 e0 p,aK (tG N Re p0 p1 p2) k1 s1=some h0/\L'=[(0,vP bp0 0),(4,vP b1 0),(7,vP b3 0),(10,vS b7 s1.1 b9),(32,vS a9 p2.f c9),(33,vI (p2.2.2.2.2.length:Int)),(34,vI s1.2.1)]/\m.le p/\St p (bZ o a1 c1 R a2 c2 Z p0.1::dV bp0 o a3 c3 S V p0 s1.d.1 s1.e.1 s1.f.1::kB b3 (Vd y1.1) 58::aC R d3 c0::aC Z d4 d1::aC S f9 e0::aC V d5 d2::kR b7 s1.1 b9 3 1::O) w'/\MRow p b1 0 [vT p1.1.1,vS a4 p1.1.2.1 c4,vS a5 p1.1.d c5,vI p1.2.1.1,vT p1.2.1.2.1,vS a6 p1.2.1.d.1 c6,vS a7 p1.2.1.e c7,vS a8 p1.d c8]/\RepS aH p a4 c4 p1.1.2.1/\RepS C6 p a5 c5 p1.1.d/\RepS aH p a6 c6 p1.2.1.d.1/\RepS C5 p a7 c7 p1.2.1.e/\RepS (aR .i64) p a8 c8 p1.d/\RepS (aR .i64) p b7 b9 s1.1/\RepS (aR .i64) p a9 c9 p2.f/\RepS C1 p a1 c1 p0.1.1/\RepS aH p a2 c2 p0.1.e.1/\RepS C3 p a3 c3 p0.2.1/\MapQ cQ C7 true p R d3 c0 p0.1.d.1/\MapQ bA C8 true p Z d4 d1 p0.1.f/\MapQ bA cH false p S f9 e0 s1.h/\MapQ cJ eC false p V d5 d2 p0.k) N ⟨(([]:Tb),0,y2.2.1,y2.d.1,y2.e,y2.1),none,0,h7,h6,m5,hr,rfl,((q.t b).t E).t F,g,((d6.o b).o E).o F,((r8.o b).o E).o F,((r9.o b).o E).o F,((((g0.o e1).o e2).o b).o E).o F,((((g1.o e1).o e2).o b).o E).o F,((((g2.o e1).o e2).o b).o E).o F,(RepS.nil _ _),((((g3.o e1).o e2).o b).o E).o F,((r1.o b).o E).o F,((r3.o b).o E).o F,((r5.o b).o E).o F,((Y.o b).o E).o F,((r4.o b).o E).o F,h8.o F,((r7.o b).o E).o F⟩ ?_
  rintro k1 _ t7 ⟨s1,b7,b9,f9,e0,p,hL,rfl,q,g,d6,r8,r9,g0,g1,g2,k0,g3,r1,r3,r5,Y,r4,k2,r7⟩;obtain⟨k1,s9,rfl,hr,l0,g7⟩:=dQ hL;refine aI 1 [(35,vB (decide (s1.2.1<(p2.2.2.2.2.length:Int))))] (aF (aJ hr ?_ ?_))<;>intro A hr
  .refine aO (aD (aF (bB (aB (iJ 36 g3 hr ?_)))));rintro x1 hr b4 f1 s4 rfl n1;refine iI 37 3 36 f1 (vI x1) g n1 (aG 1 [(12,vI x1)] (aY (aA 2 [(38,vS b7 s1.1 b9),(39,vP bp0 0)] (cL 40 (.agg (iK p1 a4 c4 a5 c5 a6 c6 a7 c7 a8 c8)) g d6 (aA 1 [(41,vI x1)] (cW 42 hr (D (p0:=(p0.1,p0.2.1,p0.d.1,s1.h,s1.d.1,s1.e.1,s1.f.1,p0.k)) (p1:=p1) g.f1.f6.f6.f3.f6.f6 r1 Y r3 r4 r5 k2 r7 r8 r9 g0 g1 g2) ?_))))));rintro y5 hr _ t8 (⟨z2,l9,l5,n5,rfl,rfl,e8,g,o6⟩|⟨y6,rfl,l8,l4,m9,rfl,K,g,o5⟩)
   .refine iM (bO ?_);have ho:=g7 _ (sI hr);subst ho;have hr:=j1;refine bO (iM (bO ?_));obtain rfl:=sI hr;have g:=g.f6.t.f6.t.f5.f5.f5.f5.f5.f5;exact cM (.inl ⟨z2,l9,l5,n5,rfl,rfl,q.t e8,g,o6⟩)
   refine eO 43 3 1 (aR .i64) [y6.2] g fun b5 s7 t9 G g o7=>nK 44 22 22 3 8 38 43 g.f8 (.inl kr) ((k0.o K).o G) o7.src hr fun l1 hr h2 h4 n6 u0 l g o8=>aA 1 [(10,vS h2 l1 h4)] (aV ?_);have g:=g.f1.t;refine bT (aD (aY (aA 2 [(34,vI (wr (s1.2.1+1)))] (aV ?_))));have hL:=l0 _ (sI hr);exact cZ ⟨(l1,wr (s1.2.1+1),y6.1.2.1,y6.1.d.1,y6.1.e,y6.1.1),h2,h4,l8,l4,n6,hL,rfl,((q.t K).t G).t l,g.f5.f5.f4.f4.f7.f7.f7,((d6.o K).o G).o l,((r8.o K).o G).o l,((r9.o K).o G).o l,((g0.o K).o G).o l,((g1.o K).o G).o l,((g2.o K).o G).o l,o8,((g3.o K).o G).o l,((r1.o K).o G).o l,((r3.o K).o G).o l,((r5.o K).o G).o l,((Y.o K).o G).o l,((r4.o K).o G).o l,(o5.o G).o l,((r7.o K).o G).o l⟩
  refine cS (bF ?_);have ho:=g7 _ (sI hr);have g:=g.f7.f7.f7.f7.f7.f7.f7.f7;refine bF ?_;exact xE (h1 _ _ ⟨(s1.1,s1.d.1,s1.e.1,s1.f.1,s1.h),b7,b9,f9,e0,p,ho,rfl,q,g,k0,r1,r3,r5,Y,r4,k2,r7⟩)
 refine xT 7 58 (.agg dX) g fun b3 w4 g=> ?_;refine⟨bN (aS g U),aZ 8 kr (eH 22 hr (fun _ h=>VW (p1:=p1.1) g.f3.f3.f3 r1 Y r3 r4 r8 r9 h) ?_)⟩;rintro y1 hr _ w5 ⟨d7,d8,m3,rfl,b,g,o0⟩;refine⟨_,rfl,?_⟩;have U:=Mem.le_trans U b;refine⟨bN (aS g U),cE 4 [(9,13,.tuple #[.agg (Vd y1.1),vS d7 y1.2.1 d8,vI y1.d]),(10,23,.agg (Vd y1.1)),(11,24,vS d7 y1.2.1 d8),(12,25,vI y1.d)] (aZ 14 kr (iU 58 7 23 (.agg (Vd y1.1)) g.f4 fun w6 g=>⟨bN (aS g U),cE 2 [(15,8,vS d7 y1.2.1 d8),(16,9,vI y1.d)] (cO kr (aD (aT 2 [(26,vP bp0 0),(27,vS d7 y1.2.1 d8)] (aL 28 hr (BG (p0:=p0) g.f7.f7.f7.f7.f7.f7 (r1.o b) (Y.o b) (r3.o b) (r4.o b) (r5.o b) (((r6.o e1).o e2).o b) (r7.o b) o0) ?_))))⟩))⟩;rintro y2 hr _ w7 ⟨h7,h6,m4,rfl,E,g,h8⟩;refine aV ?_;have g:=g.f7.t;refine aD (aT 1 [(29,vI y1.d)] (cW 30 hr (MB g) ?_));rintro y3 hr _ w8 (⟨z1,m6,rfl,rfl,e6,g⟩|⟨y4,rfl,m5,rfl,F,g⟩)
 .refine bO ?_;obtain rfl:=sI hr;have g:=g.f6.t.f5.f5.f5.f5.f5.f5;exact cM (.inl ⟨(z1,y2),h7,h6,m6,rfl,rfl,((q.t b).t E).t e6,g,h8.o e6⟩)
 refine aQ (aB (aG 1 [(10,vb)] (aF (aT 1 [(31,vP b2 4)] (cL 32 (vS a9 p2.f c9) g ((((n0.o b).o E).o F).drop 4) (aG 2 [(33,vI (p2.2.2.2.2.length:Int)),(34,vI 0)] (bB ?_)))))));have⟨h0,hr,j1⟩:=aX hr;refine dW (.exit 0) (fun L' w'=>∃(a:Tb×T3f),∃b0 b8 f0 d9 H,(.inl a)=h0/\L'=[(0,vP bp0 0),(7,vP b3 0),(10,vS b0 a.1 b8)]/\m.le H/\St H (bZ o a1 c1 R a2 c2 Z p0.1::dV bp0 o a3 c3 S V p0 a.2.1 a.d.1 a.e.1::kB b3 (Vd y1.1) 58::aC R d3 c0::aC Z d4 d1::aC S f0 d9::aC V d5 d2::kR b0 a.1 b8 3 1::O) w'/\RepS (aR .i64) H b0 b8 a.1/\RepS C1 H a1 c1 p0.1.1/\RepS aH H a2 c2 p0.1.e.1/\RepS C3 H a3 c3 p0.2.1/\MapQ cQ C7 true H R d3 c0 p0.1.d.1/\MapQ bA C8 true H Z d4 d1 p0.1.f/\MapQ bA cH false H S f0 d9 a.f/\MapQ cJ eC false H V d5 d2 p0.k) ?_ ?_
 .rintro _ t6 ⟨a,b0,b8,f0,d9,H,rfl,rfl,q,g,o3,r1,r3,r5,Y,r4,h9,r7⟩;have hr:=j1;refine cX (aD (aF (dN [(21,fun w'=>Inv H w'/\Piece.holds H w' (bZ o a1 c1 R a2 c2 Z p0.1)/\Piece.holds H w' (dV bp0 o a3 c3 S V p0 a.2.1 a.d.1 a.e.1)/\Piece.holds H w' (kB b3 (Vd y1.1) 58)/\True)] kr g fun u1 _ g=> ?_)));have M:=H.le_refl;refine⟨bN (aS g M),cE 5 [(0,46,vS b0 a.1 b8),(1,47,vI (a.1.length:Int)),(2,48,vP bp0 0),(3,49,vP bp0 0),(4,50,vP bp0 0)] (cV 5 51 (vP o 0) pN (cE 2 [(6,52,vP o 0),(7,53,vP o 2)] (cV 8 54 (.map R) cY (bK 9 55 (vP b3 3) (cV 10 56 (vT y1.1.e.1) AB (bK 13 59 (vP b3 4) (cV 14 60 (vI y1.1.f.1) AB (aZ 11 kr (qU (ek:=cQ) (c:=C7) (agg:=true) (k:=y1.1.e.1) (zx:=(eB,([]:T8),([]:eT))) (zcs:=[vT eB,v2,vd]) (z:=(.agg #[vT eB,v2,vd])) (kt:=9) (et:=98) (d:=57) (t:=61) (x:=(.tmp 54)) (y:=(.tmp 56)) (ok:=false) kr rfl (ev (.map R)) (ev (vT y1.1.e.1)) kr (uS kr) g.t.t.t.h Y ⟨_,_,rfl,rfl,⟨_,_,rfl,(nG (RepS.nil _ _)),(nG (RepS.nil _ _))⟩⟩ rfl ?_)))))))))⟩;rintro s5 ⟨_,_,rfl,rfl,⟨_,_,rfl,⟨q8,r0,rfl,t3⟩,⟨h3,h5,rfl,o9⟩⟩⟩;refine⟨bN (aS g M),bK 12 58 (.slice h3 (List.length (((bD p0.1.d.1 y1.1.e.1).getD (eB,([]:T8),([]:eT))).2.2)) h5) ?_⟩;have⟨x2,n3,hr⟩:=aX hr
  refine oF (t:=96) (e:=101) (x:=(.tmp 58)) (y:=(.tmp 60)) 15 61 C6 kr rfl kr (.head _) (cP mH) (ev (.slice h3 (List.length (((bD p0.1.d.1 y1.1.e.1).getD (eB,([]:T8),([]:eT))).2.2)) h5)) (ev (vI y1.1.f.1)) kr o9 n3 ?_;rintro b6 f2 s6 ⟨_,_,rfl,rfl,⟨_,_,rfl,rfl,⟨_,_,rfl,⟨l2,l3,rfl,t4⟩,⟨q9,s3,rfl,t5⟩⟩⟩⟩ n2;refine bK 16 62 (.pointer (some ⟨b6,f2+2,none⟩)) (eD 17 63 (vS l2 x2.d.1 l3) (n2.drop 2) (cE 2 [(18,64,vI (x2.2.2.1.length:Int)),(19,65,vB ((a.1.length:Int) !=(x2.2.2.1.length:Int)))] ?_));have⟨y7,n4,hr⟩:=aX hr;refine aZ 20 kr (qY 66 78 #[vB ((a.1.length:Int) !=(x2.2.2.1.length:Int)),vI 13] kr rfl ((vU g n4).mono ?_));rintro _ u2 (⟨z3,n7,rfl,rfl,g6,g⟩|⟨y8,rfl,s8,rfl,B,g⟩)
  .refine .inr ⟨_,rfl,?_⟩;have M:=Mem.le_trans M g6;refine bO ?_;obtain rfl:=sI hr;have g:=g.f2.t.f6.t.f1.f5.f5.f3.f5.f5;exact cM (.inl ⟨(z3,(a.f,a.2.1,a.d.1,a.e.1)),f0,d9,n7,rfl,rfl,q.t g6,g,h9.o g6⟩)
  refine .inl ⟨_,rfl,?_⟩;have M:=Mem.le_trans M B;refine⟨bN (aS g M),cO kr (aD (aT 1 [(67,vP bp0 0)] (bC 68 (.agg (Vd y1.1)) g.t.t.h (aA 1 [(69,vS b0 a.1 b8)] (cW 70 hr (u (p0:=(p0.1,p0.2.1,p0.d.1,a.f,a.2.1,a.d.1,a.e.1,p0.k)) (p1:=y1.1) g.f1.f6.f6.f3.f6.f6 (r1.o B) (Y.o B) (r3.o B) (r4.o B) (r5.o B) (h9.o B) (r7.o B) (o3.o B)) ?_)))))⟩;rintro y9 hr _ u3 (⟨z4,k9,k7,n9,rfl,rfl,l7,g,q5⟩|⟨k5,rfl,k8,k6,n8,rfl,l6,g,q0⟩)
  .refine bO ?_;obtain rfl:=sI hr;have g:=g.f6.t.f6.t.f5.f5.f5.f5.f5.f5;exact cM (.inl ⟨z4,k9,k7,n9,rfl,rfl,(q.t B).t l7,g,q5⟩)
  refine aA 1 [(6,vI k5.2)] (aV ?_);have g:=g.f7.t;refine aD (aN ?_);cases hr;exact aW [6] [vI k5.2] (.inr ⟨_,rfl,k8,k6,n8,rfl,(q.t B).t l6,g.f6.t.f5.f5.f5.f5.f5.f5,q0⟩)
 intro h1;have g:=(g.nilroom 3 1).front5.front5.front4.front4.front7.front7.front7
 refine dL (fun k1 L' w'=>∃(s1:T3g),∃b7 b9 f9 e0 p,aK (tG N Re p0 p1 p2) k1 s1=some h0/\L'=[(0,vP bp0 0),(4,vP b1 0),(7,vP b3 0),(10,vS b7 s1.1 b9),(32,vS a9 p2.f c9),(33,vI (p2.2.2.2.2.length:Int)),(34,vI s1.2.1)]/\m.le p/\St p (bZ o a1 c1 R a2 c2 Z p0.1::dV bp0 o a3 c3 S V p0 s1.d.1 s1.e.1 s1.f.1::kB b3 (Vd y1.1) 58::aC R d3 c0::aC Z d4 d1::aC S f9 e0::aC V d5 d2::kR b7 s1.1 b9 3 1::O) w'/\MRow p b1 0 [vT p1.1.1,vS a4 p1.1.2.1 c4,vS a5 p1.1.d c5,vI p1.2.1.1,vT p1.2.1.2.1,vS a6 p1.2.1.d.1 c6,vS a7 p1.2.1.e c7,vS a8 p1.d c8]/\RepS aH p a4 c4 p1.1.2.1/\RepS C6 p a5 c5 p1.1.d/\RepS aH p a6 c6 p1.2.1.d.1/\RepS C5 p a7 c7 p1.2.1.e/\RepS (aR .i64) p a8 c8 p1.d/\RepS (aR .i64) p b7 b9 s1.1/\RepS (aR .i64) p a9 c9 p2.f/\RepS C1 p a1 c1 p0.1.1/\RepS aH p a2 c2 p0.1.e.1/\RepS C3 p a3 c3 p0.2.1/\MapQ cQ C7 true p R d3 c0 p0.1.d.1/\MapQ bA C8 true p Z d4 d1 p0.1.f/\MapQ bA cH false p S f9 e0 s1.h/\MapQ cJ eC false p V d5 d2 p0.k) N ⟨(([]:Tb),0,y2.2.1,y2.d.1,y2.e,y2.1),none,0,h7,h6,m5,hr,rfl,((q.t b).t E).t F,g,((d6.o b).o E).o F,((r8.o b).o E).o F,((r9.o b).o E).o F,((((g0.o e1).o e2).o b).o E).o F,((((g1.o e1).o e2).o b).o E).o F,((((g2.o e1).o e2).o b).o E).o F,(RepS.nil _ _),((((g3.o e1).o e2).o b).o E).o F,((r1.o b).o E).o F,((r3.o b).o E).o F,((r5.o b).o E).o F,((Y.o b).o E).o F,((r4.o b).o E).o F,h8.o F,((r7.o b).o E).o F⟩ ?_
 rintro k1 _ t7 ⟨s1,b7,b9,f9,e0,p,hL,rfl,q,g,d6,r8,r9,g0,g1,g2,k0,g3,r1,r3,r5,Y,r4,k2,r7⟩;obtain⟨k1,s9,rfl,hr,l0,g7⟩:=dQ hL;refine aI 1 [(35,vB (decide (s1.2.1<(p2.2.2.2.2.length:Int))))] (aF (aJ hr ?_ ?_))<;>intro A hr
 .refine aO (aD (aF (bB (aB (iJ 36 g3 hr ?_)))));rintro x1 hr b4 f1 s4 rfl n1;refine iI 37 3 36 f1 (vI x1) g n1 (aG 1 [(12,vI x1)] (aY (aA 2 [(38,vS b7 s1.1 b9),(39,vP bp0 0)] (cL 40 (.agg (iK p1 a4 c4 a5 c5 a6 c6 a7 c7 a8 c8)) g d6 (aA 1 [(41,vI x1)] (cW 42 hr (D (p0:=(p0.1,p0.2.1,p0.d.1,s1.h,s1.d.1,s1.e.1,s1.f.1,p0.k)) (p1:=p1) g.f1.f6.f6.f3.f6.f6 r1 Y r3 r4 r5 k2 r7 r8 r9 g0 g1 g2) ?_))))));rintro y5 hr _ t8 (⟨z2,l9,l5,n5,rfl,rfl,e8,g,o6⟩|⟨y6,rfl,l8,l4,m9,rfl,K,g,o5⟩)
  .refine iM (bO ?_);have ho:=g7 _ (sI hr);subst ho;have hr:=j1;refine bO (iM (bO ?_));obtain rfl:=sI hr;have g:=g.f6.t.f6.t.f5.f5.f5.f5.f5.f5;exact cM (.inl ⟨z2,l9,l5,n5,rfl,rfl,q.t e8,g,o6⟩)
  refine eO 43 3 1 (aR .i64) [y6.2] g fun b5 s7 t9 G g o7=>nK 44 22 22 3 8 38 43 g.f8 (.inl kr) ((k0.o K).o G) o7.src hr fun l1 hr h2 h4 n6 u0 l g o8=>aA 1 [(10,vS h2 l1 h4)] (aV ?_);have g:=g.f1.t;refine bT (aD (aY (aA 2 [(34,vI (wr (s1.2.1+1)))] (aV ?_))));have hL:=l0 _ (sI hr);exact cZ ⟨(l1,wr (s1.2.1+1),y6.1.2.1,y6.1.d.1,y6.1.e,y6.1.1),h2,h4,l8,l4,n6,hL,rfl,((q.t K).t G).t l,g.f5.f5.f4.f4.f7.f7.f7,((d6.o K).o G).o l,((r8.o K).o G).o l,((r9.o K).o G).o l,((g0.o K).o G).o l,((g1.o K).o G).o l,((g2.o K).o G).o l,o8,((g3.o K).o G).o l,((r1.o K).o G).o l,((r3.o K).o G).o l,((r5.o K).o G).o l,((Y.o K).o G).o l,((r4.o K).o G).o l,(o5.o G).o l,((r7.o K).o G).o l⟩
 refine cS (bF ?_);have ho:=g7 _ (sI hr);have g:=g.f7.f7.f7.f7.f7.f7.f7.f7;refine bF ?_;exact xE (h1 _ _ ⟨(s1.1,s1.d.1,s1.e.1,s1.f.1,s1.h),b7,b9,f9,e0,p,ho,rfl,q,g,k0,r1,r3,r5,Y,r4,k2,r7⟩)
theorem qFu{Re Rf Rg Rh Ri Rj}(b:BI Re)(d6:AW Rf)(d8:BF Rg)(d4:AS Rh)(d5:AT Ri)(d9:BJ Rj){p0:cR}{p1:dR}{p2:eA}{H U b7 Z V b8 b0 R f9 f7 Y b9 b5 r}(g:St m (aC U b7 Z::aC V b8 b0::bZ H a1 c1 U a2 c2 V p0.1::aC R f9 f7::aC Y b9 b5::lQ bp0 H a3 c3 R Y p0::O) w)(z:RepS C1 m a1 c1 p0.1.1)(B:MapQ cQ C7 true m U b7 Z p0.1.d.1)(D:RepS aH m a2 c2 p0.1.e.1)(E:MapQ bA C8 true m V b8 b0 p0.1.f)(F:RepS C3 m a3 c3 p0.2.1)(r6:MapQ bA cH false m R f9 f7 p0.e.1)(G:MapQ cJ eC false m Y b9 b5 p0.k)(r8:RepS aH m a4 c4 p1.1.2.1)(r9:RepS C6 m a5 c5 p1.1.d)(g2:RepS aH m a6 c6 p1.2.1.d.1)(g3:RepS C5 m a7 c7 p1.2.1.e)(g4:RepS (aR .i64) m a8 c8 p1.d)(e0:RepS (aR .i64) m a9 c9 p2.f)(hr:xB N Re Rf Rg Rh Ri Rj p0 p1 p2=some r):Calls prog 48 #[vP bp0 0,.agg (iK p1 a4 c4 a5 c5 a6 c6 a7 c7 a8 c8),.agg (V9 p2 a9 c9)] w fun e w'=>(∃(z0:mQ),∃f0 f6 m',r= .inl z0/\nB 158 m m' e z0.1 (aC U b7 Z::aC V b8 b0::bZ H a1 c1 U a2 c2 V p0.1::aC R f0 f6::aC Y b9 b5::dV bp0 H a3 c3 R Y p0 z0.d.1 z0.e.1 z0.f::O) w' (MapQ bA cH false m' R f0 f6 z0.2.1))\/(∃(y0:mS),r= .inr y0/\∃f0 f6 m',bX m m' e (vI y0.2) (aC U b7 Z::aC V b8 b0::bZ H a1 c1 U a2 c2 V p0.1::aC R f0 f6::aC Y b9 b5::dV bp0 H a3 c3 R Y p0 y0.1.2.1 y0.1.d.1 y0.1.e::O) w' (MapQ bA cH false m' R f0 f6 y0.1.1)):=by
 refine bP g func48 rfl ntmps48 fun q=>aB (eE 4 143 (.agg (iK p1 a4 c4 a5 c5 a6 c6 a7 c7 a8 c8)) g fun b1 m1 w1 u g g0=>eE 5 145 (.agg (V9 p2 a9 c9)) g fun b2 m2 w2 p g d1=> ?_);have q:=(q.t u).t p;have B:=(B.o u).o p;have E:=(E.o u).o p;have z:=(z.o u).o p;have D:=(D.o u).o p;have G:=(G.o u).o p;have F:=(F.o u).o p;refine aG 1 [] (aF (dN [(8,fun w'=>Inv m2 w'/\True)] kr g fun w3 _ g=> ?_));have d2:=m2.le_refl;refine tA g d2 (bK 0 10 (vP bp0 0) (eD 1 11 (.agg (iK p1 a4 c4 a5 c5 a6 c6 a7 c7 a8 c8)) (g0.o p) (bK 2 12 (vP b2 4) (eD 3 13 (vS a9 p2.f c9) (d1.drop 4) ?_))));have⟨x1,h1,hr⟩:=aX hr;refine oF (t:=22) (e:=3) (x:=(.tmp 13)) (y:=(.const (vI 0))) 4 14 (aR .i64) kr rfl kr (.head _) (cP mH) (ev (vS a9 p2.f c9)) (ev (vI 0)) kr ((e0.o u).o p) h1 ?_;rintro b3 f1 k3 rfl g9;refine eD 5 15 (vI x1) g9 ?_;have g:=g.f5.f5.f5.f5.f5.f5;have⟨y1,h2,hr⟩:=aX hr;refine aZ 6 kr (qY 16 77 #[vP bp0 0,.agg (iK p1 a4 c4 a5 c5 a6 c6 a7 c7 a8 c8),vI x1] kr rfl ((b (p0:=p0) (p1:=p1) g z B D E F ((r6.o u).o p) G ((r8.o u).o p) ((r9.o u).o p) ((g2.o u).o p) ((g3.o u).o p) ((g4.o u).o p) h2).mono ?_));rintro _ w4 (⟨z1,g7,g5,m4,rfl,rfl,e4,g,k0⟩|⟨l,rfl,k5,k2,m3,rfl,o,g,h9⟩)
 .refine .inr ⟨_,rfl,?_⟩;have d2:=Mem.le_trans d2 e4;refine bO ?_;obtain rfl:=sI hr;have g:=g.f5.f5.f5.f5.f5.f5;exact cM (.inl ⟨z1,g7,g5,m4,rfl,rfl,q.t e4,g,k0⟩)
 refine .inl ⟨_,rfl,?_⟩;have e0:=((e0.o u).o p).o o;have d2:=Mem.le_trans d2 o;refine tA g d2 (bK 7 7 (vI l.2) (cO kr (aD (aF (dN [(8,fun w'=>Inv m3 w'/\True)] kr g fun w6 _ g=> ?_)))));have d3:=m3.le_refl;refine tA g d3 (bK 0 17 (vP bp0 0) (eD 1 18 (.agg (iK p1 a4 c4 a5 c5 a6 c6 a7 c7 a8 c8)) ((g0.o p).o o) (bK 2 19 (vP b2 4) (eD 3 20 (vS a9 p2.f c9) ((d1.o o).drop 4) ?_))));have⟨x2,h3,hr⟩:=aX hr;refine oF (t:=22) (e:=3) (x:=(.tmp 20)) (y:=(.const (vI 1))) 4 21 (aR .i64) kr rfl kr (.head _) (cP mH) (ev (vS a9 p2.f c9)) (ev (vI 1)) kr e0 h3 ?_;rintro b4 f2 k4 rfl h0;refine eD 5 22 (vI x2) h0 ?_;have g:=g.f5.f5.f5.f5.f5.f5;have⟨y3,h4,hr⟩:=aX hr;refine aZ 6 kr (qY 23 77 #[vP bp0 0,.agg (iK p1 a4 c4 a5 c5 a6 c6 a7 c7 a8 c8),vI x2] kr rfl ((b (p0:=(p0.1,p0.2.1,p0.d.1,l.1.1,l.1.2.1,l.1.d.1,l.1.e,p0.k)) (p1:=p1) g (z.o o) (B.o o) (D.o o) (E.o o) (F.o o) h9 (G.o o) (((r8.o u).o p).o o) (((r9.o u).o p).o o) (((g2.o u).o p).o o) (((g3.o u).o p).o o) (((g4.o u).o p).o o) h4).mono ?_));rintro _ w7 (⟨z2,g8,g6,m6,rfl,rfl,e6,g,k1⟩|⟨a,rfl,c0,b6,m5,rfl,e5,g,c⟩)
 .refine .inr ⟨_,rfl,?_⟩;have d3:=Mem.le_trans d3 e6;refine bO ?_;obtain rfl:=sI hr;have g:=g.f5.f5.f5.f5.f5.f5;exact cM (.inl ⟨z2,g8,g6,m6,rfl,rfl,(q.t o).t e6,g,k1⟩)
 refine .inl ⟨_,rfl,?_⟩;have q:=(q.t o).t e5;have d1:=(d1.o o).o e5;have B:=(B.o o).o e5;have E:=(E.o o).o e5;have z:=(z.o o).o e5;have D:=(D.o o).o e5;have G:=(G.o o).o e5;have F:=(F.o o).o e5;have d3:=Mem.le_trans d3 e5;refine tA g d3 (bK 7 8 (vI a.2) (cO kr (aD (aI 1 [] (aF (aT 1 [(24,vP b2 2)] (cL 25 (vI p2.d.1) g (d1.drop 2) (aQ ?_))))))));have⟨h8,hr,j1⟩:=aX hr;refine dW .normal (fun L' w'=>∃(o1:Int),∃m7,(.inl o1:Int⊕tZ)=h8/\L'=[(9,vI o1)]/\m.le m7/\St m7 (bZ H a1 c1 U a2 c2 V p0.1::dV bp0 H a3 c3 R Y p0 a.1.2.1 a.1.d.1 a.1.e::aC U b7 Z::aC V b8 b0::aC R c0 b6::aC Y b9 b5::O) w'/\RepS C1 m7 a1 c1 p0.1.1/\RepS aH m7 a2 c2 p0.1.e.1/\RepS C3 m7 a3 c3 p0.2.1/\MapQ cQ C7 true m7 U b7 Z p0.1.d.1/\MapQ bA C8 true m7 V b8 b0 p0.1.f/\MapQ bA cH false m7 R c0 b6 a.1.1/\MapQ cJ eC false m7 Y b9 b5 p0.k) ?_ ?_
 .rintro _ w9 ⟨o1,m7,rfl,rfl,q,g,z,D,F,B,E,c,G⟩;have hr:=j1;refine aD (aT 1 [(81,vI o1)] (aL 82 hr (PR g) ?_));rintro h5 hr _ h7 ⟨h6,rfl,M,g⟩;refine aA 1 [(83,vB (!h5))] (cW 84 hr (vU g) ?_);rintro k7 hr _ k6 (⟨z5,g1,rfl,rfl,d7,g⟩|⟨k8,rfl,f8,rfl,S,g⟩)
  .refine bO ?_;obtain rfl:=sI hr;have g:=g.f1.f5.f5.f3.f5.f5;exact cM (.inl ⟨(z5,a.1),c0,b6,g1,rfl,rfl,(q.t M).t d7,g,(c.o M).o d7⟩)
  refine aQ (aB (aG 2 [(6,vI o1)] (aN ?_)));obtain rfl:=sI hr;exact aW [6] [vI o1] (.inr ⟨_,rfl,c0,b6,f8,rfl,(q.t M).t S,g.f1.f5.f5.f3.f5.f5,(c.o M).o S⟩)
 intro d7;refine bB (aI 2 [(30,vB (p2.d.1==1))] (aJ hr ?_ ?_))<;>intro A hr
 .refine aY (aA 4 [(9,vI (wr (l.2+a.2)))] (aV (bT ?_)));have n1:=jC hr;exact xE (d7 _ _ ⟨wr (l.2+a.2),m5,n1,rfl,q,g.f4.f4.f3.f3.f5.f5,z,D,F,B,E,c,G⟩)
 refine aI 2 [(35,vB (p2.d.1==2))] (aJ hr ?_ ?_)<;>intro A hr
 .refine aY (aA 4 [(9,vI (wr (l.2-a.2)))] (aV (bT ?_)));have n1:=jC hr;exact xE (d7 _ _ ⟨wr (l.2-a.2),m5,n1,rfl,q,g.f4.f4.f3.f3.f5.f5,z,D,F,B,E,c,G⟩)
 refine aI 2 [(40,vB (p2.d.1==3))] (aJ hr ?_ ?_)<;>intro A hr
 .refine aB (eV 14 hr (fun o2 L' w'=>∃M,L'=[(7,vI l.2),(8,vI a.2),(55,vB o2)]/\m.le M/\St M (bZ H a1 c1 U a2 c2 V p0.1::dV bp0 H a3 c3 R Y p0 a.1.2.1 a.1.d.1 a.1.e::aC U b7 Z::aC V b8 b0::aC R c0 b6::aC Y b9 b5::O) w'/\RepS C1 M a1 c1 p0.1.1/\RepS aH M a2 c2 p0.1.e.1/\RepS C3 M a3 c3 p0.2.1/\MapQ cQ C7 true M U b7 Z p0.1.d.1/\MapQ bA C8 true M V b8 b0 p0.1.f/\MapQ bA cH false M R c0 b6 a.1.1/\MapQ cJ eC false M Y b9 b5 p0.k) ?_ ?_)
  .rintro o2 hr _ g1 ⟨M,rfl,q,g,z,D,F,B,E,c,G⟩;refine cW 56 hr (vU g) ?_;rintro y5 hr _ h5 (⟨z3,f8,rfl,rfl,e8,g⟩|⟨y6,rfl,m9,rfl,S,g⟩)
   .refine bO (iM ?_);obtain rfl:=sI hr;have hr:=j1;refine bO ?_;obtain rfl:=sI hr;have g:=g.f1.f5.f5.f3.f5.f5;exact cM (.inl ⟨(z3,a.1),c0,b6,f8,rfl,rfl,q.t e8,g,c.o e8⟩)
   refine aQ (aY (aA 4 [(9,vI (wr (l.2*a.2)))] (aV (bT ?_))));have n1:=jC hr;exact xE (d7 _ _ ⟨wr (l.2*a.2),m9,n1,rfl,q.t S,g.f5.f5.f5.f5.f5.f5,z.o S,D.o S,F.o S,B.o S,E.o S,c.o S,G.o S⟩)
  intro o2 hr K;refine aA 3 [(44,vB (a.2 !=0))] (cN 44 hr ?_ ?_)<;>intro A hr
  .refine aA 8 [(48,vI (if(wr (0-l.2))>l.2 then(wr (0-l.2)) else l.2)),(52,vI (if(wr (0-a.2))>a.2 then(wr (0-a.2)) else a.2))] ?_;have⟨i1,S,hr⟩:=aX hr;refine bS (qCk (d:=53) (t:=3) (t2:=3) (x:=(.const (vI 9007199254740992))) (y:=(.tmp 52)) kr rfl (ev (vI 9007199254740992)) (ev (vI (if(wr (0-a.2))>a.2 then(wr (0-a.2)) else a.2))) S (aA 2 [(55,vB (decide ((if(wr (0-l.2))>l.2 then(wr (0-l.2)) else l.2)>i1)))] ?_));cases hr;exact bH _ kr (K _ _ ⟨m5,rfl,q,g.f4.f4.f3.f3.f5.f5,z,D,F,B,E,c,G⟩)
  refine aA 11 [(55,vB false)] ?_;cases hr;exact bH _ kr (K _ _ ⟨m5,rfl,q,g.f4.f4.f3.f3.f5.f5,z,D,F,B,E,c,G⟩)
 refine aF (aI 2 [(60,vB (p2.d.1==4))] (cK .normal hr (fun o3 L' w'=>∃M,L'=[(5,vP b2 0),(7,vI l.2),(8,vI a.2),(25,vI p2.d.1),(60,vB o3)]/\m.le M/\St M (bZ H a1 c1 U a2 c2 V p0.1::dV bp0 H a3 c3 R Y p0 a.1.2.1 a.1.d.1 a.1.e::aC U b7 Z::aC V b8 b0::aC R c0 b6::aC Y b9 b5::O) w'/\MRow M b2 0 (Va p2 a9 c9)/\RepS (aR .i64) M a9 c9 p2.f/\RepS C1 M a1 c1 p0.1.1/\RepS aH M a2 c2 p0.1.e.1/\RepS C3 M a3 c3 p0.2.1/\MapQ cQ C7 true M U b7 Z p0.1.d.1/\MapQ bA C8 true M V b8 b0 p0.1.f/\MapQ bA cH false M R c0 b6 a.1.1/\MapQ cJ eC false M Y b9 b5 p0.k) ?_ ?_))
 .rintro o3 hr _ k6 ⟨M,rfl,q,g,d1,e0,z,D,F,B,E,c,G⟩;refine aD (aJ hr ?_ ?_)<;>intro A hr
  .refine aT 2 [(64,vB (a.2==0))] (cW 65 hr (vU g) ?_);rintro y7 hr _ k7 (⟨z4,h7,rfl,rfl,f8,g⟩|⟨y8,rfl,g1,rfl,S,g⟩)
   .refine bO (iM ?_);obtain rfl:=sI hr;have hr:=j1;refine bO ?_;obtain rfl:=sI hr;have g:=g.f1.f5.f5.f3.f5.f5;exact cM (.inl ⟨(z4,a.1),c0,b6,h7,rfl,rfl,q.t f8,g,c.o f8⟩)
   refine aQ (aB (aA 2 [(66,vI l.2),(67,vI a.2)] ?_));have⟨i2,h5,hr⟩:=aX hr;refine bS (qCk (d:=68) (t:=3) (t2:=3) (x:=(.tmp 66)) (y:=(.tmp 67)) kr rfl (ev (vI l.2)) (ev (vI a.2)) h5 (aG 1 [(9,vI i2)] (aB (aA 1 [(69,vP b2 2)] (cL 70 (vI p2.d.1) g ((d1.o S).drop 2) (aG 1 [(71,vB (p2.d.1==5))] (aJ hr ?_ ?_)))))))<;>intro A hr
   .refine aY (aA 2 [(72,vI l.2),(73,vI a.2)] ?_);have⟨i3,h6,hr⟩:=aX hr;refine bS (qDj (d:=74) (t:=3) (t2:=3) (x:=(.tmp 72)) (y:=(.tmp 73)) kr rfl (ev (vI l.2)) (ev (vI a.2)) h6 (aA 1 [(9,vI i3)] (aV (bT ?_))));have n1:=jC hr;exact xE (d7 _ _ ⟨i3,g1,n1,rfl,q.t S,g.f5.f5.f5.f5.f5.f5,z.o S,D.o S,F.o S,B.o S,E.o S,c.o S,G.o S⟩)
   refine aO (bT ?_);have n1:=jC hr;exact xE (d7 _ _ ⟨i2,g1,n1,rfl,q.t S,g.f5.f5.f5.f5.f5.f5,z.o S,D.o S,F.o S,B.o S,E.o S,c.o S,G.o S⟩)
  refine aI 2 [(75,vB (p2.d.1==6))] (aJ hr ?_ ?_)<;>intro A hr
  .refine aY (aA 3 [(79,vB (decide (l.2<a.2)))] (aL 80 hr (PT g) ?_));rintro y9 hr _ g1 ⟨f8,rfl,S,g⟩;refine aA 1 [(9,vI y9)] (aV (bT ?_));have n1:=jC hr;exact xE (d7 _ _ ⟨y9,f8,n1,rfl,q.t S,g.f5.f5.f5.f5.f5.f5,z.o S,D.o S,F.o S,B.o S,E.o S,c.o S,G.o S⟩)
  refine aY (aA 3 [(28,vB (l.2==a.2))] (aL 29 hr (PT g) ?_));rintro f8 hr _ h5 ⟨g1,rfl,S,g⟩;refine aA 1 [(9,vI f8)] (aV (bT ?_));have n1:=jC hr;exact xE (d7 _ _ ⟨f8,g1,n1,rfl,q.t S,g.f5.f5.f5.f5.f5.f5,z.o S,D.o S,F.o S,B.o S,E.o S,c.o S,G.o S⟩)
 intro o3 hr S;refine aJ hr ?_ ?_<;>intro A hr
 .refine aO ?_;cases hr;exact xE (S _ _ ⟨m5,rfl,q,g.f4.f4.f3.f3.f5.f5,d1,e0.o e5,z,D,F,B,E,c,G⟩)
 refine aY (aA 2 [(60,vB (p2.d.1==5))] (aV ?_));cases hr;exact xE (S _ _ ⟨m5,rfl,q,g.f4.f4.f3.f3.f5.f5,d1,e0.o e5,z,D,F,B,E,c,G⟩)
theorem qFv{Re Rf Rg Rh Ri Rj}(a:BI Re)(B:AW Rf)(D:BF Rg)(u:AS Rh)(z:AT Ri)(E:BJ Rj){p0:cR}{p1:dR}{p2:eA}{F Z b8 b0 q2 b9 b6 G d3 d2 q4 c0 b7 r}(g:St m (aC Z b8 b0::aC q2 b9 b6::bZ F a1 c1 Z a2 c2 q2 p0.1::aC G d3 d2::aC q4 c0 b7::lQ bp0 F a3 c3 G q4 p0::O) w)(r1:RepS C1 m a1 c1 p0.1.1)(r2:MapQ cQ C7 true m Z b8 b0 p0.1.d.1)(r3:RepS aH m a2 c2 p0.1.e.1)(r4:MapQ bA C8 true m q2 b9 b6 p0.1.f)(r5:RepS C3 m a3 c3 p0.2.1)(r6:MapQ bA cH false m G d3 d2 p0.e.1)(r7:MapQ cJ eC false m q4 c0 b7 p0.k)(r8:RepS aH m a4 c4 p1.1.2.1)(r9:RepS C6 m a5 c5 p1.1.d)(M:RepS aH m a6 c6 p1.2.1.d.1)(R:RepS C5 m a7 c7 p1.2.1.e)(S:RepS (aR .i64) m a8 c8 p1.d)(U:RepS (aR .i64) m a9 c9 p2.f)(hr:BD N Re Rf Rg Rh Ri Rj p0 p1 p2=some r):Calls prog 49 #[vP bp0 0,.agg (iK p1 a4 c4 a5 c5 a6 c6 a7 c7 a8 c8),.agg (V9 p2 a9 c9)] w fun e w'=>(∃(z0:mQ),∃V Y m',r= .inl z0/\nB 158 m m' e z0.1 (aC Z b8 b0::aC q2 b9 b6::bZ F a1 c1 Z a2 c2 q2 p0.1::aC G V Y::aC q4 c0 b7::dV bp0 F a3 c3 G q4 p0 z0.d.1 z0.e.1 z0.f::O) w' (MapQ bA cH false m' G V Y z0.2.1))\/(∃(y0:mS),r= .inr y0/\∃V Y m',bX m m' e (vI y0.2) (aC Z b8 b0::aC q2 b9 b6::bZ F a1 c1 Z a2 c2 q2 p0.1::aC G V Y::aC q4 c0 b7::dV bp0 F a3 c3 G q4 p0 y0.1.2.1 y0.1.d.1 y0.1.e::O) w' (MapQ bA cH false m' G V Y y0.1.1)):=by
 refine bP g func49 rfl ntmps49 fun q=>aB (eE 4 143 (.agg (iK p1 a4 c4 a5 c5 a6 c6 a7 c7 a8 c8)) g fun b1 m1 w1 l g K=>eE 5 145 (.agg (V9 p2 a9 c9)) g fun b2 m2 w2 c g d1=> ?_);have r8:=(r8.o l).o c;have r9:=(r9.o l).o c;have M:=(M.o l).o c;have R:=(R.o l).o c;have S:=(S.o l).o c;have U:=(U.o l).o c;have K:=K.o c;have r2:=(r2.o l).o c;have r4:=(r4.o l).o c;have r1:=(r1.o l).o c;have r3:=(r3.o l).o c;have r7:=(r7.o l).o c;have r5:=(r5.o l).o c;refine aG 1 [] (aF (aF (dN [(8,fun w'=>Inv m2 w'/\True)] kr g fun w3 _ g=> ?_)));have o:=m2.le_refl;refine tA g o (bK 0 7 (vP bp0 0) (eD 1 8 (.agg (iK p1 a4 c4 a5 c5 a6 c6 a7 c7 a8 c8)) K (bK 2 9 (vP b2 4) (eD 3 10 (vS a9 p2.f c9) (d1.drop 4) ?_))));have⟨x1,f4,hr⟩:=aX hr;refine oF (t:=22) (e:=3) (x:=(.tmp 10)) (y:=(.const (vI 0))) 4 11 (aR .i64) kr rfl kr (.head _) (cP (cP mH)) (ev (vS a9 p2.f c9)) (ev (vI 0)) kr U f4 ?_;rintro b3 f1 g3 rfl e9;refine eD 5 12 (vI x1) e9 ?_;have g:=g.f5.f5.f5.f5.f5.f5;have⟨y1,f6,hr⟩:=aX hr;refine aZ 6 kr (qY 13 77 #[vP bp0 0,.agg (iK p1 a4 c4 a5 c5 a6 c6 a7 c7 a8 c8),vI x1] kr rfl ((a (p0:=p0) (p1:=p1) g r1 r2 r3 r4 r5 ((r6.o l).o c) r7 r8 r9 M R S f6).mono ?_));rintro _ w4 (⟨z1,d9,d7,m4,rfl,rfl,e4,g,f9⟩|⟨H,rfl,g5,g2,m3,rfl,b,g,d4⟩)
 .refine .inr ⟨_,rfl,?_⟩;have o:=Mem.le_trans o e4;refine bO (bO ?_);obtain rfl:=sI hr;have g:=g.f5.f5.f5.f5.f5.f5;exact cM (.inl ⟨z1,d9,d7,m4,rfl,rfl,((q.t l).t c).t e4,g,f9⟩)
 refine .inl ⟨_,rfl,?_⟩;have q:=((q.t l).t c).t b;have o:=Mem.le_trans o b;refine tA g o (bK 7 14 (vB (H.2 !=0)) (cO kr (aD (aJ hr ?_ ?_))))<;>intro A hr
 .refine aF (dN [(8,fun w'=>Inv m3 w'/\True)] kr g fun w6 _ g=> ?_);have p:=m3.le_refl;refine tA g p (bK 0 15 (vP bp0 0) (eD 1 16 (.agg (iK p1 a4 c4 a5 c5 a6 c6 a7 c7 a8 c8)) (K.o b) (bK 2 17 (vP b2 4) (eD 3 18 (vS a9 p2.f c9) ((d1.o b).drop 4) ?_))));have⟨x2,f7,hr⟩:=aX hr;refine oF (t:=22) (e:=3) (x:=(.tmp 18)) (y:=(.const (vI 1))) 4 19 (aR .i64) kr rfl kr (.head _) (cP (cP mH)) (ev (vS a9 p2.f c9)) (ev (vI 1)) kr (U.o b) f7 ?_;rintro b4 f2 g4 rfl f0;refine eD 5 20 (vI x2) f0 ?_;have g:=g.f5.f5.f5.f5.f5.f5;have⟨y3,f8,hr⟩:=aX hr;refine aZ 6 kr (qY 21 77 #[vP bp0 0,.agg (iK p1 a4 c4 a5 c5 a6 c6 a7 c7 a8 c8),vI x2] kr rfl ((a (p0:=(p0.1,p0.2.1,p0.d.1,H.1.1,H.1.2.1,H.1.d.1,H.1.e,p0.k)) (p1:=p1) g (r1.o b) (r2.o b) (r3.o b) (r4.o b) (r5.o b) d4 (r7.o b) (r8.o b) (r9.o b) (M.o b) (R.o b) (S.o b) f8).mono ?_));rintro _ w7 (⟨z2,e0,d6,m6,rfl,rfl,e6,g,g1⟩|⟨y4,rfl,d8,d5,m5,rfl,e5,g,g0⟩)
  .refine .inr ⟨_,rfl,?_⟩;have p:=Mem.le_trans p e6;refine bO (bO ?_);obtain rfl:=sI hr;have g:=g.f5.f5.f5.f5.f5.f5;exact cM (.inl ⟨z2,e0,d6,m6,rfl,rfl,q.t e6,g,g1⟩)
  refine .inl ⟨_,rfl,?_⟩;have p:=Mem.le_trans p e5;refine tA g p (bK 7 6 (vI y4.2) (cO kr (aD (aN (aU ?_)))));cases hr;exact aW [6] [vI y4.2] (.inr ⟨_,rfl,d8,d5,m5,rfl,q.t e5,g.f5.f5.f5.f5.f5.f5,g0⟩)
 refine aO (aD (aF (dN [(8,fun w'=>Inv m3 w'/\True)] kr g fun w9 _ g=> ?_)));have p:=m3.le_refl;refine tA g p (bK 0 22 (vP bp0 0) (eD 1 23 (.agg (iK p1 a4 c4 a5 c5 a6 c6 a7 c7 a8 c8)) (K.o b) (bK 2 24 (vP b2 4) (eD 3 25 (vS a9 p2.f c9) ((d1.o b).drop 4) ?_))));have⟨x3,f7,hr⟩:=aX hr;refine oF (t:=22) (e:=3) (x:=(.tmp 25)) (y:=(.const (vI 2))) 4 26 (aR .i64) kr rfl kr (.head _) (cP mH) (ev (vS a9 p2.f c9)) (ev (vI 2)) kr (U.o b) f7 ?_;rintro b5 f3 g4 rfl f0;refine eD 5 27 (vI x3) f0 ?_;have g:=g.f5.f5.f5.f5.f5.f5;have⟨y5,f8,hr⟩:=aX hr;refine aZ 6 kr (qY 28 77 #[vP bp0 0,.agg (iK p1 a4 c4 a5 c5 a6 c6 a7 c7 a8 c8),vI x3] kr rfl ((a (p0:=(p0.1,p0.2.1,p0.d.1,H.1.1,H.1.2.1,H.1.d.1,H.1.e,p0.k)) (p1:=p1) g (r1.o b) (r2.o b) (r3.o b) (r4.o b) (r5.o b) d4 (r7.o b) (r8.o b) (r9.o b) (M.o b) (R.o b) (S.o b) f8).mono ?_));rintro _ g6 (⟨z3,d6,d5,m8,rfl,rfl,e8,g,g1⟩|⟨y6,rfl,e0,d8,m7,rfl,e7,g,g0⟩)
 .refine .inr ⟨_,rfl,?_⟩;have p:=Mem.le_trans p e8;refine bO ?_;obtain rfl:=sI hr;have g:=g.f5.f5.f5.f5.f5.f5;exact cM (.inl ⟨z3,d6,d5,m8,rfl,rfl,q.t e8,g,g1⟩)
 refine .inl ⟨_,rfl,?_⟩;have p:=Mem.le_trans p e7;refine tA g p (bK 7 6 (vI y6.2) (cO kr (aD (aN ?_))));cases hr;exact aW [6] [vI y6.2] (.inr ⟨_,rfl,e0,d8,m7,rfl,q.t e7,g.f5.f5.f5.f5.f5.f5,g0⟩)
theorem qGc{Re Rf Rg Rh Ri Rj}(l:BI Re)(c:AW Rf)(b5:BF Rg)(Z:AS Rh)(b0:AT Ri)(b6:BJ Rj){p0:cR}{p1:dR}{p2:eA}{z F U M G V R D f7 f0 H Y S r}(g:St m (aC F U M::aC G V R::bZ z a1 c1 F a2 c2 G p0.1::aC D f7 f0::aC H Y S::lQ bp0 z a3 c3 D H p0::O) w)(r1:RepS C1 m a1 c1 p0.1.1)(r2:MapQ cQ C7 true m F U M p0.1.d.1)(r3:RepS aH m a2 c2 p0.1.e.1)(r4:MapQ bA C8 true m G V R p0.1.f)(r5:RepS C3 m a3 c3 p0.2.1)(r6:MapQ bA cH false m D f7 f0 p0.e.1)(r7:MapQ cJ eC false m H Y S p0.k)(r8:RepS aH m a4 c4 p1.1.2.1)(r9:RepS C6 m a5 c5 p1.1.d)(d5:RepS aH m a6 c6 p1.2.1.d.1)(d6:RepS C5 m a7 c7 p1.2.1.e)(d7:RepS (aR .i64) m a8 c8 p1.d)(d8:RepS (aR .i64) m a9 c9 p2.f)(hr:KT N Re Rf Rg Rh Ri Rj p0 p1 p2=some r):Calls prog 50 #[vP bp0 0,.agg (iK p1 a4 c4 a5 c5 a6 c6 a7 c7 a8 c8),.agg (V9 p2 a9 c9)] w fun e w'=>(∃(z0:mQ),∃c0 d1 m',r= .inl z0/\nB 158 m m' e z0.1 (aC F U M::aC G V R::bZ z a1 c1 F a2 c2 G p0.1::aC D c0 d1::aC H Y S::dV bp0 z a3 c3 D H p0 z0.d.1 z0.e.1 z0.f::O) w' (MapQ bA cH false m' D c0 d1 z0.2.1))\/(∃(y0:mS),r= .inr y0/\∃c0 d1 m',bX m m' e (vI y0.2) (aC F U M::aC G V R::bZ z a1 c1 F a2 c2 G p0.1::aC D c0 d1::aC H Y S::dV bp0 z a3 c3 D H p0 y0.1.2.1 y0.1.d.1 y0.1.e::O) w' (MapQ bA cH false m' D c0 d1 y0.1.1)):=by
 refine bP g func50 rfl ntmps50 fun q=>aB (eE 4 143 (.agg (iK p1 a4 c4 a5 c5 a6 c6 a7 c7 a8 c8)) g fun b1 m1 w1 p g d4=>eE 5 145 (.agg (V9 p2 a9 c9)) g fun b2 m2 w2 o g b8=> ?_);have r2:=(r2.o p).o o;have r4:=(r4.o p).o o;have r1:=(r1.o p).o o;have r3:=(r3.o p).o o;have r7:=(r7.o p).o o;have r5:=(r5.o p).o o;refine aG 1 [] (aB (aA 2 [(14,vP bp0 0),(15,vP b2 3)] (cL 16 (vT p2.e.1) g (b8.drop 3) (aL 17 hr (OY (p0:=p0) g.f5.f5.f5.f5.f5.f5 r1 r2 r3 r4 r5 ((r6.o p).o o) r7) ?_))));rintro y1 hr _ w3 ⟨e0,d9,m3,rfl,b,g,b9⟩;have q:=((q.t p).t o).t b;refine aA 5 [(18,vB y1.2.1),(19,.agg (Vd y1.d.1)),(20,vT y1.e.1),(21,vI y1.f)] (cD 8 58 (.agg dX) g fun b3 w4 g=>aA 1 [(7,vB y1.2.1)] (bJ (.agg (Vd y1.d.1)) g fun w5 g=>aG 2 [(9,vT y1.e.1),(10,vI y1.f)] (aB (aA 1 [(22,vI y1.f)] (cW 23 hr (MB g) ?_)))));rintro y2 hr _ w6 (⟨z1,m5,rfl,rfl,e5,g⟩|⟨y3,rfl,m4,rfl,a,g⟩)
 .refine bO ?_;obtain rfl:=sI hr;have g:=g.t.f5.f5.f5.f5.f5.f5;exact cM (.inl ⟨(z1,y1.1),e0,d9,m5,rfl,rfl,q.t e5,g,b9.o e5⟩)
 refine aQ (aB (aG 3 [(11,vI (y1.2.2.2.1.size:Int))] (aF (aI 1 [(26,vB y1.2.1)] (cK .normal hr (fun o1 L' w'=>∃u,L'=[(0,vP bp0 0),(4,vP b1 0),(5,vP b2 0),(7,vB y1.2.1),(8,vP b3 0),(9,vT y1.e.1),(11,vI o1)]/\m.le u/\St u (kB b3 (Vd y1.d.1) 58::bZ z a1 c1 F a2 c2 G p0.1::dV bp0 z a3 c3 D H p0 y1.1.2.1 y1.1.d.1 y1.1.e::aC F U M::aC G V R::aC D e0 d9::aC H Y S::O) w'/\MRow u b1 0 [vT p1.1.1,vS a4 p1.1.2.1 c4,vS a5 p1.1.d c5,vI p1.2.1.1,vT p1.2.1.2.1,vS a6 p1.2.1.d.1 c6,vS a7 p1.2.1.e c7,vS a8 p1.d c8]/\RepS aH u a4 c4 p1.1.2.1/\RepS C6 u a5 c5 p1.1.d/\RepS aH u a6 c6 p1.2.1.d.1/\RepS C5 u a7 c7 p1.2.1.e/\RepS (aR .i64) u a8 c8 p1.d/\MRow u b2 0 (Va p2 a9 c9)/\RepS (aR .i64) u a9 c9 p2.f/\RepS C1 u a1 c1 p0.1.1/\RepS aH u a2 c2 p0.1.e.1/\RepS C3 u a3 c3 p0.2.1/\MapQ cQ C7 true u F U M p0.1.d.1/\MapQ bA C8 true u G V R p0.1.f/\MapQ bA cH false u D e0 d9 y1.1.1/\MapQ cJ eC false u H Y S p0.k) ?_ ?_)))))
 .rintro o1 hr _ w8 ⟨u,rfl,q,g,d4,r8,r9,d5,d6,d7,b8,d8,r1,r3,r5,r2,r4,b9,r7⟩;refine aD (aF (dN [(8,fun w'=>Inv u w'/\True)] kr g fun w9 _ g=> ?_));have E:=u.le_refl;refine tA g E (bK 0 27 (vP bp0 0) (eD 1 28 (.agg (iK p1 a4 c4 a5 c5 a6 c6 a7 c7 a8 c8)) d4 (bK 2 29 (vP b2 4) (eD 3 30 (vS a9 p2.f c9) (b8.drop 4) ?_))));have⟨x1,g7,hr⟩:=aX hr;refine oF (t:=22) (e:=3) (x:=(.tmp 30)) (y:=(.const (vI 0))) 4 31 (aR .i64) kr rfl kr (.head _) (cP mH) (ev (vS a9 p2.f c9)) (ev (vI 0)) kr d8 g7 ?_;rintro b4 f1 h6 rfl g6;refine eD 5 32 (vI x1) g6 ?_;have g:=g.f2.f6.f6.f4.f6.f6;have⟨y4,g8,hr⟩:=aX hr;refine aZ 6 kr (qY 33 77 #[vP bp0 0,.agg (iK p1 a4 c4 a5 c5 a6 c6 a7 c7 a8 c8),vI x1] kr rfl ((l (p0:=(p0.1,p0.2.1,p0.d.1,y1.1.1,y1.1.2.1,y1.1.d.1,y1.1.e,p0.k)) (p1:=p1) g r1 r2 r3 r4 r5 b9 r7 r8 r9 d5 d6 d7 g8).mono ?_));rintro _ h7 (⟨z2,g3,f8,m8,rfl,rfl,e7,g,h3⟩|⟨y5,rfl,d3,d2,m7,rfl,B,g,b7⟩)
  .refine .inr ⟨_,rfl,?_⟩;have E:=Mem.le_trans E e7;refine bO ?_;obtain rfl:=sI hr;have g:=g.f6.t.f5.f5.f5.f5.f5.f5;exact cM (.inl ⟨z2,g3,f8,m8,rfl,rfl,q.t e7,g,h3⟩)
  refine .inl ⟨_,rfl,?_⟩;have E:=Mem.le_trans E B;refine tA g E (bK 7 12 (vI y5.2) (cO kr (aD (aB (eV 7 hr (fun o2 L' w'=>∃m9,L'=[(0,vP bp0 0),(7,vB y1.2.1),(8,vP b3 0),(9,vT y1.e.1),(12,vI y5.2),(40,vB o2)]/\m.le m9/\St m9 (bZ z a1 c1 F a2 c2 G p0.1::dV bp0 z a3 c3 D H p0 y5.1.2.1 y5.1.d.1 y5.1.e::kB b3 (Vd y1.d.1) 58::aC F U M::aC G V R::aC D d3 d2::aC H Y S::O) w'/\RepS C1 m9 a1 c1 p0.1.1/\RepS aH m9 a2 c2 p0.1.e.1/\RepS C3 m9 a3 c3 p0.2.1/\MapQ cQ C7 true m9 F U M p0.1.d.1/\MapQ bA C8 true m9 G V R p0.1.f/\MapQ bA cH false m9 D d3 d2 y5.1.1/\MapQ cJ eC false m9 H Y S p0.k) ?_ ?_)))))
  .rintro o2 hr _ h8 ⟨m9,rfl,q,g,r1,r3,r5,r2,r4,b7,r7⟩;refine cW 41 hr (vU g) ?_;rintro y6 hr _ h9 (⟨z3,h0,rfl,rfl,e9,g⟩|⟨y7,rfl,g9,rfl,e8,g⟩)
   .refine bO ?_;obtain rfl:=sI hr;have g:=g.f2.t.f1.f5.f5.f3.f5.f5;exact cM (.inl ⟨(z3,y5.1),d3,d2,h0,rfl,rfl,q.t e9,g,b7.o e9⟩)
   have q:=q.t e8;refine aQ (aF (aI 2 [(43,vB (!y1.2.1))] (aJ hr ?_ ?_)))<;>intro A hr
   .refine aT 2 [(44,vT y1.e.1),(45,vI y5.2)] (lF 46 hr fun x2 hr=>aG 2 [(6,vI (wr (x2.toNat:Int)))] (aN (aU ?_)));cases hr;exact aW [6] [vI (wr (x2.toNat:Int))] (.inr ⟨_,rfl,d3,d2,g9,rfl,q,g.f2.t.f1.f5.f5.f3.f5.f5,b7.o e8⟩)
   refine aO (aD (aT 1 [(48,vP bp0 0)] (bC 49 (.agg (Vd y1.d.1)) g.t.t.h (cW 50 hr (c (p0:=(p0.1,p0.2.1,p0.d.1,y5.1.1,y5.1.2.1,y5.1.d.1,y5.1.e,p0.k)) (p1:=y1.d.1) g.f1.f6.f6.f3.f6.f6 (r1.o e8) (r2.o e8) (r3.o e8) (r4.o e8) (r5.o e8) (b7.o e8) (r7.o e8) (RepS.nil _ _)) ?_))));rintro y8 hr _ k0 (⟨z4,g5,g0,h2,rfl,rfl,g2,g,h5⟩|⟨y9,rfl,g4,f9,h1,rfl,g1,g,h4⟩)
   .refine bO ?_;obtain rfl:=sI hr;have g:=g.f6.t.f5.f5.f5.f5.f5.f5;exact cM (.inl ⟨z4,g5,g0,h2,rfl,rfl,q.t g2,g,h5⟩)
   refine aG 4 [(6,vI (Int.tmod (wr ((Int.tmod y9.2 256)+256)) 256))] (aN ?_);cases hr;exact aW [6] [vI (Int.tmod (wr ((Int.tmod y9.2 256)+256)) 256)] (.inr ⟨_,rfl,g4,f9,h1,rfl,q.t g1,g.f6.t.f5.f5.f5.f5.f5.f5,h4⟩)
  intro o2 hr K;refine aA 3 [(36,vB (decide (y5.2<0)))] (cN 36 hr ?_ ?_)<;>intro A hr
  .refine aA 4 [(40,vB true)] ?_;cases hr;exact bH _ kr (K _ _ ⟨m7,rfl,q.t B,g.f4.f4.f3.f3.f6.f6.f6,r1.o B,r3.o B,r5.o B,r2.o B,r4.o B,b7,r7.o B⟩)
  refine aA 4 [(40,vB (decide (y5.2>=o1)))] ?_;cases hr;exact bH _ kr (K _ _ ⟨m7,rfl,q.t B,g.f4.f4.f3.f3.f6.f6.f6,r1.o B,r3.o B,r5.o B,r2.o B,r4.o B,b7,r7.o B⟩)
 intro o1 hr B;refine aJ hr ?_ ?_<;>intro A hr
 .refine aY (aA 1 [(11,vI 1)] (aV ?_));cases hr;exact xE (B _ _ ⟨m4,rfl,q.t a,g.f5.f5.f4.f4.f6.f6.f6,((d4.o o).o b).o a,(((r8.o p).o o).o b).o a,(((r9.o p).o o).o b).o a,(((d5.o p).o o).o b).o a,(((d6.o p).o o).o b).o a,(((d7.o p).o o).o b).o a,(b8.o b).o a,(((d8.o p).o o).o b).o a,(r1.o b).o a,(r3.o b).o a,(r5.o b).o a,(r2.o b).o a,(r4.o b).o a,b9.o a,(r7.o b).o a⟩)
 refine aO ?_;cases hr;exact xE (B _ _ ⟨m4,rfl,q.t a,g.f5.f5.f4.f4.f6.f6.f6,((d4.o o).o b).o a,(((r8.o p).o o).o b).o a,(((r9.o p).o o).o b).o a,(((d5.o p).o o).o b).o a,(((d6.o p).o o).o b).o a,(((d7.o p).o o).o b).o a,(b8.o b).o a,(((d8.o p).o o).o b).o a,(r1.o b).o a,(r3.o b).o a,(r5.o b).o a,(r2.o b).o a,(r4.o b).o a,b9.o a,(r7.o b).o a⟩)
theorem lA(N:Nat):∀D:Nat,(∀{m:Mem} {O:List Piece} {w:World} {p0:cR} {p1:dR} {p2:Int} {t:Nat} {a:Nat} {G:Option Addr} {M:Nat} {o:dK} {z:Array MapEntry} {u:Nat} {H:Option Addr} {R:Nat} {p:dK} {A:Array MapEntry} {x:Nat} {K:Option Addr} {S:Nat} {b:dK} {V:Array MapEntry} {U:Nat} {q:dK} {B:Array MapEntry} {y:Nat} {a4:Option Addr} {c4:Nat} {a5:Option Addr} {c5:Nat} {a6:Option Addr} {c6:Nat} {a7:Option Addr} {c7:Nat} {a8:Option Addr} {c8:Nat} {r:tZ} (g:St m (aC o z u::aC p A x::bZ a G M o H R p p0.1::aC b V U::aC q B y::lQ t a K S b q p0::O) w) (r1:RepS C1 m G M p0.1.1) (r2:MapQ cQ C7 true m o z u p0.1.d.1) (r3:RepS aH m H R p0.1.e.1) (r4:MapQ bA C8 true m p A x p0.1.f) (r5:RepS C3 m K S p0.2.1) (r6:MapQ bA cH false m b V U p0.e.1) (r7:MapQ cJ eC false m q B y p0.k) (r8:RepS aH m a4 c4 p1.1.2.1) (r9:RepS C6 m a5 c5 p1.1.d) (Y:RepS aH m a6 c6 p1.2.1.d.1) (Z:RepS C5 m a7 c7 p1.2.1.e) (b0:RepS (aR .i64) m a8 c8 p1.d) (hr:(iC N D).1 p0 p1 p2=some r),Calls prog 77 #[vP t 0,.agg (iK p1 a4 c4 a5 c5 a6 c6 a7 c7 a8 c8),vI p2] w fun e w'=>(∃(F:mQ),∃c l m',r= .inl F/\nB 158 m m' e F.1 (aC o z u::aC p A x::bZ a G M o H R p p0.1::aC b c l::aC q B y::dV t a K S b q p0 F.d.1 F.e.1 F.f::O) w' (MapQ bA cH false m' b c l F.2.1))\/(∃(E:mS),r= .inr E/\∃c l m',bX m m' e (vI E.2) (aC o z u::aC p A x::bZ a G M o H R p p0.1::aC b c l::aC q B y::dV t a K S b q p0 E.1.2.1 E.1.d.1 E.1.e::O) w' (MapQ bA cH false m' b c l E.1.1)))/\(∀{m:Mem} {O:List Piece} {w:World} {p0:cR} {p1:iG} {p2:Tb} {t:Nat} {a:Nat} {G:Option Addr} {M:Nat} {o:dK} {z:Array MapEntry} {u:Nat} {H:Option Addr} {R:Nat} {p:dK} {A:Array MapEntry} {x:Nat} {K:Option Addr} {S:Nat} {b:dK} {V:Array MapEntry} {U:Nat} {q:dK} {B:Array MapEntry} {y:Nat} {a4:Option Addr} {c4:Nat} {r:tZ} (g:St m (aC o z u::aC p A x::bZ a G M o H R p p0.1::aC b V U::aC q B y::lQ t a K S b q p0::O) w) (r1:RepS C1 m G M p0.1.1) (r2:MapQ cQ C7 true m o z u p0.1.d.1) (r3:RepS aH m H R p0.1.e.1) (r4:MapQ bA C8 true m p A x p0.1.f) (r5:RepS C3 m K S p0.2.1) (r6:MapQ bA cH false m b V U p0.e.1) (r7:MapQ cJ eC false m q B y p0.k) (r8:RepS (aR .i64) m a4 c4 p2) (hr:(iC N D).2.1 p0 p1 p2=some r),Calls prog 79 #[vP t 0,.agg (Vd p1),vS a4 p2 c4] w fun e w'=>(∃(F:mQ),∃c l m',r= .inl F/\nB 158 m m' e F.1 (aC o z u::aC p A x::bZ a G M o H R p p0.1::aC b c l::aC q B y::dV t a K S b q p0 F.d.1 F.e.1 F.f::O) w' (MapQ bA cH false m' b c l F.2.1))\/(∃(E:mS),r= .inr E/\∃c l m',bX m m' e (vI E.2) (aC o z u::aC p A x::bZ a G M o H R p p0.1::aC b c l::aC q B y::dV t a K S b q p0 E.1.2.1 E.1.d.1 E.1.e::O) w' (MapQ bA cH false m' b c l E.1.1)))/\(∀{m:Mem} {O:List Piece} {w:World} {p0:cR} {p1:dR} {p2:eA} {t:Nat} {a:Nat} {G:Option Addr} {M:Nat} {o:dK} {z:Array MapEntry} {u:Nat} {H:Option Addr} {R:Nat} {p:dK} {A:Array MapEntry} {x:Nat} {K:Option Addr} {S:Nat} {b:dK} {V:Array MapEntry} {U:Nat} {q:dK} {B:Array MapEntry} {y:Nat} {a4:Option Addr} {c4:Nat} {a5:Option Addr} {c5:Nat} {a6:Option Addr} {c6:Nat} {a7:Option Addr} {c7:Nat} {a8:Option Addr} {c8:Nat} {a9:Option Addr} {c9:Nat} {r:tZ} (g:St m (aC o z u::aC p A x::bZ a G M o H R p p0.1::aC b V U::aC q B y::lQ t a K S b q p0::O) w) (r1:RepS C1 m G M p0.1.1) (r2:MapQ cQ C7 true m o z u p0.1.d.1) (r3:RepS aH m H R p0.1.e.1) (r4:MapQ bA C8 true m p A x p0.1.f) (r5:RepS C3 m K S p0.2.1) (r6:MapQ bA cH false m b V U p0.e.1) (r7:MapQ cJ eC false m q B y p0.k) (r8:RepS aH m a4 c4 p1.1.2.1) (r9:RepS C6 m a5 c5 p1.1.d) (Y:RepS aH m a6 c6 p1.2.1.d.1) (Z:RepS C5 m a7 c7 p1.2.1.e) (b0:RepS (aR .i64) m a8 c8 p1.d) (b1:RepS (aR .i64) m a9 c9 p2.f) (hr:(iC N D).2.2.1 p0 p1 p2=some r),Calls prog 47 #[vP t 0,.agg (iK p1 a4 c4 a5 c5 a6 c6 a7 c7 a8 c8),.agg (V9 p2 a9 c9)] w fun e w'=>(∃(F:mQ),∃c l m',r= .inl F/\nB 158 m m' e F.1 (aC o z u::aC p A x::bZ a G M o H R p p0.1::aC b c l::aC q B y::dV t a K S b q p0 F.d.1 F.e.1 F.f::O) w' (MapQ bA cH false m' b c l F.2.1))\/(∃(E:mS),r= .inr E/\∃c l m',bX m m' e (vI E.2) (aC o z u::aC p A x::bZ a G M o H R p p0.1::aC b c l::aC q B y::dV t a K S b q p0 E.1.2.1 E.1.d.1 E.1.e::O) w' (MapQ bA cH false m' b c l E.1.1)))/\(∀{m:Mem} {O:List Piece} {w:World} {p0:cR} {p1:dR} {p2:eA} {t:Nat} {a:Nat} {G:Option Addr} {M:Nat} {o:dK} {z:Array MapEntry} {u:Nat} {H:Option Addr} {R:Nat} {p:dK} {A:Array MapEntry} {x:Nat} {K:Option Addr} {S:Nat} {b:dK} {V:Array MapEntry} {U:Nat} {q:dK} {B:Array MapEntry} {y:Nat} {a4:Option Addr} {c4:Nat} {a5:Option Addr} {c5:Nat} {a6:Option Addr} {c6:Nat} {a7:Option Addr} {c7:Nat} {a8:Option Addr} {c8:Nat} {a9:Option Addr} {c9:Nat} {r:tZ} (g:St m (aC o z u::aC p A x::bZ a G M o H R p p0.1::aC b V U::aC q B y::lQ t a K S b q p0::O) w) (r1:RepS C1 m G M p0.1.1) (r2:MapQ cQ C7 true m o z u p0.1.d.1) (r3:RepS aH m H R p0.1.e.1) (r4:MapQ bA C8 true m p A x p0.1.f) (r5:RepS C3 m K S p0.2.1) (r6:MapQ bA cH false m b V U p0.e.1) (r7:MapQ cJ eC false m q B y p0.k) (r8:RepS aH m a4 c4 p1.1.2.1) (r9:RepS C6 m a5 c5 p1.1.d) (Y:RepS aH m a6 c6 p1.2.1.d.1) (Z:RepS C5 m a7 c7 p1.2.1.e) (b0:RepS (aR .i64) m a8 c8 p1.d) (b1:RepS (aR .i64) m a9 c9 p2.f) (hr:(iC N D).2.2.2.1 p0 p1 p2=some r),Calls prog 48 #[vP t 0,.agg (iK p1 a4 c4 a5 c5 a6 c6 a7 c7 a8 c8),.agg (V9 p2 a9 c9)] w fun e w'=>(∃(F:mQ),∃c l m',r= .inl F/\nB 158 m m' e F.1 (aC o z u::aC p A x::bZ a G M o H R p p0.1::aC b c l::aC q B y::dV t a K S b q p0 F.d.1 F.e.1 F.f::O) w' (MapQ bA cH false m' b c l F.2.1))\/(∃(E:mS),r= .inr E/\∃c l m',bX m m' e (vI E.2) (aC o z u::aC p A x::bZ a G M o H R p p0.1::aC b c l::aC q B y::dV t a K S b q p0 E.1.2.1 E.1.d.1 E.1.e::O) w' (MapQ bA cH false m' b c l E.1.1)))/\(∀{m:Mem} {O:List Piece} {w:World} {p0:cR} {p1:dR} {p2:eA} {t:Nat} {a:Nat} {G:Option Addr} {M:Nat} {o:dK} {z:Array MapEntry} {u:Nat} {H:Option Addr} {R:Nat} {p:dK} {A:Array MapEntry} {x:Nat} {K:Option Addr} {S:Nat} {b:dK} {V:Array MapEntry} {U:Nat} {q:dK} {B:Array MapEntry} {y:Nat} {a4:Option Addr} {c4:Nat} {a5:Option Addr} {c5:Nat} {a6:Option Addr} {c6:Nat} {a7:Option Addr} {c7:Nat} {a8:Option Addr} {c8:Nat} {a9:Option Addr} {c9:Nat} {r:tZ} (g:St m (aC o z u::aC p A x::bZ a G M o H R p p0.1::aC b V U::aC q B y::lQ t a K S b q p0::O) w) (r1:RepS C1 m G M p0.1.1) (r2:MapQ cQ C7 true m o z u p0.1.d.1) (r3:RepS aH m H R p0.1.e.1) (r4:MapQ bA C8 true m p A x p0.1.f) (r5:RepS C3 m K S p0.2.1) (r6:MapQ bA cH false m b V U p0.e.1) (r7:MapQ cJ eC false m q B y p0.k) (r8:RepS aH m a4 c4 p1.1.2.1) (r9:RepS C6 m a5 c5 p1.1.d) (Y:RepS aH m a6 c6 p1.2.1.d.1) (Z:RepS C5 m a7 c7 p1.2.1.e) (b0:RepS (aR .i64) m a8 c8 p1.d) (b1:RepS (aR .i64) m a9 c9 p2.f) (hr:(iC N D).2.2.2.2.1 p0 p1 p2=some r),Calls prog 49 #[vP t 0,.agg (iK p1 a4 c4 a5 c5 a6 c6 a7 c7 a8 c8),.agg (V9 p2 a9 c9)] w fun e w'=>(∃(F:mQ),∃c l m',r= .inl F/\nB 158 m m' e F.1 (aC o z u::aC p A x::bZ a G M o H R p p0.1::aC b c l::aC q B y::dV t a K S b q p0 F.d.1 F.e.1 F.f::O) w' (MapQ bA cH false m' b c l F.2.1))\/(∃(E:mS),r= .inr E/\∃c l m',bX m m' e (vI E.2) (aC o z u::aC p A x::bZ a G M o H R p p0.1::aC b c l::aC q B y::dV t a K S b q p0 E.1.2.1 E.1.d.1 E.1.e::O) w' (MapQ bA cH false m' b c l E.1.1)))/\(∀{m:Mem} {O:List Piece} {w:World} {p0:cR} {p1:dR} {p2:eA} {t:Nat} {a:Nat} {G:Option Addr} {M:Nat} {o:dK} {z:Array MapEntry} {u:Nat} {H:Option Addr} {R:Nat} {p:dK} {A:Array MapEntry} {x:Nat} {K:Option Addr} {S:Nat} {b:dK} {V:Array MapEntry} {U:Nat} {q:dK} {B:Array MapEntry} {y:Nat} {a4:Option Addr} {c4:Nat} {a5:Option Addr} {c5:Nat} {a6:Option Addr} {c6:Nat} {a7:Option Addr} {c7:Nat} {a8:Option Addr} {c8:Nat} {a9:Option Addr} {c9:Nat} {r:tZ} (g:St m (aC o z u::aC p A x::bZ a G M o H R p p0.1::aC b V U::aC q B y::lQ t a K S b q p0::O) w) (r1:RepS C1 m G M p0.1.1) (r2:MapQ cQ C7 true m o z u p0.1.d.1) (r3:RepS aH m H R p0.1.e.1) (r4:MapQ bA C8 true m p A x p0.1.f) (r5:RepS C3 m K S p0.2.1) (r6:MapQ bA cH false m b V U p0.e.1) (r7:MapQ cJ eC false m q B y p0.k) (r8:RepS aH m a4 c4 p1.1.2.1) (r9:RepS C6 m a5 c5 p1.1.d) (Y:RepS aH m a6 c6 p1.2.1.d.1) (Z:RepS C5 m a7 c7 p1.2.1.e) (b0:RepS (aR .i64) m a8 c8 p1.d) (b1:RepS (aR .i64) m a9 c9 p2.f) (hr:(iC N D).2.2.2.2.2 p0 p1 p2=some r),Calls prog 50 #[vP t 0,.agg (iK p1 a4 c4 a5 c5 a6 c6 a7 c7 a8 c8),.agg (V9 p2 a9 c9)] w fun e w'=>(∃(F:mQ),∃c l m',r= .inl F/\nB 158 m m' e F.1 (aC o z u::aC p A x::bZ a G M o H R p p0.1::aC b c l::aC q B y::dV t a K S b q p0 F.d.1 F.e.1 F.f::O) w' (MapQ bA cH false m' b c l F.2.1))\/(∃(E:mS),r= .inr E/\∃c l m',bX m m' e (vI E.2) (aC o z u::aC p A x::bZ a G M o H R p p0.1::aC b c l::aC q B y::dV t a K S b q p0 E.1.2.1 E.1.d.1 E.1.e::O) w' (MapQ bA cH false m' b c l E.1.1)))
 |0=>⟨fun _ _ _ _ _ _ _ _ _ _ _ _ _ hr=>(by cases hr),fun _ _ _ _ _ _ _ _ _ hr=>(by cases hr),fun _ _ _ _ _ _ _ _ _ _ _ _ _ _ hr=>(by cases hr),fun _ _ _ _ _ _ _ _ _ _ _ _ _ _ hr=>(by cases hr),fun _ _ _ _ _ _ _ _ _ _ _ _ _ _ hr=>(by cases hr),fun _ _ _ _ _ _ _ _ _ _ _ _ _ _ hr=>(by cases hr)⟩
 |D+1=>⟨fun g r1 r2 r3 r4 r5 r6 r7 r8 r9 Y Z b0 hr=>qGg (lA N D).1 (lA N D).2.1 (lA N D).2.2.1 (lA N D).2.2.2.1 (lA N D).2.2.2.2.1 (lA N D).2.2.2.2.2 g r1 r2 r3 r4 r5 r6 r7 r8 r9 Y Z b0 hr,fun g r1 r2 r3 r4 r5 r6 r7 r8 hr=>qFy (lA N D).1 (lA N D).2.1 (lA N D).2.2.1 (lA N D).2.2.2.1 (lA N D).2.2.2.2.1 (lA N D).2.2.2.2.2 g r1 r2 r3 r4 r5 r6 r7 r8 hr,fun g r1 r2 r3 r4 r5 r6 r7 r8 r9 Y Z b0 b1 hr=>qGb (lA N D).1 (lA N D).2.1 (lA N D).2.2.1 (lA N D).2.2.2.1 (lA N D).2.2.2.2.1 (lA N D).2.2.2.2.2 g r1 r2 r3 r4 r5 r6 r7 r8 r9 Y Z b0 b1 hr,fun g r1 r2 r3 r4 r5 r6 r7 r8 r9 Y Z b0 b1 hr=>qFu (lA N D).1 (lA N D).2.1 (lA N D).2.2.1 (lA N D).2.2.2.1 (lA N D).2.2.2.2.1 (lA N D).2.2.2.2.2 g r1 r2 r3 r4 r5 r6 r7 r8 r9 Y Z b0 b1 hr,fun g r1 r2 r3 r4 r5 r6 r7 r8 r9 Y Z b0 b1 hr=>qFv (N:=N) (lA N D).1 (lA N D).2.1 (lA N D).2.2.1 (lA N D).2.2.2.1 (lA N D).2.2.2.2.1 (lA N D).2.2.2.2.2 g r1 r2 r3 r4 r5 r6 r7 r8 r9 Y Z b0 b1 hr,fun g r1 r2 r3 r4 r5 r6 r7 r8 r9 Y Z b0 b1 hr=>qGc (lA N D).1 (lA N D).2.1 (lA N D).2.2.1 (lA N D).2.2.2.1 (lA N D).2.2.2.2.1 (lA N D).2.2.2.2.2 g r1 r2 r3 r4 r5 r6 r7 r8 r9 Y Z b0 b1 hr⟩
theorem qGo{p0:cR}{p1:iG}{p2:Tb}{a:Nat}{o:dK}{y:Array MapEntry}{t:Nat}{p:dK}{z:Array MapEntry}{u:Nat}{b:dK}{F:Array MapEntry}{E:Nat}{q:dK}{A:Array MapEntry}{x:Nat}{r:tZ}(g:St m (aC o y t::aC p z u::bZ a a1 c1 o a2 c2 p p0.1::aC b F E::aC q A x::lQ bp0 a a3 c3 b q p0::O) w)(G:RepS C1 m a1 c1 p0.1.1)(H:MapQ cQ C7 true m o y t p0.1.d.1)(K:RepS aH m a2 c2 p0.1.e.1)(M:MapQ bA C8 true m p z u p0.1.f)(R:RepS C3 m a3 c3 p0.2.1)(S:MapQ bA cH false m b F E p0.e.1)(U:MapQ cJ eC false m q A x p0.k)(V:RepS (aR .i64) m a4 c4 p2)(hr:BO N p0 p1 p2=some r):Calls prog 79 #[vP bp0 0,.agg (Vd p1),vS a4 p2 c4] w fun e w'=>(∃(D:mQ),∃c l m',r= .inl D/\nB 158 m m' e D.1 (aC o y t::aC p z u::bZ a a1 c1 o a2 c2 p p0.1::aC b c l::aC q A x::dV bp0 a a3 c3 b q p0 D.d.1 D.e.1 D.f::O) w' (MapQ bA cH false m' b c l D.2.1))\/(∃(B:mS),r= .inr B/\∃c l m',bX m m' e (vI B.2) (aC o y t::aC p z u::bZ a a1 c1 o a2 c2 p p0.1::aC b c l::aC q A x::dV bp0 a a3 c3 b q p0 B.1.2.1 B.1.d.1 B.1.e::O) w' (MapQ bA cH false m' b c l B.1.1)):=
 (lA N N).2.1 g G H K M R S U V hr
end
section
open Go Go.Dc Go.Proofs.Tryz
set_option maxHeartbeats 4000000
set_option maxRecDepth 100000
variable {N bp0 c1 c2 c3 c4:Nat} {m:Mem} {O:List Piece} {w:World} {a1 a2 a3 a4:Option Addr}
def FG(N:Nat)(p0:cR)(p1:iG)(p2:Tb):Option (wT×yN):=
 (BO N (p0.1,p0.2.1,p0.2.2.1,p0.2.2.2.1,p0.2.2.2.2.1,p0.2.2.2.2.2.1,p0.2.2.2.2.2.2.1,p0.2.2.2.2.2.2.2) p1 p2).bind fun y1=>(match y1 with| .inl a=>some (a.2,(3,0,a.1))| .inr a=>if(a.2==0)=true then(some (a.1,(2,0,0))) else(some (a.1,(1,a.2,0))))
theorem qGf{p0:cR}{p1:iG}{p2:Tb}{l F B x G D y p R K H E z}{r:wT×yN}(g:St m (aC F B x::aC G D y::bZ l a1 c1 F a2 c2 G p0.1::aC p R K::aC H E z::lQ bp0 l a3 c3 p H p0::O) w)(r1:RepS C1 m a1 c1 p0.1.1)(r2:MapQ cQ C7 true m F B x p0.1.d.1)(r3:RepS aH m a2 c2 p0.1.e.1)(r4:MapQ bA C8 true m G D y p0.1.f)(r5:RepS C3 m a3 c3 p0.2.1)(r6:MapQ bA cH false m p R K p0.e.1)(r7:MapQ cJ eC false m H E z p0.k)(r8:RepS (aR .i64) m a4 c4 p2)(hr:FG N p0 p1 p2=some r):Calls prog 55 #[vP bp0 0,.agg (Vd p1),vS a4 p2 c4] w fun e w'=>∃U V m',bX m m' e (.agg (Vk r.2)) (aC F B x::aC G D y::bZ l a1 c1 F a2 c2 G p0.1::aC p U V::aC H E z::dV bp0 l a3 c3 p H p0 r.1.2.1 r.1.d.1 r.1.e::O) w' (MapQ bA cH false m' p U V r.1.1):=by
 have q:=m.le_refl;refine qBv func55 rfl ntmps55 [(0,vP bp0 0),(1,.agg (Vd p1)),(2,vS a4 p2 c4)] kr rfl ?_;refine DN ?_;refine aY (eE 4 58 (.agg (Vd p1)) g fun b1 m1 w1 b g a6=> ?_);have q:=q.t b;refine cD 6 41 (.agg (Vl 0 0 0)) g fun c w2 g=>aV (DG (DN (aY (aA 1 [(8,.func (.func 83) #[] #[vP c 0])] (qAp ({target:= .fn (.func 83) #[vP c 0],args:= #[]}) kr kr (aV (DG (aT 1 [(9,vP bp0 0)] (cL 10 (.agg (Vd p1)) g a6 (aA 1 [(11,vS a4 p2 c4)] (cW 12 hr (qGo (p0:=p0) (p1:=p1) g.f6.f6.f6.f6.f6.f6 (r1.o b) (r2.o b) (r3.o b) (r4.o b) (r5.o b) (r6.o b) (r7.o b) (r8.o b)) ?_)))))))))));rintro y1 hr _ w3 (⟨a,a5,Y,m3,rfl,rfl,e3,g,a7⟩|⟨u,rfl,S,M,m2,rfl,Z,g,r9⟩)
 .refine bO (qEi [.cell 6 41] rfl (CW func83 kr) (HG (.panicking [{v:= .iface 158 (.agg #[vI a.1]),recovered:=false}]) func83 rfl ntmps83 [(0,vP c 0)] kr rfl (d:=4) kr kr [(1,.iface 158 (.agg #[vI a.1])),(4,.iface 158 (.agg #[vI a.1])),(0,vP c 0)] (.iface 158 (.agg #[vI a.1])) (.panicking [{v:= .iface 158 (.agg #[vI a.1]),recovered:=true}]) rfl kr (aI 2 [(6,vB true)] (pD true kr ?_ (fun h=>Bool.noConfusion h)))));intro _;refine aT 5 [(10,.agg #[vI a.1]),(11,vB true)] (cD 2 158 (.agg #[vI 0]) g fun b3 w5 g=>bJ (.agg #[vI a.1]) g fun w6 g=>aG 1 [(3,vB true)] (aF (aI 2 [(13,vB false)] (pD false kr (fun h=>Bool.noConfusion h) ?_))));intro _;refine aO (aD (aY (bG 1 16 39 15 0 (vI a.1) g.h (aA 1 [(17,.agg (Vl 3 0 a.1))] (bJ (.agg (Vl 3 0 a.1)) g.f7 fun w7 g=>aV ?_)))));cases hr;exact pT [] [] rfl ResAll.nil ⟨_,rfl,⟨[.agg (Vl 3 0 a.1)],(ResAll.cons (ResAt.blk (v:= .agg (Vl 3 0 a.1)) (o:=0) kr g.h kr) ResAll.nil),⟨a5,Y,m3,rfl,q.t e3,g.t.t.f5.f5.f5.f5.f5.f5,a7⟩⟩⟩
 refine aG 1 [(7,vI u.2)] (aF (aI 2 [(14,vB (u.2==0))] (aJ hr ?_ ?_)))<;>intro A hr
 .refine aT 1 [(15,.agg (Vl 2 0 0))] (bJ (.agg (Vl 2 0 0)) g.f6 fun w8 g=>aQ (aN (aU (TZ [.cell 6 41] rfl (CW func83 kr) (HG .returning func83 rfl ntmps83 [(0,vP c 0)] kr rfl (d:=4) kr kr [(1,.nilIface),(4,.nilIface),(0,vP c 0)] (.nilIface) .returning rfl kr (aI 2 [(6,vB false)] (pD false kr (fun h=>Bool.noConfusion h) ?_)))))));intro _;refine aO ?_;cases hr;exact pT [] [] rfl ResAll.nil ⟨_,rfl,⟨[.agg (Vl 2 0 0)],(ResAll.cons (ResAt.blk (v:= .agg (Vl 2 0 0)) (o:=0) kr g.h kr) ResAll.nil),⟨S,M,m2,rfl,q.t Z,g.t.f5.f5.f5.f5.f5.f5,r9⟩⟩⟩
 refine aO (aD (aT 2 [(17,.agg (Vl 1 u.2 0))] (bJ (.agg (Vl 1 u.2 0)) g.f6 fun w9 g=>aQ (aN (TZ [.cell 6 41] rfl (CW func83 kr) (HG .returning func83 rfl ntmps83 [(0,vP c 0)] kr rfl (d:=4) kr kr [(1,.nilIface),(4,.nilIface),(0,vP c 0)] (.nilIface) .returning rfl kr (aI 2 [(6,vB false)] (pD false kr (fun h=>Bool.noConfusion h) ?_))))))));intro _;refine aO ?_;cases hr;exact pT [] [] rfl ResAll.nil ⟨_,rfl,⟨[.agg (Vl 1 u.2 0)],(ResAll.cons (ResAt.blk (v:= .agg (Vl 1 u.2 0)) (o:=0) kr g.h kr) ResAll.nil),⟨S,M,m2,rfl,q.t Z,g.t.f5.f5.f5.f5.f5.f5,r9⟩⟩⟩
def HC(N:Nat)(p0:Int):Th:=
 some (p0 !=p0)
theorem VX{p0:Int}{r:Bool}(g:St m (O) w)(hr:HC N p0=some r):Calls prog 121 #[vI p0] w fun e w'=>∃m',eN m m' e (vB r) (O) w':=by
 refine bP g func121 rfl ntmps121 fun q=>aI 1 [] (aB (aG 4 [(2,vB (p0 !=p0))] (aN ?_)));cases hr;exact aW [2] [vB (p0 !=p0)] ⟨m,rfl,q,g⟩
def MC(N:Nat)(p0:Int)(p1:Int):Ta:=
 (HC N p0).bind fun y1=>(HC N p1).bind fun a=>if y1=true then(if a=true then(some 0) else(some (-1))) else(if a=true then(some 1) else(if(decide (p0<p1))=true then(some (-1)) else(if(decide (p0>p1))=true then(some 1) else(some 0))))
theorem qIb{p0:Int}{p1:Int}{r:Int}(g:St m (O) w)(hr:MC N p0 p1=some r):Calls prog 87 #[vI p0,vI p1] w fun e w'=>∃m',eN m m' e (vI r) (O) w':=by
 refine bP g func87 rfl ntmps87 fun q=>aI 1 [] (aB (aA 1 [(7,vI p0)] (aL 8 hr (VX g) ?_)));rintro y1 hr _ h ⟨f,rfl,c,g⟩;refine aG 1 [(5,vB y1)] (aB (aA 1 [(9,vI p1)] (aL 10 hr (VX g) ?_)));rintro b hr _ k ⟨a,rfl,d,g⟩;have q:=(q.t c).t d;refine aG 1 [(6,vB b)] (aF (aI 1 [(11,vB y1)] (aJ hr ?_ ?_)))<;>intro A hr
 .refine aF (aI 1 [(12,vB b)] (aJ hr ?_ ?_))<;>intro A hr
  .refine aI 1 [(4,vI 0)] (aN (aU (aU ?_)));cases hr;exact aW [4] [vI 0] ⟨a,rfl,q,g⟩
  refine aO (aD (aI 1 [(4,vI (-1))] (aN (aU ?_))));cases hr;exact aW [4] [vI (-1)] ⟨a,rfl,q,g⟩
 refine aO (aD (aF (aI 1 [(13,vB b)] (aJ hr ?_ ?_))))<;>intro A hr
 .refine aI 1 [(4,vI 1)] (aN (aU ?_));cases hr;exact aW [4] [vI 1] ⟨a,rfl,q,g⟩
 refine aO (aD (aF (aI 3 [(16,vB (decide (p0<p1)))] (aJ hr ?_ ?_))))<;>intro A hr
 .refine aI 1 [(4,vI (-1))] (aN (aU ?_));cases hr;exact aW [4] [vI (-1)] ⟨a,rfl,q,g⟩
 refine aO (aD (aF (aI 3 [(19,vB (decide (p0>p1)))] (aJ hr ?_ ?_))))<;>intro A hr
 .refine aI 1 [(4,vI 1)] (aN (aU ?_));cases hr;exact aW [4] [vI 1] ⟨a,rfl,q,g⟩
 refine aO (aD (aI 1 [(4,vI 0)] (aN ?_)));cases hr;exact aW [4] [vI 0] ⟨a,rfl,q,g⟩
def OR(N:Nat)(p0:BA)(p1:BA):Ta:=
 some (pK p0 p1)
theorem qFk{p0:BA}{p1:BA}{r:Int}(g:St m (O) w)(hr:OR N p0 p1=some r):Calls prog 122 #[vT p0,vT p1] w fun e w'=>∃m',eN m m' e (vI r) (O) w':=by
 refine bP g func122 rfl ntmps122 fun q=>aI 1 [] (aB (aA 2 [(5,vT p0),(6,vT p1)] (bS (qLt (d:=7) (f:=149) (x:=(.tmp 5)) (y:=(.tmp 6)) (ts:= #[9,9]) kr rfl (ev (vT p0)) (ev (vT p1)) func149 kr kr (aG 1 [(4,vI (pK p0 p1))] (aN ?_))))));cases hr;exact aW [4] [vI (pK p0 p1)] ⟨m,rfl,q,g⟩
def GS(N:Nat)(p0:BA)(p1:BA):Ta:=
 (OR N p0 p1).bind fun y1=>some y1
theorem VV{p0:BA}{p1:BA}{r:Int}(g:St m (O) w)(hr:GS N p0 p1=some r):Calls prog 88 #[vT p0,vT p1] w fun e w'=>∃m',eN m m' e (vI r) (O) w':=by
 refine bP g func88 rfl ntmps88 fun q=>aI 1 [] (aB (aA 2 [(5,vT p0),(6,vT p1)] (aL 7 hr (qFk g) ?_)));rintro y1 hr _ c ⟨b,rfl,a,g⟩;refine aG 1 [(4,vI y1)] (aN ?_);obtain rfl:=sI hr;exact aW [4] [vI y1] ⟨b,rfl,q.t a,g⟩
def QE(N:Nat)(p0:Tb)(s1:Int):EO:=
 if(decide (s1<(List.length p0:Int)))=true then((bQ p0 s1).bind fun a=>if(a !=0)=true then(some (.inr (.inr (a)))) else(some (.inl (IntKind.wrap .i64 (s1+1))))) else(some (.inr (.inl ())))
def MQ(N:Nat)(p0:Tb):Ta:=
 (aK (QE N p0) N 0).bind fun a=>(match a with| .inl a=>some 0| .inr (z)=>some z)
theorem qJf{p0:Tb}{r:Int}(g:St m (O) w)(l:RepS (aR .i64) m a1 c1 p0)(hr:MQ N p0=some r):Calls prog 86 #[vS a1 p0 c1] w fun e w'=>∃m',eN m m' e (vI r) (O) w':=by
 refine bP g func86 rfl ntmps86 fun q=>aI 1 [] (aB (aG 1 [(3,vI 0)] (aF (aI 3 [(6,vS a1 p0 c1),(7,vI (p0.length:Int)),(8,vI 0)] (bB ?_)))));have⟨c,hr,p⟩:=aX hr;refine dW (.exit 0) (fun L' w'=>∃(s:Unit),∃k,(.inl s)=c/\L'=[(3,vI 0)]/\m.le k/\St k (O) w') ?_ ?_
 .rintro _ a ⟨s,k,rfl,rfl,q,g⟩;have hr:=p;refine cX (aD (aI 2 [(2,vI 0)] (aN ?_)));cases hr;exact aW [2] [vI 0] ⟨k,rfl,q,g⟩
 intro f;refine dL (fun h L' w'=>∃(s1:Int),∃a,aK (QE N p0) h s1=some c/\L'=[(3,vI 0),(6,vS a1 p0 c1),(7,vI (p0.length:Int)),(8,vI s1)]/\m.le a/\St a (O) w'/\RepS (aR .i64) a a1 c1 p0) N ⟨0,m,hr,rfl,q,g,l⟩ ?_;rintro h _ y ⟨s1,a,hL,rfl,q,g,l⟩;obtain⟨h,v,rfl,hr,n,b⟩:=dQ hL;refine aI 1 [(9,vB (decide (s1<(p0.length:Int))))] (aF (aJ hr ?_ ?_))<;>intro A hr
 .refine aO (aD (aF (bB (aB (iJ 10 l hr ?_)))));rintro d hr x t u rfl o;refine iI 11 3 10 t (vI d) g o (aG 1 [(5,vI d)] (aB (aG 3 [(14,vB (d !=0))] (aJ hr ?_ ?_))))<;>intro A hr
  .refine aI 2 [(2,vI d)] (aN (bM (aU ?_)));have ho:=b _ (sI hr);subst ho;have hr:=p;refine aU (bM (aU ?_));obtain rfl:=sI hr;exact aW [2] [vI d] ⟨a,rfl,q,g⟩
  refine aO (bT (aD (aY (aA 2 [(8,vI (wr (s1+1)))] (aV ?_)))));have hL:=n _ (sI hr);exact cZ ⟨wr (s1+1),a,hL,rfl,q,g,l⟩
 refine cS (bF ?_);have ho:=b _ (sI hr);refine bF ?_;exact xE (f _ _ ⟨(),a,ho,rfl,q,g⟩)
def PZ(N:Nat)(p0:oK)(p1:oK):Ta:=
 (MC N p0.1 p1.1).bind fun y1=>(GS N p0.2.1 p1.2.1).bind fun a=>(GS N p0.2.2 p1.2.2).bind fun b=>(MQ N ([y1,a,b])).bind fun a=>some a
theorem qIa{p0:oK}{p1:oK}{r:Int}(g:St m (O) w)(hr:PZ N p0 p1=some r):Calls prog 57 #[.agg (Vi p0),.agg (Vi p1)] w fun e w'=>∃m',eN m m' e (vI r) (O) w':=by
 refine bP g func57 rfl ntmps57 fun q=>aB (eE 2 72 (.agg (Vi p0)) g fun f F R A g b=>eE 3 72 (.agg (Vi p1)) g fun k y S o g c=> ?_);have b:=b.o o;refine aG 1 [] (aF (dN [(18,fun w'=>Inv y w'/\True)] kr g fun U _ g=> ?_));have a:=y.le_refl;refine tA g a (bK 0 5 (vP f 0) (eD 1 6 (vI p0.1) b (bK 2 7 (vP k 0) (eD 3 8 (vI p1.1) c (bK 5 10 (vP f 1) (eD 6 11 (vT p0.2.1) (b.drop 1) (bK 7 12 (vP k 1) (eD 8 13 (vT p1.2.1) (c.drop 1) (bK 10 15 (vP f 2) (eD 11 16 (vT p0.d) (b.drop 2) (bK 12 17 (vP k 2) (eD 13 18 (vT p1.d) (c.drop 2) (aZ 4 kr (eH 9 hr (fun _ h=>qIb g h) ?_))))))))))))));rintro y1 hr _ V ⟨G,rfl,p,g⟩;refine⟨_,rfl,?_⟩;have a:=Mem.le_trans a p;refine tA g a (aZ 9 kr (eH 14 hr (fun _ h=>VV g h) ?_));rintro l hr _ Y ⟨H,rfl,s,g⟩;refine⟨_,rfl,?_⟩;have a:=Mem.le_trans a s;refine tA g a (aZ 14 kr (eH 19 hr (fun _ h=>VV g h) ?_));rintro n hr _ Z ⟨K,rfl,u,g⟩;refine⟨_,rfl,?_⟩;have a:=Mem.le_trans a u;refine tA g a (aZ 15 kr (nZ (d:=20) (t:=22) (e:=3) (len:=3) (parts:= #[(0,(.tmp 9)),(1,(.tmp 14)),(2,(.tmp 19))]) (aR .i64) (xs:=[y1,l,n]) [vI y1,vI l,vI n] kr rfl (fun _=>nY kr _) rfl rfl g ⟨[vI y1],_,rfl,rfl,⟨[vI l],_,rfl,rfl,⟨[vI n],_,rfl,rfl,rfl⟩⟩⟩ fun E M w7 v g D=> ?_));have a:=Mem.le_trans a v
 refine tA g a (aZ 16 kr (eH 21 hr (fun _ h=>qJf g D h) ?_));rintro z hr _ w8 ⟨B,rfl,x,g⟩;refine⟨_,rfl,?_⟩;have a:=Mem.le_trans a x;refine tA g a (bK 17 4 (vI z) (cO kr ?_));have g:=g.t;refine aD (aN ?_);obtain rfl:=sI hr;exact aW [4] [vI z] ⟨B,rfl,((((((q.t A).t o).t p).t s).t u).t v).t x,g⟩
def qJe:Go.Shelf.Ren:=⟨fun|6=>56|15=>85|14=>84|28=>119|29=>120|20=>111|21=>112|22=>113|23=>114|24=>115|25=>116|26=>117|27=>118|46=>144|47=>145|48=>146|49=>147|50=>148|57=>166|n=>n,fun|22=>42|24=>72|25=>121|3=>3|39=>90|0=>0|53=>194|55=>23|4=>4|46=>188|45=>187|50=>155|5=>5|9=>9|66=>207|70=>211|76=>220|77=>221|n=>n,fun|n=>n⟩
theorem qNl:Go.Proofs.SlLaysF0.n6 prog qJe where
 mixed:=kr
 f6:=⟨Tryz.f56.name,kr,func56.trans (congrArg some kr)⟩
 f14:=⟨Tryz.f84.name,kr,func84.trans (congrArg some kr)⟩
 f15:=func85.trans (congrArg some kr)
 f20:=⟨Tryz.f111.name,kr,func111.trans (congrArg some kr)⟩
 f21:=⟨Tryz.f112.name,kr,func112.trans (congrArg some kr)⟩
 f22:=⟨Tryz.f113.name,kr,func113.trans (congrArg some kr)⟩
 f23:=⟨Tryz.f114.name,kr,func114.trans (congrArg some kr)⟩
 f24:=⟨Tryz.f115.name,kr,func115.trans (congrArg some kr)⟩
 f25:=⟨Tryz.f116.name,kr,func116.trans (congrArg some kr)⟩
 f26:=⟨Tryz.f117.name,kr,func117.trans (congrArg some kr)⟩
 f27:=⟨Tryz.f118.name,kr,func118.trans (congrArg some kr)⟩
 f28:=func119.trans (congrArg some kr)
 f29:=func120.trans (congrArg some kr)
 f46:=⟨Tryz.f144.name,kr,func144.trans (congrArg some kr)⟩
 f47:=func145.trans (congrArg some kr)
 f48:=func146.trans (congrArg some kr)
 f49:=⟨Tryz.f147.name,kr,func147.trans (congrArg some kr)⟩
 f50:=⟨Tryz.f148.name,kr,func148.trans (congrArg some kr)⟩
 f57:=⟨Tryz.f166.name,kr,func166.trans (congrArg some kr)⟩
 t0:=Tryz.underlying0
 a0:=Tryz.isAgg0
 z0:=Tryz.sizeOf0
 v0:=Tryz.zeroValue0
 t3:=Tryz.underlying3
 a3:=Tryz.isAgg3
 z3:=Tryz.sizeOf3
 v3:=Tryz.zeroValue3
 t4:=Tryz.underlying4
 a4:=Tryz.isAgg4
 z4:=Tryz.sizeOf4
 v4:=Tryz.zeroValue4
 t5:=Tryz.underlying5
 a5:=Tryz.isAgg5
 z5:=Tryz.sizeOf5
 v5:=Tryz.zeroValue5
 t9:=Tryz.underlying9
 a9:=Tryz.isAgg9
 z9:=Tryz.sizeOf9
 v9:=Tryz.zeroValue9
 t22:=Tryz.underlying42
 a22:=Tryz.isAgg42
 z22:=Tryz.sizeOf42
 v22:=Tryz.zeroValue42
 t25:=Tryz.underlying121
 a25:=Tryz.isAgg121
 z25:=Tryz.sizeOf121
 v25:=Tryz.zeroValue121
 t39:=Tryz.underlying90
 a39:=Tryz.isAgg90
 z39:=Tryz.sizeOf90
 v39:=Tryz.zeroValue90
 t45:=Tryz.underlying187
 a45:=Tryz.isAgg187
 z45:=Tryz.sizeOf187
 v45:=Tryz.zeroValue187
 t46:=Tryz.underlying188
 a46:=Tryz.isAgg188
 z46:=Tryz.sizeOf188
 v46:=Tryz.zeroValue188
 t50:=Tryz.underlying155
 a50:=Tryz.isAgg155
 z50:=Tryz.sizeOf155
 v50:=Tryz.zeroValue155
 t53:=Tryz.underlying194
 a53:=Tryz.isAgg194
 z53:=Tryz.sizeOf194
 v53:=Tryz.zeroValue194
 t55:=Tryz.underlying23
 a55:=Tryz.isAgg23
 z55:=Tryz.sizeOf23
 v55:=Tryz.zeroValue23
 t66:=Tryz.underlying207
 a66:=Tryz.isAgg207
 z66:=Tryz.sizeOf207
 v66:=Tryz.zeroValue207
 t70:=Tryz.underlying211
 a70:=Tryz.isAgg211
 z70:=Tryz.sizeOf211
 v70:=Tryz.zeroValue211
 t76:=Tryz.underlying220
 a76:=Tryz.isAgg220
 z76:=Tryz.sizeOf220
 v76:=Tryz.zeroValue220
 t77:=Tryz.underlying221
 a77:=Tryz.isAgg221
 z77:=Tryz.sizeOf221
 v77:=Tryz.zeroValue221
theorem qJg(x y:Int):MC N x y=some (tV x y):=by
 have h:∀z:Int,HC N z=some false:=fun z=>by simp[HC]
 simp only[MC,h,j0,tV]
 by_cases h1:x<y
 .simp[h1]
 by_cases h2:x>y
 .simp[h1,h2]
 simp[h1,h2]
theorem qIe(x y:BA):GS N x y=some (pK x y):=by simp[GS,OR]
theorem qOs(hN:10<=N)(a b c:Int):MQ N [a,b,c]=some (if a≠0 then a else if b≠0 then b else c):=by
 obtain⟨k,rfl⟩:∃k,N=k+4:=⟨N-4,by omega⟩;have e:wr 1=1:=by decide
 have g:wr 2=2:=by decide
 have l:wr 3=3:=by decide
 have h:bQ [a,b,c] 0=some a:=rfl;have d:bQ [a,b,c] 1=some b:=rfl;have f:bQ [a,b,c] 2=some c:=rfl;simp only[MQ,aK,QE,jA,jB,h,j0]
 by_cases ha:a=0
 .subst ha
  by_cases hb:b=0
  .subst hb
   by_cases A:c=0
   .subst A;simp[e,g,l,d,f]
   simp[e,g,d,f,A]
  simp[e,d,hb]
 simp[ha]
theorem qId(hN:10<=N)(x y:oK):PZ N x y=some (rO tV (rO pK pK) x y):=by
 simp only[PZ,qJg,qIe,qOs hN,j0]
 rfl
def yO(N:Nat)(l:mR):Option mR:=if 10<=N/\l.length<4611686018427387904 then some (xV (Go.Proofs.ltOf (rO tV (rO pK pK))) l) else none
theorem qFh{l r:mR}(h:yO N l=some r):r.length=l.length:=by
 unfold yO at h
 split at h
 .simp only[jG] at h;subst h;exact(CP l).length_eq
 cases h
theorem qFi{a:Option Addr}{nn cc:Nat}{T:List Value}{l r:mR}{e:TypeId}(g:St m (lE a (cT (fun x:oK=>((Vm x):List Value)) l T) e::O) w)(hs:OAS a nn cc 3 T)(hn:List.length l=nn)(h:yO N l=some r):
  Calls prog 56 #[.slice a nn cc,.func (.func 57) #[] #[]] w fun e' w'=>e'= .returned (.tuple #[])/\St m (lE a (cT (fun x:oK=>((Vm x):List Value)) r T) e::O) w':=by
 unfold yO at h
 split at h
 .rename_i hb
  obtain⟨hN,hlen⟩:=hb;simp only[jG] at h;subst h;subst hn;have hl:Lin (rO tV (rO pK pK)):=NK qBc (NK NC NC);rw[<-qNw hl];have:=qKu (f:=(fun x:oK=>((Vm x):List Value))) (k:=3) qNl Tryz.isAgg72 Tryz.sizeOf72 (fun _=>rfl) (fun _ _ hv=>by simp only[jJ,gP,or_false] at hv;rcases hv with rfl|rfl|rfl<;>rfl) (rO tV (rO pK pK)) hl.swo hl.total 57 (enters_of func57 kr rfl) (fun x y W=>by
   refine(qIa (qDc W) (qId hN x y)).mono fun e' w' h=> ?_;obtain⟨m',b,c,d⟩:=h;exact⟨m',b,c,d⟩) g hs hlen
  exact this
 cases h
def FJ(N:Nat)(a:Option (oK×Bool))(s1:mR):Option (mR⊕mR):=
 (match a with|none=>some (.inr s1)|some a=>(eQ 40 s1 ([a.1])).bind fun a=>some (.inl a))
instance dec_evaluate_machine_run_L1:DecidableEq T3i:=(@instDecidableEqProd _ _ (@instDecidableEqProd _ _ (@Option.instDecidableEq _ (@instDecidableEqList _ (@instDecidableEqProd _ _ (@instDecidableEqProd _ _ inferInstance (@instDecidableEqProd _ _ inferInstance inferInstance)) inferInstance))) (@instDecidableEqProd _ _ inferInstance (@instDecidableEqProd _ _ inferInstance inferInstance))) (@instDecidableEqProd _ _ (@instDecidableEqProd _ _ inferInstance (@instDecidableEqProd _ _ inferInstance inferInstance)) (@instDecidableEqProd _ _ inferInstance (@instDecidableEqProd _ _ (@instDecidableEqList _ (@instDecidableEqProd _ _ inferInstance (@instDecidableEqProd _ _ inferInstance inferInstance))) inferInstance))))
def yV(N:Nat)(p0:cR)(p1:iG)(p2:Tb):Option T3i:=
 (FG N (p0.1,p0.2.1,p0.2.2.1,p0.2.2.2.1,p0.2.2.2.2.1,p0.2.2.2.2.2.1,p0.2.2.2.2.2.2.1,p0.2.2.2.2.2.2.2) p1 p2).bind fun y1=>(JL y1.1.1).bind fun a=>DJ (FJ N) (Option.getD y1.1.1 []) ([]:mR) (fun a=>(yO N a).bind fun a=>some (y1.1,(y1.2,y1.1.2.2.2,a,y1.1.2.1)))
theorem VI{p0:cR}{p1:iG}{p2:Tb}{a v F A z G B q3 d4 d3 p H D}{r:T3i}(g:St m (aC v F A::aC z G B::bZ a a1 c1 v a2 c2 z p0.1::aC q3 d4 d3::aC p H D::lQ bp0 a a3 c3 q3 p p0::O) w)(r1:RepS C1 m a1 c1 p0.1.1)(r2:MapQ cQ C7 true m v F A p0.1.d.1)(r3:RepS aH m a2 c2 p0.1.e.1)(r4:MapQ bA C8 true m z G B p0.1.f)(r5:RepS C3 m a3 c3 p0.2.1)(r6:MapQ bA cH false m q3 d4 d3 p0.e.1)(r7:MapQ cJ eC false m p H D p0.k)(r8:RepS (aR .i64) m a4 c4 p2)(hr:yV N p0 p1 p2=some r):Calls prog 20 #[vP bp0 0,.agg (Vd p1),vS a4 p2 c4] w fun e w'=>∃d7 d8 c0 c8 m',bX m m' e (.agg (Vn r.2.1.1 r.2.1.2.1 r.2.1.d r.d.1 c0 r.e.1 c8 r.f)) (kR c0 r.e.1 c8 72 3::aC v F A::aC z G B::bZ a a1 c1 v a2 c2 z p0.1::aC q3 d7 d8::aC p H D::dV bp0 a a3 c3 q3 p p0 r.1.2.1 r.1.d.1 r.1.e::O) w' (MapQ bA cH false m' q3 d7 d8 r.1.1/\RepS C9 m' c0 c8 r.e.1):=by
 refine bP g func20 rfl ntmps20 fun q=>aB (eE 4 58 (.agg (Vd p1)) g fun b1 m1 w1 b g e0=>cD 6 44 (.agg #[vI 0,vI 0,vI 0,vB false,v6,vI 0]) g fun b2 w2 g=>aQ (aB (aA 1 [(10,vP bp0 0)] (cL 11 (.agg (Vd p1)) g e0 (aA 1 [(12,vS a4 p2 c4)] (aL 13 hr (qGf (p0:=p0) (p1:=p1) g.f6.f6.f6.f6.f6.f6 (r1.o b) (r2.o b) (r3.o b) (r4.o b) (r5.o b) (r6.o b) (r7.o b) (r8.o b)) ?_))))));rintro y1 hr _ w3 ⟨M,E,m2,rfl,e2,g,r9⟩;refine cD 7 41 (.agg (Vl 0 0 0)) g fun b3 w4 g=>bJ (.agg (Vk y1.2)) g fun w5 g=>aQ (aB (aG 1 [(8,vf)] (aF (aB (bG 3 17 113 16 3 (.map q3) g.t.t.t.t.t.t.h ?_)))));have⟨u1,e9,hr⟩:=aX hr;obtain⟨S,rfl⟩:=MapQ.at r9 e9;refine bS (SF (ek:=bA) (c:=cH) (agg:=false) (d:=18) (t:=113) (kt:=72) (et:=4) (x:=(.tmp 17)) kr rfl (ev (.map (some S))) kr g.f4 r9 fun b5 w6 g e6=>aQ (bB ?_));have g:=qAy (f:=(fun x:oK=>((Vm x):List Value))) (g.nilroom 72 3);obtain⟨PKu2,a9,hr⟩:=LoopP.start hr
 refine dW (.exit 0) (fun L' w'=>∃(o1:mR),∃R Y T1,∃(d1:Array Nat) (c9:List (oK×Bool)),∃o,PKu2 o1/\L'=[(0,vP bp0 0),(6,vP b2 0),(7,vP b3 0),(8,vS R o1 Y)]/\m.le o/\St o (kB b3 (Vk y1.2) 41::bZ a a1 c1 v a2 c2 z p0.1::kB bp0 #[vP a 0,vS a3 p0.2.1 c3,.int .u64 p0.d.1,.map (some S),vI y1.1.2.1,vI y1.1.d.1,vB y1.1.e,.map p] 118::kB b2 #[vI 0,vI 0,vI 0,vB false,vf,vI 0] 44::aC (some S) M E::aC v F A::aC z G B::aC p H D::lE R (cT (fun x:oK=>((Vm x):List Value)) o1 T1) 72::qH b5 (some S) E d1::O) w'/\RepS C1 o a1 c1 p0.1.1/\RepS aH o a2 c2 p0.1.e.1/\RepS C3 o a3 c3 p0.2.1/\MapQ bA cH false o (some S) M E y1.1.1/\MapQ cQ C7 true o v F A p0.1.d.1/\MapQ bA C8 true o z G B p0.1.f/\MapQ cJ eC false o p H D p0.k/\OAS R o1.length Y 3 T1/\ItR bA cH false o M d1 c9) ?_ ?_
 .rintro _ w7 ⟨o1,R,Y,T1,d1,c9,o,U,rfl,q,g,r1,r3,r5,r9,r2,r4,r7,b0,d5⟩;have hr:=a9 _ U;clear U a9;refine cX (aD (aT 1 [(27,vS R o1 Y)] ?_));have⟨y2,b8,hr⟩:=aX hr;have g:=g.f8;refine bS (nJ 28 56 #[vS R o1 Y,.func (.func 57) #[] #[]] kr rfl ((qFi g b0 rfl b8).mono ?_));rintro _ d6 ⟨rfl,g⟩;refine⟨_,rfl,?_⟩;have a8:=((qFh b8).trans rfl);refine aV ?_;have g:=g.f9.t;refine aD (aF (dN [(12,fun w'=>Inv o w'/\Piece.holds o w' (kB b3 (Vk y1.2) 41)/\Piece.holds o w' (kB bp0 #[vP a 0,vS a3 p0.2.1 c3,.int .u64 p0.d.1,.map (some S),vI y1.1.2.1,vI y1.1.d.1,vB y1.1.e,.map p] 118)/\True)] kr g fun d9 _ g=> ?_));have Z:=o.le_refl;refine⟨bN (aS g Z),cV 0 29 (.agg (Vk y1.2)) cY (cE 3 [(1,30,vP bp0 0),(2,31,vP bp0 0),(3,32,vP bp0 6)] (cV 4 33 (vB y1.1.e) pN (cE 4 [(5,34,vS R o1 Y),(6,35,vP bp0 0),(7,36,vP bp0 0),(8,37,vP bp0 4)] (cV 9 38 (vI y1.1.2.1) pN (bK 10 39 (.agg (Vn y1.2.1 y1.d.1 y1.e y1.1.e R o1 Y y1.1.2.1)) (aZ 11 kr (iU 44 6 39 (.agg (Vn y1.2.1 y1.d.1 y1.e y1.1.e R o1 Y y1.1.2.1)) g.f4 fun d2 g=>⟨bN (aS g Z),cO kr (aD (aN ?_))⟩)))))))⟩;obtain rfl:=sI hr;have g:=g.f1
  obtain⟨m7,e5,g,b9⟩:=St.freezeM (c:=C9) (f:=(fun x:oK=>((Vm x):List Value))) g b0 a8 (fun _=>rfl) (fun _ x=>⟨_,_,rfl,rfl,⟨_,_,rfl,rfl,rfl⟩⟩);have g:=(congrArg (fun nn_:Nat=>St m7 (kR R y2 Y 72 3::kB b2 #[vI y1.2.1,vI y1.d.1,vI y1.e,vB y1.1.e,.slice R nn_ Y,vI y1.1.2.1] 44::kB b3 (Vk y1.2) 41::bZ a a1 c1 v a2 c2 z p0.1::kB bp0 #[vP a 0,vS a3 p0.2.1 c3,.int .u64 p0.d.1,.map (some S),vI y1.1.2.1,vI y1.1.d.1,vB y1.1.e,.map p] 118::aC (some S) M E::aC v F A::aC z G B::aC p H D::O) d2) a8.symm).mp g;refine mP [(6,vP b2 0)] (by(try simp only[vS,a8]);kernel_rfl) ?_;refine eR 6 44 [] [] g.t.h ?_;exact⟨M,E,R,Y,m7,rfl,q.t e5,g.f1.t.f1.t.f2.f6.f4.f4.f6.f6.f6,r9.o e5,b9⟩
 intro d2;refine dL (fun k1 L' w'=>∃(s1:mR),∃a6 c6 T2,∃(b0:Array Nat) (a8:List (oK×Bool)),∃U,LoopP (FJ N) a8 s1 PKu2 k1/\L'=[(0,vP bp0 0),(6,vP b2 0),(7,vP b3 0),(8,vS a6 s1 c6),(18,vP b5 0)]/\m.le U/\St U (kB b3 (Vk y1.2) 41::bZ a a1 c1 v a2 c2 z p0.1::kB bp0 #[vP a 0,vS a3 p0.2.1 c3,.int .u64 p0.d.1,.map (some S),vI y1.1.2.1,vI y1.1.d.1,vB y1.1.e,.map p] 118::kB b2 #[vI 0,vI 0,vI 0,vB false,vf,vI 0] 44::aC (some S) M E::aC v F A::aC z G B::aC p H D::lE a6 (cT (fun x:oK=>((Vm x):List Value)) s1 T2) 72::qH b5 (some S) E b0::O) w'/\RepS C1 U a1 c1 p0.1.1/\RepS aH U a2 c2 p0.1.e.1/\RepS C3 U a3 c3 p0.2.1/\MapQ bA cH false U (some S) M E y1.1.1/\MapQ cQ C7 true U v F A p0.1.d.1/\MapQ bA C8 true U z G B p0.1.f/\MapQ cJ eC false U p H D p0.k/\OAS a6 s1.length c6 3 T2/\ItR bA cH false U M b0 a8) (List.length (Option.getD y1.1.1 [])+1) ⟨([]:mR),none,0,[],#[],(Option.getD y1.1.1 []),m2,hr,rfl,(q.t b).t e2,g.f1.f1.f7.f6.f6.f5.f9.f9.f9.f9,(r1.o b).o e2,(r3.o b).o e2,(r5.o b).o e2,r9,(r2.o b).o e2,(r4.o b).o e2,(r7.o b).o e2,(OAS.nil 3),e6⟩ ?_;rintro k1 _ w8 ⟨s1,a6,c6,T2,b0,a8,U,hL,rfl,q,g,r1,r3,r5,r9,r2,r4,r7,d6,d5⟩;rcases k1 with _|k1
 .exact LoopP.zero hL
 refine aB ?_;have g:=g.f4.f9;refine bS (SM (ek:=bA) (c:=cH) (agg:=false) (d:=19) (x:=(.tmp 18)) kr rfl (ev (vP b5 0)) g r9 d5 ?_ ?_)
 .intro Z w9 g;obtain⟨g0,hr,b9,b8⟩:=hL.nil Z;clear hL;refine aG 1 [(20,vB false)] (aF (pD false kr (fun h=>Bool.noConfusion h) ?_));intro _;refine cS (bF ?_);obtain rfl:=sI hr;have ho:=b8 _ rfl;have g:=g.f9.f9.f9.f9.f5.f9.f9.f9.f9;refine bF ?_;exact xE (d2 _ _ ⟨s1,a6,c6,T2,b0,a8,U,ho,rfl,q,g,r1,r3,r5,r9,r2,r4,r7,d6,d5⟩)
 rintro Z d9 g2 g3 g4 f0 rfl g e7 e4;obtain⟨g0,hr,b9,b8⟩:=hL.cons f0;clear hL;refine aG 1 [(20,vB true)] (aF (pD true kr ?_ (fun h=>Bool.noConfusion h)));intro _;refine aO (aD (bB (aB ?_)));have g:=g.f1.f1;refine bS (RR (ek:=bA) (c:=cH) (agg:=false) (d:=21) (x:=(.tmp 18)) (K:= .agg (Vi Z.1)) (V:=vB Z.2) kr rfl (ev (vP b5 0)) g r9 e4 (aA 1 [(22,.agg (Vi Z.1))] (cD 9 72 (.agg #[vI 0,vT eB,vT eB]) g fun b6 g5 g=>bJ (.agg (Vi Z.1)) g fun g6 g=>aQ (aY (aA 1 [(23,vS a6 s1 c6)] (bC 24 (.agg (Vi Z.1)) g.h (eO 25 72 1 C9 [Z.1] g fun b7 m5 g7 e3 g g1=> ?_)))))));have g:=g.f11;have⟨l1,f3,hr⟩:=aX hr;refine bS (XP (d:=26) (t:=42) (u:=42) (e:=72) (by_:=40) (x:=(.tmp 23)) (y:=(.tmp 25)) (c:=C9) (f:=(fun x:oK=>((Vm x):List Value))) (l:=s1) (fun _ _ _ h=>by obtain⟨_,_,rfl,rfl,⟨_,_,rfl,rfl,rfl⟩⟩:=h;rfl) (fun _=>rfl) kr rfl (ev (vS a6 s1 c6)) (ev (vS (aP b7) ([Z.1]) 1)) g d6 rfl kr (.inl kr) g1.src f3 fun a7 c7 T3 g8 e8 g=>aA 1 [(8,vS a7 l1 c7)] (aV ?_));have g:=g.f1.t;refine bT ?_;obtain rfl:=sI hr;have hL:=b9 _ rfl;exact cZ ⟨l1,a7,c7,T3,g2,d9,m5,hL,rfl,q.t e3,g.f1.t.f1.f1.f9.f9.f9.f5.f9.f9.f9.f9,r1.o e3,r3.o e3,r5.o e3,r9.o e3,r2.o e3,r4.o e3,r7.o e3,e8,e7.o e3⟩
def uK(N:Nat)(p0:To)(p1:Tx)(p2:Int)(p3:Tn):Option (tY×Int):=
 (HI N p0).bind fun y1=>(if(!y1.2.1)=true then(some true) else((BE N p1).bind fun a=>some (!a)):Th).bind fun a=>if a=true then(some (((0,0,0),false,([]:mR),0),1)) else((vV N y1 2 p3.1 p3.2).bind fun c=>if(c.2.2.2.2.2 !=1)=true then(some (((0,0,0),false,([]:mR),0),18)) else((dZ (some []:Option (List (Int×dK))) 1 (some 45:dK)).bind fun a=>(dZ a 2 (some 46:dK)).bind fun a=>(dZ a 3 (some 47:dK)).bind fun a=>(dZ a 4 (some 48:dK)).bind fun a=>(dZ a 5 (some 49:dK)).bind fun a=>(dZ a 6 (some 50:dK)).bind fun a=>(dZ a 7 (some 51:dK)).bind fun a=>(dZ a 8 (some 52:dK)).bind fun a=>(dZ a 9 (some 53:dK)).bind fun a=>(dZ a 10 (some 54:dK)).bind fun a=>(pR N (y1,p1,p2,(some []:tB),0,0,false,a) ([(2,p3.1,p3.2)])).bind fun b=>(yV N (y1,p1,p2,b.1,b.2.1,b.2.2.1,b.2.2.2,a) c ([]:Tb)).bind fun y5=>some ((y5.2.1,y5.2.2.1,y5.2.2.2.1,y5.2.2.2.2),0)))
theorem MD{p0:To}{p1:Tx}{p2:Int}{p3:Tn}{r:tY×Int}(g:St m (O) w)(r1:RepS C1 m a1 c1 p0)(H:RepS C3 m a2 c2 p1)(hr:uK N p0 p1 p2 p3=some r):Calls prog 6 #[.agg #[vS a1 p0 c1],.agg #[vS a2 p1 c2],.int .u64 p2,.agg (V2 p3)] w fun e w'=>∃a7 a8 m',bX m m' e (.tuple #[.agg (Vn r.1.1.1 r.1.1.2.1 r.1.1.d r.1.2.1 a7 r.1.d.1 a8 r.1.e),vI r.2]) (kR a7 r.1.d.1 a8 72 3::O) w' (RepS C9 m' a7 a8 r.1.d.1):=by
 refine bP g func6 rfl ntmps6 fun q=>aB (eE 4 29 (.agg #[vS a1 p0 c1]) g fun b1 m1 w1 e1 g d4=>eE 5 32 (.agg #[vS a2 p1 c2]) g fun b2 m2 w2 e2 g B=>eE 7 38 (.agg (V2 p3)) g fun M m3 w3 R g D=>cD 8 44 (.agg #[vI 0,vI 0,vI 0,vB false,v6,vI 0]) g fun b4 w4 g=>aG 1 [] (aB (cL 13 (.agg #[vS a1 p0 c1]) g ((d4.o e2).o R) (aL 14 hr (XC g (((r1.o e1).o e2).o R)) ?_))));rintro y1 hr _ w5 ⟨F,a3,c3,q1,c0,a9,a4,c4,q2,c6,b0,m4,rfl,S,g,U,V,Y,Z⟩;have B:=(B.o R).o S;have H:=(((H.o e1).o e2).o R).o S;refine aG 1 [(10,vP F 0)] (aF (aB (eV 10 hr (fun o1 L' w'=>∃E,L'=[(2,.int .u64 p2),(5,vP b2 0),(7,vP M 0),(8,vP b4 0),(10,vP F 0),(24,vB o1)]/\m.le E/\St E (bZ F a3 c3 q1 a4 c4 q2 y1::kB b4 #[vI 0,vI 0,vI 0,vB false,vf,vI 0] 44::aC q1 c0 a9::aC q2 c6 b0::O) w'/\MRow E b2 0 [vS a2 p1 c2]/\RepS C3 E a2 c2 p1/\MRow E M 0 [vT p3.1,vT p3.2]/\RepS C1 E a3 c3 y1.1/\RepS aH E a4 c4 y1.e.1/\MapQ cQ C7 true E q1 c0 a9 y1.d.1/\MapQ bA C8 true E q2 c6 b0 y1.f) ?_ ?_)))
 .rintro o1 hr _ w6 ⟨E,rfl,q,g,B,H,D,U,Y,V,Z⟩;refine aQ (aJ hr ?_ ?_)<;>intro A hr
  .refine aT 1 [(25,.agg #[vI 0,vI 0,vI 0,vB false,vf,vI 0])] (bJ (.agg #[vI 0,vI 0,vI 0,vB false,vf,vI 0]) g.f1 fun a g=>aG 1 [(9,vI 1)] (aN (aU ?_)));cases hr;refine eR 8 44 [9] [vI 1] g.h ?_;have g:=(g.nilroom 72 3).front1;exact⟨none,0,E,rfl,q,g.t.f1.t.f1.t.f1.t,(RepS.nil _ _)⟩
  refine aO (aD (aT 2 [(26,vP F 0),(27,vP M 0)] (cL 28 (vT p3.1) g D (aA 1 [(29,vP M 1)] (cL 30 (vT p3.2) g (D.drop 1) (aL 31 hr (GF g.f3.f3 U V Y Z) ?_))))));rintro y3 hr _ w9 ⟨m7,rfl,a,g⟩;refine cD 11 58 (.agg dX) g fun b6 n5 g=>bJ (.agg (Vd y3)) g fun n6 g=>aQ (aF (aB (bG 1 33 3 32 5 (vI y3.h) g.h (aG 1 [(34,vB (y3.h !=1))] (aJ hr ?_ ?_)))))<;>intro A hr
  .refine aT 1 [(35,.agg #[vI 0,vI 0,vI 0,vB false,vf,vI 0])] (bJ (.agg #[vI 0,vI 0,vI 0,vB false,vf,vI 0]) g.f4 fun b g=>aG 1 [(9,vI 18)] (aN (aU ?_)));cases hr;refine eR 8 44 [9] [vI 18] g.h ?_;have g:=(g.nilroom 72 3).front1;exact⟨none,0,m7,rfl,q.t a,g.t.f1.t.f1.t.f1.t.f1.t,(RepS.nil _ _)⟩
  refine aO (aD (aT 1 [(36,vP F 0)] (cL 37 (.agg #[vS a2 p1 c2]) g (B.o a) (aA 1 [(38,.int .u64 p2)] (bS (nJ 39 18 #[vP F 0,.agg #[vS a2 p1 c2],.int .u64 p2] kr rfl (nR func18 rfl ntmps18 (aB (eE 4 32 (.agg #[vS a2 p1 c2]) g fun b7 m8 n7 b g d5=>aG 1 [] (aB (aA 1 [(7,vP F 0)] (cL 8 (.agg #[vS a2 p1 c2]) g d5 (aA 1 [(9,.int .u64 p2)] (bS (pA (d:=10) (t:=113) kr rfl g fun b8 n8 g=>bS (pA (d:=11) (t:=116) kr rfl g fun o n9 g=> ?_))))))))))))))));have⟨l5,d6,hr⟩:=aX hr;refine bS (iY (ek:=cJ) (c:=eC) (agg:=false) (k:=1) (yv:=(some 45:dK)) (cs:=[.func (.func 45) #[] #[]]) (z:= .nilFunc) (v:=(.func (.func 45) #[] #[])) (kt:=3) (et:=114) (t:=116) (x:=(.tmp 11)) (y:=(.const (vI 1))) (u:=(.func 45)) kr (ev (.map (some o))) (ev (vI 1)) (ev (.func (.func 45) #[] #[])) kr (iR kr) g (MapQ.new cJ eC false _ _) rfl rfl d6 fun k6 h9 o0 g r7=> ?_);have⟨l6,d7,hr⟩:=aX hr;refine bS (iY (ek:=cJ) (c:=eC) (agg:=false) (k:=2) (yv:=(some 46:dK)) (cs:=[.func (.func 46) #[] #[]]) (z:= .nilFunc) (v:=(.func (.func 46) #[] #[])) (kt:=3) (et:=114) (t:=116) (x:=(.tmp 11)) (y:=(.const (vI 2))) (u:=(.func 46)) kr (ev (.map (some o))) (ev (vI 2)) (ev (.func (.func 46) #[] #[])) kr (iR kr) g r7 rfl rfl d7 fun k7 k0 o3 g r8=> ?_);have⟨l7,d8,hr⟩:=aX hr
  refine bS (iY (ek:=cJ) (c:=eC) (agg:=false) (k:=3) (yv:=(some 47:dK)) (cs:=[.func (.func 47) #[] #[]]) (z:= .nilFunc) (v:=(.func (.func 47) #[] #[])) (kt:=3) (et:=114) (t:=116) (x:=(.tmp 11)) (y:=(.const (vI 3))) (u:=(.func 47)) kr (ev (.map (some o))) (ev (vI 3)) (ev (.func (.func 47) #[] #[])) kr (iR kr) g r8 rfl rfl d8 fun k8 k1 o5 g r9=> ?_);have⟨l8,d9,hr⟩:=aX hr;refine bS (iY (ek:=cJ) (c:=eC) (agg:=false) (k:=4) (yv:=(some 48:dK)) (cs:=[.func (.func 48) #[] #[]]) (z:= .nilFunc) (v:=(.func (.func 48) #[] #[])) (kt:=3) (et:=114) (t:=116) (x:=(.tmp 11)) (y:=(.const (vI 4))) (u:=(.func 48)) kr (ev (.map (some o))) (ev (vI 4)) (ev (.func (.func 48) #[] #[])) kr (iR kr) g r9 rfl rfl d9 fun k9 k2 o6 g f9=> ?_);have⟨l9,e0,hr⟩:=aX hr;refine bS (iY (ek:=cJ) (c:=eC) (agg:=false) (k:=5) (yv:=(some 49:dK)) (cs:=[.func (.func 49) #[] #[]]) (z:= .nilFunc) (v:=(.func (.func 49) #[] #[])) (kt:=3) (et:=114) (t:=116) (x:=(.tmp 11)) (y:=(.const (vI 5))) (u:=(.func 49)) kr (ev (.map (some o))) (ev (vI 5)) (ev (.func (.func 49) #[] #[])) kr (iR kr) g f9 rfl rfl e0 fun l0 k3 o7 g g0=> ?_);have⟨n0,e8,hr⟩:=aX hr
  refine bS (iY (ek:=cJ) (c:=eC) (agg:=false) (k:=6) (yv:=(some 50:dK)) (cs:=[.func (.func 50) #[] #[]]) (z:= .nilFunc) (v:=(.func (.func 50) #[] #[])) (kt:=3) (et:=114) (t:=116) (x:=(.tmp 11)) (y:=(.const (vI 6))) (u:=(.func 50)) kr (ev (.map (some o))) (ev (vI 6)) (ev (.func (.func 50) #[] #[])) kr (iR kr) g g0 rfl rfl e8 fun l1 k4 o8 g g1=> ?_);have⟨n1,c8,hr⟩:=aX hr;refine bS (iY (ek:=cJ) (c:=eC) (agg:=false) (k:=7) (yv:=(some 51:dK)) (cs:=[.func (.func 51) #[] #[]]) (z:= .nilFunc) (v:=(.func (.func 51) #[] #[])) (kt:=3) (et:=114) (t:=116) (x:=(.tmp 11)) (y:=(.const (vI 7))) (u:=(.func 51)) kr (ev (.map (some o))) (ev (vI 7)) (ev (.func (.func 51) #[] #[])) kr (iR kr) g g1 rfl rfl c8 fun l2 k5 o9 g g2=> ?_);have⟨n2,c9,hr⟩:=aX hr;refine bS (iY (ek:=cJ) (c:=eC) (agg:=false) (k:=8) (yv:=(some 52:dK)) (cs:=[.func (.func 52) #[] #[]]) (z:= .nilFunc) (v:=(.func (.func 52) #[] #[])) (kt:=3) (et:=114) (t:=116) (x:=(.tmp 11)) (y:=(.const (vI 8))) (u:=(.func 52)) kr (ev (.map (some o))) (ev (vI 8)) (ev (.func (.func 52) #[] #[])) kr (iR kr) g g2 rfl rfl c9 fun h3 g8 q0 g g3=> ?_);have⟨n3,d1,hr⟩:=aX hr
  refine bS (iY (ek:=cJ) (c:=eC) (agg:=false) (k:=9) (yv:=(some 53:dK)) (cs:=[.func (.func 53) #[] #[]]) (z:= .nilFunc) (v:=(.func (.func 53) #[] #[])) (kt:=3) (et:=114) (t:=116) (x:=(.tmp 11)) (y:=(.const (vI 9))) (u:=(.func 53)) kr (ev (.map (some o))) (ev (vI 9)) (ev (.func (.func 53) #[] #[])) kr (iR kr) g g3 rfl rfl d1 fun h4 g9 q3 g g4=> ?_);have⟨a6,d2,hr⟩:=aX hr
  refine bS (iY (ek:=cJ) (c:=eC) (agg:=false) (k:=10) (yv:=(some 54:dK)) (cs:=[.func (.func 54) #[] #[]]) (z:= .nilFunc) (v:=(.func (.func 54) #[] #[])) (kt:=3) (et:=114) (t:=116) (x:=(.tmp 11)) (y:=(.const (vI 10))) (u:=(.func 54)) kr (ev (.map (some o))) (ev (vI 10)) (ev (.func (.func 54) #[] #[])) kr (iR kr) g g4 rfl rfl d2 fun h5 h0 q4 g c7=>aA 2 [(13,.agg #[vP F 0,vS a2 p1 c2,.int .u64 p2,.map (some b8),vI 0,vI 0,vB false,.map (some o)])] (bS (qK 14 118 13 (.agg #[vP F 0,vS a2 p1 c2,.int .u64 p2,.map (some b8),vI 0,vI 0,vB false,.map (some o)]) g fun G q5 g=>aG 1 [(6,vP G 0)] (aN (aW [6] [vP G 0] ⟨_,rfl,aG 1 [(12,vP G 0)] (aB (aA 2 [(40,vP G 0),(41,vP M 0)] (cL 42 (vT p3.1) g ((D.o a).o b) (aA 1 [(43,vP M 1)] (cL 44 (vT p3.2) g (((D.o a).o b).drop 1) (aA 1 [(45,.agg #[vI 2,vT p3.1,vT p3.2])] (eO 46 72 1 C9 [(2,p3.1,p3.2)] g fun h8 l3 q6 l g g5=>aL 47 hr (BG (p0:=(y1,p1,p2,(some []:tB),0,0,false,a6)) g.f1.f2.f3.f7.f7.f7 (((U.o a).o b).o l) (((V.o a).o b).o l) (((Y.o a).o b).o l) (((Z.o a).o b).o l) (((H.o a).o b).o l) (MapQ.new bA cH false _ _) (c7.o l) g5) ?_)))))))⟩)))));rintro y4 hr _ q7 ⟨h6,h1,l4,rfl,p,g,g6⟩;refine aV ?_;have g:=g.f6.t
  refine aD (aT 1 [(48,vP G 0)] (bC 49 (.agg (Vd y3)) g.t.t.t.t.t.t.h (aL 50 hr (VI (p0:=(y1,p1,p2,y4.1,y4.2.1,y4.d.1,y4.e,a6)) (p1:=y3) g.f5.f5.f5.f5.f5.f5 ((((U.o a).o b).o l).o p) ((((V.o a).o b).o l).o p) ((((Y.o a).o b).o l).o p) ((((Z.o a).o b).o l).o p) ((((H.o a).o b).o l).o p) g6 ((c7.o l).o p) (RepS.nil _ _)) ?_)));rintro y5 hr _ q8 ⟨h7,h2,a5,c5,f0,rfl,d3,g,n4,g7⟩;refine bJ (.agg (Vn y5.2.1.1 y5.2.1.2.1 y5.2.1.d y5.d.1 a5 y5.e.1 c5 y5.f)) g.f8 fun q9 g=>aG 1 [(9,vI 0)] (aN ?_);cases hr;refine eR 8 44 [9] [vI 0] g.h ?_;exact⟨a5,c5,f0,rfl,((((q.t a).t b).t l).t p).t d3,g.t.f1.t.f1.t.f1.t.f1.t.f1.t.f1.t.f1.t,g7⟩
 intro o1 hr K;refine bG 3 18 4 17 1 (vB y1.2.1) g.t.t.h (aA 2 [(20,vB (!y1.2.1))] (cN 20 hr ?_ ?_))<;>intro A hr
 .refine aA 4 [(24,vB true)] ?_;cases hr;exact bH _ kr (K _ _ ⟨m4,rfl,(((q.t e1).t e2).t R).t S,g.f1.f1.f3.f3,B,H,D.o S,U,Y,V,Z⟩)
 refine cL 21 (.agg #[vS a2 p1 c2]) g B (aL 22 hr (VF g H) ?_);rintro l hr _ o ⟨b,rfl,a,g⟩;refine aA 2 [(24,vB (!l))] ?_;cases hr;exact bH _ kr (K _ _ ⟨b,rfl,((((q.t e1).t e2).t R).t S).t a,g.f1.f1.f3.f3,B.o a,H.o a,(D.o S).o a,U.o a,Y.o a,V.o a,Z.o a⟩)
def BC(N:Nat)(p0:tY)(p1:tY)(s1:Int):Tg:=
 if(decide (s1<(List.length p0.2.2.1:Int)))=true then((bQ p0.2.2.1 s1).bind fun a=>(bQ p1.2.2.1 s1).bind fun b=>if(!((a.1==b.1)&&((a.2.1.toList==b.2.1.toList)&&((a.2.2.toList==b.2.2.toList)&&true))))=true then(some (.inr (.inr (false)))) else(some (.inl (IntKind.wrap .i64 (s1+1))))) else(some (.inr (.inl ())))
def vO(N:Nat)(p0:tY)(p1:tY):Th:=
 (if(!((p0.1.1==p1.1.1)&&((p0.1.2.1==p1.1.2.1)&&((p0.1.2.2==p1.1.2.2)&&true))))=true then(some true) else(if(!(p0.2.1==p1.2.1))=true then(some true) else(if(p0.2.2.2 !=p1.2.2.2)=true then(some true) else(some ((List.length p0.2.2.1:Int) !=(List.length p1.2.2.1:Int))))):Th).bind fun a=>if a=true then(some false) else((aK (BC N p0 p1) N 0).bind fun a=>(match a with| .inl o2=>some true| .inr (z)=>some z))
theorem OV{p0:tY}{p1:tY}{r:Bool}(g:St m (O) w)(f:RepS C9 m a1 c1 p0.d.1)(k:RepS C9 m a2 c2 p1.d.1)(hr:vO N p0 p1=some r):Calls prog 7 #[.agg (Vn p0.1.1 p0.1.2.1 p0.1.d p0.2.1 a1 p0.d.1 c1 p0.e),.agg (Vn p1.1.1 p1.1.2.1 p1.1.d p1.2.1 a2 p1.d.1 c2 p1.e)] w fun e w'=>∃m',eN m m' e (vB r) (O) w':=by
 refine bP g func7 rfl ntmps7 fun q=>aB (eE 2 44 (.agg (Vn p0.1.1 p0.1.2.1 p0.1.d p0.2.1 a1 p0.d.1 c1 p0.e)) g fun l m1 w1 H g a=>eE 3 44 (.agg (Vn p1.1.1 p1.1.2.1 p1.1.d p1.2.1 a2 p1.d.1 c2 p1.e)) g fun n F w2 D g b=> ?_);have q:=(q.t H).t D;have f:=(f.o H).o D;have k:=(k.o H).o D;have a:=a.o D;refine aG 1 [] (aF (aB (eV 28 hr (fun R L' w'=>∃o,L'=[(2,vP l 0),(3,vP n 0),(33,vB R)]/\m.le o/\St o (O) w'/\MRow o l 0 [vI p0.1.1,vI p0.1.2.1,vI p0.1.d,vB p0.2.1,vS a1 p0.d.1 c1,vI p0.e]/\RepS C9 o a1 c1 p0.d.1/\MRow o n 0 [vI p1.1.1,vI p1.1.2.1,vI p1.1.d,vB p1.2.1,vS a2 p1.d.1 c2,vI p1.e]/\RepS C9 o a2 c2 p1.d.1) ?_ ?_)))
 .rintro R hr _ w3 ⟨o,rfl,q,g,a,f,b,k⟩;refine aQ (aJ hr ?_ ?_)<;>intro A hr
  .refine aI 1 [(4,vB false)] (aN (aU ?_));cases hr;exact aW [4] [vB false] ⟨o,rfl,q,g⟩
  refine aO (aD (aF (aT 1 [(34,vP l 4)] (cL 35 (vS a1 p0.d.1 c1) g (a.drop 4) (aG 2 [(36,vI (p0.2.2.1.length:Int)),(37,vI 0)] (bB ?_))))));have⟨z,hr,Z⟩:=aX hr;refine dW (.exit 0) (fun L' w'=>∃(o2:Unit),∃G,(.inl o2)=z/\L'=[]/\m.le G/\St G (O) w') ?_ ?_
  .rintro _ c ⟨o2,G,rfl,rfl,q,g⟩;have hr:=Z;refine cX (aD (aI 1 [(4,vB true)] (aN ?_)));cases hr;exact aW [4] [vB true] ⟨G,rfl,q,g⟩
  intro B;refine dL (fun E L' w'=>∃(s1:Int),∃c,aK (BC N p0 p1) E s1=some z/\L'=[(2,vP l 0),(3,vP n 0),(36,vI (p0.2.2.1.length:Int)),(37,vI s1)]/\m.le c/\St c (O) w'/\MRow c l 0 [vI p0.1.1,vI p0.1.2.1,vI p0.1.d,vB p0.2.1,vS a1 p0.d.1 c1,vI p0.e]/\RepS C9 c a1 c1 p0.d.1/\MRow c n 0 [vI p1.1.1,vI p1.1.2.1,vI p1.1.d,vB p1.2.1,vS a2 p1.d.1 c2,vI p1.e]/\RepS C9 c a2 c2 p1.d.1) N ⟨0,o,hr,rfl,q,g,a,f,b,k⟩ ?_;rintro E _ w5 ⟨s1,c,hL,rfl,q,g,a,f,b,k⟩;obtain⟨E,a7,rfl,hr,M,u⟩:=dQ hL;refine aI 1 [(38,vB (decide (s1<(p0.2.2.1.length:Int))))] (aF (aJ hr ?_ ?_))<;>intro A hr
  .refine aO (aD (aF (bB (aI 2 [(5,vI s1)] (aF (dN [(11,fun w'=>Inv c w'/\True)] kr g fun w6 _ g=> ?_))))));have v:=c.le_refl;refine tA g v (bK 0 40 (vP l 4) (eD 1 41 (vS a1 p0.d.1 c1) (a.drop 4) (bK 2 42 (vI s1) ?_)));have⟨p,V,hr⟩:=aX hr;refine oF (t:=42) (e:=72) (x:=(.tmp 41)) (y:=(.tmp 42)) 3 43 C9 kr rfl kr (.head _) (cP (iL (cP (cP (iL (cP mH)))))) (ev (vS a1 p0.d.1 c1)) (ev (vI s1)) kr f V ?_;rintro b3 f1 a5 ⟨_,_,rfl,rfl,⟨_,_,rfl,rfl,rfl⟩⟩ S;refine eD 4 44 (.agg (Vi p)) S (bK 5 45 (vP n 4) (eD 6 46 (vS a2 p1.d.1 c2) (b.drop 4) (bK 7 47 (vI s1) ?_)));have⟨s,Y,hr⟩:=aX hr;refine oF (t:=42) (e:=72) (x:=(.tmp 46)) (y:=(.tmp 47)) 8 48 C9 kr rfl kr (.head _) (cP (iL (cP (cP (iL (cP mH)))))) (ev (vS a2 p1.d.1 c2)) (ev (vI s1)) kr k Y ?_;rintro b4 f2 a6 ⟨_,_,rfl,rfl,⟨_,_,rfl,rfl,rfl⟩⟩ U;refine eD 9 49 (.agg (Vi s)) U (aZ 10 kr (ZC (d:=50) (t:=72) (t2:=72) (x:=(.tmp 44)) (y:=(.tmp 49)) (xs:=(Vi p)) (ys:=(Vi s)) ((p.1==s.1)&&((p.2.1.toList==s.2.1.toList)&&((p.2.2.toList==s.2.2.toList)&&true))) kr rfl (ev (.agg (Vi p))) (ev (.agg (Vi s))) kr kr kr (tA g v (cO kr (aD (aJ hr ?_ ?_))))))<;>intro A hr
   .refine aI 1 [(4,vB false)] (aN (bM (aU ?_)));have ho:=u _ (sI hr);subst ho;have hr:=Z;refine aU (bM (aU ?_));cases hr;exact aW [4] [vB false] ⟨c,rfl,q,g⟩
   refine aO (bT (aD (aY (aA 2 [(37,vI (wr (s1+1)))] (aV ?_)))));have hL:=M _ (sI hr);exact cZ ⟨wr (s1+1),c,hL,rfl,q,g,a,f,b,k⟩
  refine cS (bF ?_);have ho:=u _ (sI hr);refine bF ?_;exact xE (B _ _ ⟨(),c,ho,rfl,q,g⟩)
 intro R hr K;refine aA 1 [(6,vP l 0)] (cL 7 (.agg (Vk p0.1)) g a (aA 1 [(8,vP n 0)] (cL 9 (.agg (Vk p1.1)) g b (bS (ZC (d:=10) (t:=41) (t2:=41) (x:=(.tmp 7)) (y:=(.tmp 9)) (xs:=(Vk p0.1)) (ys:=(Vk p1.1)) ((p0.1.1==p1.1.1)&&((p0.1.2.1==p1.1.2.1)&&((p0.1.d==p1.1.d)&&true))) kr rfl (ev (.agg (Vk p0.1))) (ev (.agg (Vk p1.1))) kr kr kr (aA 1 [(11,vB (!((p0.1.1==p1.1.1)&&((p0.1.2.1==p1.1.2.1)&&((p0.1.d==p1.1.d)&&true)))))] (cN 11 hr ?_ ?_)))))))<;>intro A hr
 .refine aA 22 [(33,vB true)] ?_;cases hr;exact bH _ kr (K _ _ ⟨F,rfl,q,g,a,f,b,k⟩)
 refine aA 1 [(12,vP l 3)] (cL 13 (vB p0.2.1) g (a.drop 3) (aA 1 [(14,vP n 3)] (cL 15 (vB p1.2.1) g (b.drop 3) (aA 3 [(18,vB (!(p0.2.1==p1.2.1)))] (cN 18 hr ?_ ?_)))))<;>intro A hr
 .refine aA 15 [(33,vB true)] ?_;cases hr;exact bH _ kr (K _ _ ⟨F,rfl,q,g,a,f,b,k⟩)
 refine aA 1 [(19,vP l 5)] (cL 20 (vI p0.e) g (a.drop 5) (aA 1 [(21,vP n 5)] (cL 22 (vI p1.e) g (b.drop 5) (aA 3 [(25,vB (p0.e !=p1.e))] (cN 25 hr ?_ ?_)))))<;>intro A hr
 .refine aA 8 [(33,vB true)] ?_;cases hr;exact bH _ kr (K _ _ ⟨F,rfl,q,g,a,f,b,k⟩)
 refine aA 1 [(26,vP l 4)] (cL 27 (vS a1 p0.d.1 c1) g (a.drop 4) (aA 2 [(28,vI (p0.2.2.1.length:Int)),(29,vP n 4)] (cL 30 (vS a2 p1.d.1 c2) g (b.drop 4) (aA 3 [(33,vB ((p0.2.2.1.length:Int) !=(p1.2.2.1.length:Int)))] ?_))));cases hr;exact bH _ kr (K _ _ ⟨F,rfl,q,g,a,f,b,k⟩)
def WE(N:Nat)(p0:Int):Th:=
 (xI N p0).bind fun y1=>some (!y1)
theorem qIc{p0:Int}{r:Bool}(g:St m (O) w)(hr:WE N p0=some r):Calls prog 59 #[vI p0] w fun e w'=>∃m',eN m m' e (vB r) (O) w':=by
 refine bP g func59 rfl ntmps59 fun q=>aI 1 [] (aB (aA 1 [(3,vI p0)] (aL 4 hr (PR g) ?_)));rintro y1 hr _ c ⟨b,rfl,a,g⟩;refine aG 2 [(2,vB (!y1))] (aN ?_);obtain rfl:=sI hr;exact aW [2] [vB (!y1)] ⟨b,rfl,q.t a,g⟩
def VY(N:Nat)(p5:Tb)(s1:Int):EO:=
 if(decide (s1<(List.length p5:Int)))=true then((bQ p5 s1).bind fun a=>(WE N a).bind fun a=>if a=true then(some (.inr (.inr (s1)))) else(some (.inl (IntKind.wrap .i64 (s1+1))))) else(some (.inr (.inl ())))
def WK(N:Nat)(p0:To)(p1:Tx)(p2:Int)(p3:BA)(p4:BA)(p5:Tb):Option (Int×tY×Int):=
 (HI N p0).bind fun y1=>(if(!y1.2.1)=true then(some true) else((BE N p1).bind fun a=>if(!a)=true then(some true) else(((aK (VY N p5) N 0).bind fun a=>(match a with| .inl a=>some (-1)| .inr (z)=>some z):Ta).bind fun o2=>some (decide (o2>=0)))):Th).bind fun a=>if a=true then(some (0,((0,0,0),false,([]:mR),0),1)) else((vV N y1 1 p3 p4).bind fun b=>if(b.2.2.2.2.2 !=1)=true then(some (0,((0,0,0),false,([]:mR),0),18)) else((bQ (((bD y1.2.2.1 b.2.2.2.1).getD ((⟨#[]⟩:BA),([]:T8),([]:eT))).2.2) b.2.2.2.2.1).bind fun a=>if((List.length p5:Int) !=(List.length a.2.2.1:Int))=true then(some (0,((0,0,0),false,([]:mR),0),13)) else((dZ (some []:Option (List (Int×dK))) 1 (some 45:dK)).bind fun a=>(dZ a 2 (some 46:dK)).bind fun a=>(dZ a 3 (some 47:dK)).bind fun a=>(dZ a 4 (some 48:dK)).bind fun a=>(dZ a 5 (some 49:dK)).bind fun a=>(dZ a 6 (some 50:dK)).bind fun a=>(dZ a 7 (some 51:dK)).bind fun a=>(dZ a 8 (some 52:dK)).bind fun a=>(dZ a 9 (some 53:dK)).bind fun a=>(dZ a 10 (some 54:dK)).bind fun a=>(pR N (y1,p1,p2,(some []:tB),0,0,false,a) ([(1,p3,p4)])).bind fun y5=>(yV N (y1,p1,p2,y5.1,y5.2.1,y5.2.2.1,y5.2.2.2,a) b p5).bind fun a=>some (a.2.1.2.1,(a.2.1,a.2.2.1,a.2.2.2.1,a.2.2.2.2),0))))
theorem qIi{p0:To}{p1:Tx}{p2:Int}{p3:BA}{p4:BA}{p5:Tb}{r:Int×tY×Int}(g:St m (O) w)(r1:RepS C1 m a1 c1 p0)(B:RepS C3 m a2 c2 p1)(E:RepS (aR .i64) m a3 c3 p5)(hr:WK N p0 p1 p2 p3 p4 p5=some r):Calls prog 21 #[.agg #[vS a1 p0 c1],.agg #[vS a2 p1 c2],.int .u64 p2,vT p3,vT p4,vS a3 p5 c3] w fun e w'=>∃d9 e0 m',bX m m' e (.tuple #[vI r.1,.agg (Vn r.2.1.1.1 r.2.1.1.2.1 r.2.1.1.d r.2.1.2.1 d9 r.2.1.d.1 e0 r.2.1.e),vI r.d]) (kR d9 r.2.1.d.1 e0 72 3::O) w' (RepS C9 m' d9 e0 r.2.1.d.1):=by
 refine bP g func21 rfl ntmps21 fun q=>aB (eE 6 29 (.agg #[vS a1 p0 c1]) g fun b1 m1 w1 e1 g g6=>eE 7 32 (.agg #[vS a2 p1 c2]) g fun b2 m2 w2 e2 g b=>aA 1 [] (cD 13 44 (.agg #[vI 0,vI 0,vI 0,vB false,v6,vI 0]) g fun b3 w3 g=>aG 1 [] (aB (cL 18 (.agg #[vS a1 p0 c1]) g (g6.o e2) (aL 19 hr (XC g ((r1.o e1).o e2)) ?_)))));rintro y1 hr _ w4 ⟨D,a4,c4,F,b0,V,a5,c5,S,c0,Y,m3,rfl,e3,g,G,p,H,M⟩;have q:=((q.t e1).t e2).t e3;have E:=((E.o e1).o e2).o e3;have b:=b.o e3;have B:=((B.o e1).o e2).o e3;refine aG 1 [(15,vP D 0)] (aF (aB (eV 14 hr (fun o1 L' w'=>∃m4,L'=[(2,.int .u64 p2),(3,vT p3),(4,vT p4),(5,vS a3 p5 c3),(7,vP b2 0),(13,vP b3 0),(15,vP D 0),(33,vB o1)]/\m.le m4/\St m4 (bZ D a4 c4 F a5 c5 S y1::kB b3 #[vI 0,vI 0,vI 0,vB false,vf,vI 0] 44::aC F b0 V::aC S c0 Y::O) w'/\RepS (aR .i64) m4 a3 c3 p5/\MRow m4 b2 0 [vS a2 p1 c2]/\RepS C3 m4 a2 c2 p1/\RepS C1 m4 a4 c4 y1.1/\RepS aH m4 a5 c5 y1.e.1/\MapQ cQ C7 true m4 F b0 V y1.d.1/\MapQ bA C8 true m4 S c0 Y y1.f) ?_ ?_)))
 .rintro o1 hr _ w5 ⟨m4,rfl,q,g,E,b,B,G,H,p,M⟩;refine aQ (aJ hr ?_ ?_)<;>intro A hr
  .refine aT 2 [(34,.agg #[vI 0,vI 0,vI 0,vB false,vf,vI 0]),(12,vI 0)] (bJ (.agg #[vI 0,vI 0,vI 0,vB false,vf,vI 0]) g.f1 fun a g=>aG 1 [(14,vI 1)] (aN (aU ?_)));cases hr;refine oR [.tmp 12,.cell 13 44,.tmp 14] [vI 0,.agg #[vI 0,vI 0,vI 0,vB false,vf,vI 0],vI 1] rfl (ResAll.cons (ResAt.tmp kr) (ResAll.cons (ResAt.blk (v:= .agg #[vI 0,vI 0,vI 0,vB false,vf,vI 0]) (o:=0) kr g.h kr) (ResAll.cons (ResAt.tmp kr) ResAll.nil))) ?_;have g:=(g.nilroom 72 3).front1;exact⟨none,0,m4,rfl,q,g.t.f1.t.f1.t.f1.t,(RepS.nil _ _)⟩
  refine aO (aD (aT 3 [(35,vP D 0),(36,vT p3),(37,vT p4)] (aL 38 hr (GF g.f3.f3 G p H M) ?_)));rintro U hr _ s6 ⟨d3,rfl,e6,g⟩;have q:=q.t e6;have p:=p.o e6;refine cD 16 58 (.agg dX) g fun b6 s7 g=>bJ (.agg (Vd U)) g fun s8 g=>aQ (aF (aB (bG 1 40 3 39 5 (vI U.h) g.h (aG 1 [(41,vB (U.h !=1))] (aJ hr ?_ ?_)))))<;>intro A hr
  .refine aT 2 [(42,.agg #[vI 0,vI 0,vI 0,vB false,vf,vI 0]),(12,vI 0)] (bJ (.agg #[vI 0,vI 0,vI 0,vB false,vf,vI 0]) g.f4 fun a g=>aG 1 [(14,vI 18)] (aN (aU ?_)));cases hr;refine oR [.tmp 12,.cell 13 44,.tmp 14] [vI 0,.agg #[vI 0,vI 0,vI 0,vB false,vf,vI 0],vI 18] rfl (ResAll.cons (ResAt.tmp kr) (ResAll.cons (ResAt.blk (v:= .agg #[vI 0,vI 0,vI 0,vB false,vf,vI 0]) (o:=0) kr g.h kr) (ResAll.cons (ResAt.tmp kr) ResAll.nil))) ?_;have g:=(g.nilroom 72 3).front1;exact⟨none,0,d3,rfl,q,g.t.f1.t.f1.t.f1.t.f1.t,(RepS.nil _ _)⟩
  refine aO (aD (aF (aF (dN [(17,fun w'=>Inv d3 w'/\Piece.holds d3 w' (kB b6 (Vd U) 58)/\Piece.holds d3 w' (bZ D a4 c4 F a5 c5 S y1)/\True)] kr g fun s9 _ g=> ?_))));have d7:=d3.le_refl;refine⟨bN (aS g d7),cE 5 [(0,43,vS a3 p5 c3),(1,44,vI (p5.length:Int)),(2,45,vP D 0),(3,46,vP D 0),(4,47,vP D 2)] (cV 5 48 (.map F) pN (bK 6 49 (vP b6 3) (cV 7 50 (vT U.e.1) cY (bK 10 53 (vP b6 4) (cV 11 54 (vI U.f.1) cY (aZ 8 kr (qU (ek:=cQ) (c:=C7) (agg:=true) (k:=U.e.1) (zx:=(eB,([]:T8),([]:eT))) (zcs:=[vT eB,v2,vd]) (z:=(.agg #[vT eB,v2,vd])) (kt:=9) (et:=98) (d:=51) (t:=61) (x:=(.tmp 48)) (y:=(.tmp 50)) (ok:=false) kr rfl (ev (.map F)) (ev (vT U.e.1)) kr (uS kr) g.t.h p ⟨_,_,rfl,rfl,⟨_,_,rfl,(nG (RepS.nil _ _)),(nG (RepS.nil _ _))⟩⟩ rfl ?_)))))))⟩;rintro n4 ⟨_,_,rfl,rfl,⟨_,_,rfl,⟨a6,c6,rfl,r8⟩,⟨a7,c7,rfl,r9⟩⟩⟩;refine⟨bN (aS g d7),bK 9 52 (.slice a7 (List.length (((bD y1.d.1 U.e.1).getD (eB,([]:T8),([]:eT))).2.2)) c7) ?_⟩;have⟨x2,g9,hr⟩:=aX hr;refine oF (t:=96) (e:=101) (x:=(.tmp 52)) (y:=(.tmp 54)) 12 55 C6 kr rfl kr (.head _) (cP (cP mH)) (ev (.slice a7 (List.length (((bD y1.d.1 U.e.1).getD (eB,([]:T8),([]:eT))).2.2)) c7)) (ev (vI U.f.1)) kr r9 g9 ?_;rintro b7 f2 n5 ⟨_,_,rfl,rfl,⟨_,_,rfl,rfl,⟨_,_,rfl,⟨a8,c8,rfl,s3⟩,⟨a9,c9,rfl,s4⟩⟩⟩⟩ g8
  refine bK 13 56 (.pointer (some ⟨b7,f2+2,none⟩)) (eD 14 57 (vS a8 x2.d.1 c8) (g8.drop 2) (cE 2 [(15,58,vI (x2.2.2.1.length:Int)),(16,59,vB ((p5.length:Int) !=(x2.2.2.1.length:Int)))] (cO kr (aD (aJ hr ?_ ?_)))))<;>intro A hr
  .refine aT 2 [(60,.agg #[vI 0,vI 0,vI 0,vB false,vf,vI 0]),(12,vI 0)] (bJ (.agg #[vI 0,vI 0,vI 0,vB false,vf,vI 0]) g.f4 fun a g=>aG 1 [(14,vI 13)] (aN (aU ?_)));cases hr;refine oR [.tmp 12,.cell 13 44,.tmp 14] [vI 0,.agg #[vI 0,vI 0,vI 0,vB false,vf,vI 0],vI 13] rfl (ResAll.cons (ResAt.tmp kr) (ResAll.cons (ResAt.blk (v:= .agg #[vI 0,vI 0,vI 0,vB false,vf,vI 0]) (o:=0) kr g.h kr) (ResAll.cons (ResAt.tmp kr) ResAll.nil))) ?_;have g:=(g.nilroom 72 3).front1;exact⟨none,0,d3,rfl,q,g.t.f1.t.f1.t.f1.t.f1.t,(RepS.nil _ _)⟩
  refine aO (aD (aT 1 [(61,vP D 0)] (cL 62 (.agg #[vS a2 p1 c2]) g (b.o e6) (aA 1 [(63,.int .u64 p2)] (bS (nJ 64 18 #[vP D 0,.agg #[vS a2 p1 c2],.int .u64 p2] kr rfl (nR func18 rfl ntmps18 (aB (eE 4 32 (.agg #[vS a2 p1 c2]) g fun b8 o7 t3 e7 g g7=>aG 1 [] (aB (aA 1 [(7,vP D 0)] (cL 8 (.agg #[vS a2 p1 c2]) g g7 (aA 1 [(9,.int .u64 p2)] (bS (pA (d:=10) (t:=113) kr rfl g fun b9 t4 g=>bS (pA (d:=11) (t:=116) kr rfl g fun l t5 g=> ?_))))))))))))))));have⟨q0,h0,hr⟩:=aX hr;refine bS (iY (ek:=cJ) (c:=eC) (agg:=false) (k:=1) (yv:=(some 45:dK)) (cs:=[.func (.func 45) #[] #[]]) (z:= .nilFunc) (v:=(.func (.func 45) #[] #[])) (kt:=3) (et:=114) (t:=116) (x:=(.tmp 11)) (y:=(.const (vI 1))) (u:=(.func 45)) kr (ev (.map (some l))) (ev (vI 1)) (ev (.func (.func 45) #[] #[])) kr (iR kr) g (MapQ.new cJ eC false _ _) rfl rfl h0 fun n6 l7 t6 g h3=> ?_);have⟨q3,h1,hr⟩:=aX hr;refine bS (iY (ek:=cJ) (c:=eC) (agg:=false) (k:=2) (yv:=(some 46:dK)) (cs:=[.func (.func 46) #[] #[]]) (z:= .nilFunc) (v:=(.func (.func 46) #[] #[])) (kt:=3) (et:=114) (t:=116) (x:=(.tmp 11)) (y:=(.const (vI 2))) (u:=(.func 46)) kr (ev (.map (some l))) (ev (vI 2)) (ev (.func (.func 46) #[] #[])) kr (iR kr) g h3 rfl rfl h1 fun n7 l8 t7 g h4=> ?_);have⟨q4,h2,hr⟩:=aX hr
  refine bS (iY (ek:=cJ) (c:=eC) (agg:=false) (k:=3) (yv:=(some 47:dK)) (cs:=[.func (.func 47) #[] #[]]) (z:= .nilFunc) (v:=(.func (.func 47) #[] #[])) (kt:=3) (et:=114) (t:=116) (x:=(.tmp 11)) (y:=(.const (vI 3))) (u:=(.func 47)) kr (ev (.map (some l))) (ev (vI 3)) (ev (.func (.func 47) #[] #[])) kr (iR kr) g h4 rfl rfl h2 fun n8 l9 t8 g h5=> ?_);have⟨q5,f0,hr⟩:=aX hr;refine bS (iY (ek:=cJ) (c:=eC) (agg:=false) (k:=4) (yv:=(some 48:dK)) (cs:=[.func (.func 48) #[] #[]]) (z:= .nilFunc) (v:=(.func (.func 48) #[] #[])) (kt:=3) (et:=114) (t:=116) (x:=(.tmp 11)) (y:=(.const (vI 4))) (u:=(.func 48)) kr (ev (.map (some l))) (ev (vI 4)) (ev (.func (.func 48) #[] #[])) kr (iR kr) g h5 rfl rfl f0 fun n9 n0 t9 g h6=> ?_);have⟨q6,f9,hr⟩:=aX hr;refine bS (iY (ek:=cJ) (c:=eC) (agg:=false) (k:=5) (yv:=(some 49:dK)) (cs:=[.func (.func 49) #[] #[]]) (z:= .nilFunc) (v:=(.func (.func 49) #[] #[])) (kt:=3) (et:=114) (t:=116) (x:=(.tmp 11)) (y:=(.const (vI 5))) (u:=(.func 49)) kr (ev (.map (some l))) (ev (vI 5)) (ev (.func (.func 49) #[] #[])) kr (iR kr) g h6 rfl rfl f9 fun o0 n1 u0 g h7=> ?_);have⟨q7,g0,hr⟩:=aX hr
  refine bS (iY (ek:=cJ) (c:=eC) (agg:=false) (k:=6) (yv:=(some 50:dK)) (cs:=[.func (.func 50) #[] #[]]) (z:= .nilFunc) (v:=(.func (.func 50) #[] #[])) (kt:=3) (et:=114) (t:=116) (x:=(.tmp 11)) (y:=(.const (vI 6))) (u:=(.func 50)) kr (ev (.map (some l))) (ev (vI 6)) (ev (.func (.func 50) #[] #[])) kr (iR kr) g h7 rfl rfl g0 fun o5 n2 u1 g h8=> ?_);have⟨q8,g1,hr⟩:=aX hr;refine bS (iY (ek:=cJ) (c:=eC) (agg:=false) (k:=7) (yv:=(some 51:dK)) (cs:=[.func (.func 51) #[] #[]]) (z:= .nilFunc) (v:=(.func (.func 51) #[] #[])) (kt:=3) (et:=114) (t:=116) (x:=(.tmp 11)) (y:=(.const (vI 7))) (u:=(.func 51)) kr (ev (.map (some l))) (ev (vI 7)) (ev (.func (.func 51) #[] #[])) kr (iR kr) g h8 rfl rfl g1 fun o6 n3 u2 g h9=> ?_);have⟨q9,g2,hr⟩:=aX hr;refine bS (iY (ek:=cJ) (c:=eC) (agg:=false) (k:=8) (yv:=(some 52:dK)) (cs:=[.func (.func 52) #[] #[]]) (z:= .nilFunc) (v:=(.func (.func 52) #[] #[])) (kt:=3) (et:=114) (t:=116) (x:=(.tmp 11)) (y:=(.const (vI 8))) (u:=(.func 52)) kr (ev (.map (some l))) (ev (vI 8)) (ev (.func (.func 52) #[] #[])) kr (iR kr) g h9 rfl rfl g2 fun l1 k6 u3 g k0=> ?_);have⟨r0,g3,hr⟩:=aX hr
  refine bS (iY (ek:=cJ) (c:=eC) (agg:=false) (k:=9) (yv:=(some 53:dK)) (cs:=[.func (.func 53) #[] #[]]) (z:= .nilFunc) (v:=(.func (.func 53) #[] #[])) (kt:=3) (et:=114) (t:=116) (x:=(.tmp 11)) (y:=(.const (vI 9))) (u:=(.func 53)) kr (ev (.map (some l))) (ev (vI 9)) (ev (.func (.func 53) #[] #[])) kr (iR kr) g k0 rfl rfl g3 fun l2 k7 u4 g k2=> ?_);have⟨d8,g4,hr⟩:=aX hr
  refine bS (iY (ek:=cJ) (c:=eC) (agg:=false) (k:=10) (yv:=(some 54:dK)) (cs:=[.func (.func 54) #[] #[]]) (z:= .nilFunc) (v:=(.func (.func 54) #[] #[])) (kt:=3) (et:=114) (t:=116) (x:=(.tmp 11)) (y:=(.const (vI 10))) (u:=(.func 54)) kr (ev (.map (some l))) (ev (vI 10)) (ev (.func (.func 54) #[] #[])) kr (iR kr) g k2 rfl rfl g4 fun l3 k8 u5 g e8=>aA 2 [(13,.agg #[vP D 0,vS a2 p1 c2,.int .u64 p2,.map (some b9),vI 0,vI 0,vB false,.map (some l)])] (bS (qK 14 118 13 (.agg #[vP D 0,vS a2 p1 c2,.int .u64 p2,.map (some b9),vI 0,vI 0,vB false,.map (some l)]) g fun d4 u6 g=>aG 1 [(6,vP d4 0)] (aN (aW [6] [vP d4 0] ⟨_,rfl,aG 1 [(17,vP d4 0)] (aB (aA 4 [(65,vP d4 0),(68,.agg #[vI 1,vT p3,vT p4])] (eO 69 72 1 C9 [(1,p3,p4)] g fun l6 o8 u7 R g k3=>aL 70 hr (BG (p0:=(y1,p1,p2,(some []:tB),0,0,false,d8)) g.f1.f2.f3.f7.f7.f7 (((G.o e6).o e7).o R) ((p.o e7).o R) (((H.o e6).o e7).o R) (((M.o e6).o e7).o R) (((B.o e6).o e7).o R) (MapQ.new bA cH false _ _) (e8.o R) k3) ?_)))⟩)))));rintro y5 hr _ u9 ⟨l4,k9,o9,rfl,Z,g,k4⟩;refine aV ?_;have g:=g.f6.t
  refine aD (aT 1 [(71,vP d4 0)] (bC 72 (.agg (Vd U)) g.t.t.t.t.t.t.h (aA 1 [(73,vS a3 p5 c3)] (aL 74 hr (VI (p0:=(y1,p1,p2,y5.1,y5.2.1,y5.d.1,y5.e,d8)) (p1:=U) g.f5.f5.f5.f5.f5.f5 ((((G.o e6).o e7).o R).o Z) (((p.o e7).o R).o Z) ((((H.o e6).o e7).o R).o Z) ((((M.o e6).o e7).o R).o Z) ((((B.o e6).o e7).o R).o Z) k4 ((e8.o R).o Z) ((((E.o e6).o e7).o R).o Z)) ?_))));rintro a hr _ v0 ⟨l5,l0,d1,d2,d5,rfl,g5,g,s5,k5⟩;refine bJ (.agg (Vn a.2.1.1 a.2.1.2.1 a.2.1.d a.d.1 d1 a.e.1 d2 a.f)) g.f8 fun v1 g=>aQ (aF (dN [(7,fun w'=>Inv d5 w'/\True),(5,fun w'=>Inv d5 w'/\Piece.holds d5 w' (kB b3 (Vn a.2.1.1 a.2.1.2.1 a.2.1.d a.d.1 d1 a.e.1 d2 a.f) 44)/\True)] kr g fun v3 _ g=> ?_));have d6:=d5.le_refl;refine⟨eY (aS g d6) (aS g d6),cE 2 [(0,75,vP b3 0),(1,76,vP b3 1)] (pE 3 76 2 77 1 (vI a.2.1.2.1) (.tail _ (.head _)) cY (pE 44 13 3 78 0 (.agg (Vn a.2.1.1 a.2.1.2.1 a.2.1.d a.d.1 d1 a.e.1 d2 a.f)) (.tail _ (.head _)) cY (bK 4 12 (vI a.2.1.2.1) (aZ 5 kr (iU 44 13 78 (.agg (Vn a.2.1.1 a.2.1.2.1 a.2.1.d a.d.1 d1 a.e.1 d2 a.f)) g fun v4 g=>⟨pJ (aS g d6),bK 6 14 (vI 0) (cO kr (aD (aN ?_)))⟩)))))⟩;cases hr
  exact oR [.tmp 12,.cell 13 44,.tmp 14] [vI a.2.1.2.1,.agg (Vn a.2.1.1 a.2.1.2.1 a.2.1.d a.d.1 d1 a.e.1 d2 a.f),vI 0] rfl (ResAll.cons (ResAt.tmp kr) (ResAll.cons (ResAt.blk (v:= .agg (Vn a.2.1.1 a.2.1.2.1 a.2.1.d a.d.1 d1 a.e.1 d2 a.f)) (o:=0) kr g.h kr) (ResAll.cons (ResAt.tmp kr) ResAll.nil))) ⟨d1,d2,d5,rfl,(((q.t e7).t R).t Z).t g5,g.t.f1.t.f1.t.f1.t.f1.t.f1.t.f1.t.f1.t,k5⟩
 intro o1 hr K;refine bG 3 23 4 22 1 (vB y1.2.1) g.t.t.h (aA 2 [(25,vB (!y1.2.1))] (cN 25 hr ?_ ?_))<;>intro A hr
 .refine aA 8 [(33,vB true)] ?_;cases hr;exact bH _ kr (K _ _ ⟨m3,rfl,q,g.f1.f1.f3.f3,E,b,B,G,H,p,M⟩)
 refine cL 26 (.agg #[vS a2 p1 c2]) g b (aL 27 hr (VF g B) ?_);rintro y2 hr _ w6 ⟨m5,rfl,a,g⟩;refine aA 3 [(30,vB (!y2))] (cN 30 hr ?_ ?_)<;>intro A hr
 .refine aA 3 [(33,vB true)] ?_;cases hr;exact bH _ kr (K _ _ ⟨m5,rfl,q.t a,g.f1.f1.f3.f3,E.o a,b.o a,B.o a,G.o a,H.o a,p.o a,M.o a⟩)
 refine aA 1 [(31,vS a3 p5 c3)] (bS (nJ 32 58 #[vS a3 p5 c3,.func (.func 59) #[] #[]] kr rfl (nR func58 rfl ntmps58 (aI 1 [] (aB (aA 2 [(5,vS a3 p5 c3),(6,.func (.func 59) #[] #[])] ?_))))));have⟨o2,hr,j1⟩:=aX hr;refine bS (nJ 7 89 #[vS a3 p5 c3,.func (.func 59) #[] #[]] kr rfl (MX (fun v' w'=>∃R,v'=(vI o2)/\m.le R/\St R (bZ D a4 c4 F a5 c5 S y1::kB b3 #[vI 0,vI 0,vI 0,vB false,vf,vI 0] 44::aC F b0 V::aC S c0 Y::O) w'/\RepS (aR .i64) R a3 c3 p5/\MRow R b2 0 [vS a2 p1 c2]/\RepS C3 R a2 c2 p1/\RepS C1 R a4 c4 y1.1/\RepS aH R a5 c5 y1.e.1/\MapQ cQ C7 true R F b0 V y1.d.1/\MapQ bA C8 true R S c0 Y y1.f) ?_ ?_))
 .have hr:=j1;rintro _ l ⟨R,rfl,q,g,E,b,B,G,H,p,M⟩;refine⟨_,rfl,?_⟩;refine aG 2 [(4,vB (decide (o2>=0)))] (aN (aW [4] [vB (decide (o2>=0))] ⟨_,rfl,aA 1 [(33,vB (decide (o2>=0)))] ?_⟩));cases hr;exact bH _ kr (K _ _ ⟨R,rfl,q,g.f3.f3.f3.f3,E,b,B,G,H,p,M⟩)
 refine nR func89 rfl ntmps89 (aI 1 [] (aF (aI 3 [(7,vI (p5.length:Int)),(8,vI 0)] (bB ?_))));have⟨d2,hr,j2⟩:=aX hr;refine dW (.exit 0) (fun L' w'=>∃(o3:Unit),∃U,(.inl o3)=d2/\L'=[]/\m.le U/\St U (bZ D a4 c4 F a5 c5 S y1::kB b3 #[vI 0,vI 0,vI 0,vB false,vf,vI 0] 44::aC F b0 V::aC S c0 Y::O) w'/\RepS (aR .i64) U a3 c3 p5/\MRow U b2 0 [vS a2 p1 c2]/\RepS C3 U a2 c2 p1/\RepS C1 U a4 c4 y1.1/\RepS aH U a5 c5 y1.e.1/\MapQ cQ C7 true U F b0 V y1.d.1/\MapQ bA C8 true U S c0 Y y1.f) ?_ ?_
 .rintro _ l ⟨o3,U,rfl,rfl,q,g,E,b,B,G,H,p,M⟩;have hr:=j2;refine cX (aD (aI 1 [(4,vI (-1))] (aN ?_)));cases hr;exact aW [4] [vI (-1)] ⟨_,rfl,⟨U,rfl,q,g.f3.f3.f3.f3,E,b,B,G,H,p,M⟩⟩
 intro d3;refine dL (fun k1 L' w'=>∃(s1:Int),∃Z,aK (VY N p5) k1 s1=some d2/\L'=[(0,vS a3 p5 c3),(1,.func (.func 59) #[] #[]),(7,vI (p5.length:Int)),(8,vI s1)]/\m.le Z/\St Z (bZ D a4 c4 F a5 c5 S y1::kB b3 #[vI 0,vI 0,vI 0,vB false,vf,vI 0] 44::aC F b0 V::aC S c0 Y::O) w'/\RepS (aR .i64) Z a3 c3 p5/\MRow Z b2 0 [vS a2 p1 c2]/\RepS C3 Z a2 c2 p1/\RepS C1 Z a4 c4 y1.1/\RepS aH Z a5 c5 y1.e.1/\MapQ cQ C7 true Z F b0 V y1.d.1/\MapQ bA C8 true Z S c0 Y y1.f) N ⟨0,m5,hr,rfl,q.t a,g.f1.f1.f3.f3,E.o a,b.o a,B.o a,G.o a,H.o a,p.o a,M.o a⟩ ?_;rintro k1 _ w9 ⟨s1,Z,hL,rfl,q,g,E,b,B,G,H,p,M⟩;obtain⟨k1,d7,rfl,hr,d4,d1⟩:=dQ hL;refine aI 1 [(9,vB (decide (s1<(p5.length:Int))))] (aF (aJ hr ?_ ?_))<;>intro A hr
 .refine aO (aD (aF (bB (aI 2 [(5,vI s1)] (aB (aA 3 [(11,.func (.func 59) #[] #[]),(12,vS a3 p5 c3),(13,vI s1)] (iJ 14 E hr ?_)))))));rintro x1 hr b5 f1 d6 rfl d5;refine iI 15 3 14 f1 (vI x1) g d5 (aL 16 hr (qIc g) ?_);rintro y3 hr _ d8 ⟨m9,rfl,l,g⟩;refine aQ (aJ hr ?_ ?_)<;>intro A hr
  .refine aI 2 [(4,vI s1)] (aN (bM (aU ?_)));have ho:=d1 _ (sI hr);subst ho;have hr:=j2;refine aU (bM (aU ?_));obtain rfl:=sI hr;exact aW [4] [vI s1] ⟨_,rfl,⟨m9,rfl,q.t l,g.f3.f3.f3.f3,E.o l,b.o l,B.o l,G.o l,H.o l,p.o l,M.o l⟩⟩
  refine aO (bT (aD (aY (aA 2 [(8,vI (wr (s1+1)))] (aV ?_)))));have hL:=d4 _ (sI hr);exact cZ ⟨wr (s1+1),m9,hL,rfl,q.t l,g.f3.f3.f3.f3,E.o l,b.o l,B.o l,G.o l,H.o l,p.o l,M.o l⟩
 refine cS (bF ?_);have ho:=d1 _ (sI hr);have g:=g.f3.f3.f3.f3;refine bF ?_;exact xE (d3 _ _ ⟨(),Z,ho,rfl,q,g,E,b,B,G,H,p,M⟩)
def LQ(N:Nat):Th:=
 (uK N ([((⟨#[97,46,115,114,99]⟩:BA),(⟨#[112,97,99,107,97,103,101,32,112,59,32,102,117,110,99,32,102,40,120,41,32,61,32,120,32,42,32,120,59,32,116,101,115,116,32,116,32,61,32,102,40,50,41,32,61,61,32,52,59]⟩:BA))]) ([]:Tx) 0 ((⟨#[112]⟩:BA),(⟨#[116]⟩:BA))).bind fun y1=>(WK N ([((⟨#[97,46,115,114,99]⟩:BA),(⟨#[112,97,99,107,97,103,101,32,112,59,32,102,117,110,99,32,102,40,120,41,32,61,32,120,32,42,32,120,59,32,116,101,115,116,32,116,32,61,32,102,40,50,41,32,61,61,32,52,59]⟩:BA))]) ([]:Tx) 0 (⟨#[112]⟩:BA) (⟨#[102]⟩:BA) ([(3:Int)])).bind fun a=>(if(y1.2==0)=true then(if(a.2.2==0)=true then(if((y1.1.1.1==1)&&((y1.1.1.2.1==1)&&((y1.1.1.2.2==0)&&true)))=true then(if(y1.1.2.2.2==7)=true then(if((List.length y1.1.2.2.1:Int)==2)=true then(some (a.1==9)) else(some false)) else(some false)) else(some false)) else(some false)) else(some false):Th).bind fun a=>some a
theorem qHf{r:Bool}(g:St m (O) w)(hr:LQ N=some r):Calls prog 8 #[] w fun e w'=>∃m',eN m m' e (vB r) (O) w':=by
 refine bP g func8 rfl ntmps8 fun q=>aI 1 [] (aB (aA 1 [(7,.agg #[vT ba,vT wV])] (eO 8 75 1 C1 [(ba,wV)] g fun f V w1 H g b=>aA 1 [(9,.agg #[.slice (aP f) (List.length ([(ba,wV)])) 1])] (cD 1 29 (.agg #[v6]) g fun E w2 g=>bJ (.agg #[.slice (aP f) (List.length ([(ba,wV)])) 1]) g fun w3 g=>aQ (aB (bC 11 (.agg #[.slice (aP f) (List.length ([(ba,wV)])) 1]) g.h (aA 2 [(12,.agg #[v8]),(13,.agg #[vT be,vT bf])] (aL 14 hr (MD (p3:=(be,bf)) g b (RepS.nil _ _)) ?_))))))));rintro y1 hr _ w4 ⟨n,o,Y,rfl,B,g,c⟩;refine aA 3 [(15,.agg (Vn y1.1.1.1 y1.1.1.2.1 y1.1.1.d y1.1.2.1 n y1.1.d.1 o y1.1.e)),(16,vI y1.2)] (cD 2 44 (.agg #[vI 0,vI 0,vI 0,vB false,v6,vI 0]) g fun F w5 g=>bJ (.agg (Vn y1.1.1.1 y1.1.1.2.1 y1.1.1.d y1.1.2.1 n y1.1.d.1 o y1.1.e)) g fun w6 g=>aG 1 [(3,vI y1.2)] (aB (bC 18 (.agg #[.slice (aP f) (List.length ([(ba,wV)])) 1]) g.t.t.h (aA 1 [(19,.agg #[v8])] (eO 20 3 1 (aR .i64) [(3:Int)] g fun U Z w7 v g M=>aL 21 hr (qIi g ((b.o B).o v) (RepS.nil _ _) M) ?_)))));rintro a hr _ w8 ⟨s,u,p,rfl,D,g,l⟩;have q:=(((q.t H).t B).t v).t D;have b:=((b.o B).o v).o D;have c:=(c.o v).o D
 refine aA 4 [(22,vI a.1),(23,.agg (Vn a.2.1.1.1 a.2.1.1.2.1 a.2.1.1.d a.2.1.2.1 s a.2.1.d.1 u a.2.1.e)),(24,vI a.d)] (cD 5 44 (.agg #[vI 0,vI 0,vI 0,vB false,v6,vI 0]) g fun G w9 g=>aA 1 [(4,vI a.1)] (bJ (.agg (Vn a.2.1.1.1 a.2.1.1.2.1 a.2.1.1.d a.2.1.2.1 s a.2.1.d.1 u a.2.1.e)) g fun R g=>aA 1 [(6,vI a.d)] (aV ?_)));have g:=g.f2.t;refine aD (aB (eV 28 hr (fun z L' w'=>∃k,L'=[(0,vB z)]/\m.le k/\St k (kB G (Vn a.2.1.1.1 a.2.1.1.2.1 a.2.1.1.d a.2.1.2.1 s a.2.1.d.1 u a.2.1.e) 44::kB F (Vn y1.1.1.1 y1.1.1.2.1 y1.1.1.d y1.1.2.1 n y1.1.d.1 o y1.1.e) 44::kB E #[.slice (aP f) (List.length ([(ba,wV)])) 1] 29::kR s a.2.1.d.1 u 72 3::kR n y1.1.d.1 o 72 3:: .room (aP f) (List.length ([(ba,wV)])) 1 75 2::O) w'/\RepS C9 k s u a.2.1.d.1/\RepS C9 k n o y1.1.d.1/\RepS C1 k (aP f) 1 ([(ba,wV)])) ?_ ?_))
 .rintro z hr _ S ⟨k,rfl,q,g,l,c,b⟩;refine aQ (aN ?_);obtain rfl:=sI hr;exact aW [0] [vB z] ⟨k,rfl,q,g.t.t.t.t.t.t⟩
 intro z hr K;refine aA 3 [(27,vB (y1.2==0))] (cN 27 hr ?_ ?_)<;>intro A hr
 .refine aA 4 [(31,vB (a.d==0))] (cN 31 hr ?_ ?_)<;>intro A hr
  .refine bG 1 33 41 32 0 (.agg (Vk y1.1.1)) g.t.t.h (aA 1 [(34,.agg (Vl 1 1 0))] (bS (ZB (d:=35) (t:=41) (t2:=41) (x:=(.tmp 33)) (y:=(.tmp 34)) (xs:=(Vk y1.1.1)) (ys:=(Vl 1 1 0)) ((y1.1.1.1==1)&&((y1.1.1.2.1==1)&&((y1.1.1.d==0)&&true))) kr rfl (ev (.agg (Vk y1.1.1))) (ev (.agg (Vl 1 1 0))) kr kr kr (aA 2 [(37,vB ((y1.1.1.1==1)&&((y1.1.1.2.1==1)&&((y1.1.1.d==0)&&true))))] (cN 37 hr ?_ ?_)))))<;>intro A hr
   .refine bG 1 39 3 38 5 (vI y1.1.e) g.t.t.h (aA 3 [(42,vB (y1.1.e==7))] (cN 42 hr ?_ ?_))<;>intro A hr
    .refine bG 1 44 42 43 4 (vS n y1.1.d.1 o) g.t.t.h (aA 4 [(48,vB ((y1.1.2.2.1.length:Int)==2))] (cN 48 hr ?_ ?_))<;>intro A hr
     .refine aA 4 [(0,vB (a.1==9))] ?_;cases hr;exact bH _ kr (K _ _ ⟨p,rfl,q,g.f5.f4.f3.f5.f5.f5,l,c,b⟩)
     refine aA 4 [(0,vB false)] ?_;cases hr;exact bH _ kr (K _ _ ⟨p,rfl,q,g.f5.f4.f3.f5.f5.f5,l,c,b⟩)
    refine aA 10 [(0,vB false)] ?_;cases hr;exact bH _ kr (K _ _ ⟨p,rfl,q,g.f5.f4.f3.f5.f5.f5,l,c,b⟩)
   refine aA 15 [(0,vB false)] ?_;cases hr;exact bH _ kr (K _ _ ⟨p,rfl,q,g.f5.f4.f3.f5.f5.f5,l,c,b⟩)
  refine aA 21 [(0,vB false)] ?_;cases hr;exact bH _ kr (K _ _ ⟨p,rfl,q,g.f5.f4.f3.f5.f5.f5,l,c,b⟩)
 refine aA 25 [(0,vB false)] ?_;cases hr;exact bH _ kr (K _ _ ⟨p,rfl,q,g.f5.f4.f3.f5.f5.f5,l,c,b⟩)
def AP(N:Nat)(p1:Int)(p2:Int)(y1:T10)(a:To)(s1:Int):Tg:=
 if(decide (s1<(List.length a:Int)))=true then((bQ a s1).bind fun c=>(uK N y1.2.1 y1.2.2.1 p1 c).bind fun a=>(uK N y1.2.1 y1.2.2.1 p2 c).bind fun b=>(if(a.2 !=0)=true then(some true) else(if(b.2 !=0)=true then(some true) else(if(!(a.1.2.1==b.1.2.1))=true then(if(p1==p2)=true then(some true) else(if(!a.1.2.1)=true then((vO N (a.1.1,a.1.2.1,a.1.2.2.1,a.1.2.2.2) (b.1.1,b.1.2.1,b.1.2.2.1,b.1.2.2.2)).bind fun y5=>some (!y5)) else(some false))) else(if(!a.1.2.1)=true then((vO N (a.1.1,a.1.2.1,a.1.2.2.1,a.1.2.2.2) (b.1.1,b.1.2.1,b.1.2.2.1,b.1.2.2.2)).bind fun b=>some (!b)) else(some false)))):Th).bind fun o2=>if o2=true then(some (.inr (.inr (false)))) else((uK N y1.2.1 y1.2.2.1 (vA .u64 p1 1099511627776) c).bind fun b=>(if(b.2 !=0)=true then(some true) else((vO N (a.1.1,a.1.2.1,a.1.2.2.1,a.1.2.2.2) (b.1.1,b.1.2.1,b.1.2.2.1,b.1.2.2.2)).bind fun a=>some (!a)):Th).bind fun a=>if a=true then(some (.inr (.inr (false)))) else(some (.inl (IntKind.wrap .i64 (s1+1)))))) else(some (.inr (.inl ())))
def KH(N:Nat)(p0:Tb)(p1:Int)(p2:Int):Th:=
 (LS N (p0,0)).bind fun y1=>(LR N y1.2.1).bind fun a=>(aK (AP N p1 p2 y1 a) N 0).bind fun a=>(match a with| .inl a=>(LQ N).bind fun a=>some a| .inr (z)=>some z)
theorem qFo{p0:Tb}{p1:Int}{p2:Int}{r:Bool}(g:St m (O) w)(r1:RepS (aR .i64) m a1 c1 p0)(hr:KH N p0 p1 p2=some r):Calls prog 3 #[vS a1 p0 c1,.int .u64 p1,.int .u64 p2] w fun e w'=>∃m',eN m m' e (vB r) (O) w':=by
 refine bP g func3 rfl ntmps3 fun q=>aI 1 [] (aB (aA 2 [(20,.agg #[vS a1 p0 c1,vI 0])] (bS (qK 21 26 20 (.agg #[vS a1 p0 c1,vI 0]) g fun b1 w1 g=>aG 1 [(7,vP b1 0)] (aB (aA 1 [(23,vP b1 0)] (aL 24 hr (qHc (p0:=(p0,0)) g r1) ?_)))))));rintro y1 hr _ w2 ⟨S,U,l,n,s,u,m2,rfl,e2,g,o,f,k⟩;refine aA 4 [(25,.agg #[vS l y1.2.1 n]),(26,.agg #[vS s y1.d.1 u]),(27,.int .u64 y1.e)] (cD 8 29 (.agg #[v6]) g fun Z w3 g=>cD 9 32 (.agg #[v6]) g fun b3 w4 g=>bJ (.agg #[vS l y1.2.1 n]) g.f1 fun w5 g=>bJ (.agg #[vS s y1.d.1 u]) g.f1 fun w6 g=>aG 1 [] (aF (aB (bC 28 (.agg #[vS l y1.2.1 n]) g.t.h (aL 29 hr (qHg g f) ?_)))));rintro x hr _ w7 ⟨F,H,m3,rfl,e3,g,v⟩;refine aG 2 [(30,vI (x.length:Int)),(31,vI 0)] (bB ?_);have⟨b0,hr,j1⟩:=aX hr;refine dW (.exit 0) (fun L' w'=>∃(o1:Unit),∃m4,(.inl o1)=b0/\L'=[]/\m.le m4/\St m4 (kB b3 #[vS s y1.d.1 u] 32::kB Z #[vS l y1.2.1 n] 29::kB b1 (V1 y1.1 S U) 26::kR F x H 38 2::kR l y1.2.1 n 75 2::kR s y1.d.1 u 89 2::O) w'/\P8 m4 s u l n S U y1) ?_ ?_
 .rintro _ y ⟨o1,m4,rfl,rfl,q,g,k,f,o⟩;have hr:=j1;refine cX (aD (aB (aL 98 hr (qHf g) ?_)));rintro c hr _ p ⟨b,rfl,a,g⟩;refine aA 1 [(6,vB c)] (aV ?_);have g:=g.f3.t;refine aD (aN ?_);obtain rfl:=sI hr;exact aW [6] [vB c] ⟨b,rfl,q.t a,g.t.t.t.t.t⟩
 intro b9;refine dL (fun k1 L' w'=>∃(s1:Int),∃m5,aK (AP N p1 p2 y1 x) k1 s1=some b0/\L'=[(1,.int .u64 p1),(2,.int .u64 p2),(8,vP Z 0),(9,vP b3 0),(29,vS F x H),(30,vI (x.length:Int)),(31,vI s1)]/\m.le m5/\St m5 (kB b3 #[vS s y1.d.1 u] 32::kB Z #[vS l y1.2.1 n] 29::kB b1 (V1 y1.1 S U) 26::kR F x H 38 2::kR l y1.2.1 n 75 2::kR s y1.d.1 u 89 2::O) w'/\RepS C1 m5 F H x/\P8 m5 s u l n S U y1) N ⟨0,m3,hr,rfl,(q.t e2).t e3,g.f4.f4.f2.f5.f5.f5,v,k.o e3,f.o e3,o.o e3⟩ ?_;rintro k1 _ w9 ⟨s1,m5,hL,rfl,q,g,v,k,f,o⟩;obtain⟨k1,d4,rfl,hr,c0,a9⟩:=dQ hL;refine aI 1 [(32,vB (decide (s1<(x.length:Int))))] (aF (aJ hr ?_ ?_))<;>intro A hr
 .refine aO (aD (aF (bB (aB (iJ 33 v hr ?_)))));rintro R hr b4 f1 d3 ⟨_,_,rfl,rfl,rfl⟩ c9;refine iI 34 38 33 f1 (.agg (V2 R)) g c9 (cD 12 38 (.agg #[vT eB,vT eB]) g fun b5 d5 g=>bJ (.agg (V2 R)) g fun d6 g=>aQ (aB (bC 36 (.agg #[vS l y1.2.1 n]) g.t.t.h (bC 37 (.agg #[vS s y1.d.1 u]) g.t.h (aA 1 [(38,.int .u64 p1)] (bC 39 (.agg (V2 R)) g.h (aL 40 hr (MD (p3:=R) g f k) ?_)))))));rintro a hr _ d7 ⟨D,E,m6,rfl,e4,g,p⟩;refine aA 3 [(41,.agg (Vn a.1.1.1 a.1.1.2.1 a.1.1.d a.1.2.1 D a.1.d.1 E a.1.e)),(42,vI a.2)] (cD 13 44 (.agg #[vI 0,vI 0,vI 0,vB false,v6,vI 0]) g fun b6 d8 g=>bJ (.agg (Vn a.1.1.1 a.1.1.2.1 a.1.1.d a.1.2.1 D a.1.d.1 E a.1.e)) g fun d9 g=>aG 1 [(14,vI a.2)] (aB (bC 44 (.agg #[vS l y1.2.1 n]) g.t.t.t.t.h (bC 45 (.agg #[vS s y1.d.1 u]) g.t.t.t.h (aA 1 [(46,.int .u64 p2)] (bC 47 (.agg (V2 R)) g.t.t.h (aL 48 hr (MD (p3:=R) g (f.o e4) (k.o e4)) ?_)))))));rintro b hr _ e0 ⟨G,M,m7,rfl,e5,g,B⟩;have q:=(q.t e4).t e5;have v:=(v.o e4).o e5;have f:=(f.o e4).o e5;have k:=(k.o e4).o e5;have p:=p.o e5;have o:=(o.o e4).o e5;refine aA 3 [(49,.agg (Vn b.1.1.1 b.1.1.2.1 b.1.1.d b.1.2.1 G b.1.d.1 M b.1.e)),(50,vI b.2)] (cD 15 44 (.agg #[vI 0,vI 0,vI 0,vB false,v6,vI 0]) g fun b7 e1 g=>bJ (.agg (Vn b.1.1.1 b.1.1.2.1 b.1.1.d b.1.2.1 G b.1.d.1 M b.1.e)) g fun f0 g=>aG 1 [(16,vI b.2)] (aF (aB ?_)))
  have⟨o2,hr,J⟩:=aX hr;refine xR (j:=29) (fun L' w'=>∃Y,L'=[(1,.int .u64 p1),(2,.int .u64 p2),(8,vP Z 0),(9,vP b3 0),(12,vP b5 0),(13,vP b6 0),(29,vS F x H),(30,vI (x.length:Int)),(31,vI s1),(79,vB o2)]/\m.le Y/\St Y (kB b7 (Vn b.1.1.1 b.1.1.2.1 b.1.1.d b.1.2.1 G b.1.d.1 M b.1.e) 44::kB b6 (Vn a.1.1.1 a.1.1.2.1 a.1.1.d a.1.2.1 D a.1.d.1 E a.1.e) 44::kB b5 (V2 R) 38::kB b3 #[vS s y1.d.1 u] 32::kB Z #[vS l y1.2.1 n] 29::kB b1 (V1 y1.1 S U) 26::kR G b.1.d.1 M 72 3::kR D a.1.d.1 E 72 3::kR F x H 38 2::kR l y1.2.1 n 75 2::kR s y1.d.1 u 89 2::O) w'/\RepS C1 Y F H x/\RepS C9 Y G M b.1.d.1/\RepS C9 Y D E a.1.d.1/\P8 Y s u l n S U y1) ?_ ?_
  .have hr:=J;rintro _ f7 ⟨Y,rfl,q,g,v,B,p,k,f,o⟩;refine aQ (aJ hr ?_ ?_)<;>intro A hr
   .refine aT 1 [(6,vB false)] (aV ?_);have g:=g.f8.t;refine aD (aN (aU (bM (aU ?_))));have ho:=a9 _ (sI hr);subst ho;have hr:=j1;refine aU (bM (aU ?_));cases hr;exact aW [6] [vB false] ⟨Y,rfl,q,g.t.t.t.t.t.t.t.t.t.t⟩
   refine aO (aD (aB (bC 81 (.agg #[vS l y1.2.1 n]) g.t.t.t.t.h (bC 82 (.agg #[vS s y1.d.1 u]) g.t.t.t.h (aA 2 [(84,.int .u64 (vA .u64 p1 1099511627776))] (bC 85 (.agg (V2 R)) g.t.t.h (aL 86 hr (MD (p3:=R) g f k) ?_)))))));rintro c hr _ f9 ⟨a8,c8,d1,rfl,z,g,r8⟩;have p:=p.o z;refine aA 3 [(87,.agg (Vn c.1.1.1 c.1.1.2.1 c.1.1.d c.1.2.1 a8 c.1.d.1 c8 c.1.e)),(88,vI c.2)] (cD 17 44 (.agg #[vI 0,vI 0,vI 0,vB false,v6,vI 0]) g fun b8 g0 g=>bJ (.agg (Vn c.1.1.1 c.1.1.2.1 c.1.1.d c.1.2.1 a8 c.1.d.1 c8 c.1.e)) g fun g1 g=>aG 1 [(18,vI c.2)] (aB (eV 8 hr (fun o3 L' w'=>∃y,L'=[(1,.int .u64 p1),(2,.int .u64 p2),(8,vP Z 0),(9,vP b3 0),(29,vS F x H),(30,vI (x.length:Int)),(31,vI s1),(96,vB o3)]/\m.le y/\St y (kB b8 (Vn c.1.1.1 c.1.1.2.1 c.1.1.d c.1.2.1 a8 c.1.d.1 c8 c.1.e) 44::kB b7 (Vn b.1.1.1 b.1.1.2.1 b.1.1.d b.1.2.1 G b.1.d.1 M b.1.e) 44::kB b6 (Vn a.1.1.1 a.1.1.2.1 a.1.1.d a.1.2.1 D a.1.d.1 E a.1.e) 44::kB b5 (V2 R) 38::kB b3 #[vS s y1.d.1 u] 32::kB Z #[vS l y1.2.1 n] 29::kB b1 (V1 y1.1 S U) 26::kR a8 c.1.d.1 c8 72 3::kR G b.1.d.1 M 72 3::kR D a.1.d.1 E 72 3::kR F x H 38 2::kR l y1.2.1 n 75 2::kR s y1.d.1 u 89 2::O) w'/\RepS C1 y F H x/\RepS C9 y a8 c8 c.1.d.1/\RepS C9 y G M b.1.d.1/\RepS C9 y D E a.1.d.1/\P8 y s u l n S U y1) ?_ ?_)))
   .rintro o3 hr _ V ⟨y,rfl,q,g,v,r8,B,p,k,f,o⟩;refine aQ (aJ hr ?_ ?_)<;>intro A hr
    .refine aT 1 [(6,vB false)] (aV ?_);have g:=g.f10.t;refine aD (aN (bM (aU ?_)));have ho:=a9 _ (sI hr);subst ho;have hr:=j1;refine aU (bM (aU ?_));cases hr;exact aW [6] [vB false] ⟨y,rfl,q,g.t.t.t.t.t.t.t.t.t.t.t.t⟩
    refine aO (bT (aD (aY (aA 2 [(31,vI (wr (s1+1)))] (aV ?_)))));have hL:=c0 _ (sI hr);exact cZ ⟨wr (s1+1),y,hL,rfl,q,g.t.t.t.t.f3.t.f3.t.f3.t.f5.f5.f5.f5.f5.f5,v,k,f,o⟩
   intro o3 hr K;refine aA 3 [(91,vB (c.2 !=0))] (cN 91 hr ?_ ?_)<;>intro A hr
   .refine aA 5 [(96,vB true)] ?_;cases hr;exact bH _ kr (K _ _ ⟨d1,rfl,q.t z,g.f12.f12.f12.f12.f12.f6.f12.f12.f12.f12.f12.f12.f12,v.o z,r8,B.o z,p,k.o z,f.o z,o.o z⟩)
   refine bC 92 (.agg (Vn a.1.1.1 a.1.1.2.1 a.1.1.d a.1.2.1 D a.1.d.1 E a.1.e)) g.t.t.t.h (bC 93 (.agg (Vn c.1.1.1 c.1.1.2.1 c.1.1.d c.1.2.1 a8 c.1.d.1 c8 c.1.e)) g.h (aL 94 hr (OV (p0:=a.1) (p1:=c.1) g p r8) ?_));rintro y8 hr _ g2 ⟨d2,rfl,V,g⟩;refine aA 2 [(96,vB (!y8))] ?_;cases hr;exact bH _ kr (K _ _ ⟨d2,rfl,(q.t z).t V,g.f12.f12.f12.f12.f12.f6.f12.f12.f12.f12.f12.f12.f12,(v.o z).o V,r8.o V,(B.o z).o V,p.o V,(k.o z).o V,(f.o z).o V,(o.o z).o V⟩)
  intro K;refine aA 3 [(53,vB (a.2 !=0))] (cN 53 hr ?_ ?_)<;>intro A hr
  .refine aA 26 [(79,vB true)] ?_;cases hr;exact bH _ kr (K _ _ ⟨m7,rfl,q,g.f10.f10.f10.f6.f5.f10.f10.f10.f10.f10.f10,v,B,p,k,f,o⟩)
  refine aA 4 [(57,vB (b.2 !=0))] (cN 57 hr ?_ ?_)<;>intro A hr
  .refine aA 22 [(79,vB true)] ?_;cases hr;exact bH _ kr (K _ _ ⟨m7,rfl,q,g.f10.f10.f10.f6.f5.f10.f10.f10.f10.f10.f10,v,B,p,k,f,o⟩)
  refine bG 1 59 4 58 3 (vB a.1.2.1) g.t.t.h (bG 1 61 4 60 3 (vB b.1.2.1) g.h (aA 2 [(63,vB (!(a.1.2.1==b.1.2.1)))] (cN 63 hr ?_ ?_)))<;>intro A hr
  .refine aA 6 [(69,vB (p1==p2))] (cN 69 hr ?_ ?_)<;>intro A hr
   .refine aA 10 [(79,vB true)] ?_;cases hr;exact bH _ kr (K _ _ ⟨m7,rfl,q,g.f10.f10.f10.f6.f5.f10.f10.f10.f10.f10.f10,v,B,p,k,f,o⟩)
   refine bG 1 71 4 70 3 (vB a.1.2.1) g.t.t.h (aA 2 [(73,vB (!a.1.2.1))] (cN 73 hr ?_ ?_))<;>intro A hr
   .refine bC 74 (.agg (Vn a.1.1.1 a.1.1.2.1 a.1.1.d a.1.2.1 D a.1.d.1 E a.1.e)) g.t.t.h (bC 75 (.agg (Vn b.1.1.1 b.1.1.2.1 b.1.1.d b.1.2.1 G b.1.d.1 M b.1.e)) g.h (aL 76 hr (OV (p0:=a.1) (p1:=b.1) g p B) ?_));rintro y5 hr _ z ⟨y,rfl,c,g⟩;refine aA 3 [(79,vB (!y5))] ?_;cases hr;exact bH _ kr (K _ _ ⟨y,rfl,q.t c,g.f10.f10.f10.f6.f5.f10.f10.f10.f10.f10.f10,v.o c,B.o c,p.o c,k.o c,f.o c,o.o c⟩)
   refine aA 6 [(79,vB false)] ?_;cases hr;exact bH _ kr (K _ _ ⟨m7,rfl,q,g.f10.f10.f10.f6.f5.f10.f10.f10.f10.f10.f10,v,B,p,k,f,o⟩)
  refine aA 7 [(69,vB false),(70,vP b6 3)] (bC 71 (vB a.1.2.1) g.t.t.h (aA 2 [(73,vB (!a.1.2.1))] (cN 73 hr ?_ ?_)))<;>intro A hr
  .refine bC 74 (.agg (Vn a.1.1.1 a.1.1.2.1 a.1.1.d a.1.2.1 D a.1.d.1 E a.1.e)) g.t.t.h (bC 75 (.agg (Vn b.1.1.1 b.1.1.2.1 b.1.1.d b.1.2.1 G b.1.d.1 M b.1.e)) g.h (aL 76 hr (OV (p0:=a.1) (p1:=b.1) g p B) ?_));rintro z hr _ V ⟨y,rfl,c,g⟩;refine aA 3 [(79,vB (!z))] ?_;cases hr;exact bH _ kr (K _ _ ⟨y,rfl,q.t c,g.f10.f10.f10.f6.f5.f10.f10.f10.f10.f10.f10,v.o c,B.o c,p.o c,k.o c,f.o c,o.o c⟩)
  refine aA 6 [(79,vB false)] ?_;cases hr;exact bH _ kr (K _ _ ⟨m7,rfl,q,g.f10.f10.f10.f6.f5.f10.f10.f10.f10.f10.f10,v,B,p,k,f,o⟩)
 refine cS (bF ?_);have ho:=a9 _ (sI hr);have g:=g.f5.f5.f5.f5.f5.f5;refine bF ?_;exact xE (b9 _ _ ⟨(),m5,ho,rfl,q,g,k,f,o⟩)
end
section
open Go Go.Dc Go.Proofs
theorem SX{N:Nat}(a:30<N):zA N=some (some kdL):=by
 unfold zA
 rw[show Nat.blt 30 N=true by simpa[Nat.blt_eq] using a];rfl
end
section
open Go Go.Dc
theorem iS(s:BA):s.data.toList.length=s.size:=by simp
theorem nF{s:BA}{i:Nat}(h:i<s.data.toList.length):eX s (i:Int)=some (s.data.toList[i]):=by
 have h':i<s.size:=by simpa using h
 rw[SS h']
 simp[ByteArray.getElem_eq_getElem_data]
def tw(p:UInt8->Bool)(l:List UInt8)(a:Nat):Nat:=a+((l.drop a).takeWhile p).length
section
variable {p:UInt8->Bool} {l:List UInt8} {a:Nat}
theorem oS(h:a<=l.length):a<=tw p l a/\tw p l a<=l.length:=by
 have:=(dD p (l:=l.drop a)).length_le
 simp only[kO] at this
 unfold tw;omega
theorem xP(h:a<l.length)(b:p l[a]=true):tw p l (a+1)=tw p l a:=by
 unfold tw
 rw[jH h,gI b]
 simp only[jA];omega
theorem xQ(h:a<l.length)(b:p l[a]=false):tw p l a=a:=by
 unfold tw
 rw[jH h,gY (by simp[b])]
 simp
theorem DR(h:l.length<=a):tw p l a=a:=by
 unfold tw
 rw[jP h];rfl
theorem UB:∀(d a:Nat),a+d=l.length->∀h:tw p l a<l.length,p (l[tw p l a]'h)=false
 |0,a,c,h=>by rw[DR aa] at h;omega
 |d+1,a,c,h=>by
  have b:a<l.length:=by omega
  cases hb:p l[a] with
  |true=>
   have e:=xP b hb
   have:=UB d (a+1) aa (by rw[e];exact h)
   simpa only[e] using this
  |false=>
   have e:=xQ b hb
   simpa only[e] using hb
theorem DF{β:Type}{f:Int->Option (Int⊕β)}(out:Nat->β)(go:∀i:Nat,∀h:i<l.length,p l[i]=true->f (i:Int)=some (.inl ((i:Int)+1)))
  (no:∀i:Nat,∀h:i<l.length,p l[i]=false->f (i:Int)=some (.inr (out i))) (en:f (l.length:Int)=some (.inr (out l.length))):
  ∀(d a N:Nat),a+d=l.length->d<N->aK f N (a:Int)=some (out (tw p l a))
 |d,a,0,_,h=>by omega
 |0,a,N+1,c,h=>by
  have:a=l.length:=by omega
  subst this
  rw[DR (jM _)];simp[aK,en]
 |d+1,a,N+1,c,h=>by
  have b:a<l.length:=by omega
  cases hb:p l[a] with
  |true=>
   have:=DF out go no en d (a+1) N aa aa
   rw[xP b hb] at this
   simpa[aK,go a b hb] using this
  |false=>
   rw[xQ b hb];simp[aK,no a b hb]
end
def kd(c:UInt8):Int:=uD (c.toNat:Int)
def cC(ks:List Int)(c:UInt8):Bool:=ks.any fun k=>kd c==k
theorem YM{N:Nat}{s:BA}{ks:List Int}{i:Nat}(h:i<s.data.toList.length)(c:ks.length<=10)(b:10<N):aK (CK N s (some kdL) ks (i:Int)) N (false,0)=some (cC ks (s.data.toList[i])):=by
 have key:=DC (f:=CK N s (some kdL) ks (i:Int)) (fun j=>((ks.take j).any (fun k=>kd (s.data.toList[i])==k),(j:Int))) ks.length (cC ks (s.data.toList[i])) (fun j a=> ?_) ?_ (N:=N) aa
 .simpa using key
 .simp only[CK]
  rw[if_pos (by simpa using a),eS a,nF h]
  simp only[j0]
  rw[bY aa aa,kS a,List.any_append]
  cases(ks.take j).any (fun k=>kd (s.data.toList[i])==k)
  .simp[kd,uD,bD]
  simp
 simp only[CK]
 rw[if_neg ad,fM]
 rfl
theorem IA{N:Nat}{s:BA}{ks:List Int}{i:Nat}(hi:i<=s.data.toList.length)(e:s.data.toList.length<1000000)(c:ks.length<=10)(d:s.data.toList.length+10<N):
  vY N s (i:Int) (some kdL) ks=some ((tw (cC ks) s.data.toList i:Nat):Int):=by
 have g:=iS s
 have key:=DF (f:=CL N s (some kdL) ks) (l:=s.data.toList) (p:=cC ks) (fun n=>(n:Int)) (fun j b a=>by
   simp only[CL]
   rw[if_pos (by simp only[j6];omega),YM b c aa,a]
   simp only[j0]
   rw[bY aa aa]
   rfl) (fun j b a=>by
   simp only[CL]
   rw[if_pos (by simp only[j6];omega),YM b c aa,a]
   rfl) (by
   simp only[CL]
   rw[if_neg (by simp only[j6];omega)]) (s.data.toList.length-i) i N aa aa
 unfold vY
 rw[key]
 rfl
theorem UG(c:UInt8):(bD (some kdL) (c.toNat:Int)).getD 0=kd c:=rfl
theorem mG{l:List UInt8}{i:Nat}(h:i<l.length):l.getD i 0=l[i]:=by simp[jT,h]
theorem qBq{β:Type}{p:UInt8->Bool}{l:List UInt8}{a0:Nat}{f:Int->Option (Int⊕β)}(out:Nat->β)(go:∀i:Nat,∀h:i<l.length,p l[i]=true->f (i:Int)=some (.inl ((i:Int)+1)))
  (no:∀i:Nat,∀h:i<l.length,a0<=i->p l[i]=false->f (i:Int)=some (.inr (out i))) (en:f (l.length:Int)=some (.inr (out l.length))):
  ∀(d a N:Nat),a0<=a->a+d=l.length->d<N->aK f N (a:Int)=some (out (tw p l a))
 |d,a,0,_,_,h=>by omega
 |0,a,N+1,_,e,h=>by
  have:a=l.length:=by omega
  subst this
  rw[DR (jM _)];simp[aK,en]
 |d+1,a,N+1,c,e,h=>by
  have b:a<l.length:=by omega
  cases hb:p l[a] with
  |true=>
   have:=qBq out go no en d (a+1) N aa aa aa
   rw[xP b hb] at this
   simpa[aK,go a b hb] using this
  |false=>
   rw[xQ b hb];simp[aK,no a b c hb]
def vC(n:Int)(c:UInt8):Int:=if 9007199254740993<10*n+((c.toNat:Int)-48) then 9007199254740993 else 10*n+((c.toNat:Int)-48)
def qD(ds:List UInt8):Int:=ds.foldl vC 0
def pH(c:UInt8):Bool:=decide (32<=c.toNat)&&decide (c.toNat<=126)&&c !=34
def xW:Int×BA×Int×Int:=(0,⟨#[]⟩,0,0)
def rN(l:List UInt8)(i:Nat):Nat:=if l.getD i 0=61/\l.getD (i+1) 0=61 then i+2 else i+1
def eL(s:BA)(i:Nat):(Int×BA×Int×Int)×Int×Int:=
 if kd (s.data.toList.getD i 0)=1 then
  if tw (cC [1,2,3]) s.data.toList i-i>24 then(xW,0,2) else((1,s.extract i (tw (cC [1,2,3]) s.data.toList i),0,0),((tw (cC [1,2,3]) s.data.toList i:Nat):Int),0)
 else if kd (s.data.toList.getD i 0)=2 then
  if qD ((s.data.toList.drop i).takeWhile (cC [2]))>9007199254740992 then(xW,0,3) else((2,⟨#[]⟩,qD ((s.data.toList.drop i).takeWhile (cC [2])),0),((tw (cC [2]) s.data.toList i:Nat):Int),0)
 else if kd (s.data.toList.getD i 0)=7 then
  if s.data.toList.getD (tw pH s.data.toList (i+1)) 0=34 then((3,s.extract (i+1) (tw pH s.data.toList (i+1)),0,0),((tw pH s.data.toList (i+1)+1:Nat):Int),0) else(xW,0,9)
 else if kd (s.data.toList.getD i 0)=8 then
  ((4,s.extract i (rN s.data.toList i),0,0),((rN s.data.toList i:Nat):Int),0)
 else(xW,0,9)
theorem HW:∀c:UInt8,kd c=2->48<=c.toNat/\c.toNat<=57:=by
 have h:((List.range 256).all fun n=> !(decide (kd (UInt8.ofNat n)=2))||(decide (48<=n)&&decide (n<=57)))=true:=by kernel_rfl
 intro c a
 have:=jN.1 h c.toNat (gS.2 c.toNat_lt)
 simpa[a] using this
theorem qIt{s:BA}{p:UInt8->Bool}{i:Nat}:(s.extract i (tw p s.data.toList i)).data.toList=(s.data.toList.drop i).takeWhile p:=by
 simp only[ByteArray.data_extract,fE]
 have h:=List.prefix_iff_eq_take.1 (List.takeWhile_prefix p (l:=s.data.toList.drop i))
 rw[gC,show tw p s.data.toList i-i=((s.data.toList.drop i).takeWhile p).length by unfold tw;omega]
 exact h.symm
theorem HK(l:List UInt8)(c:UInt8):qD (l++[c])=vC (qD l) c:=by simp[qD]
theorem IK{p:UInt8->Bool}:∀{l:List UInt8} {c:UInt8},c∈l.takeWhile p->p c=true
 |[],_,h=>by simp at h
 |x::l,c,h=>by
  cases hx:p x with
  |true=>
   rw[gI hx] at h
   rcases jJ.1 h with rfl|h
   .exact hx
   exact IK h
  |false=>rw[gY (by simp[hx])] at h;cases h
theorem qQa{N:Nat}{ds:List UInt8}(b:∀c∈ds,kd c=2)(k:ds.length<1000000)(h:ds.length<N):aK (CI N ds) N (0,0)=some (qD ds):=by
 have d:∀j,j<=ds.length->0<=qD (ds.take j)/\qD (ds.take j)<=9007199254740993:=by
  intro j
  induction j with
  |zero=>intro _;simp[qD]
  |succ j g=>
   intro a
   have:=g aa
   rw[kS aa]
   have e:=HW _ (b _ (jS (show j<ds.length by omega)))
   rw[HK]
   unfold vC
   split<;>omega
 have key:=DC (f:=CI N ds) (fun j=>(qD (ds.take j),(j:Int))) ds.length (qD ds) (fun j a=> ?_) ?_ (N:=N) aa
 .exact key
 .have e:=HW _ (b _ (jS a))
  have g:=d j aa
  simp only[CI]
  rw[if_pos (by simpa using a),eS a]
  simp only[j0]
  rw[wu8 aa aa,bY (x:=10*qD (ds.take j)) aa aa,bY (x:=((ds[j]).toNat:Int)-48) aa aa,bY (x:=(j:Int)+1) aa aa,bY aa aa,kS a,HK]
  rfl
 simp only[CI]
 rw[if_neg ad,fM]
theorem tL{s:BA}{i e:Nat}(a:i<=e)(b:e<=s.data.toList.length):mZ s (i:Int) (e:Int)=some (s.extract i e):=by
 have:=iS s
 rw[MT aa aa aa]
 simp
theorem qRi{N:Nat}{s:BA}{i j:Nat}(c:j<s.data.toList.length)(g:s.data.toList.length<1000000)(a:pH (s.data.toList[j])=true):xK N s (i:Int) (j:Int)=some (.inl ((j:Int)+1)):=by
 have h:=iS s
 simp only[pH,jK,j6,fF,ne_eq] at a
 obtain⟨⟨d,f⟩,b⟩:=a
 have h3':¬((s.data.toList[j]).toNat:Int)=34:=fun e=>b (UInt8.toNat_inj.1 (by show _=34;omega))
 simp only[xK,nF c,j0]
 rw[if_pos (by simp only[j6];omega),if_pos (by simp only[j6];omega)]
 simp only[j0]
 rw[if_pos (by simp only[j6];omega),if_neg (by simpa using h3'),bY aa aa]
theorem qRw{N:Nat}{s:BA}{i j:Nat}(hi:i<s.data.toList.length)(b:j<s.data.toList.length)(d:s.data.toList.length<1000000)(a:i+1<=j)(c:pH (s.data.toList[j])=false):
  xK N s (i:Int) (j:Int)=some (.inr (if s.data.toList.getD j 0=34 then(.inr ((3,s.extract (i+1) j,0,0),((j+1:Nat):Int),0)) else(.inl ()))):=by
 have f:=iS s
 simp only[xK,nF b,j0,mG b]
 rw[if_pos (by simp only[j6];omega)]
 by_cases h34:s.data.toList[j]=34
 .rw[h34]
  simp only[show((34:UInt8).toNat:Int)=34 from rfl]
  rw[bY (x:=(i:Int)+1) aa aa,bY aa aa,<-gE,tL a aa]
  rfl
 have h3':¬((s.data.toList[j]).toNat:Int)=34:=fun e=>h34 (UInt8.toNat_inj.1 (by show _=34;omega))
 rw[if_neg h34]
 simp only[pH,Bool.and_eq_false_iff,decide_eq_false_iff_not,bne_eq_false_iff_eq,h34,or_false] at c
 by_cases h1:32<=(s.data.toList[j]).toNat
 .rw[if_pos (by simp only[j6];omega)]
  simp only[j0]
  rw[if_neg (by simp only[j6];omega)]
 rw[if_neg (by simp only[j6];omega)]
 simp
theorem SD{s:BA}{i:Nat}(a:i<=s.data.toList.length):mZ s (i:Int) (s.size:Int)=some (s.extract i s.data.toList.length):=by
 have b:=iS s
 rw[<-tL a (jM _),b]
theorem mF(x y:BA):(x.toList==y.toList)=decide (x=y):=by
 rw[jX]
 simp only[kF,j6]
 constructor
 .intro h
  rw[ByteArray.toList_eq,ByteArray.toList_eq] at h
  exact Go.WideShapes.bytes_inj h
 rintro rfl;rfl
theorem qMz{N:Nat}{s:BA}{i:Nat}(hi:i<s.data.toList.length):MA N (s.extract i s.data.toList.length) (⟨#[61,61]⟩:BA)=some (decide (s.data.toList.getD i 0=61/\s.data.toList.getD (i+1) 0=61)):=by
 have g:=iS s
 have b:(s.extract i s.data.toList.length).size=s.data.toList.length-i:=by rw[ByteArray.size_extract];omega
 simp only[MA,OP,b,show(⟨#[61,61]⟩:BA).size=2 from rfl]
 by_cases h:i+1<s.data.toList.length
 .have a:((s.extract i s.data.toList.length).extract 0 2).data.toList=[s.data.toList[i],s.data.toList[i+1]]:=by
   simp only[ByteArray.data_extract,fE,gC,jV]
   rw[List.take_take,jH hi,jH h]
   have:min (2-0) (s.data.toList.length-i)=2:=by omega
   rw[this];rfl
  have c:mZ (s.extract i s.data.toList.length) 0 ((2:Nat):Int)=some ((s.extract i s.data.toList.length).extract 0 2):=by
   have:=tL (s:=s.extract i s.data.toList.length) (i:=0) (e:=2) aa (by rw[iS,b];omega)
   simpa only[Int.natCast_zero] using this
  rw[if_pos (by simp only[j6];omega),c]
  simp only[j0,mF]
  rw[mG hi,mG h]
  generalize (s.extract i s.data.toList.length).extract 0 2=X at a
  refine congrArg some (decide_eq_decide.2 ?_)
  constructor
  .intro e
   rw[e] at a
   have hd':[(61:UInt8),61]=[s.data.toList[i],s.data.toList[i+1]]:=a
   simp only[kL,and_true] at hd'
   exact⟨hd'.1.symm,hd'.2.symm⟩
  rintro⟨d,f⟩
  apply Go.WideShapes.bytes_inj
  rw[a,d,f]
 rw[if_neg (by simp only[j6];omega)]
 have a:s.data.toList.getD (i+1) 0=0:=by rw[jT,List.getElem?_eq_none aa];rfl
 rw[a]
 simp
theorem qPp{N:Nat}{s:BA}{i:Nat}(hi:i<s.data.toList.length)(d:s.data.toList.length<1000000)(r:s.data.toList.length+20<N):ML N s (i:Int) (some kdL)=some (eL s i):=by
 have t:=iS s
 simp only[ML,nF hi,j0,UG,eL,mG hi,kF]
 by_cases h1:kd (s.data.toList[i])=1
 .simp only[h1,jE]
  have b:=oS (p:=cC [1,2,3]) (l:=s.data.toList) (a:=i) aa
  rw[IA aa d ad aa]
  simp only[j0]
  rw[bY aa aa,tL b.1 b.2]
  by_cases h:tw (cC [1,2,3]) s.data.toList i-i>24
  .rw[if_pos (by simp only[j6];omega),if_pos h];rfl
  rw[if_neg (by simp only[j6];omega),if_neg h];rfl
 simp only[h1,jD]
 by_cases h2:kd (s.data.toList[i])=2
 .simp only[h2,jE]
  have b:=oS (p:=cC [2]) (l:=s.data.toList) (a:=i) aa
  have q:=iS (s.extract i (tw (cC [2]) s.data.toList i))
  have k:=qIt (s:=s) (p:=cC [2]) (i:=i)
  have o:((s.data.toList.drop i).takeWhile (cC [2])).length<=s.data.toList.length:=by
   have:=(dD (cC [2]) (l:=s.data.toList.drop i)).length_le
   simp only[kO] at this;omega
  rw[IA aa d ad aa]
  simp only[j0]
  rw[tL b.1 b.2]
  simp only[j0]
  have g:bytesOf (s.extract i (tw (cC [2]) s.data.toList i))=some ((s.data.toList.drop i).takeWhile (cC [2])):=by
   unfold bytesOf;rw[<-k,if_pos];rw[<-q,k];simp only[maxLen];omega
  rw[g]
  simp only[j0]
  rw[qQa (fun c n=> ?_) aa aa]
  .simp only[j0,j6]
   split<;>rfl
  have:=IK n
  simpa[cC] using this
 simp only[h2,jD]
 by_cases h7:kd (s.data.toList[i])=7
 .simp only[h7,jE]
  have key:=qBq (a0:=i+1) (f:=xK N s (i:Int)) (l:=s.data.toList) (p:=pH) (fun e=>if s.data.toList.getD e 0=34 then(.inr ((3,s.extract (i+1) e,0,0),((e+1:Nat):Int),0)) else(.inl ()))
   (fun j k b=>qRi k d b) (fun j k g b=>qRw hi k d g b) (by
    simp only[xK]
    rw[if_neg (by simp only[j6];omega),if_neg ad]
    rfl) (s.data.toList.length-(i+1)) (i+1) N (jM _) aa aa
  rw[bY (x:=(i:Int)+1) aa aa,<-gE,key]
  simp only[j0]
  split
  .rename_i h;split at h<;>simp_all [xW]
  rename_i h;split at h<;>simp_all
 simp only[h7,jD]
 by_cases h8:kd (s.data.toList[i])=8
 .simp only[h8,jE]
  rw[SD aa,bY (x:=(i:Int)+1) aa aa]
  simp only[j0]
  rw[qMz hi]
  simp only[j0,j6]
  by_cases h:s.data.toList.getD i 0=61/\s.data.toList.getD (i+1) 0=61
  .have k:i+1<s.data.toList.length:=by
    rcases hZ (i+1) s.data.toList.length with h'|h'
    .exact h'
    have g:s.data.toList.getD (i+1) 0=0:=by rw[jT,List.getElem?_eq_none h'];rfl
    rw[g] at h;exact absurd h.2 ac
   have b:rN s.data.toList i=i+2:=by rw[rN,if_pos h]
   rw[if_pos h,bY aa aa,b]
   simp only[j0]
   rw[show((i:Int)+1+1)=((i+2:Nat):Int) by omega,tL aa aa]
   rfl
  have b:rN s.data.toList i=i+1:=by rw[rN,if_neg h]
  rw[if_neg h,b]
  simp only[j0]
  rw[<-gE,tL aa aa]
  rfl
 simp only[h8,jD]
 rfl
theorem qDx{p:UInt8->Bool}{l:List UInt8}(h:∀c∈l,p c=true):tw p l 0=l.length:=by
 unfold tw
 have:l.takeWhile p=l:=by
  induction l with
  |nil=>rfl
  |cons c l b=>rw[gI (h c (jO ..)),b fun d a=>h d (jQ _ a)]
 simp[this]
abbrev cA:=Int×BA×Int×Int
theorem qBy{ks:List Int}{k:Int}{c:UInt8}(a:k∈ks)(h:kd c=k):cC ks c=true:=by
 unfold cC;exact fP.2 ⟨k,a,by simp[h]⟩
theorem zR{p:UInt8->Bool}{l:List UInt8}{a:Nat}(h:a<l.length)(b:p l[a]=true):a<tw p l a:=by
 rw[<-xP h b];have:=(oS (p:=p) (l:=l) (a:=a+1) aa).1;omega
theorem HU{l:List UInt8}{i:Nat}(h:l.getD i 0≠0):i<l.length:=by
 rcases hZ i l.length with h'|h'
 .exact h'
 exfalso;apply h;rw[jT,List.getElem?_eq_none h'];rfl
theorem NO{s:BA}{i:Nat}(hi:i<s.data.toList.length)(h:(eL s i).2.2=0):∃e:Nat,(eL s i).2.1=(e:Int)/\i<e/\e<=s.data.toList.length/\
  (((eL s i).1.1=1\/(eL s i).1.1=4)/\(eL s i).1.2.1=s.extract i e\/(eL s i).1.1=2/\(eL s i).1.2.1=⟨#[]⟩\/(eL s i).1.1=3/\(eL s i).1.2.1.size+i<e):=by
 have d:=iS s
 unfold eL at h ⊢
 rw[mG hi] at h ⊢
 by_cases h1:kd (s.data.toList[i])=1
 .rw[if_pos h1] at h ⊢
  split at h
  .cases h
  rename_i h24
  rw[if_neg h24]
  have b:=oS (p:=cC [1,2,3]) (l:=s.data.toList) (a:=i) aa
  exact⟨_,rfl,zR hi (qBy ad h1),b.2,.inl ⟨.inl rfl,rfl⟩⟩
 rw[if_neg h1] at h ⊢
 by_cases h2:kd (s.data.toList[i])=2
 .rw[if_pos h2] at h ⊢
  split at h
  .cases h
  rename_i h24
  rw[if_neg h24]
  have b:=oS (p:=cC [2]) (l:=s.data.toList) (a:=i) aa
  exact⟨_,rfl,zR hi (qBy ad h2),b.2,.inr (.inl ⟨rfl,rfl⟩)⟩
 rw[if_neg h2] at h ⊢
 by_cases h7:kd (s.data.toList[i])=7
 .rw[if_pos h7] at h ⊢
  split at h
  .rename_i h24
   rw[if_pos h24]
   have b:=oS (p:=pH) (l:=s.data.toList) (a:=i+1) aa
   have c:tw pH s.data.toList (i+1)<s.data.toList.length:=HU (by rw[h24];decide)
   refine⟨_,rfl,by omega,by omega,.inr (.inr ⟨rfl,?_⟩)⟩
   simp only[ByteArray.size_extract]
   omega
  cases h
 rw[if_neg h7] at h ⊢
 by_cases h8:kd (s.data.toList[i])=8
 .rw[if_pos h8] at h ⊢
  refine⟨_,rfl,?_,?_,.inl ⟨.inr rfl,rfl⟩⟩
  .unfold rN;split<;>omega
  unfold rN
  split
  .rename_i hh
   have:i+1<s.data.toList.length:=HU (by rw[hh.2];decide)
   omega
  omega
 rw[if_neg h8] at h
 cases h
def eU(c:UInt8):Bool:=c !=10
def mW:Nat->BA->Nat->(Int×Int)⊕List cA
 |0,_,_=> .inr []
 |k+1,s,i=>
  if tw (cC [5]) s.data.toList i=s.data.toList.length then .inr [(5,⟨#[]⟩,0,(s.data.toList.length:Int))]
  else if kd (s.data.toList.getD (tw (cC [5]) s.data.toList i) 0)=6 then mW k s (tw eU s.data.toList (tw (cC [5]) s.data.toList i))
  else if(eL s (tw (cC [5]) s.data.toList i)).2.2≠0 then .inl ((tw (cC [5]) s.data.toList i:Nat),(eL s (tw (cC [5]) s.data.toList i)).2.2)
  else match mW k s (eL s (tw (cC [5]) s.data.toList i)).2.1.toNat with
   | .inl x=> .inl x
   | .inr r=> .inr (((eL s (tw (cC [5]) s.data.toList i)).1.1,(eL s (tw (cC [5]) s.data.toList i)).1.2.1,(eL s (tw (cC [5]) s.data.toList i)).1.2.2.1,((tw (cC [5]) s.data.toList i:Nat):Int))::r)
def uV(acc:List cA):(Int×Int)⊕List cA->List cA×Int×Int
 | .inl x=>([],x.1,x.2)
 | .inr r=>(acc++r,0,0)
def lC(s:BA):List cA×Int×Int:=if s.data.toList.length>16384 then([],0,2) else uV [] (mW (s.data.toList.length+1) s 0)
theorem qRb{s:BA}{i:Nat}(hi:i<=s.data.toList.length):
  (if rD (s.extract i s.data.toList.length) 10<0 then((s.data.toList.length-i:Nat):Int) else rD (s.extract i s.data.toList.length) 10)=((tw eU s.data.toList i-i:Nat):Int):=by
 have x:=iS s
 have n:(s.extract i s.data.toList.length).size=s.data.toList.length-i:=by rw[ByteArray.size_extract];omega
 have v:=oS (p:=eU) (l:=s.data.toList) (a:=i) hi
 have f:∀j,j<s.data.toList.length-i->(s.extract i s.data.toList.length)[j]! =s.data.toList.getD (i+j) 0:=by
  intro j b
  have hj':i+j<s.data.toList.length:=by omega
  rw[mG hj',getElem!_pos _ _ (by rw[n];exact b),ByteArray.getElem_extract]
  simp[ByteArray.getElem_eq_getElem_data]
 have g:∀d a,a+d=s.data.toList.length->∀j,a<=j->j<tw eU s.data.toList a->s.data.toList.getD j 0≠10:=by
  intro d
  induction d with
  |zero=>intro a o j b e;rw[DR aa] at e;omega
  |succ d q=>
   intro a o j b e
   have c:a<s.data.toList.length:=by omega
   cases hc:eU (s.data.toList[a]) with
   |true=>
    rw[<-xP c hc] at e
    rcases Nat.eq_or_lt_of_le b with rfl|b
    .rw[mG c];simpa[eU] using hc
    exact q (a+1) aa j b e
   |false=>rw[xQ c hc] at e;omega
 have g:=g (s.data.toList.length-i) i aa
 unfold rD
 rw[n]
 cases hf:(List.range (s.data.toList.length-i)).find? (fun j=>(s.extract i s.data.toList.length)[j]! ==(10:Int).toNat.toUInt8) with
 |none=>
  rw[List.find?_eq_none] at hf
  simp only
  rw[if_pos aa]
  have:¬tw eU s.data.toList i<s.data.toList.length:=by
   intro c
   have b:=UB (p:=eU) (l:=s.data.toList) (s.data.toList.length-i) i aa c
   have e:=hf (tw eU s.data.toList i-i) (gS.2 aa)
   rw[f _ aa,show i+(tw eU s.data.toList i-i)=tw eU s.data.toList i by omega,mG c] at e
   simp only[eU,bne_eq_false_iff_eq] at b
   rw[b] at e
   exact e ac
  omega
 |some k=>
  have b:=List.find?_some hf
  have r:k<s.data.toList.length-i:=gS.1 (gL hf)
  simp only
  rw[if_neg aa]
  rw[f k r] at b
  have b:s.data.toList.getD (i+k) 0=10:=by simpa using b
  have e:¬i+k<tw eU s.data.toList i:=fun h=>g (i+k) aa h b
  have t:¬tw eU s.data.toList i<i+k:=by
   intro c
   have hlt':tw eU s.data.toList i<s.data.toList.length:=by omega
   have q:=UB (p:=eU) (l:=s.data.toList) (s.data.toList.length-i) i aa hlt'
   have u:=List.not_of_lt_findIdx (xs:=List.range (s.data.toList.length-i)) (p:=fun j=>(s.extract i s.data.toList.length)[j]! ==(10:Int).toNat.toUInt8) (i:=tw eU s.data.toList i-i)
   have o:=(List.find?_range_eq_some.1 hf).2.2 (tw eU s.data.toList i-i) aa
   rw[f _ aa,show i+(tw eU s.data.toList i-i)=tw eU s.data.toList i by omega,mG hlt'] at o
   simp only[eU,bne_eq_false_iff_eq] at q
   rw[q] at o
   simp at o
  omega
theorem QR{N:Nat}{s:BA}(n:s.data.toList.length<=16384)(g:s.data.toList.length+40<N):∀(k M i:Nat) (acc:List cA),i<=s.data.toList.length->s.data.toList.length<i+k->k<=M->acc.length<=i->
  aK (GU N s (some kdL)) M (acc,(i:Int))=some (uV acc (mW k s i))
 |0,_,i,_,f,o,_,_=>by omega
 |k+1,0,_,_,_,_,q,_=>by omega
 |k+1,M+1,i,acc,f,o,q,v=>by
  have y:=iS s
  have t:=oS (p:=cC [5]) (l:=s.data.toList) (a:=i) f
  simp only[aK,mW]
  have c:GU N s (some kdL) (acc,(i:Int))=if tw (cC [5]) s.data.toList i=s.data.toList.length then some (.inr (acc++[(5,⟨#[]⟩,0,(s.data.toList.length:Int))],0,0))
    else if kd (s.data.toList.getD (tw (cC [5]) s.data.toList i) 0)=6 then some (.inl (acc,((tw eU s.data.toList (tw (cC [5]) s.data.toList i):Nat):Int)))
    else if(eL s (tw (cC [5]) s.data.toList i)).2.2≠0 then some (.inr ([],(tw (cC [5]) s.data.toList i:Nat),(eL s (tw (cC [5]) s.data.toList i)).2.2))
    else some (.inl (acc++[((eL s (tw (cC [5]) s.data.toList i)).1.1,(eL s (tw (cC [5]) s.data.toList i)).1.2.1,(eL s (tw (cC [5]) s.data.toList i)).1.2.2.1,((tw (cC [5]) s.data.toList i:Nat):Int))],(eL s (tw (cC [5]) s.data.toList i)).2.1)):=by
   simp only[GU]
   rw[IA f aa ad aa]
   simp only[j0]
   generalize hE:tw (cC [5]) s.data.toList i=e at t ⊢
   by_cases he:e=s.data.toList.length
   .rw[if_pos he,if_pos (by rw[kF];omega),lB (by simp only[jA,jB];omega) aa,he]
    rfl
   have b:e<s.data.toList.length:=by omega
   rw[if_neg he,if_neg (by rw[kF];omega),nF b]
   simp only[j0,UG,kF,mG b]
   by_cases h6:kd (s.data.toList[e])=6
   .rw[if_pos h6,if_pos h6,SD aa]
    have h:=qRb (s:=s) (i:=e) aa
    have d:=oS (p:=eU) (l:=s.data.toList) (a:=e) aa
    have u:(if(decide (rD (s.extract e s.data.toList.length) 10<0))=true then(some (IntKind.wrap .i64 ((ByteArray.size s:Int)-(e:Int)))) else(some (rD (s.extract e s.data.toList.length) 10)):Option Int)=some ((tw eU s.data.toList e-e:Nat):Int):=by
     rw[<-h,bY aa aa]
     by_cases hi:rD (s.extract e s.data.toList.length) 10<0
     .rw[if_pos (by simpa using hi),if_pos hi];congr 1;omega
     rw[if_neg (by simpa using hi),if_neg hi]
    simp only[j0,PX,EV]
    rw[u]
    simp only[j0]
    rw[bY aa aa]
    congr 3;omega
   rw[if_neg h6,if_neg h6,qPp b aa aa]
   simp only[j0,fF]
   by_cases h0:(eL s e).2.2≠0
   .rw[if_pos h0,if_pos h0]
   rw[if_neg h0,if_neg h0,lB (by simp only[jA,jB];omega) aa]
   rfl
  rw[c]
  by_cases he:tw (cC [5]) s.data.toList i=s.data.toList.length
  .rw[if_pos he,if_pos he];rfl
  rw[if_neg he,if_neg he]
  have b:tw (cC [5]) s.data.toList i<s.data.toList.length:=by omega
  by_cases h6:kd (s.data.toList.getD (tw (cC [5]) s.data.toList i) 0)=6
  .rw[if_pos h6,if_pos h6]
   have d:=oS (p:=eU) (l:=s.data.toList) (a:=tw (cC [5]) s.data.toList i) aa
   have h:=zR (p:=eU) b (by
    rw[mG b] at h6
    simp only[eU,fF,ne_eq]
    intro e;rw[e] at h6;exact absurd h6 ac)
   exact QR n g k M _ acc d.2 aa aa aa
  rw[if_neg h6,if_neg h6]
  by_cases h0:(eL s (tw (cC [5]) s.data.toList i)).2.2≠0
  .rw[if_pos h0,if_pos h0];rfl
  rw[if_neg h0,if_neg h0]
  obtain⟨e,d,u,h,_⟩:=NO b (by simpa using h0)
  rw[d]
  simp only[j0,jZ]
  rw[QR n g k M e _ h aa aa ag]
  cases mW k s e with
  |inl x=>rfl
  |inr r=>simp[uV]
theorem qMv{N:Nat}{s:BA}(a:20000<N):MH N s=some (lC s):=by
 have b:=iS s
 unfold MH lC
 by_cases h:s.data.toList.length>16384
 .rw[if_pos (by simp only[j6];omega),if_pos h]
 rw[if_neg (by simp only[j6];omega),if_neg h,SX aa]
 have:=QR (N:=N) (s:=s) aa aa (s.data.toList.length+1) N 0 [] aa aa aa ad
 simp only[j0]
 rw[show((0:Nat):Int)=0 from rfl] at this
 rw[this]
 rfl
def yE(t:cA):Int:=t.2.2.2+(t.2.1.size:Int)+(if t.1=2 then 1 else 0)
def UL(s:BA):Int->List cA->Prop
 |_,[]=>True
 |e,t::r=>e<=t.2.2.2/\t.2.2.2+(t.2.1.size:Int)<=s.size/\(t.1=5↔r=[])/\(t.1=1\/t.1=4->s.extract t.2.2.2.toNat (t.2.2.2+(t.2.1.size:Int)).toNat=t.2.1/\0<t.2.1.size)/\UL s (yE t) r
theorem RJ{s:BA}:∀(k i:Nat) (e:Int) (r:List cA),i<=s.data.toList.length->s.data.toList.length<i+k->e<=i->mW k s i= .inr r->UL s e r/\r≠[]/\r.length<=s.data.toList.length+1-i
 |0,i,e,r,A,G,H,c=>by omega
 |k+1,i,e,r,A,G,H,c=>by
  have M:=iS s
  have K:=oS (p:=cC [5]) (l:=s.data.toList) (a:=i) A
  simp only[mW] at c
  generalize hE:tw (cC [5]) s.data.toList i=a at K c
  split at c
  .obtain rfl:=(Sum.inr.inj c).symm
   refine⟨⟨by show e<=(s.data.toList.length:Int);omega,by show(s.data.toList.length:Int)+((0:Nat):Int)<=_;omega,by simp,fun h=>by simp at h,trivial⟩,by simp,by simp;omega⟩
  rename_i he
  have o:a<s.data.toList.length:=by omega
  split at c
  .rename_i h6
   have u:=oS (p:=eU) (l:=s.data.toList) (a:=a) aa
   have d:=zR (p:=eU) o (by
    rw[mG o] at h6
    simp only[eU,fF,ne_eq]
    intro e;rw[e] at h6;exact absurd h6 ac)
   obtain⟨v,y,F⟩:=RJ k _ e r u.2 aa aa c
   exact⟨v,y,by omega⟩
  split at c
  .cases c
  rename_i h0
  obtain⟨b,B,u,D,E⟩:=NO o (by simpa using h0)
  rw[B,jZ] at c
  generalize (eL s a).1=t at c E
  cases z:mW k s b with
  |inl x=>rw[z] at c;cases c
  |inr q=>
   rw[z] at c
   obtain rfl:=(Sum.inr.inj c).symm
   have g:(s.extract a b).size=b-a:=by rw[ByteArray.size_extract];omega
   have f:yE (t.1,t.2.1,t.2.2.1,(a:Int))<=b/\(a:Int)+(t.2.1.size:Int)<=b/\t.1≠5/\(t.1=1\/t.1=4->t.2.1=s.extract a b):=by
    rcases E with ⟨n,d⟩|⟨n,d⟩|⟨n,d⟩
    .refine⟨?_,?_,by omega,fun _=>d⟩
     .simp only[yE,d,g];rw[if_neg aa];omega
     rw[d,g];omega
    .have:(⟨#[]⟩:BA).size=0:=rfl
     refine⟨?_,?_,by omega,fun h=>by omega⟩
     .simp only[yE,d,this];rw[if_pos n];omega
     rw[d,this];omega
    refine⟨?_,by omega,by omega,fun h=>by omega⟩
    simp only[yE];rw[if_neg aa];omega
   obtain⟨v,y,F⟩:=RJ k b (yE (t.1,t.2.1,t.2.2.1,(a:Int))) q D aa f.1 z
   refine⟨⟨by show e<=(a:Int);omega,?_,?_,?_,v⟩,by simp,by simp only[jA];omega⟩
   .show(a:Int)+(t.2.1.size:Int)<=_;omega
   .exact⟨fun h=>absurd h f.2.2.1,fun h=>absurd h y⟩
   intro h
   have:=f.2.2.2 h
   show s.extract (Int.toNat (a:Int)) ((a:Int)+(t.2.1.size:Int)).toNat=t.2.1/\0<t.2.1.size
   rw[this,g,jZ,show((a:Int)+((b-a:Nat):Int)).toNat=b by omega]
   exact⟨rfl,by omega⟩
theorem SV{s:BA}:∀(k i:Nat) (x:Int×Int),i<=s.data.toList.length->s.data.toList.length<i+k->mW k s i= .inl x->0<=x.1/\x.1<=s.size/\x.2≠0
 |0,i,x,h,r,c=>by omega
 |k+1,i,x,h,r,c=>by
  have v:=iS s
  have t:=oS (p:=cC [5]) (l:=s.data.toList) (a:=i) h
  simp only[mW] at c
  generalize hE:tw (cC [5]) s.data.toList i=a at t c
  split at c
  .cases c
  rename_i he
  have d:a<s.data.toList.length:=by omega
  split at c
  .rename_i h6
   have f:=oS (p:=eU) (l:=s.data.toList) (a:=a) aa
   have g:=zR (p:=eU) d (by
    rw[mG d] at h6
    simp only[eU,fF,ne_eq]
    intro e;rw[e] at h6;exact absurd h6 ac)
   exact SV k _ x f.2 aa c
  split at c
  .rename_i h0
   obtain rfl:=Sum.inl.inj c
   exact⟨by simp only;omega,by simp only;omega,h0⟩
  rename_i h0
  obtain⟨b,n,f,o,u⟩:=NO d (by simpa using h0)
  rw[n,jZ] at c
  cases g:mW k s b with
  |inl y=>rw[g] at c;obtain rfl:=Sum.inl.inj c;exact SV k b y o aa g
  |inr q=>rw[g] at c;cases c
theorem xU{p:UInt8->Bool}(h:((List.range 256).all fun n=>p (UInt8.ofNat n))=true)(c:UInt8):p c=true:=by
 have:=jN.1 h c.toNat (gS.2 c.toNat_lt)
 simpa using this
theorem RK{N:Nat}(c:UInt8):BZ N (c.toNat:Int)=some (kd c==1):=by
 have h:=xU (p:=fun c=>(decide (97<=c.toNat)&&decide (c.toNat<=122))==(kd c==1)) af c
 rw[kF] at h
 rw[<-h]
 unfold BZ
 by_cases h1:97<=c.toNat
 .rw[if_pos (by simp only[j6];omega)]
  simp only[h1,decide_true,dC,j0]
  congr 1
  exact decide_eq_decide.2 aa
 rw[if_neg (by simp only[j6];omega)]
 simp[h1]
theorem HT{N:Nat}(c:UInt8):yX N (c.toNat:Int)=some (cC [1,2,3] c):=by
 have h:=xU (p:=fun c=>(kd c==1||(decide (48<=c.toNat)&&decide (c.toNat<=57)||decide (c.toNat=95)))==cC [1,2,3] c) af c
 rw[kF] at h
 rw[<-h]
 unfold yX
 rw[RK]
 simp only[j0]
 cases kd c==1
 .have a:((c.toNat:Int)==95)=decide (c.toNat=95):=by rw[jX,kF,j6];omega
  simp only[j9,jD,dH,a]
  by_cases h1:48<=c.toNat
  .by_cases h2:c.toNat<=57
   .rw[if_pos (by simp only[j6];omega),if_pos (by simp only[j6];omega)];simp[h1,h2]
   rw[if_pos (by simp only[j6];omega),if_neg (by simp only[j6];omega)];simp[h2]
  rw[if_neg (by simp only[j6];omega)];simp[h1]
 rfl
theorem RO(c:UInt8):kd c=2↔48<=c.toNat/\c.toNat<=57:=by
 have h:=xU (p:=fun c=>(kd c==2)==(decide (48<=c.toNat)&&decide (c.toNat<=57))) af c
 rw[kF,jX] at h
 simpa using h
theorem qAg(c:UInt8):kd c=7↔c=34:=by
 have h:=xU (p:=fun c=>(kd c==7)==(c==34)) af c
 rw[kF,jX] at h
 simpa using h
def signs:List UInt8:=[59,44,40,41,43,45,42,47,37,60,61]
theorem qBm(c:UInt8):kd c=8↔signs.contains c=true:=by
 have h:=xU (p:=fun c=>(kd c==8)==signs.contains c) af c
 rw[kF,jX] at h
 simpa using h
theorem qMi(c:UInt8):cC [5] c=true↔c.toNat=32\/c.toNat=9\/c.toNat=10\/c.toNat=13:=by
 have h:=xU (p:=fun c=>cC [5] c==(decide (c.toNat=32)||(decide (c.toNat=9)||(decide (c.toNat=10)||decide (c.toNat=13))))) af c
 rw[kF,jX] at h
 simpa using h
theorem qKk(c:UInt8):kd c=6↔c.toNat=35:=by
 have h:=xU (p:=fun c=>(kd c==6)==decide (c.toNat=35)) af c
 rw[kF,jX] at h
 simpa using h
def pM(n:Int)(c:UInt8):Int:=if n<=9007199254740992 then n*10+((c.toNat:Int)-48) else n
theorem qMs(l:List UInt8)(c:UInt8):(l++[c]).foldl pM 0=pM (l.foldl pM 0) c:=by simp
theorem qCo:∀(n:Nat) (ds:List UInt8),ds.length=n->(∀c∈ds,kd c=2)->0<=ds.foldl pM 0/\ds.foldl pM 0<=90071992547409930/\qD ds=if ds.foldl pM 0>9007199254740992 then 9007199254740993 else ds.foldl pM 0
 |0,ds,h,_=>by obtain rfl:=dB.1 h;simp[qD]
 |n+1,ds,h,k=>by
  obtain⟨l,c,rfl⟩:∃l c,ds=l++[c]:=by
   rcases List.eq_nil_or_concat ds with e|⟨l,c,e⟩
   .rw[e] at h;cases h
   exact⟨l,c,by simpa using e⟩
  obtain⟨d,f,a⟩:=qCo n l (by simpa using h) (fun c g=>k c (kW _ g))
  have g:=HW c (k c ad)
  rw[qMs,HK]
  by_cases hu:l.foldl pM 0<=9007199254740992
  .rw[if_neg aa] at a
   rw[a]
   generalize l.foldl pM 0=u at d f hu
   have b:pM u c=u*10+((c.toNat:Int)-48):=if_pos hu
   rw[b]
   unfold vC
   refine⟨by omega,by omega,?_⟩
   by_cases h4:9007199254740993<10*u+((c.toNat:Int)-48)
   .rw[if_pos h4,if_pos aa]
   rw[if_neg h4]
   by_cases h5:u*10+((c.toNat:Int)-48)>9007199254740992
   .rw[if_pos h5];omega
   rw[if_neg h5];omega
  rw[if_pos aa] at a
  rw[a]
  generalize l.foldl pM 0=u at d f hu
  have b:pM u c=u:=if_neg hu
  have o:vC 9007199254740993 c=9007199254740993:=if_pos aa
  rw[b,o,if_pos aa]
  exact⟨d,f,rfl⟩
theorem qFg(c:UInt8):cC [2] c=decide (48<=c.toNat/\c.toNat<=57):=by
 rw[jX,j6,<-RO];simp[cC]
theorem XH{N:Nat}{s:BA}:∀(d i M:Nat) (n:Int),i+d=s.data.toList.length->s.data.toList.length<1000000->d<M->0<=n->n<=90071992547409930->
  aK (FL N s) M ((i:Int),n)=some (((tw (cC [2]) s.data.toList i:Nat):Int),((s.data.toList.drop i).takeWhile (cC [2])).foldl pM n)
 |d,i,0,n,_,_,h,_,_=>by omega
 |0,i,M+1,n,c,b,e,f,g=>by
  have l:=iS s
  rw[DR aa,jP aa]
  simp only[aK,FL]
  rw[if_neg (by simp only[j6];omega)]
  rfl
 |d+1,i,M+1,n,c,b,e,f,g=>by
  have l:=iS s
  have hi:i<s.data.toList.length:=by omega
  simp only[aK,FL]
  rw[if_pos (by simp only[j6];omega),nF hi]
  simp only[j0]
  have k:(if decide (((s.data.toList[i]).toNat:Int)>=48)=true then some (decide (((s.data.toList[i]).toNat:Int)<=57)) else some false)=some (cC [2] (s.data.toList[i])):=by
   rw[qFg]
   by_cases h48:48<=(s.data.toList[i]).toNat
   .rw[if_pos (by simp only[j6];omega)];congr 1;exact decide_eq_decide.2 aa
   rw[if_neg (by simp only[j6];omega)];congr 1;exact(jR aa).symm
  rw[k]
  simp only[j0]
  rw[jH hi]
  cases hb:cC [2] (s.data.toList[i]) with
  |false=>
   rw[xQ hi hb,gY (by rw[hb];exact gH)]
   rfl
  |true=>
   have o:48<=(s.data.toList[i]).toNat/\(s.data.toList[i]).toNat<=57:=by rw[qFg] at hb;simpa using hb
   rw[<-xP hi hb,gI hb,kC,if_pos rfl]
   have a:(if decide (n<=9007199254740992)=true then some (IntKind.wrap .i64 (IntKind.wrap .i64 (n*10)+IntKind.wrap .i64 (IntKind.wrap .u8 (((s.data.toList[i]).toNat:Int)-48)))) else some n)=some (pM n (s.data.toList[i])):=by
    unfold pM
    by_cases a:n<=9007199254740992
    .rw[if_pos (by simpa using a),if_pos a,wu8 aa aa,bY (x:=n*10) aa aa,bY (x:=((s.data.toList[i]).toNat:Int)-48) aa aa,bY aa aa]
    rw[if_neg (by simpa using a),if_neg a]
   rw[a]
   simp only[j0]
   rw[bY aa aa,<-gE]
   exact XH d (i+1) M _ aa b aa (by unfold pM;split<;>omega) (by unfold pM;split<;>omega)
theorem qBi(c:UInt8):(if decide ((c.toNat:Int)>=32)=true then(if decide ((c.toNat:Int)<=126)=true then some ((c.toNat:Int) !=34) else some false) else some false)=some (pH c):=by
 unfold pH
 by_cases h1:32<=c.toNat
 .rw[if_pos (by simp only[j6];omega)]
  by_cases h2:c.toNat<=126
  .rw[if_pos (by simp only[j6];omega)]
   simp only[h1,h2,decide_true,dC]
   congr 1
   rw[jX,fF,fF]
   exact⟨fun h e=>h (by rw[e];rfl),fun h e=>h (UInt8.toNat_inj.1 (by show _=34;omega))⟩
  rw[if_neg (by simp only[j6];omega)];simp[h2]
 rw[if_neg (by simp only[j6];omega)];simp[h1]
theorem qJj{N:Nat}{s:BA}(d i M:Nat)(c:i+d=s.data.toList.length)(h:s.data.toList.length<1000000)(g:d<M):aK (yQ N s) M (i:Int)=some ((tw pH s.data.toList i:Nat):Int):=by
 have k:=iS s
 refine DF (f:=yQ N s) (l:=s.data.toList) (p:=pH) (fun e=>(e:Int)) (fun j b a=> ?_) (fun j b a=> ?_) ?_ d i M c g
 .simp only[yQ]
  rw[if_pos (by simp only[j6];omega),nF b]
  simp only[j0,qBi,a]
  rw[if_pos trivial,bY aa aa]
 .simp only[yQ]
  rw[if_pos (by simp only[j6];omega),nF b]
  simp only[j0,qBi,a]
  rfl
 simp only[yQ]
 rw[if_neg (by simp only[j6];omega)]
 rfl
theorem qDy{N:Nat}{s:BA}{p1 a:Int}:KY N s p1 a=if(decide (a<(signs.length:Int)))=true then((bQ signs a).bind fun b=>(eX s p1).bind fun c=>if((c.toNat:Int)==(b.toNat:Int))=true then((mZ s p1 (IntKind.wrap .i64 (p1+1))).bind fun d=>some (.inr (.inr (((4,d,0,p1),IntKind.wrap .i64 (p1+1),0))))) else(some (.inl (IntKind.wrap .i64 (a+1))))) else(some (.inr (.inl ()))):=rfl
theorem XE{N:Nat}{s:BA}{i:Nat}(hi:i<s.data.toList.length)(g:s.data.toList.length<1000000):∀(d j M:Nat),j+d=signs.length->d<M->
  aK (KY N s (i:Int)) M (j:Int)=some (if(signs.drop j).contains (s.data.toList[i])=true then .inr ((4,s.extract i (i+1),0,(i:Int)),((i+1:Nat):Int),0) else .inl ())
 |d,j,0,_,h=>by omega
 |0,j,M+1,e,f=>by
  simp only[aK,qDy]
  rw[if_neg (by simp only[j6];omega),jP aa]
  rfl
 |d+1,j,M+1,e,f=>by
  have b:j<signs.length:=by omega
  have k:signs.length=11:=rfl
  simp only[aK,qDy]
  rw[if_pos (by simp only[j6];omega),eS b,nF hi,jH b]
  simp only[j0,List.contains_cons]
  by_cases he:s.data.toList[i]=signs[j]
  .rw[if_pos (by rw[he];exact gZ _),bY (x:=(i:Int)+1) aa aa,<-gE,tL aa aa]
   simp only[j0]
   rw[if_pos (by rw[he];simp)]
  have c:¬((s.data.toList[i]).toNat:Int)=((signs[j]).toNat:Int):=fun h=>he (UInt8.toNat_inj.1 aa)
  have a:(s.data.toList[i]==signs[j])=false:=beq_eq_false_iff_ne.2 he
  rw[if_neg (by simpa using c),bY aa aa,<-gE]
  simp only[j0,a,dH]
  exact XE hi g d (j+1) M aa aa
def US(s:BA)(i:Nat):(Int×BA×Int×Int)×Int×Int:=
 if(eL s i).2.2=0 then(((eL s i).1.1,(eL s i).1.2.1,(eL s i).1.2.2.1,(i:Int)),(eL s i).2.1,0) else eL s i
theorem qKs{N:Nat}{s:BA}{i:Nat}(hi:i<s.data.toList.length)(n:s.data.toList.length<1000000)(v:s.data.toList.length+20<N):LT N s (i:Int)=some (US s i):=by
 have y:=iS s
 simp only[LT,nF hi,j0,RK,US,eL,mG hi,kF]
 by_cases h1:kd (s.data.toList[i])=1
 .simp only[h1,jE]
  have d:=oS (p:=cC [1,2,3]) (l:=s.data.toList) (a:=i) aa
  have key:=DF (f:=BP N s) (l:=s.data.toList) (p:=cC [1,2,3]) (fun e=>(e:Int)) (fun j b d=>by
   simp only[BP]
   rw[if_pos (by simp only[j6];omega),nF b]
   simp only[j0,HT,d]
   rw[if_pos trivial,bY aa aa]) (fun j b d=>by
   simp only[BP]
   rw[if_pos (by simp only[j6];omega),nF b]
   simp only[j0,HT,d]
   rfl) (by
   simp only[BP]
   rw[if_neg (by simp only[j6];omega)]
   rfl) (s.data.toList.length-i) i N aa aa
  rw[key]
  simp only[j0]
  rw[bY aa aa,tL d.1 d.2]
  by_cases h:tw (cC [1,2,3]) s.data.toList i-i>24
  .rw[if_pos (by simp only[j6];omega),if_pos h];rfl
  rw[if_neg (by simp only[j6];omega),if_neg h];rfl
 simp only[h1,jD]
 by_cases h2:kd (s.data.toList[i])=2
 .simp only[h2,jE]
  have q:=(RO _).1 h2
  rw[if_pos (by simp only[j6];omega)]
  simp only[j0]
  obtain⟨b,k,o⟩:=qCo _ _ rfl (fun c (g:c∈(s.data.toList.drop i).takeWhile (cC [2]))=>by simpa[cC] using IK g)
  rw[if_pos (by simp only[j6];omega),XH (s.data.toList.length-i) i N 0 aa n aa aa aa,o]
  simp only[j0,j6]
  generalize ((s.data.toList.drop i).takeWhile (cC [2])).foldl pM 0=u at b k
  by_cases h4:u>9007199254740992
  .simp[h4,xW]
  simp[h4]
 simp only[h2,jD]
 have t:¬(48<=(s.data.toList[i]).toNat/\(s.data.toList[i]).toNat<=57):=fun h=>h2 ((RO _).2 h)
 have k:(if decide (((s.data.toList[i]).toNat:Int)>=48)=true then some (decide (((s.data.toList[i]).toNat:Int)<=57)) else some false)=some false:=by
  by_cases h48:48<=(s.data.toList[i]).toNat
  .rw[if_pos (by simp only[j6];omega)];congr 1;rw[decide_eq_false_iff_not];omega
  rw[if_neg (by simp only[j6];omega)]
 rw[k]
 simp only[j0,j9,jD]
 by_cases h7:kd (s.data.toList[i])=7
 .have g:s.data.toList[i]=34:=(qAg _).1 h7
  simp only[h7,jE]
  rw[if_pos (by rw[g];rfl),bY (x:=(i:Int)+1) aa aa,<-gE]
  have d:=oS (p:=pH) (l:=s.data.toList) (a:=i+1) aa
  rw[qJj (s.data.toList.length-(i+1)) (i+1) N aa n aa]
  simp only[j0]
  generalize tw pH s.data.toList (i+1)=e at d
  by_cases he:e=s.data.toList.length
  .rw[if_pos aa]
   have:¬s.data.toList.getD e 0=34:=fun h=>by have:=HU (l:=s.data.toList) (i:=e) (by rw[h];decide);omega
   rw[if_neg this]
   rfl
  have b:e<s.data.toList.length:=by omega
  rw[if_neg aa,nF b,mG b]
  simp only[j0]
  by_cases h34:s.data.toList[e]=34
  .rw[if_pos h34,if_neg (by rw[h34];decide),tL d.1 d.2]
   simp only[j0,jE]
   rw[bY aa aa,<-gE]
  have h34':¬((s.data.toList[e]).toNat:Int)=34:=fun h=>h34 (UInt8.toNat_inj.1 (by show _=34;omega))
  rw[if_neg h34,if_pos (by simpa using h34')]
  simp[xW]
 have h34':¬((s.data.toList[i]).toNat:Int)=34:=fun h=>h7 ((qAg _).2 (UInt8.toNat_inj.1 (by show _=34;omega)))
 simp only[h7,jD,h34']
 have q:(if((s.data.toList[i]).toNat:Int)=61 then(if decide (IntKind.wrap .i64 ((i:Int)+1)<(s.size:Int))=true then((eX s (IntKind.wrap .i64 ((i:Int)+1))).bind fun o=>some ((o.toNat:Int)==61)) else some false) else some false)=some (decide (s.data.toList.getD i 0=61/\s.data.toList.getD (i+1) 0=61)):=by
  rw[mG hi]
  by_cases h61:s.data.toList[i]=61
  .rw[if_pos (by rw[h61];rfl),bY aa aa,<-gE]
   by_cases b:i+1<s.data.toList.length
   .rw[if_pos (by simp only[j6];omega),nF b,mG b]
    simp only[j0]
    congr 1
    rw[jX,kF,j6]
    exact⟨fun h=>⟨h61,UInt8.toNat_inj.1 (by show _=61;omega)⟩,fun h=>by rw[h.2];rfl⟩
   rw[if_neg (by simp only[j6];omega)]
   congr 1
   refine(jR fun h=> ?_).symm
   have:=HU (l:=s.data.toList) (i:=i+1) (by rw[h.2];decide)
   omega
  rw[if_neg (fun h=>h61 (UInt8.toNat_inj.1 (by show _=61;omega)))]
  congr 1
  exact(jR fun h=>h61 h.1).symm
 rw[q]
 simp only[j0,j6]
 by_cases h61:s.data.toList.getD i 0=61/\s.data.toList.getD (i+1) 0=61
 .have b:i+1<s.data.toList.length:=HU (by rw[h61.2];decide)
  have d:kd (s.data.toList[i])=8:=by rw[<-mG hi,h61.1];kernel_rfl
  have g:rN s.data.toList i=i+2:=by rw[rN,if_pos h61]
  have r:s.extract i (i+2)=(⟨#[61,61]⟩:BA):=by
   apply Go.WideShapes.bytes_inj
   simp only[ByteArray.data_extract,fE,gC]
   rw[jH hi,jH b,<-mG hi,<-mG b,h61.1,h61.2,show i+2-i=2 by omega]
   rfl
  simp only[h61,and_self,jE,d,g,r]
  rw[bY aa aa]
  simp
 have g:rN s.data.toList i=i+1:=by rw[rN,if_neg h61]
 have key:=XE (N:=N) hi n 11 0 N rfl aa
 rw[show((0:Nat):Int)=0 from rfl] at key
 rw[if_neg h61,key]
 by_cases d:kd (s.data.toList[i])=8
 .have:=(qBm _).1 d
  simp only[d,jE,jV,this,j0,g]
 have:¬signs.contains (s.data.toList[i])=true:=fun h=>d ((qBm _).2 h)
 simp only[d,jD,jV,this,j0]
 simp[xW]
def mI:Nat->List UInt8->Nat->Nat
 |0,_,i=>i
 |k+1,l,i=>
  if tw (cC [5]) l i=l.length then l.length
  else if kd (l.getD (tw (cC [5]) l i) 0)=6 then mI k l (tw eU l (tw (cC [5]) l i))
  else tw (cC [5]) l i
theorem qMa{N:Nat}{s:BA}{i:Nat}(hi:i<=s.data.toList.length)(k:s.data.toList.length<1000000)(g:s.data.toList.length+10<N):aK (yU N s) N (i:Int)=some ((tw eU s.data.toList i:Nat):Int):=by
 have n:=iS s
 have d:∀c:UInt8,((c.toNat:Int) !=10)=eU c:=fun c=>by
  rw[jX,fF,eU,fF]
  exact⟨fun h e=>h (by rw[e];rfl),fun h e=>h (UInt8.toNat_inj.1 (by show _=10;omega))⟩
 refine DF (f:=yU N s) (l:=s.data.toList) (p:=eU) (fun e=>(e:Int)) (fun j b a=> ?_) (fun j b a=> ?_) ?_ (s.data.toList.length-i) i N aa aa
 .simp only[yU]
  rw[if_pos (by simp only[j6];omega),nF b]
  simp only[j0,d,a]
  rw[if_pos trivial,bY aa aa]
 .simp only[yU]
  rw[if_pos (by simp only[j6];omega),nF b]
  simp only[j0,d,a]
  rfl
 simp only[yU]
 rw[if_neg (by simp only[j6];omega)]
 rfl
theorem qLz{s:BA}{i:Nat}(hi:i<s.data.toList.length):((eX s (i:Int)).bind fun b=>if((b.toNat:Int)==32)=true then(some true) else((eX s (i:Int)).bind fun d=>if((d.toNat:Int)==9)=true then(some true) else((eX s (i:Int)).bind fun e=>if((e.toNat:Int)==10)=true then(some true) else((eX s (i:Int)).bind fun f=>some ((f.toNat:Int)==13)))))=some (cC [5] (s.data.toList[i])):=by
 simp only[nF hi,j0,kF]
 generalize s.data.toList[i]=c
 have a:=qMi c
 by_cases h1:(c.toNat:Int)=32
 .rw[if_pos h1,a.2 aa]
 rw[if_neg h1]
 by_cases h2:(c.toNat:Int)=9
 .rw[if_pos h2,a.2 aa]
 rw[if_neg h2]
 by_cases h3:(c.toNat:Int)=10
 .rw[if_pos h3,a.2 aa]
 rw[if_neg h3]
 congr 1
 rw[jX,kF,a]
 omega
theorem qLa{N:Nat}{s:BA}{i:Nat}(hi:i<s.data.toList.length)(c:s.data.toList.length<1000000)(b:s.data.toList.length+10<N):
  BU N s (i:Int)=some (if cC [5] (s.data.toList[i])=true then .inl (((i+1:Nat)):Int) else if kd (s.data.toList[i])=6 then .inl ((tw eU s.data.toList i:Nat):Int) else .inr (.inr (i:Int))):=by
 have d:=iS s
 simp only[BU]
 rw[if_pos (by simp only[j6];omega),qLz hi]
 simp only[j0]
 by_cases h5:cC [5] (s.data.toList[i])=true
 .rw[if_pos h5,if_pos h5,bY aa aa,<-gE]
 rw[if_neg h5,if_neg h5,nF hi]
 simp only[j0,kF]
 have a:=qKk (s.data.toList[i])
 by_cases h6:kd (s.data.toList[i])=6
 .rw[if_pos (by have:=a.1 h6;omega),if_pos h6,qMa aa c b]
  rfl
 rw[if_neg (fun h=>h6 (a.2 aa)),if_neg h6]
theorem RY{N:Nat}{s:BA}(f:s.data.toList.length<1000000)(c:s.data.toList.length+10<N):∀(d i k M:Nat),i+d=s.data.toList.length->d<k->d<M->∃z,aK (BU N s) M (i:Int)=some z/\(z= .inl ((mI k s.data.toList i:Nat):Int)\/z= .inr ((mI k s.data.toList i:Nat):Int))
 |d,i,k,0,_,_,h=>by omega
 |d,i,0,M,_,h,_=>by omega
 |0,i,k+1,M+1,g,n,o=>by
  have r:=iS s
  refine⟨.inl ((s.data.toList.length:Nat):Int),?_,.inl ?_⟩
  .simp only[aK,BU]
   rw[if_neg (by simp only[j6];omega)]
   simp only[j0]
   congr 2;omega
  simp only[mI]
  rw[DR aa,if_pos aa]
 |d+1,i,k+1,M+1,g,n,o=>by
  have r:=iS s
  have hi:i<s.data.toList.length:=by omega
  simp only[aK]
  rw[qLa hi f c]
  simp only[j0]
  cases h5:cC [5] (s.data.toList[i]) with
  |true=>
   rw[if_pos rfl]
   have:=RY f c d (i+1) (k+1) M aa aa aa
   simp only[mI,xP hi h5] at this ⊢
   exact this
  |false=>
   rw[if_neg gH]
   by_cases h6:kd (s.data.toList[i])=6
   .have b:mI (k+1) s.data.toList i=mI k s.data.toList (tw eU s.data.toList i):=by
     simp only[mI,xQ hi h5,mG hi,h6,jE]
     rw[if_neg aa]
    rw[b,if_pos h6]
    have t:=oS (p:=eU) (l:=s.data.toList) (a:=i) aa
    have q:=zR (p:=eU) hi (by
     simp only[eU,fF,ne_eq]
     intro e;rw[e] at h6;exact absurd h6 ac)
    exact RY f c (s.data.toList.length-tw eU s.data.toList i) _ k M aa aa aa
   have b:mI (k+1) s.data.toList i=i:=by
    simp only[mI,xQ hi h5,mG hi,h6,jD]
    rw[if_neg aa]
   rw[b,if_neg h6]
   exact⟨_,rfl,.inr rfl⟩
theorem qCj{N:Nat}{s:BA}{i k:Nat}(hi:i<=s.data.toList.length)(d:s.data.toList.length<1000000)(c:s.data.toList.length+10<N)(e:s.data.toList.length<i+k):GL N s (i:Int)=some ((mI k s.data.toList i:Nat):Int):=by
 obtain⟨z,a,b⟩:=RY d c (s.data.toList.length-i) i k N aa aa aa
 unfold GL
 rw[a]
 rcases b with rfl|rfl<;>rfl
theorem ZJ{s:BA}:∀(k i:Nat),i<=s.data.toList.length->s.data.toList.length<i+k->i<=mI k s.data.toList i/\mI k s.data.toList i<=s.data.toList.length/\
  (mI k s.data.toList i=s.data.toList.length->mW k s i= .inr [(5,⟨#[]⟩,0,(s.data.toList.length:Int))])/\
  (mI k s.data.toList i<s.data.toList.length->∃k',(∀b,mI k s.data.toList i<b->s.data.toList.length<b+k')/\mW k s i=
   if(eL s (mI k s.data.toList i)).2.2≠0 then .inl ((mI k s.data.toList i:Nat),(eL s (mI k s.data.toList i)).2.2)
   else match mW k' s (eL s (mI k s.data.toList i)).2.1.toNat with
    | .inl x=> .inl x
    | .inr r=> .inr (((eL s (mI k s.data.toList i)).1.1,(eL s (mI k s.data.toList i)).1.2.1,(eL s (mI k s.data.toList i)).1.2.2.1,((mI k s.data.toList i:Nat):Int))::r))
 |0,i,d,t=>by omega
 |k+1,i,d,t=>by
  have f:=oS (p:=cC [5]) (l:=s.data.toList) (a:=i) d
  simp only[mI,mW]
  by_cases he:tw (cC [5]) s.data.toList i=s.data.toList.length
  .simp only[he,jE]
   exact⟨d,jM _,fun _=>trivial,fun h=>absurd h (Nat.lt_irrefl _)⟩
  simp only[he,jD]
  have c:tw (cC [5]) s.data.toList i<s.data.toList.length:=by omega
  by_cases h6:kd (s.data.toList.getD (tw (cC [5]) s.data.toList i) 0)=6
  .simp only[h6,jE]
   have g:=oS (p:=eU) (l:=s.data.toList) (a:=tw (cC [5]) s.data.toList i) aa
   have u:=zR (p:=eU) c (by
    rw[mG c] at h6
    simp only[eU,fF,ne_eq]
    intro e;rw[e] at h6;exact absurd h6 ac)
   obtain⟨v,n,o,q⟩:=ZJ k (tw eU s.data.toList (tw (cC [5]) s.data.toList i)) g.2 aa
   exact⟨by omega,n,o,q⟩
  simp only[h6,jD]
  exact⟨f.1,f.2,fun h=>absurd h he,fun _=>⟨k,fun b hb'=>by omega,rfl⟩⟩
theorem WJ{N:Nat}{s:BA}(E:s.data.toList.length<=16384)(B:s.data.toList.length+40<N):∀(d i k M:Nat) (acc:List cA),i+d=s.data.toList.length->d<M->s.data.toList.length<i+k->acc.length<=i->
  ∃z,aK (KV N s) M (acc,((mI k s.data.toList i:Nat):Int))=some z/\((∃o,z= .inl o/\o.length<=s.data.toList.length/\uV acc (mW k s i)=(o++[(5,⟨#[]⟩,0,(s.size:Int))],0,0))\/z= .inr (uV acc (mW k s i)))
 |d,i,k,0,acc,_,h,_,_=>by omega
 |d,i,k,M+1,acc,G,H,A,K=>by
  have F:=iS s
  obtain⟨v,y,g,l⟩:=ZJ (s:=s) k i aa A
  generalize hA:mI k s.data.toList i=a at v y g l
  simp only[aK,KV]
  by_cases he:a=s.data.toList.length
  .refine⟨.inl acc,?_,.inl ⟨acc,rfl,by omega,?_⟩⟩
   .rw[if_neg (by simp only[j6];omega)]
    rfl
   rw[g he,<-F];rfl
  have b:a<s.data.toList.length:=by omega
  obtain⟨k',n,p⟩:=l b
  rw[if_pos (by simp only[j6];omega),qKs b aa aa]
  simp only[j0,US]
  by_cases h0:(eL s a).2.2=0
  .obtain⟨e,c,f,q,_⟩:=NO b h0
   rw[if_pos h0]
   simp only[fW,j9,jD]
   rw[lB (by simp only[jA,jB];omega) aa,c]
   simp only[j0]
   rw[qCj (k:=k') q aa aa (n e f)]
   simp only[j0]
   obtain⟨z,t,u⟩:=WJ E B (s.data.toList.length-e) e k' M (acc++[((eL s a).1.1,(eL s a).1.2.1,(eL s a).1.2.2.1,(a:Int))]) aa aa (n e f) ag
   have D:uV acc (mW k s i)=uV (acc++[((eL s a).1.1,(eL s a).1.2.1,(eL s a).1.2.2.1,(a:Int))]) (mW k' s e):=by
    rw[p,if_neg (by simp[h0]),c,jZ]
    cases mW k' s e with
    |inl x=>rfl
    |inr r=>simp[uV]
   rw[D]
   exact⟨z,t,u⟩
  rw[if_neg h0]
  have c:((eL s a).2.2 !=0)=true:=by simpa using h0
  simp only[c,jE,j0]
  refine⟨_,rfl,.inr ?_⟩
  rw[p,if_pos h0]
  rfl
theorem qJh{N:Nat}{s:BA}(e:20000<N):LL N s=some (lC s):=by
 have g:=iS s
 unfold LL lC
 by_cases h:s.data.toList.length>16384
 .rw[if_pos (by simp only[j6];omega),if_pos h]
 rw[if_neg (by simp only[j6];omega),if_neg h]
 have a:=qCj (N:=N) (s:=s) (i:=0) (k:=s.data.toList.length+1) aa aa aa aa
 rw[show((0:Nat):Int)=0 from rfl] at a
 rw[a]
 simp only[j0]
 obtain⟨z,b,c⟩:=WJ (N:=N) (s:=s) aa aa s.data.toList.length 0 (s.data.toList.length+1) N [] aa aa aa ad
 rw[b]
 rcases c with ⟨o,rfl,f,d⟩|rfl
 .simp only[j0]
  rw[lB (by simp only[jA,jB];omega) aa,d]
  rfl
 rfl
def uW(s:BA):Bool:=decide (1<=s.data.toList.length/\s.data.toList.length<=24/\kd (s.data.toList.getD 0 0)=1/\tw (cC [1,2,3]) s.data.toList 0=s.data.toList.length)
theorem zH{s:BA}(h:¬(1<=s.data.toList.length/\s.data.toList.length<=24/\kd (s.data.toList.getD 0 0)=1/\tw (cC [1,2,3]) s.data.toList 0=s.data.toList.length)):false=uW s:=(jR h).symm
theorem qNx{s:BA}(h:1<=s.data.toList.length/\s.data.toList.length<=24/\kd (s.data.toList.getD 0 0)=1/\tw (cC [1,2,3]) s.data.toList 0=s.data.toList.length):true=uW s:=(jL h).symm
theorem qQo{N:Nat}{s:BA}(b:100<N):HF N s=some (uW s):=by
 have c:=iS s
 simp only[HF,SX (show 30<N by omega),j0]
 by_cases h1:1<=s.data.toList.length
 .by_cases h2:s.data.toList.length<=24
  .rw[if_pos (by simp only[j6];omega),if_pos (by simp only[j6];omega)]
   have hi:=nF (s:=s) (i:=0) aa
   rw[show((0:Nat):Int)=0 from rfl] at hi
   rw[hi]
   simp only[j0,UG,kF]
   have a:=IA (N:=N) (s:=s) (ks:=[1,2,3]) (i:=0) aa aa ad aa
   rw[show((0:Nat):Int)=0 from rfl] at a
   by_cases h3:kd (s.data.toList[0])=1
   .rw[if_pos h3,a]
    simp only[j0]
    congr 1
    rw[jX,kF,uW,j6,mG aa]
    exact⟨fun h=>⟨h1,h2,h3,by omega⟩,fun h=>by have:=h.2.2.2;omega⟩
   rw[if_neg h3]
   refine congrArg some (zH fun h=> ?_)
   rw[mG aa] at h
   exact h3 h.2.2.1
  rw[if_pos (by simp only[j6];omega),if_neg (by simp only[j6];omega)]
  exact congrArg some (zH fun h=>h2 h.2.1)
 rw[if_neg (by simp only[j6];omega)]
 exact congrArg some (zH fun h=>h1 h.1)
theorem qLf{N:Nat}{s:BA}(c:100<N):GM N s=some (uW s):=by
 have d:=iS s
 simp only[GM]
 by_cases h1:1<=s.data.toList.length
 .by_cases h2:s.data.toList.length<=24
  .rw[if_neg (by simp only[j6];omega),if_neg (by simp only[j6];omega)]
   have hi:=nF (s:=s) (i:=0) aa
   rw[show((0:Nat):Int)=0 from rfl] at hi
   rw[hi]
   simp only[j0,RK]
   by_cases h3:kd (s.data.toList[0])=1
   .rw[h3,if_neg ad]
    have key:=DF (f:=BT N s) (l:=s.data.toList) (p:=cC [1,2,3]) (fun e=>if e=s.data.toList.length then .inl () else .inr false) (fun j b a=>by
     simp only[BT]
     rw[if_pos (by simp only[j6];omega),nF b]
     simp only[j0,HT,a]
     rw[bY aa aa]
     rfl) (fun j b a=>by
     simp only[BT]
     rw[if_pos (by simp only[j6];omega),nF b]
     simp only[j0,HT,a]
     rw[if_neg (show ¬j=s.data.toList.length by omega)]
     rfl) (by
     simp only[BT]
     rw[if_neg (by simp only[j6];omega)]
     simp) s.data.toList.length 0 N aa aa
    rw[show((0:Nat):Int)=0 from rfl] at key
    rw[key]
    simp only[j0]
    by_cases h4:tw (cC [1,2,3]) s.data.toList 0=s.data.toList.length
    .rw[if_pos h4]
     exact congrArg some (qNx ⟨h1,h2,by rw[mG aa];exact h3,h4⟩)
    rw[if_neg h4]
    exact congrArg some (zH fun h=>h4 h.2.2.2)
   rw[if_pos (by rw[fX,beq_eq_false_iff_ne];exact h3)]
   refine congrArg some (zH fun h=> ?_)
   rw[mG aa] at h
   exact h3 h.2.2.1
  rw[if_neg (by simp only[j6];omega),if_pos (by simp only[j6];omega)]
  simp only[j0,jE]
  exact congrArg some (zH fun h=>h2 h.2.1)
 rw[if_pos (by simp only[j6];omega)]
 simp only[j0,jE]
 exact congrArg some (zH fun h=>h1 h.1)
def sp:List UInt8->List (List UInt8)
 |[]=>[[]]
 |c::l=>if c=47 then[]::sp l else match sp l with
  |[]=>[[c]]
  |p::q=>(c::p)::q
theorem DT:∀l:List UInt8,sp l≠[]
 |[]=>by simp[sp]
 |c::l=>by
  simp only[sp]
  split
  .simp
  split<;>simp
theorem TT:∀l:List UInt8,(sp l).length=l.count 47+1
 |[]=>rfl
 |c::l=>by
  simp only[sp]
  split
  .rename_i h;subst h;simp[TT l]
  rename_i h
  have:=TT l
  split
  .rename_i e;exact absurd e (DT l)
  rename_i e
  rw[e] at this
  simp only[jA] at this ⊢
  rw[List.count_cons_of_ne h,<-this]
def mV(c:UInt8):Bool:=c !=47
theorem qDn:∀l:List UInt8,sp l=if(l.takeWhile mV).length=l.length then[l] else l.takeWhile mV::sp (l.drop ((l.takeWhile mV).length+1))
 |[]=>rfl
 |c::l=>by
  have b:=qDn l
  by_cases h:c=47
  .subst h
   rw[gY ac]
   simp[sp]
  have a:mV c=true:=by simpa[mV] using h
  rw[gI a]
  simp only[sp,h,jD,b,jA,Nat.add_right_cancel_iff,List.drop_succ_cons]
  by_cases he:(l.takeWhile mV).length=l.length
  .simp[he]
  simp[he]
def uX:Nat->Nat->List UInt8->Option (Nat×Nat)
 |a,b,[]=>some (a,b)
 |a,b,c::l=>if c=47 then(if b=0 then none else uX (a+1) 0 l) else if cC [1,2,3,4] c=true then(if b+1>24 then none else uX a (b+1) l) else none
def qTj(p:List UInt8):Prop:=1<=p.length/\p.length<=24/\∀c∈p,cC [1,2,3,4] c=true
theorem RU:∀(l:List UInt8) (a b:Nat),b<=24->((∃x y,uX a b l=some (x,y)/\0<y/\x<=8)↔
  ∃p q,sp l=p::q/\1<=b+p.length/\b+p.length<=24/\(∀c∈p,cC [1,2,3,4] c=true)/\(∀r∈q,qTj r)/\a+q.length<=8)
 |[],a,b,v=>by
  constructor
  .rintro⟨x,y,h,e,g⟩
   simp only[uX,jG,Prod.mk.injEq] at h
   exact⟨[],[],rfl,by simp;omega,by simpa using v,by simp,by simp,by simp;omega⟩
  rintro⟨p,q,h,e,g,_,_,f⟩
  simp only[sp,kL] at h
  obtain⟨rfl,rfl⟩:=h
  simp only[jB] at e f
  exact⟨a,b,rfl,by omega,by omega⟩
 |c::l,a,b,v=>by
  by_cases hc:c=47
  .have t:sp (c::l)=[]::sp l:=by simp[sp,hc]
   rw[t]
   simp only[uX,hc,jE]
   by_cases h0:b=0
   .subst h0
    simp only[jE]
    constructor
    .rintro⟨x,y,h,_⟩;cases h
    rintro⟨p,q,h,e,_⟩
    simp only[kL] at h
    rw[<-h.1] at e;simp at e
   rw[if_neg h0]
   rw[RU l (a+1) 0 aa]
   constructor
   .rintro⟨p,q,h,e,g,f,n,o⟩
    refine⟨[],sp l,rfl,by simp;omega,by simpa using v,by simp,?_,by rw[h];simp only[jA];omega⟩
    intro r s
    rw[h] at s
    rcases jJ.1 s with rfl|s
    .exact⟨by omega,by omega,f⟩
    exact n r s
   rintro⟨p,q,h,e,g,f,n,o⟩
   simp only[kL] at h
   obtain⟨rfl,rfl⟩:=h
   obtain⟨p,q,k⟩:∃p q,sp l=p::q:=by
    cases u:sp l with
    |nil=>exact absurd u (DT l)
    |cons p q=>exact⟨p,q,rfl⟩
   rw[k] at n o
   obtain⟨A,B,z⟩:=n p (jO ..)
   exact⟨p,q,k,by omega,by omega,z,fun r s=>n r (jQ _ s),by simp only[jA] at o;omega⟩
  obtain⟨p0,z,k⟩:∃p q,sp l=p::q:=by
   cases u:sp l with
   |nil=>exact absurd u (DT l)
   |cons p q=>exact⟨p,q,rfl⟩
  have t:sp (c::l)=(c::p0)::z:=by simp only[sp,hc,jD,k]
  rw[t]
  simp only[uX,hc,jD]
  by_cases u:cC [1,2,3,4] c=true
  .rw[if_pos u]
   by_cases h24:b+1>24
   .rw[if_pos h24]
    constructor
    .rintro⟨x,y,h,_⟩;cases h
    rintro⟨p,q,h,e,g,_⟩
    simp only[kL] at h
    rw[<-h.1] at g
    simp only[jA] at g
    omega
   rw[if_neg h24,RU l a (b+1) aa]
   constructor
   .rintro⟨p,q,h,e,g,f,n,o⟩
    rw[k] at h
    simp only[kL] at h
    obtain⟨rfl,rfl⟩:=h
    refine⟨_,_,rfl,by simp only[jA];omega,by simp only[jA];omega,?_,n,o⟩
    intro d s
    rcases jJ.1 s with rfl|s
    .exact u
    exact f d s
   rintro⟨p,q,h,e,g,f,n,o⟩
   simp only[kL] at h
   obtain⟨rfl,rfl⟩:=h
   simp only[jA] at e g
   exact⟨p0,z,k,by omega,by omega,fun d s=>f d (jQ _ s),n,o⟩
  rw[if_neg u]
  constructor
  .rintro⟨x,y,h,_⟩;cases h
  rintro⟨p,q,h,e,g,f,_⟩
  simp only[kL] at h
  rw[<-h.1] at f
  exact absurd (f c (jO ..)) u
theorem inK4{N:Nat}(c:UInt8):((yX N (c.toNat:Int)).bind fun y1=>if y1=true then(some true) else(some ((c.toNat:Int)==46)))=some (cC [1,2,3,4] c):=by
 have h:=xU (p:=fun c=>(cC [1,2,3] c||decide (c.toNat=46))==cC [1,2,3,4] c) af c
 rw[kF] at h
 rw[<-h,HT]
 simp only[j0]
 have e:((c.toNat:Int)==46)=decide (c.toNat=46):=by rw[jX,kF,j6];omega
 rw[e]
 cases cC [1,2,3] c<;>simp
theorem QI{N:Nat}{s:BA}(c:s.data.toList.length<1000000):∀(d i M a b:Nat),i+d=s.data.toList.length->d<M->a<=i+1->b<=24->
  aK (FU N s) M ((a:Int),(b:Int),(i:Int))=some (match uX a b (s.data.toList.drop i) with|some z=> .inl ((z.1:Int),(z.2:Int))|none=> .inr false)
 |d,i,0,_,_,_,h,_,_=>by omega
 |0,i,M+1,a,b,e,f,g,k=>by
  have l:=iS s
  simp only[aK,FU]
  rw[if_neg (by simp only[j6];omega),jP aa]
  rfl
 |d+1,i,M+1,a,b,e,f,g,k=>by
  have l:=iS s
  have hi:i<s.data.toList.length:=by omega
  simp only[aK,FU]
  rw[if_pos (by simp only[j6];omega),jH hi,nF hi]
  simp only[j0,inK4,kF,uX]
  by_cases hc:s.data.toList[i]=47
  .rw[if_pos (show((s.data.toList[i]).toNat:Int)=47 by rw[hc];rfl),if_pos hc]
   by_cases hb:b=0
   .rw[if_pos (show(b:Int)=0 by omega),if_pos hb]
    rfl
   rw[if_neg (show ¬(b:Int)=0 by omega),if_neg hb,bY (x:=(a:Int)+1) aa aa]
   simp only[j0]
   rw[if_neg ad,bY aa aa]
   have:=QI (N:=N) c d (i+1) M (a+1) 0 aa aa aa aa
   exact this
  have hc':¬((s.data.toList[i]).toNat:Int)=47:=fun h=>hc (UInt8.toNat_inj.1 (by show _=47;omega))
  rw[if_neg hc',if_neg hc]
  by_cases hk:cC [1,2,3,4] (s.data.toList[i])=true
  .rw[if_pos hk,if_pos hk,bY (x:=(b:Int)+1) aa aa]
   simp only[j0]
   by_cases h24:b+1>24
   .rw[if_pos (by simp only[j6];omega),if_pos h24]
    rfl
   rw[if_neg (by simp only[j6];omega),if_neg h24,bY aa aa]
   have:=QI (N:=N) c d (i+1) M a (b+1) aa aa aa aa
   exact this
  rw[if_neg hk,if_neg hk]
  rfl
def iV(l:List UInt8):Bool:=decide (l.length<=80/\(sp l).length<=8/\∀p∈sp l,1<=p.length/\p.length<=24/\∀c∈p,cC [1,2,3,4] c=true)
theorem ZO(l:List UInt8):iV l=true↔l.length<=80/\∃x y,uX 1 0 l=some (x,y)/\0<y/\x<=8:=by
 rw[RU l 1 0 aa]
 simp only[iV,j6]
 obtain⟨p,q,hpq⟩:∃p q,sp l=p::q:=by
  cases a:sp l with
  |nil=>exact absurd a (DT l)
  |cons p q=>exact⟨p,q,rfl⟩
 constructor
 .rintro⟨c,d,b⟩
  rw[hpq] at d b
  obtain⟨f,g,e⟩:=b p (jO ..)
  exact⟨c,p,q,hpq,by omega,by omega,e,fun r a=>b r (jQ _ a),by simp only[jA] at d;omega⟩
 rintro⟨c,p',q',h,d,b,e,f,g⟩
 refine⟨c,by rw[h];simp only[jA];omega,?_⟩
 intro r a
 rw[h] at a
 rcases jJ.1 a with rfl|a
 .exact⟨by omega,by omega,e⟩
 exact f r a
theorem RH{N:Nat}{s:BA}(c:100<N):yZ N s=some (iV s.data.toList):=by
 have d:=iS s
 simp only[yZ]
 by_cases h80:s.data.toList.length<=80
 .rw[if_neg (by simp only[j6];omega)]
  have key:=QI (N:=N) (s:=s) aa s.data.toList.length 0 N 1 0 aa aa aa aa
  rw[show((0:Nat):Int)=0 from rfl,show((1:Nat):Int)=1 from rfl,jV] at key
  rw[key]
  have a:=ZO s.data.toList
  cases hR:uX 1 0 s.data.toList with
  |none=>
   simp only[j0]
   refine congrArg some ?_
   rw[jX,a]
   constructor
   .intro h;cases h
   rintro⟨_,x,y,h,_⟩;rw[hR] at h;cases h
  |some z=>
   obtain⟨x,y⟩:=z
   simp only[j0]
   by_cases hy:0<y
   .rw[if_pos (by simp only[j6];omega)]
    simp only[j0]
    refine congrArg some ?_
    rw[jX,a,j6]
    constructor
    .intro h;exact⟨h80,x,y,hR,hy,by omega⟩
    rintro⟨_,x',y',h,_,b⟩;rw[hR] at h;simp only[jG,Prod.mk.injEq] at h;omega
   rw[if_neg (by simp only[j6];omega)]
   simp only[j0]
   refine congrArg some ?_
   rw[jX,a]
   constructor
   .intro h;cases h
   rintro⟨_,x',y',h,b,_⟩;rw[hR] at h;simp only[jG,Prod.mk.injEq] at h;omega
 rw[if_pos (by simp only[j6];omega)]
 refine congrArg some ?_
 rw[jX,ZO]
 exact⟨fun h=>(by cases h),fun h=>absurd h.1 h80⟩
end
end Go.Proofs.YthfgphcennamkaaGreatDoor
