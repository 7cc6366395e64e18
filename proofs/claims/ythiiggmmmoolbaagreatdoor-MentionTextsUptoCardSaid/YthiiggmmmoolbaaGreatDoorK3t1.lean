/- No condition but those of each theorem. -/
import Derived.Test.YthiiggmmmoolbaaGreatDoorProg
import Derived.WalkKit
import Derived.Deep.LoopGhost
import Derived.KernelRfl
import Derived.OrdersHeld
import Derived.OrdersIn
import Derived.LoopNIn
import Derived.Sort.LoopGhostIn
import Derived.Laws.AppendOwn
import Derived.RangeFuncLeaves
import Derived.RangeFuncRecord
import Derived.MapKept
import Derived.Maps.RangeRun
import Derived.ChangeKeysEq
import Derived.HandedShaped
import Derived.ChangeStays
import Derived.ChangeSame
import Derived.OpenShut
import Derived.WideShapes
import Derived.JoinedOf
import Derived.ReadAgain
import Derived.ChangeAt
import Derived.RowKit
import Derived.Lib.Overlaps
import Derived.Shelf.Sort.Plain
import Derived.Shelf.Slices.In.SortNone
import Derived.WalkSmall
import Derived.Recover
import Derived.Lib.Builder
import Derived.Lib.UnsafeStr
import Derived.Shelf.Strconv.Itoa3
import Derived.Room.Shelf.Join48
import Derived.Test.YthiiggmmmoolbaaGreatDoorRows
import Derived.Test.YthiiggmmmoolbaaGreatDoorK2t1
namespace Go.Proofs.YthiiggmmmoolbaaGreatDoor
section
open Go Go.Dc Go.Proofs.Tryz
set_option maxHeartbeats 4000000
set_option maxRecDepth 100000
variable {N c1 c2:Nat} {m:Mem} {O:List Piece} {w:World} {a1 a2:Option Addr}
def MD(N:Nat)(p1:BA)(a:Tj):Option (Tj⊕Int):=
 (BI N a.1 p1).bind fun y1=>if(y1==(-1))=true then(some (.inr a.2)) else((lN a.1 (IntKind.wrap .i64 (y1+(ByteArray.size p1:Int))) (ByteArray.size a.1:Int)).bind fun b=>some (.inl (b,IntKind.wrap .i64 (a.2+1))))
def FM(N:Nat)(p0:BA)(p1:BA):T8:=
 if((ByteArray.size p1:Int)==0)=true then none else(if((ByteArray.size p1:Int)==1)=true then((eK p1 0).bind fun x1=>some (zH p0 (x1.toNat:Int))) else((aI (MD N p1) N (p0,0)).bind fun z=>some z))
theorem qDa{p0:BA}{p1:BA}{r:Int}(g:St m (O) w)(i:FM N p0 p1=some r):Calls prog 173 #[vT p0,vT p1] w fun e w'=>∃m',e= .returned (vI r)/\m.le m'/\St m' (O) w':=by
 unfold FM at i;have q:=m.le_refl;refine bF func173 rfl ntmps173 ?_;refine aB 1 [] (aE ?_);refine aB 3 [(9,vB ((p1.size:Int)==0))] (aG i ?_ ?_)
 .intro A i;cases i
 intro A i;refine aM (aD (aE (aB 3 [(15,vB ((p1.size:Int)==1))] (aG i ?_ ?_))))
 .intro A i;refine aT 2 [(16,vT p0),(17,vT p1)] ?_;refine iL 18 i fun x1 i=> ?_;refine bB rfl (qDx (d:=19) (f:=193) (x:=(.tmp 16)) (y:=(.tmp 18)) (ts:= #[9,5]) kr rfl (ev (vT p0)) (ev (.int .u8 (x1.toNat:Int))) func193 kr kr (aF 1 [(4,vI (zH p0 (x1.toNat:Int)))] (aJ (aL ?_))));cases i;exact aO [4] [vI (zH p0 (x1.toNat:Int))] ⟨m,rfl,q,g⟩
 intro A i;refine aM (aD (aB 1 [(5,vI 0)] (bA ?_)));have⟨l,i,u⟩:=aW i;refine cH _ kr (cG (fun b L' w'=>∃(a:Tj),∃k,aI (MD N p1) b a=some l/\L'=[(0,vT a.1),(1,vT p1),(5,vI a.2)]/\m.le k/\St k (O) w') N ⟨(p0,0),m,i,rfl,q,g⟩ ?_);rintro b _ z ⟨a,k,hL,rfl,q,g⟩;rcases b with _|b
 .exact cJ hL
 obtain⟨v,i,h,c⟩:=cL hL;clear hL;unfold MD at i;refine bA (aT 2 [(20,vT a.1),(21,vT p1)] (aK 22 i (RS g) ?_));rintro y1 i _ B ⟨o,rfl,n,g⟩;refine aF 1 [(6,vI y1)] (aE (aB 2 [(24,vB (y1==(-1)))] (aG i ?_ ?_)))
 .intro A i;refine aB 2 [(4,vI a.2)] (aJ ?_);refine aL (aZ ?_);have ho:=c _ (sI i);subst ho;have i:=u;refine aL (aZ ?_);cases i;exact aO [4] [vI a.2] ⟨o,rfl,q.t n,g⟩
 intro A i;refine aM (aD (aB 3 [(5,vI (wr (a.2+1)))] (aX (aA 5 [(28,vT a.1),(32,vI (wr (y1+(p1.size:Int))))] ?_))));have⟨p,s,i⟩:=aW i;refine bB rfl (nY (d:=33) (t:=9) (x:=(.tmp 28)) (lo:=(some (.tmp 32))) (hi:=none) kr rfl (ev (vT a.1)) kr (.inr ⟨_,_,rfl,(ev (vI (wr (y1+(p1.size:Int)))))⟩) (.inl ⟨rfl,rfl⟩) s (aA 1 [(0,vT p)] (aS rfl (bI ?_))));have hL:=h _ (sI i);exact xE (cE ⟨(p,wr (a.2+1)),o,hL,rfl,q.t n,g⟩)
def EZ(N:Nat)(p0:BA)(p1:BA)(p2:Int)(b:Int)(a:HR):Option (HR⊕HR):=
 if(decide (a.2.1<(IntKind.wrap .i64 ((if(IntKind.wrap .i64 ((ByteArray.size p0:Int)+1))<b then(IntKind.wrap .i64 ((ByteArray.size p0:Int)+1)) else b)-1))))=true then((BI N a.1 p1).bind fun b=>if(decide (b<0))=true then(some (.inr a)) else((lN a.1 0 (IntKind.wrap .i64 (b+p2))).bind fun c=>(idx a.2.2 a.2.1).bind fun x1=>(lN a.1 (IntKind.wrap .i64 (b+(ByteArray.size p1:Int))) (ByteArray.size a.1:Int)).bind fun b=>some (.inl (b,IntKind.wrap .i64 (a.2.1+1),List.set a.2.2 (Int.toNat a.2.1) c)))) else(some (.inr a))
def JJ(N:Nat)(p0:BA)(p1:BA)(p2:Int)(p3:Int):T7:=
 if(p3==0)=true then(some ([]:T6)) else(if(p1.toList==(⟨#[]⟩:BA).toList)=true then none else((if(decide (p3<0))=true then((FM N p0 p1).bind fun y1=>some (IntKind.wrap .i64 (y1+1))) else(some p3):T8).bind fun a=>(qL 16 (⟨#[]⟩:BA) (if(IntKind.wrap .i64 ((ByteArray.size p0:Int)+1))<a then(IntKind.wrap .i64 ((ByteArray.size p0:Int)+1)) else a)).bind fun b=>(aI (EZ N p0 p1 p2 a) N (p0,0,b)).bind fun o2=>(idx o2.2.2 o2.2.1).bind fun a=>(nH (List.set o2.2.2 (Int.toNat o2.2.1) o2.1) 0 (IntKind.wrap .i64 (o2.2.1+1))).bind fun a=>some a))
theorem qCs{p0:BA}{p1:BA}{p2:Int}{p3:Int}{r:T6}(g:St m (O) w)(i:JJ N p0 p1 p2 p3=some r):Calls prog 162 #[vT p0,vT p1,vI p2,vI p3] w fun e w'=>∃D E m',e= .returned (vS D r E)/\m.le m'/\St m' (O) w'/\RepS aH m' D E r:=by
 unfold JJ at i;have q:=m.le_refl;refine bF func162 rfl ntmps162 ?_;refine aB 1 [] (aE ?_);refine aB 2 [(13,vB (p3==0))] (aG i ?_ ?_)
 .intro A i;refine aB 1 [(8,v1)] (aJ ?_);refine aL ?_;cases i;exact aO [8] [v1] ⟨none,0,m,rfl,q,g,(RepS.nil _ _)⟩
 intro A i;refine aM (aD (aE (aB 2 [(15,vB (p1.toList==eB.toList))] (aG i ?_ ?_))))
 .intro A i;cases i
 intro A i;refine aM (aD (aE (aB 2 [(20,vB (decide (p3<0)))] (cC .normal i (fun a L' w'=>∃v,L'=[(0,vT p0),(1,vT p1),(2,vI p2),(3,vI a)]/\m.le v/\St v (O) w') ?_ ?_))))
 .rintro a i _ w1 ⟨v,rfl,q,g⟩;refine aD (aB 6 [(3,vI (if(wr ((p0.size:Int)+1))<a then(wr ((p0.size:Int)+1)) else a))] (aC (aA 1 [(30,vI (if(wr ((p0.size:Int)+1))<a then(wr ((p0.size:Int)+1)) else a))] ?_)));have⟨l1,H,i⟩:=aW i
  refine bB rfl (MT (d:=31) (t:=26) (e:=9) (by_:=16) (x:=(.tmp 30)) (y:=(.tmp 30)) (fun x:BA=>Value.string x) kr rfl (ev (vI (if(wr ((p0.size:Int)+1))<a then(wr ((p0.size:Int)+1)) else a))) (ev (vI (if(wr ((p0.size:Int)+1))<a then(wr ((p0.size:Int)+1)) else a))) kr kr rfl g H fun h w3 R g=>(aF 1 [(9,.slice (aP h) (Int.toNat (if(wr ((p0.size:Int)+1))<a then(wr ((p0.size:Int)+1)) else a)) (Int.toNat (if(wr ((p0.size:Int)+1))<a then(wr ((p0.size:Int)+1)) else a)))] (aC (aF 3 [(3,vI (wr ((if(wr ((p0.size:Int)+1))<a then(wr ((p0.size:Int)+1)) else a)-1)))] (aC (aF 1 [(10,vI 0)] (aE (bA (cC (.exit 0) i (fun k L' w'=>∃(o2:HR),∃G,o2=k/\L'=[(0,vT o2.1),(9,.slice (aP h) (Int.toNat (if(wr ((p0.size:Int)+1))<a then(wr ((p0.size:Int)+1)) else a)) (Int.toNat (if(wr ((p0.size:Int)+1))<a then(wr ((p0.size:Int)+1)) else a))),(10,vI o2.2.1)]/\m.le G/\St G (.blk h (.cells (iD (fun x:BA=>Value.string x) o2.2.2 []) 9 (0,0))::O) w'/\List.length o2.2.2=(Int.toNat (if(wr ((p0.size:Int)+1))<a then(wr ((p0.size:Int)+1)) else a))) ?_ ?_)))))))))
  .rintro k i _ S ⟨o2,G,rfl,rfl,q,g,l⟩;refine cK (aD (aT 3 [(58,.slice (aP h) (Int.toNat (if(wr ((p0.size:Int)+1))<a then(wr ((p0.size:Int)+1)) else a)) (Int.toNat (if(wr ((p0.size:Int)+1))<a then(wr ((p0.size:Int)+1)) else a))),(59,vI o2.2.1),(60,vT o2.1)] ?_));have⟨V,p,i⟩:=aW i;refine bB rfl (pH (d:=61) (t:=26) (e:=9) (x:=(.tmp 58)) (y:=(.tmp 59)) kr rfl (ev (.slice (aP h) (Int.toNat (if(wr ((p0.size:Int)+1))<a then(wr ((p0.size:Int)+1)) else a)) (Int.toNat (if(wr ((p0.size:Int)+1))<a then(wr ((p0.size:Int)+1)) else a)))) (ev (vI o2.2.1)) kr l p (bB rfl (yF (f:=(fun x:BA=>Value.string x)) (u:=o2.1) (t:=9) (x:=(.tmp 61)) (y:=(.tmp 60)) kr (ev (.pointer (some ⟨h,Int.toNat o2.2.1,none⟩))) (ev (vT o2.1)) g p rfl kr fun U g=> ?_)));have b:List.length (List.set o2.2.2 (Int.toNat o2.2.1) o2.1)=(Int.toNat (if(wr ((p0.size:Int)+1))<a then(wr ((p0.size:Int)+1)) else a)):=vY l _ _;refine aQ (aC (aA 3 [(62,.slice (aP h) (Int.toNat (if(wr ((p0.size:Int)+1))<a then(wr ((p0.size:Int)+1)) else a)) (Int.toNat (if(wr ((p0.size:Int)+1))<a then(wr ((p0.size:Int)+1)) else a))),(64,vI (wr (o2.2.1+1)))] ?_));obtain⟨F,B,g,K⟩:=St.freeze (c:=aH) g b (jP _) (qIj H) (qEt b (gP _)) rfl (fun _ _=>rfl)
   refine aU [(9,.slice (aP h) (List.length (List.set o2.2.2 (Int.toNat o2.2.1) o2.1)) (Int.toNat (if(wr ((p0.size:Int)+1))<a then(wr ((p0.size:Int)+1)) else a))),(10,vI o2.2.1),(62,.slice (aP h) (List.length (List.set o2.2.2 (Int.toNat o2.2.1) o2.1)) (Int.toNat (if(wr ((p0.size:Int)+1))<a then(wr ((p0.size:Int)+1)) else a))),(64,vI (wr (o2.2.1+1)))] (by(try simp only[vS,b]);kernel_rfl) ?_;have⟨s,z,i⟩:=aW i;refine bB rfl (FX (d:=65) (t:=26) (e:=9) (x:=(.tmp 62)) (lo:=none) (hi:=(some (.tmp 64))) aH kr rfl (ev (.slice (aP h) (List.length (List.set o2.2.2 (Int.toNat o2.2.1) o2.1)) (Int.toNat (if(wr ((p0.size:Int)+1))<a then(wr ((p0.size:Int)+1)) else a)))) kr K (.inl ⟨rfl,rfl⟩) (.inr ⟨_,_,rfl,(ev (vI (wr (o2.2.1+1))))⟩) z ?_);intro n o M;refine aA 1 [(8,vS n s o)] (aS rfl ?_);have g:=g.t;refine aD (aJ ?_);obtain rfl:=sI i;exact aO [8] [vS n s o] ⟨n,o,F,rfl,q.t B,g,M⟩
  intro k i l;refine cH _ kr (cG (fun s L' w'=>∃(b:HR),∃z,aI (EZ N p0 p1 p2 a) s b=some k/\L'=[(0,vT b.1),(1,vT p1),(2,vI p2),(3,vI (wr ((if(wr ((p0.size:Int)+1))<a then(wr ((p0.size:Int)+1)) else a)-1))),(9,.slice (aP h) (Int.toNat (if(wr ((p0.size:Int)+1))<a then(wr ((p0.size:Int)+1)) else a)) (Int.toNat (if(wr ((p0.size:Int)+1))<a then(wr ((p0.size:Int)+1)) else a))),(10,vI b.2.1)]/\m.le z/\St z (.blk h (.cells (iD (fun x:BA=>Value.string x) b.2.2 []) 9 (0,0))::O) w'/\List.length b.2.2=(Int.toNat (if(wr ((p0.size:Int)+1))<a then(wr ((p0.size:Int)+1)) else a))) N ⟨(p0,0,l1),v,i,rfl,q,g,R⟩ ?_);rintro s _ w5 ⟨b,z,hL,rfl,q,g,n⟩;rcases s with _|s
  .exact cJ hL
  obtain⟨a3,i,F,p⟩:=cL hL;clear hL;unfold EZ at i;refine aE (aB 3 [(36,vB (decide (b.2.1<(wr ((if(wr ((p0.size:Int)+1))<a then(wr ((p0.size:Int)+1)) else a)-1)))))] (aG i ?_ ?_))
  .intro A i;refine aM (aD (bA (aT 2 [(37,vT b.1),(38,vT p1)] (aK 39 i (RS g) ?_))));rintro o i _ w6 ⟨U,rfl,M,g⟩;refine aF 1 [(11,vI o)] (aE (aB 2 [(41,vB (decide (o<0)))] (aG i ?_ ?_)))
   .intro A i;refine cD (bD (vN rfl ?_));have ho:=p _ (sI i);refine bD ?_;exact xE (l _ _ ⟨b,U,ho,rfl,q.t M,g,n⟩)
   intro A i;refine aM (aD (aT 6 [(42,.slice (aP h) (Int.toNat (if(wr ((p0.size:Int)+1))<a then(wr ((p0.size:Int)+1)) else a)) (Int.toNat (if(wr ((p0.size:Int)+1))<a then(wr ((p0.size:Int)+1)) else a))),(43,vI b.2.1),(44,vT b.1),(47,vI (wr (o+p2)))] ?_));have⟨B,Y,i⟩:=aW i;refine bB rfl (nY (d:=48) (t:=9) (x:=(.tmp 44)) (lo:=none) (hi:=(some (.tmp 47))) kr rfl (ev (vT b.1)) kr (.inl ⟨rfl,rfl⟩) (.inr ⟨_,_,rfl,(ev (vI (wr (o+p2))))⟩) Y ?_);have⟨x1,K,i⟩:=aW i;refine bB rfl (pH (d:=49) (t:=26) (e:=9) (x:=(.tmp 42)) (y:=(.tmp 43)) kr rfl (ev (.slice (aP h) (Int.toNat (if(wr ((p0.size:Int)+1))<a then(wr ((p0.size:Int)+1)) else a)) (Int.toNat (if(wr ((p0.size:Int)+1))<a then(wr ((p0.size:Int)+1)) else a)))) (ev (vI b.2.1)) kr n K (bB rfl (yF (f:=(fun x:BA=>Value.string x)) (u:=B) (t:=9) (x:=(.tmp 49)) (y:=(.tmp 48)) kr (ev (.pointer (some ⟨h,Int.toNat b.2.1,none⟩))) (ev (vT B)) g K rfl kr fun w7 g=> ?_)));have S:List.length (List.set b.2.2 (Int.toNat b.2.1) B)=(Int.toNat (if(wr ((p0.size:Int)+1))<a then(wr ((p0.size:Int)+1)) else a)):=vY n _ _;refine aQ (aC (aA 5 [(50,vT b.1),(54,vI (wr (o+(p1.size:Int))))] ?_));have⟨V,Z,i⟩:=aW i
   refine bB rfl (nY (d:=55) (t:=9) (x:=(.tmp 50)) (lo:=(some (.tmp 54))) (hi:=none) kr rfl (ev (vT b.1)) kr (.inr ⟨_,_,rfl,(ev (vI (wr (o+(p1.size:Int)))))⟩) (.inl ⟨rfl,rfl⟩) Z (aF 1 [(0,vT V)] (aX (aA 3 [(10,vI (wr (b.2.1+1)))] (aS rfl (bI ?_))))));have hL:=F _ (sI i);exact xE (cE ⟨(V,wr (b.2.1+1),List.set b.2.2 (Int.toNat b.2.1) B),U,hL,rfl,q.t M,g,S⟩)
  intro A i;refine cD (bD ?_);have ho:=p _ (sI i);refine bD ?_;exact xE (l _ _ ⟨b,z,ho,rfl,q,g,n⟩)
 intro a i b;refine aG i ?_ ?_
 .intro A i;refine aX (aA 2 [(21,vT p0),(22,vT p1)] (aK 23 i (qDa g) ?_));rintro y1 i _ l ⟨k,rfl,h,g⟩;refine aA 2 [(3,vI (wr (y1+1)))] (aS rfl ?_);cases i;exact xE (b _ _ ⟨k,rfl,q.t h,g⟩)
 intro A i;refine aM ?_;cases i;exact xE (b _ _ ⟨m,rfl,q,g⟩)
def FN(N:Nat)(p0:BA)(p1:BA):T7:=
 (JJ N p0 p1 0 (-1)).bind fun y1=>some y1
theorem qCy{p0:BA}{p1:BA}{r:T6}(g:St m (O) w)(i:FN N p0 p1=some r):Calls prog 153 #[vT p0,vT p1] w fun e w'=>∃a b m',e= .returned (vS a r b)/\m.le m'/\St m' (O) w'/\RepS aH m' a b r:=by
 unfold FN at i;have q:=m.le_refl;refine bF func153 rfl ntmps153 ?_;refine aB 1 [] (aC ?_);refine aA 2 [(5,vT p0),(6,vT p1)] (aK 7 i (qCs g) ?_);rintro y1 i _ l ⟨c,d,h,rfl,f,g,k⟩;refine aF 1 [(4,vS c y1 d)] (aJ ?_);obtain rfl:=sI i;exact aO [4] [vS c y1 d] ⟨c,d,h,rfl,q.t f,g,k⟩
def BK(N:Nat)(y1:T6)(b:mJ)(a:Int):Td:=
 if(decide (a<(List.length y1:Int)))=true then((idx y1 a).bind fun x1=>(if(decide ((ByteArray.size x1:Int)<1))=true then(some true) else(if(decide ((ByteArray.size x1:Int)>24))=true then(some true) else((sL N x1 0 b ([(1:Int),2,3,4])).bind fun b=>some (b !=(ByteArray.size x1:Int)))):Te).bind fun b=>if b=true then(some (.inr (.inr (false)))) else(some (.inl (IntKind.wrap .i64 (a+1))))) else(some (.inr (.inl ())))
def tT(N:Nat)(p0:BA):Te:=
 (FN N p0 (⟨#[47]⟩:BA)).bind fun y1=>(if(decide ((ByteArray.size p0:Int)>80))=true then(some true) else(some (decide ((List.length y1:Int)>8))):Te).bind fun a=>if a=true then(some false) else((yJ N).bind fun a=>(aI (BK N y1 a) N 0).bind fun a=>(match a with| .inl o2=>some true| .inr (z)=>some z))
theorem JQ{p0:BA}{r:Bool}(g:St m (O) w)(i:tT N p0=some r):Calls prog 133 #[vT p0] w fun e w'=>∃m',e= .returned (vB r)/\m.le m'/\St m' (O) w':=by
 unfold tT at i;have q:=m.le_refl;refine bF func133 rfl ntmps133 ?_;refine aB 1 [] (aC ?_);refine aA 1 [(7,vT p0)] (aK 8 i (qCy g) ?_);rintro y1 i _ w1 ⟨h,k,U,rfl,H,g,a⟩;refine aF 1 [(3,vS h y1 k)] (aE (aC ?_));have⟨o1,i,J⟩:=aW i;refine rN (j:=8) (fun L' w'=>∃u,L'=[(3,vS h y1 k),(16,vB o1)]/\m.le u/\St u (O) w'/\RepS aH u h k y1) ?_ ?_
 .have i:=J;rintro _ w2 ⟨u,rfl,q,g,a⟩;refine aQ (aG i ?_ ?_)
  .intro A i;refine aB 1 [(2,vB false)] (aJ ?_);refine aL ?_;cases i;exact aO [2] [vB false] ⟨u,rfl,q,g⟩
  intro A i;refine aM (aD (aC (aK 17 i (MK g) ?_)));rintro D i _ w3 ⟨b,f,d,Y,rfl,M,g,c⟩;refine aF 1 [(4,.map b)] (aE (aB 3 [(18,vS h y1 k),(19,vI (y1.length:Int)),(20,vI 0)] (bA ?_)));have⟨x,i,S⟩:=aW i;refine cO (.exit 0) (fun L' w'=>∃(o2:Unit),∃v,(.inl o2)=x/\L'=[]/\m.le v/\St v (dS b f d::O) w'/\MapQ (fun n:Int=>Value.int .u8 n) (aV .i64) false v b f d D) ?_ ?_
  .rintro _ l ⟨o2,v,rfl,rfl,q,g,c⟩;have i:=S;refine cK (aD (aB 1 [(2,vB true)] (aJ ?_)));cases i;exact aO [2] [vB true] ⟨v,rfl,q,g.t⟩
  intro y;refine cH _ kr (cG (fun B L' w'=>∃(p:Int),∃l,aI (BK N y1 D) B p=some x/\L'=[(4,.map b),(18,vS h y1 k),(19,vI (y1.length:Int)),(20,vI p)]/\m.le l/\St l (dS b f d::O) w'/\RepS aH l h k y1/\MapQ (fun n:Int=>Value.int .u8 n) (aV .i64) false l b f d D) N ⟨0,Y,i,rfl,q.t M,g,a.mono M,c⟩ ?_);rintro B _ w5 ⟨p,l,hL,rfl,q,g,a,c⟩;rcases B with _|B
  .exact cJ hL
  obtain⟨a4,i,F,s⟩:=cL hL;clear hL;unfold BK at i;refine aB 1 [(21,vB (decide (p<(y1.length:Int))))] (aE ?_);refine aG i ?_ ?_
  .intro A i;refine aM (aD (aE (bA (aC (dQ 22 a i ?_)))));rintro x1 i b1 V a3 rfl R;refine dV 23 9 22 V (vT x1) g R (aF 1 [(6,vT x1)] (aC (cU 17 i (fun G L' w'=>∃o,L'=[(4,.map b),(18,vS h y1 k),(19,vI (y1.length:Int)),(20,vI p),(40,vB G)]/\m.le o/\St o (dS b f d::O) w'/\RepS aH o h k y1/\MapQ (fun n:Int=>Value.int .u8 n) (aV .i64) false o b f d D) ?_ ?_)))
   .rintro G i _ z ⟨o,rfl,q,g,a,c⟩;refine aQ (aG i ?_ ?_)
    .intro A i;refine aB 1 [(2,vB false)] (aJ ?_);refine aZ (aL ?_);have ho:=s _ (sI i);subst ho;have i:=S;refine aL (aZ (aL ?_));cases i;exact aO [2] [vB false] ⟨o,rfl,q,g.t⟩
    intro A i;refine aM (bI (aD (aX (aA 2 [(20,vI (wr (p+1)))] (aS rfl ?_)))));have hL:=F _ (sI i);exact xE (cE ⟨wr (p+1),o,hL,rfl,q,g,a,c⟩)
   intro G i K;refine aA 4 [(27,vB (decide ((x1.size:Int)<1)))] (bC 27 i ?_ ?_)
   .intro A i;refine aA 13 [(40,vB true)] ?_;cases i;exact aU _ kr (K _ _ ⟨l,rfl,q,g,a,c⟩)
   intro A i;refine aA 5 [(32,vB (decide ((x1.size:Int)>24)))] (bC 32 i ?_ ?_)
   .intro A i;refine aA 8 [(40,vB true)] ?_;cases i;exact aU _ kr (K _ _ ⟨l,rfl,q,g,a,c⟩)
   intro A i;refine aA 2 [(33,vT x1),(34,.map b)] (eR 35 3 4 (aV .i64) [(1:Int),2,3,4] g fun b2 m7 w7 z g r3=>(aK 36 i (FL g.f1 (c.mono z) r3) ?_));rintro y3 i _ w8 ⟨Z,rfl,E,g⟩;refine aA 4 [(40,vB (y3 !=(x1.size:Int)))] ?_;cases i;exact aU _ kr (K _ _ ⟨Z,rfl,(q.t z).t E,g.f1.t,(a.mono z).mono E,(c.mono z).mono E⟩)
  intro A i;refine cD (bD ?_);have ho:=s _ (sI i);refine bD ?_;exact xE (y _ _ ⟨(),l,ho,rfl,q,g,c⟩)
 intro K;refine aA 4 [(12,vB (decide ((p0.size:Int)>80)))] (bC 12 i ?_ ?_)
 .intro A i;refine aA 4 [(16,vB true)] ?_;cases i;exact aU _ kr (K _ _ ⟨U,rfl,q.t H,g,a⟩)
 intro A i;refine aA 4 [(16,vB (decide ((y1.length:Int)>8)))] ?_;cases i;exact aU _ kr (K _ _ ⟨U,rfl,q.t H,g,a⟩)
def BQ(N:Nat)(p0:Tr)(p1:Int):Te:=
 if(p0.1==1)=true then((if(p0.2.2.2.1.toList==(⟨#[]⟩:BA).toList)=true then(if(p0.2.2.1==0)=true then(if((List.length p0.2.2.2.2:Int)==0)=true then(if(decide (p0.2.1>=(-9007199254740992)))=true then(some (decide (p0.2.1<=9007199254740992))) else(some false)) else(some false)) else(some false)) else(some false):Te).bind fun a=>some a) else(if(p0.1==2)=true then((if(p0.2.2.2.1.toList==(⟨#[]⟩:BA).toList)=true then(if(p0.2.2.1==0)=true then(if((List.length p0.2.2.2.2:Int)==0)=true then(if(decide (p0.2.1>=0))=true then(some (decide (p0.2.1<p1))) else(some false)) else(some false)) else(some false)) else(some false):Te).bind fun o2=>some o2) else(if(p0.1==3)=true then((if(p0.2.1==0)=true then(if(p0.2.2.1==0)=true then((sJ N p0.2.2.2.1).bind fun y1=>some y1) else(some false)) else(some false):Te).bind fun a=>some a) else(if(p0.1==4)=true then((if(p0.2.1==0)=true then(if(p0.2.2.2.1.toList==(⟨#[]⟩:BA).toList)=true then(if((List.length p0.2.2.2.2:Int)==2)=true then(if(decide (p0.2.2.1>=1))=true then(some (decide (p0.2.2.1<=7))) else(some false)) else(some false)) else(some false)) else(some false):Te).bind fun o4=>some o4) else(if(p0.1==5)=true then((if(p0.2.1==0)=true then(if(p0.2.2.2.1.toList==(⟨#[]⟩:BA).toList)=true then(if(p0.2.2.1==0)=true then(some ((List.length p0.2.2.2.2:Int)==3)) else(some false)) else(some false)) else(some false):Te).bind fun a=>some a) else(if(p0.1==6)=true then((if(p0.2.1==0)=true then(if(p0.2.2.1==0)=true then(if((List.length p0.2.2.2.2:Int)==1)=true then((tT N p0.2.2.2.1).bind fun a=>some a) else(some false)) else(some false)) else(some false):Te).bind fun a=>some a) else((if(p0.1==7)=true then(some (p0.1==7)) else(some (p0.1==8)):Te).bind fun a=>if a=true then((if(p0.2.1==0)=true then(if(p0.2.2.1==0)=true then(if((List.length p0.2.2.2.2:Int)==0)=true then((tT N p0.2.2.2.1).bind fun a=>some a) else(some false)) else(some false)) else(some false):Te).bind fun a=>some a) else(if(p0.1==9)=true then((if(p0.2.1==0)=true then(if(p0.2.2.1==0)=true then(if((List.length p0.2.2.2.2:Int)==0)=true then((yK N p0.2.2.2.1).bind fun a=>some a) else(some false)) else(some false)) else(some false):Te).bind fun a=>some a) else(if(p0.1==10)=true then((if(p0.2.2.2.1.toList==(⟨#[]⟩:BA).toList)=true then(if(p0.2.2.1==0)=true then(if((List.length p0.2.2.2.2:Int)==0)=true then(if(decide (p0.2.1>=0))=true then(some (decide (p0.2.1<64))) else(some false)) else(some false)) else(some false)) else(some false):Te).bind fun a=>some a) else(some false)))))))))
theorem qDp{p0:Tr}{p1:Int}{r:Bool}(g:St m (O) w)(s:RepS (aV .i64) m a1 c1 p0.2.2.2.2)(i:BQ N p0 p1=some r):Calls prog 134 #[.agg (V8 p0 a1 c1),vI p1] w fun e w'=>∃m',e= .returned (vB r)/\m.le m'/\St m' (O) w':=by
 unfold BQ at i;have q:=m.le_refl;refine bF func134 rfl ntmps134 ?_;refine aC (iE 2 61 (.agg (V8 p0 a1 c1)) g fun d b B l g a=> ?_);have q:=q.t l;refine aF 1 [] (aE (eC [(8,fun w'=>Inv b w'/\True)] kr g fun D _ g=> ?_));have n:=b.le_refl;refine tA g n ?_;refine aR 0 9 (vP d 4) (.head _) (eP 22 9 1 10 4 (vS a1 p0.2.2.2.2 c1) (.head _) (fun _ h=>h.1) (a.drop 4) (aR 2 11 (vI (p0.2.2.2.2.length:Int)) (.head _) (aR 3 12 (vP d 1) (.head _) (eP 3 12 4 13 1 (vI p0.2.1) (.head _) (fun _ h=>h.1) (a.drop 1) (aR 5 14 (vB (p0.2.1==0)) (.head _) (aR 6 5 (vI (p0.2.2.2.2.length:Int)) (.head _) (aR 7 6 (vB (p0.2.1==0)) (.head _) (dU kr (aD (aE (eC [(8,fun w'=>Inv b w'/\True)] kr g fun E _ g=> ?_)))))))))));have o:=b.le_refl;refine tA g o ?_;refine aR 0 15 (vP d 3) (.head _) (eP 9 15 1 16 3 (vT p0.2.2.2.1) (.head _) (fun _ h=>h.1) (a.drop 3) (aR 2 17 (vB (p0.2.2.2.1.toList==eB.toList)) (.head _) (aR 3 18 (vP d 2) (.head _) (eP 3 18 4 19 2 (vI p0.2.2.1) (.head _) (fun _ h=>h.1) (a.drop 2) (aR 5 20 (vB (p0.2.2.1==0)) (.head _) (aR 6 7 (vB (p0.2.2.2.1.toList==eB.toList)) (.head _) (aR 7 8 (vB (p0.2.2.1==0)) (.head _) (dU kr (aD (aE (aT 1 [(21,vP d 0)] (bJ 22 (vI p0.1) g a (aQ (bA (aB 2 [(23,vB (p0.1==1))] (aG i ?_ ?_))))))))))))))))
 .intro A i;refine aC (cU 19 i (fun f L' w'=>∃c,L'=[(4,vB f)]/\m.le c/\St c (O) w') ?_ ?_)
  .rintro f i _ k ⟨c,rfl,q,g⟩;refine aQ (aJ (aZ (aL ?_)));obtain rfl:=sI i;exact aO [4] [vB f] ⟨c,rfl,q,g⟩
  intro f i K;refine aA 2 [(26,vB (p0.2.2.2.1.toList==eB.toList))] (bC 26 i ?_ ?_)
  .intro A i;refine aA 3 [(29,vB (p0.2.2.1==0))] (bC 29 i ?_ ?_)
   .intro A i;refine aA 4 [(33,vB ((p0.2.2.2.2.length:Int)==0))] (bC 33 i ?_ ?_)
    .intro A i;refine aA 1 [(34,vP d 1)] (bJ 35 (vI p0.2.1) g (a.drop 1) (aA 3 [(38,vB (decide (p0.2.1>=(-9007199254740992))))] (bC 38 i ?_ ?_)))
     .intro A i;refine aA 1 [(39,vP d 1)] (bJ 40 (vI p0.2.1) g (a.drop 1) (aA 3 [(4,vB (decide (p0.2.1<=9007199254740992)))] ?_));cases i;exact aU _ kr (K _ _ ⟨b,rfl,q,g⟩)
     intro A i;refine aA 5 [(4,vB false)] ?_;cases i;exact aU _ kr (K _ _ ⟨b,rfl,q,g⟩)
    intro A i;refine aA 10 [(4,vB false)] ?_;cases i;exact aU _ kr (K _ _ ⟨b,rfl,q,g⟩)
   intro A i;refine aA 14 [(4,vB false)] ?_;cases i;exact aU _ kr (K _ _ ⟨b,rfl,q,g⟩)
  intro A i;refine aA 17 [(4,vB false)] ?_;cases i;exact aU _ kr (K _ _ ⟨b,rfl,q,g⟩)
 intro A i;refine aB 2 [(43,vB (p0.1==2))] (aG i ?_ ?_)
 .intro A i;refine aC (cU 20 i (fun o2 L' w'=>∃c,L'=[(4,vB o2)]/\m.le c/\St c (O) w') ?_ ?_)
  .rintro o2 i _ f ⟨c,rfl,q,g⟩;refine aQ (aJ (aZ (aL ?_)));obtain rfl:=sI i;exact aO [4] [vB o2] ⟨c,rfl,q,g⟩
  intro o2 i K;refine aA 2 [(46,vB (p0.2.2.2.1.toList==eB.toList))] (bC 46 i ?_ ?_)
  .intro A i;refine aA 3 [(49,vB (p0.2.2.1==0))] (bC 49 i ?_ ?_)
   .intro A i;refine aA 4 [(53,vB ((p0.2.2.2.2.length:Int)==0))] (bC 53 i ?_ ?_)
    .intro A i;refine aA 1 [(54,vP d 1)] (bJ 55 (vI p0.2.1) g (a.drop 1) (aA 3 [(58,vB (decide (p0.2.1>=0)))] (bC 58 i ?_ ?_)))
     .intro A i;refine aA 1 [(59,vP d 1)] (bJ 60 (vI p0.2.1) g (a.drop 1) (aA 4 [(4,vB (decide (p0.2.1<p1)))] ?_));cases i;exact aU _ kr (K _ _ ⟨b,rfl,q,g⟩)
     intro A i;refine aA 6 [(4,vB false)] ?_;cases i;exact aU _ kr (K _ _ ⟨b,rfl,q,g⟩)
    intro A i;refine aA 11 [(4,vB false)] ?_;cases i;exact aU _ kr (K _ _ ⟨b,rfl,q,g⟩)
   intro A i;refine aA 15 [(4,vB false)] ?_;cases i;exact aU _ kr (K _ _ ⟨b,rfl,q,g⟩)
  intro A i;refine aA 18 [(4,vB false)] ?_;cases i;exact aU _ kr (K _ _ ⟨b,rfl,q,g⟩)
 intro A i;refine aB 2 [(64,vB (p0.1==3))] (aG i ?_ ?_)
 .intro A i;refine aC (cU 10 i (fun f L' w'=>∃c,L'=[(4,vB f)]/\m.le c/\St c (O) w') ?_ ?_)
  .rintro f i _ k ⟨c,rfl,q,g⟩;refine aQ (aJ (aZ (aL ?_)));obtain rfl:=sI i;exact aO [4] [vB f] ⟨c,rfl,q,g⟩
  intro f i K;refine aA 2 [(67,vB (p0.2.1==0))] (bC 67 i ?_ ?_)
  .intro A i;refine aA 3 [(70,vB (p0.2.2.1==0))] (bC 70 i ?_ ?_)
   .intro A i;refine aA 1 [(71,vP d 3)] (bJ 72 (vT p0.2.2.2.1) g (a.drop 3) (aK 73 i (FK g) ?_));rintro y1 i _ u ⟨p,rfl,k,g⟩;refine aA 2 [(4,vB y1)] ?_;cases i;exact aU _ kr (K _ _ ⟨p,rfl,q.t k,g⟩)
   intro A i;refine aA 5 [(4,vB false)] ?_;cases i;exact aU _ kr (K _ _ ⟨b,rfl,q,g⟩)
  intro A i;refine aA 8 [(4,vB false)] ?_;cases i;exact aU _ kr (K _ _ ⟨b,rfl,q,g⟩)
 intro A i;refine aB 2 [(75,vB (p0.1==4))] (aG i ?_ ?_)
 .intro A i;refine aC (cU 19 i (fun o4 L' w'=>∃c,L'=[(4,vB o4)]/\m.le c/\St c (O) w') ?_ ?_)
  .rintro o4 i _ f ⟨c,rfl,q,g⟩;refine aQ (aJ (aZ (aL ?_)));obtain rfl:=sI i;exact aO [4] [vB o4] ⟨c,rfl,q,g⟩
  intro o4 i K;refine aA 2 [(78,vB (p0.2.1==0))] (bC 78 i ?_ ?_)
  .intro A i;refine aA 3 [(81,vB (p0.2.2.2.1.toList==eB.toList))] (bC 81 i ?_ ?_)
   .intro A i;refine aA 4 [(85,vB ((p0.2.2.2.2.length:Int)==2))] (bC 85 i ?_ ?_)
    .intro A i;refine aA 1 [(86,vP d 2)] (bJ 87 (vI p0.2.2.1) g (a.drop 2) (aA 3 [(90,vB (decide (p0.2.2.1>=1)))] (bC 90 i ?_ ?_)))
     .intro A i;refine aA 1 [(91,vP d 2)] (bJ 92 (vI p0.2.2.1) g (a.drop 2) (aA 3 [(4,vB (decide (p0.2.2.1<=7)))] ?_));cases i;exact aU _ kr (K _ _ ⟨b,rfl,q,g⟩)
     intro A i;refine aA 5 [(4,vB false)] ?_;cases i;exact aU _ kr (K _ _ ⟨b,rfl,q,g⟩)
    intro A i;refine aA 10 [(4,vB false)] ?_;cases i;exact aU _ kr (K _ _ ⟨b,rfl,q,g⟩)
   intro A i;refine aA 14 [(4,vB false)] ?_;cases i;exact aU _ kr (K _ _ ⟨b,rfl,q,g⟩)
  intro A i;refine aA 17 [(4,vB false)] ?_;cases i;exact aU _ kr (K _ _ ⟨b,rfl,q,g⟩)
 intro A i;refine aB 2 [(95,vB (p0.1==5))] (aG i ?_ ?_)
 .intro A i;refine aC (cU 12 i (fun f L' w'=>∃c,L'=[(4,vB f)]/\m.le c/\St c (O) w') ?_ ?_)
  .rintro f i _ k ⟨c,rfl,q,g⟩;refine aQ (aJ (aZ (aL ?_)));obtain rfl:=sI i;exact aO [4] [vB f] ⟨c,rfl,q,g⟩
  intro f i K;refine aA 2 [(98,vB (p0.2.1==0))] (bC 98 i ?_ ?_)
  .intro A i;refine aA 3 [(101,vB (p0.2.2.2.1.toList==eB.toList))] (bC 101 i ?_ ?_)
   .intro A i;refine aA 3 [(104,vB (p0.2.2.1==0))] (bC 104 i ?_ ?_)
    .intro A i;refine aA 4 [(4,vB ((p0.2.2.2.2.length:Int)==3))] ?_;cases i;exact aU _ kr (K _ _ ⟨b,rfl,q,g⟩)
    intro A i;refine aA 4 [(4,vB false)] ?_;cases i;exact aU _ kr (K _ _ ⟨b,rfl,q,g⟩)
   intro A i;refine aA 7 [(4,vB false)] ?_;cases i;exact aU _ kr (K _ _ ⟨b,rfl,q,g⟩)
  intro A i;refine aA 10 [(4,vB false)] ?_;cases i;exact aU _ kr (K _ _ ⟨b,rfl,q,g⟩)
 intro A i;refine aB 2 [(108,vB (p0.1==6))] (aG i ?_ ?_)
 .intro A i;refine aC (cU 14 i (fun f L' w'=>∃c,L'=[(4,vB f)]/\m.le c/\St c (O) w') ?_ ?_)
  .rintro f i _ k ⟨c,rfl,q,g⟩;refine aQ (aJ (aZ (aL ?_)));obtain rfl:=sI i;exact aO [4] [vB f] ⟨c,rfl,q,g⟩
  intro f i K;refine aA 2 [(111,vB (p0.2.1==0))] (bC 111 i ?_ ?_)
  .intro A i;refine aA 3 [(114,vB (p0.2.2.1==0))] (bC 114 i ?_ ?_)
   .intro A i;refine aA 4 [(118,vB ((p0.2.2.2.2.length:Int)==1))] (bC 118 i ?_ ?_)
    .intro A i;refine aA 1 [(119,vP d 3)] (bJ 120 (vT p0.2.2.2.1) g (a.drop 3) (aK 121 i (JQ g) ?_));rintro u i _ v ⟨p,rfl,k,g⟩;refine aA 2 [(4,vB u)] ?_;cases i;exact aU _ kr (K _ _ ⟨p,rfl,q.t k,g⟩)
    intro A i;refine aA 5 [(4,vB false)] ?_;cases i;exact aU _ kr (K _ _ ⟨b,rfl,q,g⟩)
   intro A i;refine aA 9 [(4,vB false)] ?_;cases i;exact aU _ kr (K _ _ ⟨b,rfl,q,g⟩)
  intro A i;refine aA 12 [(4,vB false)] ?_;cases i;exact aU _ kr (K _ _ ⟨b,rfl,q,g⟩)
 intro A i;refine aE (aB 2 [(123,vB (p0.1==7))] (cC .normal i (fun p L' w'=>∃c,L'=[(2,vP d 0),(5,vI (p0.2.2.2.2.length:Int)),(6,vB (p0.2.1==0)),(7,vB (p0.2.2.2.1.toList==eB.toList)),(8,vB (p0.2.2.1==0)),(22,vI p0.1),(123,vB p)]/\m.le c/\St c (O) w'/\MRow c d 0 (V9 p0 a1 c1)/\RepS (aV .i64) c a1 c1 p0.2.2.2.2) ?_ ?_))
 .rintro p i _ y ⟨c,rfl,q,g,a,s⟩;refine aD (aG i ?_ ?_)
  .intro A i;refine aC (cU 14 i (fun k L' w'=>∃f,L'=[(4,vB k)]/\m.le f/\St f (O) w') ?_ ?_)
   .rintro k i _ u ⟨f,rfl,q,g⟩;refine aQ (aJ (aZ (aL ?_)));obtain rfl:=sI i;exact aO [4] [vB k] ⟨f,rfl,q,g⟩
   intro k i K;refine aA 2 [(127,vB (p0.2.1==0))] (bC 127 i ?_ ?_)
   .intro A i;refine aA 3 [(130,vB (p0.2.2.1==0))] (bC 130 i ?_ ?_)
    .intro A i;refine aA 4 [(134,vB ((p0.2.2.2.2.length:Int)==0))] (bC 134 i ?_ ?_)
     .intro A i;refine aA 1 [(135,vP d 3)] (bJ 136 (vT p0.2.2.2.1) g (a.drop 3) (aK 137 i (JQ g) ?_));rintro x i _ z ⟨u,rfl,v,g⟩;refine aA 2 [(4,vB x)] ?_;cases i;exact aU _ kr (K _ _ ⟨u,rfl,q.t v,g⟩)
     intro A i;refine aA 5 [(4,vB false)] ?_;cases i;exact aU _ kr (K _ _ ⟨c,rfl,q,g⟩)
    intro A i;refine aA 9 [(4,vB false)] ?_;cases i;exact aU _ kr (K _ _ ⟨c,rfl,q,g⟩)
   intro A i;refine aA 12 [(4,vB false)] ?_;cases i;exact aU _ kr (K _ _ ⟨c,rfl,q,g⟩)
  intro A i;refine aB 2 [(139,vB (p0.1==9))] (aG i ?_ ?_)
  .intro A i;refine aC (cU 14 i (fun k L' w'=>∃f,L'=[(4,vB k)]/\m.le f/\St f (O) w') ?_ ?_)
   .rintro k i _ u ⟨f,rfl,q,g⟩;refine aQ (aJ (aZ (aL ?_)));obtain rfl:=sI i;exact aO [4] [vB k] ⟨f,rfl,q,g⟩
   intro k i K;refine aA 2 [(142,vB (p0.2.1==0))] (bC 142 i ?_ ?_)
   .intro A i;refine aA 3 [(145,vB (p0.2.2.1==0))] (bC 145 i ?_ ?_)
    .intro A i;refine aA 4 [(149,vB ((p0.2.2.2.2.length:Int)==0))] (bC 149 i ?_ ?_)
     .intro A i;refine aA 1 [(150,vP d 3)] (bJ 151 (vT p0.2.2.2.1) g (a.drop 3) (aK 152 i (MM g) ?_));rintro x i _ z ⟨u,rfl,v,g⟩;refine aA 2 [(4,vB x)] ?_;cases i;exact aU _ kr (K _ _ ⟨u,rfl,q.t v,g⟩)
     intro A i;refine aA 5 [(4,vB false)] ?_;cases i;exact aU _ kr (K _ _ ⟨c,rfl,q,g⟩)
    intro A i;refine aA 9 [(4,vB false)] ?_;cases i;exact aU _ kr (K _ _ ⟨c,rfl,q,g⟩)
   intro A i;refine aA 12 [(4,vB false)] ?_;cases i;exact aU _ kr (K _ _ ⟨c,rfl,q,g⟩)
  intro A i;refine aB 2 [(154,vB (p0.1==10))] (aG i ?_ ?_)
  .intro A i;refine aC (cU 19 i (fun k L' w'=>∃f,L'=[(4,vB k)]/\m.le f/\St f (O) w') ?_ ?_)
   .rintro k i _ u ⟨f,rfl,q,g⟩;refine aQ (aJ (aZ (aL ?_)));obtain rfl:=sI i;exact aO [4] [vB k] ⟨f,rfl,q,g⟩
   intro k i K;refine aA 2 [(157,vB (p0.2.2.2.1.toList==eB.toList))] (bC 157 i ?_ ?_)
   .intro A i;refine aA 3 [(160,vB (p0.2.2.1==0))] (bC 160 i ?_ ?_)
    .intro A i;refine aA 4 [(164,vB ((p0.2.2.2.2.length:Int)==0))] (bC 164 i ?_ ?_)
     .intro A i;refine aA 1 [(165,vP d 1)] (bJ 166 (vI p0.2.1) g (a.drop 1) (aA 3 [(169,vB (decide (p0.2.1>=0)))] (bC 169 i ?_ ?_)))
      .intro A i;refine aA 1 [(170,vP d 1)] (bJ 171 (vI p0.2.1) g (a.drop 1) (aA 3 [(4,vB (decide (p0.2.1<64)))] ?_));cases i;exact aU _ kr (K _ _ ⟨c,rfl,q,g⟩)
      intro A i;refine aA 5 [(4,vB false)] ?_;cases i;exact aU _ kr (K _ _ ⟨c,rfl,q,g⟩)
     intro A i;refine aA 10 [(4,vB false)] ?_;cases i;exact aU _ kr (K _ _ ⟨c,rfl,q,g⟩)
    intro A i;refine aA 14 [(4,vB false)] ?_;cases i;exact aU _ kr (K _ _ ⟨c,rfl,q,g⟩)
   intro A i;refine aA 17 [(4,vB false)] ?_;cases i;exact aU _ kr (K _ _ ⟨c,rfl,q,g⟩)
  intro A i;refine aM (bI (aD (aB 1 [(4,vB false)] (aJ ?_))));cases i;exact aO [4] [vB false] ⟨c,rfl,q,g⟩
 intro p i f;refine aG i ?_ ?_
 .intro A i;refine aM ?_;cases i;exact xE (f _ _ ⟨b,rfl,q,g,a,s.mono l⟩)
 intro A i;refine aX (aA 2 [(123,vB (p0.1==8))] (aS rfl ?_));cases i;exact xE (f _ _ ⟨b,rfl,q,g,a,s.mono l⟩)
def xT(N:Nat)(p0:Tz)(a:Int):Td:=
 if(decide (a<(List.length p0.2.2.1:Int)))=true then((idx p0.2.2.1 a).bind fun x1=>(if(p0.1 !=1)=true then(some true) else((sJ N x1).bind fun b=>some (!b)):Te).bind fun o4=>if o4=true then(some (.inr (.inr (false)))) else(some (.inl (IntKind.wrap .i64 (a+1))))) else(some (.inr (.inl ())))
def AV(N:Nat)(b:pW)(c:Tr)(a:pW):Option (pW⊕T9⊕Bool):=
 if(decide (a.1>=0))=true then(((idx c.2.2.2.2 a.1).bind fun d=>(idx a.2 b.1).bind fun x5=>if(d !=(IntKind.wrap .i64 (x5-1)))=true then(some true) else((idx c.2.2.2.2 a.1).bind fun d=>some (decide (d<0))):Te).bind fun d=>if d=true then(some (.inr (.inr (false)))) else((idx c.2.2.2.2 a.1).bind fun c=>(idx a.2 c).bind fun c=>(idx a.2 b.1).bind fun d=>some (.inl (IntKind.wrap .i64 (a.1-1),List.set a.2 (Int.toNat b.1) c)))) else(some (.inr (.inl a.2)))
def vK(N:Nat)(p0:Tz)(a:pW):Option (pW⊕T9⊕Bool):=
 if(decide (a.1<(List.length p0.2.2.2:Int)))=true then((idx p0.2.2.2 a.1).bind fun b=>(BQ N b (List.length p0.2.2.1:Int)).bind fun c=>if(!c)=true then(some (.inr (.inr (false)))) else((idx a.2 a.1).bind fun c=>(aI (AV N a b) N (IntKind.wrap .i64 ((List.length b.2.2.2.2:Int)-1),List.set a.2 (Int.toNat a.1) a.1)).bind fun b=>(match b with| .inl b=>some (.inl (IntKind.wrap .i64 (a.1+1),b))| .inr (z)=>some (.inr (.inr (z)))))) else(some (.inr (.inl a.2)))
def BD(N:Nat)(p0:Tz):Te:=
 ((if(p0.1==1)=true then(some (p0.1==1)) else(some (p0.1==2)):Te).bind fun o2=>if o2=true then((sJ N p0.2.1).bind fun y1=>if(!y1)=true then(some (.inr false)) else(some (.inl ()))) else(if(p0.1==3)=true then((tT N p0.2.1).bind fun a=>if(!a)=true then(some (.inr false)) else(some (.inl ()))) else(some (.inr false))):Option (Unit⊕Bool)).bind fun a=>(match a with| .inl a=>(aI (xT N p0) N 0).bind fun a=>(match a with| .inl a=>(qL 8 0 (List.length p0.2.2.2:Int)).bind fun a=>(aI (vK N p0) N (0,a)).bind fun a=>(match a with| .inl a=>(if(decide ((List.length p0.2.2.2:Int)>0))=true then((idx a (IntKind.wrap .i64 ((List.length p0.2.2.2:Int)-1))).bind fun a=>some (a==0)) else(some false):Te).bind fun a=>some a| .inr (z)=>some z)| .inr (z)=>some z)| .inr z=>some z)
theorem qCt{p0:Tz}{r:Bool}(g:St m (O) w)(l:RepS aH m a1 c1 p0.2.2.1)(n:RepS C3 m a2 c2 p0.2.2.2)(i:BD N p0=some r):Calls prog 96 #[.agg (V7 p0 a1 c1 a2 c2)] w fun e w'=>∃m',e= .returned (vB r)/\m.le m'/\St m' (O) w':=by
 unfold BD at i;have q:=m.le_refl;refine bF func96 rfl ntmps96 ?_;refine aC (iE 1 43 (.agg (V7 p0 a1 c1 a2 c2)) g fun k m1 w1 V g a=>(aF 1 [] (aE (aT 1 [(9,vP k 0)] (bJ 10 (vI p0.1) g a (aQ ?_))))));have⟨d3,i,j1⟩:=aW i;refine cO .normal (fun L' w'=>∃(o1:Unit),∃Z,(.inl o1:Unit⊕Bool)=d3/\L'=[(1,vP k 0)]/\m.le Z/\St Z (O) w'/\MRow Z k 0 (Vb p0 a1 c1 a2 c2)/\P2 Z a1 c1 a2 c2 p0.2.2) ?_ ?_
 .rintro _ w2 ⟨o1,Z,rfl,rfl,q,g,a,l,n⟩;have i:=j1;refine aD (aE (aT 1 [(24,vP k 2)] (bJ 25 (vS a1 p0.2.2.1 c1) g (a.drop 2) (aF 2 [(26,vI (p0.2.2.1.length:Int)),(27,vI 0)] (bA ?_)))));have⟨a6,i,j3⟩:=aW i;refine cO (.exit 1) (fun L' w'=>∃(o3:Unit),∃m6,(.inl o3)=a6/\L'=[(1,vP k 0)]/\m.le m6/\St m6 (O) w'/\MRow m6 k 0 (Vb p0 a1 c1 a2 c2)/\P2 m6 a1 c1 a2 c2 p0.2.2) ?_ ?_
  .rintro _ w6 ⟨o3,m6,rfl,rfl,q,g,a,l,n⟩;have i:=j3;refine cK (aD (aT 1 [(40,vP k 3)] (bJ 41 (vS a2 p0.2.2.2 c2) g (a.drop 3) (aA 1 [(42,vI (p0.2.2.2.length:Int))] ?_))));have⟨l1,d5,i⟩:=aW i;refine bB rfl (MT (d:=43) (t:=22) (e:=3) (by_:=8) (x:=(.tmp 42)) (y:=(.tmp 42)) (fun x:Int=>Value.int .i64 x) kr rfl (ev (vI (p0.2.2.2.length:Int))) (ev (vI (p0.2.2.2.length:Int))) kr kr rfl g d5 fun o e7 c8 g=>(aF 1 [(5,.slice (aP o) (Int.toNat (p0.2.2.2.length:Int)) (Int.toNat (p0.2.2.2.length:Int)))] (aE (aT 1 [(44,vP k 3)] (bJ 45 (vS a2 p0.2.2.2 c2) g (a.drop 3) (aF 2 [(46,vI (p0.2.2.2.length:Int)),(47,vI 0)] (bA ?_)))))));have⟨a7,i,j5⟩:=aW i;refine cO (.exit 3) (fun L' w'=>∃(o5:T9),∃G,(.inl o5)=a7/\L'=[(1,vP k 0),(5,.slice (aP o) (Int.toNat (p0.2.2.2.length:Int)) (Int.toNat (p0.2.2.2.length:Int)))]/\m.le G/\St G (.blk o (.cells (iD (fun x:Int=>Value.int .i64 x) o5 []) 3 (0,0))::O) w'/\MRow G k 0 (Vb p0 a1 c1 a2 c2)/\RepS aH G a1 c1 p0.2.2.1/\RepS C3 G a2 c2 p0.2.2.2/\List.length o5=(Int.toNat (p0.2.2.2.length:Int))) ?_ ?_
   .rintro _ B ⟨o5,G,rfl,rfl,q,g,a,l,n,c⟩;have i:=j5;refine cK (aD (aC (cU 15 i (fun s L' w'=>∃p,L'=[(2,vB s)]/\m.le p/\St p (.blk o (.cells (iD (fun x:Int=>Value.int .i64 x) o5 []) 3 (0,0))::O) w'/\List.length o5=(Int.toNat (p0.2.2.2.length:Int))) ?_ ?_)))
    .rintro s i _ v ⟨p,rfl,q,g,c⟩;refine aQ (aJ ?_);obtain rfl:=sI i;exact aO [2] [vB s] ⟨p,rfl,q,g.t⟩
    intro s i K;refine aA 1 [(101,vP k 3)] (bJ 102 (vS a2 p0.2.2.2 c2) g (a.drop 3) (aA 3 [(105,vB (decide ((p0.2.2.2.length:Int)>0)))] (bC 105 i ?_ ?_)))
    .intro A i;refine aA 2 [(106,.slice (aP o) (Int.toNat (p0.2.2.2.length:Int)) (Int.toNat (p0.2.2.2.length:Int))),(107,vP k 3)] (bJ 108 (vS a2 p0.2.2.2 c2) g (a.drop 3) (aA 2 [(110,vI (wr ((p0.2.2.2.length:Int)-1)))] ?_));have⟨z,v,i⟩:=aW i;refine bB rfl (pH (d:=111) (t:=22) (e:=3) (x:=(.tmp 106)) (y:=(.tmp 110)) kr rfl (ev (.slice (aP o) (Int.toNat (p0.2.2.2.length:Int)) (Int.toNat (p0.2.2.2.length:Int)))) (ev (vI (wr ((p0.2.2.2.length:Int)-1)))) kr c v (bB rfl (yH (d:=112) (t:=3) (x:=(.tmp 111)) kr rfl (ev (.pointer (some ⟨o,Int.toNat (wr ((p0.2.2.2.length:Int)-1)),none⟩))) g.h v kr (aA 3 [(2,vB (z==0))] ?_))));cases i;exact aU _ kr (K _ _ ⟨G,rfl,q,g,c⟩)
    intro A i;refine aA 10 [(2,vB false)] ?_;cases i;exact aU _ kr (K _ _ ⟨G,rfl,q,g,c⟩)
   intro a9;refine cH _ kr (cG (fun k2 L' w'=>∃(c:pW),∃R,aI (vK N p0) k2 c=some a7/\L'=[(1,vP k 0),(5,.slice (aP o) (Int.toNat (p0.2.2.2.length:Int)) (Int.toNat (p0.2.2.2.length:Int))),(45,vS a2 p0.2.2.2 c2),(46,vI (p0.2.2.2.length:Int)),(47,vI c.1)]/\m.le R/\St R (.blk o (.cells (iD (fun x:Int=>Value.int .i64 x) c.2 []) 3 (0,0))::O) w'/\MRow R k 0 (Vb p0 a1 c1 a2 c2)/\RepS aH R a1 c1 p0.2.2.1/\RepS C3 R a2 c2 p0.2.2.2/\List.length c.2=(Int.toNat (p0.2.2.2.length:Int))) N ⟨(0,l1),m6,i,rfl,q,g,a,l,n,c8⟩ ?_);rintro k2 _ e8 ⟨c,R,hL,rfl,q,g,a,l,n,a5⟩;rcases k2 with _|k2
   .exact cJ hL
   obtain⟨e0,i,c6,U⟩:=cL hL;clear hL;unfold vK at i;refine aB 1 [(48,vB (decide (c.1<(p0.2.2.2.length:Int))))] (aE ?_);refine aG i ?_ ?_
   .intro A i;refine aM (aD (aE (bA (aT 1 [(49,vI c.1)] (dQ 50 n i ?_)))));rintro s i b4 f2 d4 ⟨_,_,rfl,rfl,⟨_,_,rfl,rfl,⟨_,_,rfl,rfl,⟨_,_,rfl,rfl,⟨z,B,rfl,M⟩⟩⟩⟩⟩ d1;refine dV 51 61 50 f2 (.agg (V8 s z B)) g d1 (cZ 7 61 (.agg #[vI 0,vI 0,vI 0,vT eB,v7]) g fun S e9 g=>(aA 1 [(6,vI c.1)] (cA (.agg (V8 s z B)) g fun f0 g=>(aQ (aE (aC (bE 52 (.agg (V8 s z B)) g.h (aA 1 [(53,vP k 2)] (bJ 54 (vS a1 p0.2.2.1 c1) g (a.drop 2) (aA 1 [(55,vI (p0.2.2.1.length:Int))] (aK 56 i (qDp (p0:=s) g M) ?_)))))))))));rintro y4 i _ f6 ⟨c5,rfl,Y,g⟩;refine aF 1 [(57,vB (!y4))] (aG i ?_ ?_)
    .intro A i;refine aB 1 [(2,vB false)] (aJ ?_);refine aL (aZ (aL ?_));have ho:=U _ (sI i);subst ho;have i:=j5;refine aL (aZ (aL ?_));cases i;exact aO [2] [vB false] ⟨c5,rfl,q.t Y,g.t.t⟩
    intro A i;refine aM (aD (aT 3 [(58,.slice (aP o) (Int.toNat (p0.2.2.2.length:Int)) (Int.toNat (p0.2.2.2.length:Int))),(59,vI c.1),(60,vI c.1)] ?_));have⟨x3,d8,i⟩:=aW i;refine bB rfl (pH (d:=61) (t:=22) (e:=3) (x:=(.tmp 58)) (y:=(.tmp 59)) kr rfl (ev (.slice (aP o) (Int.toNat (p0.2.2.2.length:Int)) (Int.toNat (p0.2.2.2.length:Int)))) (ev (vI c.1)) kr a5 d8 (bB rfl (yF (f:=(fun x:Int=>Value.int .i64 x)) (u:=c.1) (t:=3) (x:=(.tmp 61)) (y:=(.tmp 60)) kr (ev (.pointer (some ⟨o,Int.toNat c.1,none⟩))) (ev (vI c.1)) g.f1 d8 rfl kr fun f7 g=> ?_)));have c9:List.length (List.set c.2 (Int.toNat c.1) c.1)=(Int.toNat (p0.2.2.2.length:Int)):=vY a5 _ _;refine aQ (aC (bL 1 63 22 62 4 (vS z s.2.2.2.2 B) g.t.h (aF 3 [(8,vI (wr ((s.2.2.2.2.length:Int)-1)))] (bA ?_))));have⟨a8,i,j6⟩:=aW i;refine cO (.exit 5) (fun L' w'=>∃(o6:T9),∃H,(.inl o6)=a8/\L'=[(1,vP k 0),(5,.slice (aP o) (Int.toNat (p0.2.2.2.length:Int)) (Int.toNat (p0.2.2.2.length:Int))),(45,vS a2 p0.2.2.2 c2),(46,vI (p0.2.2.2.length:Int)),(47,vI c.1)]/\m.le H/\St H (kB S (V8 s z B) 61:: .blk o (.cells (iD (fun x:Int=>Value.int .i64 x) o6 []) 3 (0,0))::O) w'/\MRow H k 0 (Vb p0 a1 c1 a2 c2)/\RepS aH H a1 c1 p0.2.2.1/\RepS C3 H a2 c2 p0.2.2.2/\RepS (aV .i64) H z B s.2.2.2.2/\List.length o6=(Int.toNat (p0.2.2.2.length:Int))) ?_ ?_
    .rintro _ v ⟨o6,H,rfl,rfl,q,g,a,l,n,M,p⟩;have i:=j6;refine cK (bI (aD (aX (aA 2 [(47,vI (wr (c.1+1)))] (aS rfl ?_)))));have hL:=c6 _ (sI i);exact xE (cE ⟨(wr (c.1+1),o6),H,hL,rfl,q,g.t,a,l,n,p⟩)
    intro b0;refine cH _ kr (cG (fun k3 L' w'=>∃(v:pW),∃p,aI (AV N c s) k3 v=some a8/\L'=[(1,vP k 0),(5,.slice (aP o) (Int.toNat (p0.2.2.2.length:Int)) (Int.toNat (p0.2.2.2.length:Int))),(6,vI c.1),(7,vP S 0),(8,vI v.1),(45,vS a2 p0.2.2.2 c2),(46,vI (p0.2.2.2.length:Int)),(47,vI c.1)]/\m.le p/\St p (kB S (V8 s z B) 61:: .blk o (.cells (iD (fun x:Int=>Value.int .i64 x) v.2 []) 3 (0,0))::O) w'/\MRow p k 0 (Vb p0 a1 c1 a2 c2)/\RepS aH p a1 c1 p0.2.2.1/\RepS C3 p a2 c2 p0.2.2.2/\RepS (aV .i64) p z B s.2.2.2.2/\List.length v.2=(Int.toNat (p0.2.2.2.length:Int))) N ⟨(wr ((s.2.2.2.2.length:Int)-1),List.set c.2 (Int.toNat c.1) c.1),c5,i,rfl,q.t Y,g.f1,a.mono Y,l.mono Y,n.mono Y,M.mono Y,c9⟩ ?_);rintro k3 _ f8 ⟨v,p,hL,rfl,q,g,a,l,n,M,F⟩;rcases k3 with _|k3
    .exact cJ hL
    obtain⟨e6,i,c7,a4⟩:=cL hL;clear hL;unfold AV at i;refine aE (aB 2 [(67,vB (decide (v.1>=0)))] (aG i ?_ ?_))
    .intro A i;refine aM (aD (aE (bA (aE (aE (cC .normal i (fun o7 L' w'=>∃D,L'=[(1,vP k 0),(5,.slice (aP o) (Int.toNat (p0.2.2.2.length:Int)) (Int.toNat (p0.2.2.2.length:Int))),(6,vI c.1),(7,vP S 0),(8,vI v.1),(45,vS a2 p0.2.2.2 c2),(46,vI (p0.2.2.2.length:Int)),(47,vI c.1),(88,vB o7)]/\m.le D/\St D (kB S (V8 s z B) 61:: .blk o (.cells (iD (fun x:Int=>Value.int .i64 x) v.2 []) 3 (0,0))::O) w'/\MRow D k 0 (Vb p0 a1 c1 a2 c2)/\RepS aH D a1 c1 p0.2.2.1/\RepS C3 D a2 c2 p0.2.2.2/\RepS (aV .i64) D z B s.2.2.2.2/\List.length v.2=(Int.toNat (p0.2.2.2.length:Int))) ?_ ?_))))))
     .rintro o7 i _ d7 ⟨D,rfl,q,g,a,l,n,M,F⟩;refine aD (aG i ?_ ?_)
      .intro A i;refine aB 1 [(2,vB false)] (aJ ?_);refine aL (aZ (aL ?_));have ho:=a4 _ (sI i);subst ho;have i:=j6;refine aL (aZ (aZ (aL ?_)));have ho:=U _ (sI i);subst ho;have i:=j5;refine aL (aZ (aL ?_));cases i;exact aO [2] [vB false] ⟨D,rfl,q,g.t.t⟩
      intro A i;refine aM (aD (aX (aA 4 [(89,.slice (aP o) (Int.toNat (p0.2.2.2.length:Int)) (Int.toNat (p0.2.2.2.length:Int))),(90,vI c.1),(91,.slice (aP o) (Int.toNat (p0.2.2.2.length:Int)) (Int.toNat (p0.2.2.2.length:Int))),(92,vP S 4)] (bE 93 (vS z s.2.2.2.2 B) g.h (aA 1 [(94,vI v.1)] (dQ 95 M i ?_))))));rintro x7 i b8 f5 d6 rfl d2;refine dV 96 3 95 f5 (vI x7) g d2 ?_;have⟨E,b9,i⟩:=aW i;refine bB rfl (pH (d:=97) (t:=22) (e:=3) (x:=(.tmp 91)) (y:=(.tmp 96)) kr rfl (ev (.slice (aP o) (Int.toNat (p0.2.2.2.length:Int)) (Int.toNat (p0.2.2.2.length:Int)))) (ev (vI x7)) kr F b9 (bB rfl (yH (d:=98) (t:=3) (x:=(.tmp 97)) kr rfl (ev (.pointer (some ⟨o,Int.toNat x7,none⟩))) g.t.h b9 kr ?_)));have⟨x9,c4,i⟩:=aW i;refine bB rfl (pH (d:=99) (t:=22) (e:=3) (x:=(.tmp 89)) (y:=(.tmp 90)) kr rfl (ev (.slice (aP o) (Int.toNat (p0.2.2.2.length:Int)) (Int.toNat (p0.2.2.2.length:Int)))) (ev (vI c.1)) kr F c4 (bB rfl (yF (f:=(fun x:Int=>Value.int .i64 x)) (u:=E) (t:=3) (x:=(.tmp 99)) (y:=(.tmp 98)) kr (ev (.pointer (some ⟨o,Int.toNat c.1,none⟩))) (ev (vI E)) g.f1 c4 rfl kr fun f9 g=> ?_)));have d0:List.length (List.set v.2 (Int.toNat c.1) E)=(Int.toNat (p0.2.2.2.length:Int)):=vY F _ _;refine aS rfl (bI (aD (aX (aA 3 [(8,vI (wr (v.1-1)))] (aS rfl ?_)))));have hL:=c7 _ (sI i)
      exact xE (cE ⟨(wr (v.1-1),List.set v.2 (Int.toNat c.1) E),D,hL,rfl,q,g.f1,a,l,n,M,d0⟩)
     intro o7 i K;refine eC [(19,fun w'=>Inv p w'/\Piece.holds p w' (kB S (V8 s z B) 61)/\True)] kr g fun f9 _ g=> ?_;have E:=p.le_refl;refine⟨⟨.inr ⟨Inv.anti g.inv E,Piece.holds_anti g.h E,trivial⟩,trivial⟩,?_⟩;refine aR 0 70 (vP S 4) (.head _) (dM 22 70 1 71 4 (vS z s.2.2.2.2 B) (.head _) (fun _ h=>h.2.1) (aR 2 72 (vI v.1) (.head _) ?_));have⟨x4,d9,i⟩:=aW i;refine iY (t:=22) (e:=3) (x:=(.tmp 71)) (y:=(.tmp 72)) 3 73 (aV .i64) kr rfl kr (.head _) (bK (bK (cP (bK (bK (cP (cP (bK (bK (cP (bK eT))))))))))) (ev (vS z s.2.2.2.2 B)) (ev (vI v.1)) kr M d9 ?_;rintro b6 f3 d6 rfl d0;refine eP 3 73 4 74 f3 (vI x4) (.head _) (fun _ h=>h.1) d0 (aR 5 75 (.slice (aP o) (Int.toNat (p0.2.2.2.length:Int)) (Int.toNat (p0.2.2.2.length:Int))) (.head _) (aR 6 76 (vI c.1) (.head _) ?_));have⟨x5,b9,i⟩:=aW i;refine cB 7 kr (pH (d:=77) (t:=22) (e:=3) (x:=(.tmp 75)) (y:=(.tmp 76)) kr rfl (ev (.slice (aP o) (Int.toNat (p0.2.2.2.length:Int)) (Int.toNat (p0.2.2.2.length:Int)))) (ev (vI c.1)) kr F b9 (⟨⟨.inr ⟨Inv.anti g.inv E,Piece.holds_anti g.h E,trivial⟩,trivial⟩,?_⟩));refine cB 8 kr (yH (d:=78) (t:=3) (x:=(.tmp 77)) kr rfl (ev (.pointer (some ⟨o,Int.toNat c.1,none⟩))) g.t.h b9 kr (⟨⟨.inr ⟨Inv.anti g.inv E,Piece.holds_anti g.h E,trivial⟩,trivial⟩,?_⟩))
     refine aR 9 79 (vI (wr (x5-1))) (.head _) (aR 10 80 (vB (x4 !=(wr (x5-1)))) (.head _) (aR 11 81 (vB (x4 !=(wr (x5-1)))) (.head _) ?_));rcases eA (x4 !=(wr (x5-1))) with A|A
     .rw[if_pos A] at i;refine XN (t:=81) (b:=true) (x4 !=(wr (x5-1))) kr A ?_;refine CS 12 82 (.head _) (CS 13 83 (.head _) (CS 14 84 (.head _) (CS 15 85 (.head _) (CS 16 86 (.head _) (CS 17 87 (.head _) (aR 18 88 (vB true) (.head _) ?_))))));cases i;exact dU kr (CT _ kr (K _ _ ⟨p,rfl,q,g.f1.f1,a,l,n,M,F⟩))
     rw[if_neg (not_true A)] at i;refine XN (t:=81) (b:=false) (x4 !=(wr (x5-1))) kr A ?_;refine aR 12 82 (vP S 4) (.head _) (dM 22 82 13 83 4 (vS z s.2.2.2.2 B) (.head _) (fun _ h=>h.2.1) (aR 14 84 (vI v.1) (.head _) ?_));have⟨x6,c4,i⟩:=aW i;refine iY (t:=22) (e:=3) (x:=(.tmp 83)) (y:=(.tmp 84)) 15 85 (aV .i64) kr rfl kr (.head _) (bK (bK (cP (bK (bK (cP (cP (bK (bK (cP (bK eT))))))))))) (ev (vS z s.2.2.2.2 B)) (ev (vI v.1)) kr M c4 ?_;rintro b7 f4 d7 rfl d2;refine eP 3 85 16 86 f4 (vI x6) (.head _) (fun _ h=>h.1) d2 (aR 17 87 (vB (decide (x6<0))) (.head _) (aR 18 88 (vB (decide (x6<0))) (.head _) ?_));cases i;exact dU kr (CT _ kr (K _ _ ⟨p,rfl,q,g.f1.f1,a,l,n,M,F⟩))
    intro A i;refine cD (bD ?_);have ho:=a4 _ (sI i);have g:=g.f1.f1;refine bD ?_;exact xE (b0 _ _ ⟨v.2,p,ho,rfl,q,g,a,l,n,M,F⟩)
   intro A i;refine cD (bD ?_);have ho:=U _ (sI i);refine bD ?_;exact xE (a9 _ _ ⟨c.2,R,ho,rfl,q,g,a,l,n,a5⟩)
  intro v;refine cH _ kr (cG (fun B L' w'=>∃(p:Int),∃c,aI (xT N p0) B p=some a6/\L'=[(1,vP k 0),(25,vS a1 p0.2.2.1 c1),(26,vI (p0.2.2.1.length:Int)),(27,vI p)]/\m.le c/\St c (O) w'/\MRow c k 0 (Vb p0 a1 c1 a2 c2)/\P2 c a1 c1 a2 c2 p0.2.2) N ⟨0,Z,i,rfl,q,g,a,l,n⟩ ?_);rintro B _ U ⟨p,c,hL,rfl,q,g,a,l,n⟩;rcases B with _|B
  .exact cJ hL
  obtain⟨R,i,D,s⟩:=cL hL;clear hL;unfold xT at i;refine aB 1 [(28,vB (decide (p<(p0.2.2.1.length:Int))))] (aE ?_);refine aG i ?_ ?_
  .intro A i;refine aM (aD (aE (bA (aC (dQ 29 l i ?_)))));rintro x1 i S F M rfl E;refine dV 30 9 29 F (vT x1) g E (aF 1 [(4,vT x1)] (aC (cU 8 i (fun o4 L' w'=>∃o,L'=[(1,vP k 0),(25,vS a1 p0.2.2.1 c1),(26,vI (p0.2.2.1.length:Int)),(27,vI p),(38,vB o4)]/\m.le o/\St o (O) w'/\MRow o k 0 (Vb p0 a1 c1 a2 c2)/\P2 o a1 c1 a2 c2 p0.2.2) ?_ ?_)))
   .rintro o4 i _ z ⟨o,rfl,q,g,a,l,n⟩;refine aQ (aG i ?_ ?_)
    .intro A i;refine aB 1 [(2,vB false)] (aJ ?_);refine aZ (aL ?_);have ho:=s _ (sI i);subst ho;have i:=j3;refine aL (aZ (aL ?_));cases i;exact aO [2] [vB false] ⟨o,rfl,q,g⟩
    intro A i;refine aM (bI (aD (aX (aA 2 [(27,vI (wr (p+1)))] (aS rfl ?_)))));have hL:=D _ (sI i);exact xE (cE ⟨wr (p+1),o,hL,rfl,q,g,a,l,n⟩)
   intro o4 i K;refine aA 1 [(31,vP k 0)] (bJ 32 (vI p0.1) g a (aA 2 [(34,vB (p0.1 !=1))] (bC 34 i ?_ ?_)))
   .intro A i;refine aA 4 [(38,vB true)] ?_;cases i;exact aU _ kr (K _ _ ⟨c,rfl,q,g,a,l,n⟩)
   intro A i;refine aA 1 [(35,vT x1)] (aK 36 i (FK g) ?_);rintro H i _ Y ⟨G,rfl,z,g⟩;refine aA 2 [(38,vB (!H))] ?_;cases i;exact aU _ kr (K _ _ ⟨G,rfl,q.t z,g,a.mono z,l.mono z,n.mono z⟩)
  intro A i;refine cD (bD ?_);have ho:=s _ (sI i);refine bD ?_;exact xE (v _ _ ⟨(),c,ho,rfl,q,g,a,l,n⟩)
 intro p;refine bA (aE (aB 2 [(11,vB (p0.1==1))] (cC .normal i (fun o2 L' w'=>∃c,L'=[(1,vP k 0),(10,vI p0.1),(11,vB o2)]/\m.le c/\St c (O) w'/\MRow c k 0 (Vb p0 a1 c1 a2 c2)/\P2 c a1 c1 a2 c2 p0.2.2) ?_ ?_)))
 .rintro o2 i _ B ⟨c,rfl,q,g,a,l,n⟩;refine aD (aG i ?_ ?_)
  .intro A i;refine aT 1 [(14,vP k 1)] ?_;refine bJ 15 (vT p0.2.1) g (a.drop 1) ?_;refine aK 16 i (FK g) ?_;rintro y1 i _ z ⟨v,rfl,o,g⟩;refine aF 1 [(17,vB (!y1))] (aG i ?_ ?_)
   .intro A i;refine aB 1 [(2,vB false)] (aJ ?_);refine aZ ?_;cases i;have i:=j1;refine aL ?_;cases i;exact aO [2] [vB false] ⟨v,rfl,q.t o,g⟩
   intro A i;refine aM (bI ?_);have s:=jG i;exact xE (p _ _ ⟨(),v,s,rfl,q.t o,g,a.mono o,l.mono o,n.mono o⟩)
  intro A i;refine aB 2 [(18,vB (p0.1==3))] (aG i ?_ ?_)
  .intro A i;refine aT 1 [(20,vP k 1)] ?_;refine bJ 21 (vT p0.2.1) g (a.drop 1) ?_;refine aK 22 i (JQ g) ?_;rintro z i _ D ⟨v,rfl,o,g⟩;refine aF 1 [(23,vB (!z))] (aG i ?_ ?_)
   .intro A i;refine aB 1 [(2,vB false)] (aJ ?_);refine aZ ?_;cases i;have i:=j1;refine aL ?_;cases i;exact aO [2] [vB false] ⟨v,rfl,q.t o,g⟩
   intro A i;refine aM (bI ?_);have s:=jG i;exact xE (p _ _ ⟨(),v,s,rfl,q.t o,g,a.mono o,l.mono o,n.mono o⟩)
  intro A i;refine aB 1 [(2,vB false)] (aJ ?_);refine aZ ?_;cases i;have i:=j1;refine aL ?_;cases i;exact aO [2] [vB false] ⟨c,rfl,q,g⟩
 intro o2 i o;refine aG i ?_ ?_
 .intro A i;refine aM ?_;cases i;exact xE (o _ _ ⟨m1,rfl,q.t V,g,a,l.mono V,n.mono V⟩)
 intro A i;refine aX (aA 2 [(11,vB (p0.1==2))] (aS rfl ?_));cases i;exact xE (o _ _ ⟨m1,rfl,q.t V,g,a,l.mono V,n.mono V⟩)
def AZ(N:Nat)(p0:eF)(a:Int):Td:=
 if(decide (a<(List.length p0.2.1:Int)))=true then((idx p0.2.1 a).bind fun x1=>(sJ N x1).bind fun b=>if(!b)=true then(some (.inr (.inr (false)))) else(some (.inl (IntKind.wrap .i64 (a+1))))) else(some (.inr (.inl ())))
def AY(N:Nat)(p0:eF)(a:Int):Td:=
 if(decide (a<(List.length p0.2.2:Int)))=true then((idx p0.2.2 a).bind fun b=>(BD N b).bind fun b=>if(!b)=true then(some (.inr (.inr (false)))) else(some (.inl (IntKind.wrap .i64 (a+1))))) else(some (.inr (.inl ())))
def BJ(N:Nat)(p0:eF):Te:=
 (sJ N p0.1).bind fun y1=>if(!y1)=true then(some false) else((aI (AZ N p0) N 0).bind fun a=>(match a with| .inl a=>(aI (AY N p0) N 0).bind fun a=>(match a with| .inl o2=>some true| .inr (z)=>some z)| .inr (z)=>some z))
theorem qCv{p0:eF}{r:Bool}(g:St m (O) w)(l:RepS aH m a1 c1 p0.2.1)(b:RepS C4 m a2 c2 p0.2.2)(i:BJ N p0=some r):Calls prog 45 #[.agg (V6 p0 a1 c1 a2 c2)] w fun e w'=>∃m',e= .returned (vB r)/\m.le m'/\St m' (O) w':=by
 unfold BJ at i;have q:=m.le_refl;refine bF func45 rfl ntmps45 ?_;refine aC (iE 1 29 (.agg (V6 p0 a1 c1 a2 c2)) g fun c m1 w1 v g a=>(aF 1 [] (aE (aT 1 [(7,vP c 0)] (bJ 8 (vT p0.1) g a (aK 9 i (FK g) ?_))))));rintro y1 i _ w2 ⟨S,rfl,d,g⟩;refine aF 1 [(10,vB (!y1))] (aG i ?_ ?_)
 .intro A i;refine aB 1 [(2,vB false)] (aJ ?_);refine aL ?_;cases i;exact aO [2] [vB false] ⟨S,rfl,(q.t v).t d,g⟩
 intro A i;refine aM (aD (aE (aT 1 [(11,vP c 1)] (bJ 12 (vS a1 p0.2.1 c1) g ((a.mono d).drop 1) (aF 2 [(13,vI (p0.2.1.length:Int)),(14,vI 0)] (bA ?_))))));have⟨s,i,M⟩:=aW i;refine cO (.exit 0) (fun L' w'=>∃(V:Unit),∃f,(.inl V)=s/\L'=[(1,vP c 0)]/\m.le f/\St f (O) w'/\MRow f c 0 (Va p0 a1 c1 a2 c2)/\P5 f a1 c1 a2 c2 p0.2) ?_ ?_
 .rintro _ w3 ⟨V,f,rfl,rfl,q,g,a,l,b⟩;have i:=M;refine cK (aD (aE (aT 1 [(22,vP c 2)] (bJ 23 (vS a2 p0.2.2 c2) g (a.drop 2) (aF 2 [(24,vI (p0.2.2.length:Int)),(25,vI 0)] (bA ?_))))));have⟨p,i,R⟩:=aW i;refine cO (.exit 2) (fun L' w'=>∃(o2:Unit),∃y,(.inl o2)=p/\L'=[]/\m.le y/\St y (O) w') ?_ ?_
  .rintro _ k ⟨o2,y,rfl,rfl,q,g⟩;have i:=R;refine cK (aD (aB 1 [(2,vB true)] (aJ ?_)));cases i;exact aO [2] [vB true] ⟨y,rfl,q,g⟩
  intro u;refine cH _ kr (cG (fun x L' w'=>∃(k:Int),∃o,aI (AY N p0) x k=some p/\L'=[(23,vS a2 p0.2.2 c2),(24,vI (p0.2.2.length:Int)),(25,vI k)]/\m.le o/\St o (O) w'/\RepS C4 o a2 c2 p0.2.2) N ⟨0,f,i,rfl,q,g,b⟩ ?_);rintro x _ w7 ⟨k,o,hL,rfl,q,g,b⟩;rcases x with _|x
  .exact cJ hL
  obtain⟨a6,i,H,n⟩:=cL hL;clear hL;unfold AY at i;refine aB 1 [(26,vB (decide (k<(p0.2.2.length:Int))))] (aE ?_);refine aG i ?_ ?_
  .intro A i;refine aM (aD (aE (bA (aC (dQ 27 b i ?_)))));rintro z i b3 Y a5 ⟨_,_,rfl,rfl,⟨_,_,rfl,rfl,⟨_,_,rfl,⟨B,E,rfl,Z⟩,⟨D,F,rfl,r4⟩⟩⟩⟩ K;refine dV 28 43 27 Y (.agg (V7 z B E D F)) g K (cZ 6 43 (.agg #[vI 0,vT eB,v7,v7]) g fun b4 w8 g=>(cA (.agg (V7 z B E D F)) g fun w9 g=>(aQ (aC (bE 29 (.agg (V7 z B E D F)) g.h (aK 30 i (qCt (p0:=z) g Z r4) ?_))))));rintro y3 i _ a7 ⟨U,rfl,G,g⟩;refine aF 1 [(31,vB (!y3))] (aG i ?_ ?_)
   .intro A i;refine aB 1 [(2,vB false)] (aJ ?_);refine aZ (aL ?_);have ho:=n _ (sI i);subst ho;have i:=R;refine aL (aZ (aL ?_));cases i;exact aO [2] [vB false] ⟨U,rfl,q.t G,g.t⟩
   intro A i;refine aM (bI (aD (aX (aA 2 [(25,vI (wr (k+1)))] (aS rfl ?_)))));have hL:=H _ (sI i);exact xE (cE ⟨wr (k+1),U,hL,rfl,q.t G,g.t,b.mono G⟩)
  intro A i;refine cD (bD ?_);have ho:=n _ (sI i);refine bD ?_;exact xE (u _ _ ⟨(),o,ho,rfl,q,g⟩)
 intro u;refine cH _ kr (cG (fun x L' w'=>∃(n:Int),∃k,aI (AZ N p0) x n=some s/\L'=[(1,vP c 0),(12,vS a1 p0.2.1 c1),(13,vI (p0.2.1.length:Int)),(14,vI n)]/\m.le k/\St k (O) w'/\MRow k c 0 (Va p0 a1 c1 a2 c2)/\P5 k a1 c1 a2 c2 p0.2) N ⟨0,S,i,rfl,(q.t v).t d,g,a.mono d,(l.mono v).mono d,(b.mono v).mono d⟩ ?_);rintro x _ K ⟨n,k,hL,rfl,q,g,a,l,b⟩;rcases x with _|x
 .exact cJ hL
 obtain⟨G,i,y,p⟩:=cL hL;clear hL;unfold AZ at i;refine aB 1 [(15,vB (decide (n<(p0.2.1.length:Int))))] (aE ?_);refine aG i ?_ ?_
 .intro A i;refine aM (aD (aE (bA (aC (dQ 16 l i ?_)))));rintro x1 i H D F rfl z;refine dV 17 9 16 D (vT x1) g z (aF 1 [(4,vT x1)] (aC (aA 1 [(18,vT x1)] (aK 19 i (FK g) ?_))));rintro E i _ R ⟨B,rfl,o,g⟩;refine aF 1 [(20,vB (!E))] (aG i ?_ ?_)
  .intro A i;refine aB 1 [(2,vB false)] (aJ ?_);refine aZ (aL ?_);have ho:=p _ (sI i);subst ho;have i:=M;refine aL (aZ (aL ?_));cases i;exact aO [2] [vB false] ⟨B,rfl,q.t o,g⟩
  intro A i;refine aM (bI (aD (aX (aA 2 [(14,vI (wr (n+1)))] (aS rfl ?_)))));have hL:=y _ (sI i);exact xE (cE ⟨wr (n+1),B,hL,rfl,q.t o,g,a.mono o,l.mono o,b.mono o⟩)
 intro A i;refine cD (bD ?_);have ho:=p _ (sI i);refine bD ?_;exact xE (u _ _ ⟨(),k,ho,rfl,q,g,a,l,b⟩)
def tE(N:Nat)(p0:T6)(p1:BA)(a:Int):qN:=
 if(decide (a<(List.length p0:Int)))=true then((idx p0 a).bind fun x1=>if(p1.toList==x1.toList)=true then(some (.inr (.inr (a)))) else(some (.inl (IntKind.wrap .i64 (a+1))))) else(some (.inr (.inl ())))
def wU(N:Nat)(p0:T6)(p1:BA):T8:=
 (aI (tE N p0 p1) N 0).bind fun a=>(match a with| .inl a=>some (-1)| .inr (z)=>some z)
theorem QT{p0:T6}{p1:BA}{r:Int}(g:St m (O) w)(l:RepS aH m a1 c1 p0)(i:wU N p0 p1=some r):Calls prog 123 #[vS a1 p0 c1,vT p1] w fun e w'=>∃m',e= .returned (vI r)/\m.le m'/\St m' (O) w':=by
 unfold wU at i;have q:=m.le_refl;refine bF func123 rfl ntmps123 ?_;refine aB 1 [] (aE ?_);refine aB 3 [(7,vI (p0.length:Int)),(8,vI 0)] (bA ?_);have⟨d,i,p⟩:=aW i;refine cO (.exit 0) (fun L' w'=>∃(s:Unit),∃k,(.inl s)=d/\L'=[]/\m.le k/\St k (O) w') ?_ ?_
 .rintro _ a ⟨s,k,rfl,rfl,q,g⟩;have i:=p;refine cK (aD (aB 1 [(4,vI (-1))] (aJ ?_)));cases i;exact aO [4] [vI (-1)] ⟨k,rfl,q,g⟩
 intro f;refine cH _ kr (cG (fun h L' w'=>∃(a:Int),∃b,aI (tE N p0 p1) h a=some d/\L'=[(0,vS a1 p0 c1),(1,vT p1),(7,vI (p0.length:Int)),(8,vI a)]/\m.le b/\St b (O) w'/\RepS aH b a1 c1 p0) N ⟨0,m,i,rfl,q,g,l⟩ ?_);rintro h _ y ⟨a,b,hL,rfl,q,g,l⟩;rcases h with _|h
 .exact cJ hL
 obtain⟨v,i,n,c⟩:=cL hL;clear hL;unfold tE at i;refine aB 1 [(9,vB (decide (a<(p0.length:Int))))] (aE ?_);refine aG i ?_ ?_
 .intro A i;refine aM (aD (aE (bA (aB 2 [(5,vI a)] (aC (aA 3 [(11,vT p1),(12,vS a1 p0 c1),(13,vI a)] (dQ 14 l i ?_)))))));rintro x1 i x t u rfl o;refine dV 15 9 14 t (vT x1) g o (aF 1 [(16,vB (p1.toList==x1.toList))] (aG i ?_ ?_))
  .intro A i;refine aB 2 [(4,vI a)] (aJ ?_);refine aZ (aL ?_);have ho:=c _ (sI i);subst ho;have i:=p;refine aL (aZ (aL ?_));obtain rfl:=sI i;exact aO [4] [vI a] ⟨b,rfl,q,g⟩
  intro A i;refine aM (bI (aD (aX (aA 2 [(8,vI (wr (a+1)))] (aS rfl ?_)))));have hL:=n _ (sI i);exact xE (cE ⟨wr (a+1),b,hL,rfl,q,g,l⟩)
 intro A i;refine cD (bD ?_);have ho:=c _ (sI i);refine bD ?_;exact xE (f _ _ ⟨(),b,ho,rfl,q,g⟩)
def sB(N:Nat)(p0:T6)(p1:BA):Te:=
 (wU N p0 p1).bind fun y1=>some (decide (y1>=0))
theorem IM{p0:T6}{p1:BA}{r:Bool}(g:St m (O) w)(c:RepS aH m a1 c1 p0)(i:sB N p0 p1=some r):Calls prog 89 #[vS a1 p0 c1,vT p1] w fun e w'=>∃m',e= .returned (vB r)/\m.le m'/\St m' (O) w':=by
 unfold sB at i;have q:=m.le_refl;refine bF func89 rfl ntmps89 ?_;refine aB 1 [] (aC ?_);refine aA 2 [(5,vS a1 p0 c1),(6,vT p1)] (aK 7 i (QT g c) ?_);rintro y1 i _ d ⟨b,rfl,a,g⟩;refine aF 2 [(4,vB (decide (y1>=0)))] (aJ ?_);obtain rfl:=sI i;exact aO [4] [vB (decide (y1>=0))] ⟨b,rfl,q.t a,g⟩
def AB(N:Nat)(p0:T6)(a:Int):Td:=
 if(decide (a<(List.length p0:Int)))=true then((idx p0 a).bind fun x1=>(nH p0 0 a).bind fun b=>(sB N b x1).bind fun y1=>if y1=true then(some (.inr (.inr (true)))) else(some (.inl (IntKind.wrap .i64 (a+1))))) else(some (.inr (.inl ())))
def AQ(N:Nat)(p0:T6):Te:=
 (aI (AB N p0) N 0).bind fun a=>(match a with| .inl a=>some false| .inr (z)=>some z)
theorem RM{p0:T6}{r:Bool}(g:St m (O) w)(h:RepS aH m a1 c1 p0)(i:AQ N p0=some r):Calls prog 97 #[vS a1 p0 c1] w fun e w'=>∃m',e= .returned (vB r)/\m.le m'/\St m' (O) w':=by
 unfold AQ at i;have q:=m.le_refl;refine bF func97 rfl ntmps97 ?_;refine aB 1 [] (aE ?_);refine aB 3 [(5,vS a1 p0 c1),(6,vI (p0.length:Int)),(7,vI 0)] (bA ?_);have⟨f,i,u⟩:=aW i;refine cO (.exit 0) (fun L' w'=>∃(y:Unit),∃n,(.inl y)=f/\L'=[]/\m.le n/\St n (O) w') ?_ ?_
 .rintro _ a ⟨y,n,rfl,rfl,q,g⟩;have i:=u;refine cK (aD (aB 1 [(2,vB false)] (aJ ?_)));cases i;exact aO [2] [vB false] ⟨n,rfl,q,g⟩
 intro k;refine cH _ kr (cG (fun l L' w'=>∃(a:Int),∃c,aI (AB N p0) l a=some f/\L'=[(0,vS a1 p0 c1),(5,vS a1 p0 c1),(6,vI (p0.length:Int)),(7,vI a)]/\m.le c/\St c (O) w'/\RepS aH c a1 c1 p0) N ⟨0,m,i,rfl,q,g,h⟩ ?_);rintro l _ R ⟨a,c,hL,rfl,q,g,h⟩;rcases l with _|l
 .exact cJ hL
 obtain⟨F,i,p,b⟩:=cL hL;clear hL;unfold AB at i;refine aB 1 [(8,vB (decide (a<(p0.length:Int))))] (aE ?_);refine aG i ?_ ?_
 .intro A i;refine aM (aD (aE (bA (aT 1 [(9,vI a)] (dQ 10 h i ?_)))));rintro x1 i H B E rfl s;refine dV 11 9 10 B (vT x1) g s (aF 2 [(3,vI a),(4,vT x1)] (aC (aA 2 [(12,vS a1 p0 c1),(13,vI a)] ?_)));have⟨M,z,i⟩:=aW i;refine bB rfl (FX (d:=14) (t:=26) (e:=9) (x:=(.tmp 12)) (lo:=none) (hi:=(some (.tmp 13))) aH kr rfl (ev (vS a1 p0 c1)) kr h (.inl ⟨rfl,rfl⟩) (.inr ⟨_,_,rfl,(ev (vI a))⟩) z ?_);intro G K D;refine aA 1 [(15,vT x1)] (aK 16 i (IM g D) ?_);rintro y1 i _ S ⟨v,rfl,o,g⟩;refine aQ (aG i ?_ ?_)
  .intro A i;refine aB 1 [(2,vB true)] (aJ ?_);refine aZ (aL ?_);have ho:=b _ (sI i);subst ho;have i:=u;refine aL (aZ (aL ?_));cases i;exact aO [2] [vB true] ⟨v,rfl,q.t o,g⟩
  intro A i;refine aM (bI (aD (aX (aA 2 [(7,vI (wr (a+1)))] (aS rfl ?_)))));have hL:=p _ (sI i);exact xE (cE ⟨wr (a+1),v,hL,rfl,q.t o,g,h.mono o⟩)
 intro A i;refine cD (bD ?_);have ho:=b _ (sI i);refine bD ?_;exact xE (k _ _ ⟨(),c,ho,rfl,q,g⟩)
def zN(N:Nat)(p0:lR)(p1:uS)(a:Int):qN:=
 if(decide (a<(List.length p0:Int)))=true then((idx p0 a).bind fun x1=>if((p1.1==x1.1)&&((p1.2.toList==x1.2.toList)&&true))=true then(some (.inr (.inr (a)))) else(some (.inl (IntKind.wrap .i64 (a+1))))) else(some (.inr (.inl ())))
def IL(N:Nat)(p0:lR)(p1:uS):T8:=
 (aI (zN N p0 p1) N 0).bind fun a=>(match a with| .inl a=>some (-1)| .inr (z)=>some z)
theorem qAj{p0:lR}{p1:uS}{r:Int}(g:St m (O) w)(s:RepS C5 m a1 c1 p0)(i:IL N p0 p1=some r):Calls prog 154 #[vS a1 p0 c1,.agg (Vc p1)] w fun e w'=>∃m',e= .returned (vI r)/\m.le m'/\St m' (O) w':=by
 unfold IL at i;have q:=m.le_refl;refine bF func154 rfl ntmps154 ?_;refine aC (iE 3 132 (.agg (Vc p1)) g fun v H S z g c=>(aF 1 [] (aE (aB 3 [(7,vI (p0.length:Int)),(8,vI 0)] (bA ?_)))));have⟨l,i,D⟩:=aW i;refine cO (.exit 0) (fun L' w'=>∃(E:Unit),∃p,(.inl E)=l/\L'=[]/\m.le p/\St p (O) w') ?_ ?_
 .rintro _ a ⟨E,p,rfl,rfl,q,g⟩;have i:=D;refine cK (aD (aB 1 [(4,vI (-1))] (aJ ?_)));cases i;exact aO [4] [vI (-1)] ⟨p,rfl,q,g⟩
 intro n;refine cH _ kr (cG (fun o L' w'=>∃(a:Int),∃b,aI (zN N p0 p1) o a=some l/\L'=[(0,vS a1 p0 c1),(3,vP v 0),(7,vI (p0.length:Int)),(8,vI a)]/\m.le b/\St b (O) w'/\RepS C5 b a1 c1 p0/\MRow b v 0 [vI p1.1,vT p1.2]) N ⟨0,H,i,rfl,q.t z,g,s.mono z,c⟩ ?_);rintro o _ U ⟨a,b,hL,rfl,q,g,s,c⟩;rcases o with _|o
 .exact cJ hL
 obtain⟨M,i,u,f⟩:=cL hL;clear hL;unfold zN at i;refine aB 1 [(9,vB (decide (a<(p0.length:Int))))] (aE ?_);refine aG i ?_ ?_
 .intro A i;refine aM (aD (aE (bA (aB 2 [(5,vI a)] (aE (eC [(6,fun w'=>Inv b w'/\True)] kr g fun V _ g=> ?_))))));have k:=b.le_refl;refine tA g k ?_;refine eP 132 3 0 11 0 (.agg (Vc p1)) (.head _) (fun _ h=>h.1) c (aR 1 12 (vS a1 p0 c1) (.head _) (aR 2 13 (vI a) (.head _) ?_));have⟨x1,F,i⟩:=aW i;refine iY (t:=129) (e:=132) (x:=(.tmp 12)) (y:=(.tmp 13)) 3 14 C5 kr rfl kr (.head _) (bK (cP (bK (bK (cP (bK eT)))))) (ev (vS a1 p0 c1)) (ev (vI a)) kr s F ?_;rintro R G K ⟨_,_,rfl,rfl,rfl⟩ B;refine eP 132 14 4 15 G (.agg (Vc x1)) (.head _) (fun _ h=>h.1) B (cB 5 kr (qIb (d:=16) (t:=132) (t2:=132) (x:=(.tmp 11)) (y:=(.tmp 15)) (xs:=(Vc p1)) (ys:=(Vc x1)) ((p1.1==x1.1)&&((p1.2.toList==x1.2.toList)&&true)) kr rfl (ev (.agg (Vc p1))) (ev (.agg (Vc x1))) kr kr kr (tA g k (dU kr (aD (aG i ?_ ?_))))))
  .intro A i;refine aB 2 [(4,vI a)] (aJ ?_);refine aZ (aL ?_);have ho:=f _ (sI i);subst ho;have i:=D;refine aL (aZ (aL ?_));obtain rfl:=sI i;exact aO [4] [vI a] ⟨b,rfl,q,g⟩
  intro A i;refine aM (bI (aD (aX (aA 2 [(8,vI (wr (a+1)))] (aS rfl ?_)))));have hL:=u _ (sI i);exact xE (cE ⟨wr (a+1),b,hL,rfl,q,g,s,c⟩)
 intro A i;refine cD (bD ?_);have ho:=f _ (sI i);refine bD ?_;exact xE (n _ _ ⟨(),b,ho,rfl,q,g⟩)
def DO(N:Nat)(p0:lR)(p1:uS):Te:=
 (IL N p0 p1).bind fun y1=>some (decide (y1>=0))
theorem qAi{p0:lR}{p1:uS}{r:Bool}(g:St m (O) w)(f:RepS C5 m a1 c1 p0)(i:DO N p0 p1=some r):Calls prog 135 #[vS a1 p0 c1,.agg (Vc p1)] w fun e w'=>∃m',e= .returned (vB r)/\m.le m'/\St m' (O) w':=by
 unfold DO at i;have q:=m.le_refl;refine bF func135 rfl ntmps135 ?_;refine aC (iE 3 132 (.agg (Vc p1)) g fun h k l a g b=>(aF 1 [] (aC (aA 1 [(5,vS a1 p0 c1)] (bJ 6 (.agg (Vc p1)) g b (aK 7 i (qAj (p1:=p1) g (f.mono a)) ?_))))));rintro y1 i _ n ⟨d,rfl,c,g⟩;refine aF 2 [(4,vB (decide (y1>=0)))] (aJ ?_);obtain rfl:=sI i;exact aO [4] [vB (decide (y1>=0))] ⟨d,rfl,(q.t a).t c,g⟩
def zR(N:Nat)(p0:lR)(a:Int):Td:=
 if(decide (a<(List.length p0:Int)))=true then((idx p0 a).bind fun x1=>(nH p0 0 a).bind fun b=>(DO N b x1).bind fun y1=>if y1=true then(some (.inr (.inr (true)))) else(some (.inl (IntKind.wrap .i64 (a+1))))) else(some (.inr (.inl ())))
def DY(N:Nat)(p0:lR):Te:=
 (aI (zR N p0) N 0).bind fun a=>(match a with| .inl a=>some false| .inr (z)=>some z)
theorem qAw{p0:lR}{r:Bool}(g:St m (O) w)(k:RepS C5 m a1 c1 p0)(i:DY N p0=some r):Calls prog 98 #[vS a1 p0 c1] w fun e w'=>∃m',e= .returned (vB r)/\m.le m'/\St m' (O) w':=by
 unfold DY at i;have q:=m.le_refl;refine bF func98 rfl ntmps98 ?_;refine aB 1 [] (aE ?_);refine aB 3 [(5,vS a1 p0 c1),(6,vI (p0.length:Int)),(7,vI 0)] (bA ?_);have⟨f,i,v⟩:=aW i;refine cO (.exit 0) (fun L' w'=>∃(z:Unit),∃p,(.inl z)=f/\L'=[]/\m.le p/\St p (O) w') ?_ ?_
 .rintro _ a ⟨z,p,rfl,rfl,q,g⟩;have i:=v;refine cK (aD (aB 1 [(2,vB false)] (aJ ?_)));cases i;exact aO [2] [vB false] ⟨p,rfl,q,g⟩
 intro l;refine cH _ kr (cG (fun o L' w'=>∃(b:Int),∃c,aI (zR N p0) o b=some f/\L'=[(0,vS a1 p0 c1),(5,vS a1 p0 c1),(6,vI (p0.length:Int)),(7,vI b)]/\m.le c/\St c (O) w'/\RepS C5 c a1 c1 p0) N ⟨0,m,i,rfl,q,g,k⟩ ?_);rintro o _ U ⟨b,c,hL,rfl,q,g,k⟩;rcases o with _|o
 .exact cJ hL
 obtain⟨H,i,s,d⟩:=cL hL;clear hL;unfold zR at i;refine aB 1 [(8,vB (decide (b<(p0.length:Int))))] (aE ?_);refine aG i ?_ ?_
 .intro A i;refine aM (aD (aE (bA (aT 1 [(9,vI b)] (dQ 10 k i ?_)))));rintro x1 i M E G ⟨_,_,rfl,rfl,rfl⟩ u;refine dV 11 132 10 E (.agg (Vc x1)) g u (cZ 4 132 (.agg #[vI 0,vT eB]) g fun B V g=>(aA 1 [(3,vI b)] (cA (.agg (Vc x1)) g fun Y g=>(aQ (aE (eC [(5,fun w'=>Inv c w'/\Piece.holds c w' (kB B (Vc x1) 132)/\True)] kr g fun Z _ g=> ?_))))));have a:=c.le_refl;refine⟨⟨.inr ⟨Inv.anti g.inv a,Piece.holds_anti g.h a,trivial⟩,trivial⟩,?_⟩;refine aR 0 12 (vS a1 p0 c1) (.head _) (aR 1 13 (vI b) (.head _) ?_);have⟨S,D,i⟩:=aW i;refine WI (t:=129) (e:=132) (x:=(.tmp 12)) (lo:=none) (hi:=(some (.tmp 13))) 2 14 C5 kr rfl kr (.head _) (bK (cP (bK (bK (cP (bK eT)))))) (ev (vS a1 p0 c1)) kr k (.inl ⟨rfl,rfl⟩) (.inr ⟨_,_,rfl,(ev (vI b))⟩) D ?_;intro K R F;refine dM 132 4 3 15 0 (.agg (Vc x1)) (.head _) (fun _ h=>h.2.1) (cB 4 kr (eS 16 i (fun _ h=>qAi (p1:=x1) g F h) ?_));rintro y1 i _ w6 ⟨y,rfl,n,g⟩;refine⟨_,rfl,?_⟩;have a:=Mem.le_trans a n;refine⟨⟨.inr ⟨Inv.anti g.inv a,Piece.holds_anti g.h a,trivial⟩,trivial⟩,?_⟩;refine dU kr ?_;refine aD (aG i ?_ ?_)
  .intro A i;refine aB 1 [(2,vB true)] (aJ ?_);refine aZ (aL ?_);have ho:=d _ (sI i);subst ho;have i:=v;refine aL (aZ (aL ?_));cases i;exact aO [2] [vB true] ⟨y,rfl,q.t n,g.t⟩
  intro A i;refine aM (bI (aD (aX (aA 2 [(7,vI (wr (b+1)))] (aS rfl ?_)))));have hL:=s _ (sI i);exact xE (cE ⟨wr (b+1),y,hL,rfl,q.t n,g.t,k.mono n⟩)
 intro A i;refine cD (bD ?_);have ho:=d _ (sI i);refine bD ?_;exact xE (l _ _ ⟨(),c,ho,rfl,q,g⟩)
def xY(N:Nat)(p0:eF)(a:lR×Int):Option (lR×Int⊕lR⊕Bool):=
 if(decide (a.2<(List.length p0.2.2:Int)))=true then((idx p0.2.2 a.2).bind fun x1=>(AQ N x1.2.2.1).bind fun y1=>if y1=true then(some (.inr (.inr (true)))) else((cW 24 a.1 ([(x1.1,x1.2.1)])).bind fun b=>some (.inl (b,IntKind.wrap .i64 (a.2+1))))) else(some (.inr (.inl a.1)))
def BL(N:Nat)(p0:eF):Te:=
 (aI (xY N p0) N (([]:lR),0)).bind fun a=>(match a with| .inl a=>((sB N p0.2.1 p0.1).bind fun b=>if b=true then(some true) else((AQ N p0.2.1).bind fun b=>if b=true then(some true) else((DY N a).bind fun a=>some a)):Te).bind fun o2=>some o2| .inr (z)=>some z)
theorem qDh{p0:eF}{r:Bool}(g:St m (O) w)(l:RepS aH m a1 c1 p0.2.1)(v:RepS C4 m a2 c2 p0.2.2)(i:BL N p0=some r):Calls prog 46 #[.agg (V6 p0 a1 c1 a2 c2)] w fun e w'=>∃m',e= .returned (vB r)/\m.le m'/\St m' (O) w':=by
 unfold BL at i;have q:=m.le_refl;refine bF func46 rfl ntmps46 ?_;refine aC (iE 1 29 (.agg (V6 p0 a1 c1 a2 c2)) g fun c m1 w1 H g a=>(aF 1 [] (aC (aF 1 [(3,vS none ([]:lR) 0)] (aE (aT 1 [(6,vP c 2)] (bJ 7 (vS a2 p0.2.2 c2) g (a.drop 2) (aF 2 [(8,vI (p0.2.2.length:Int)),(9,vI 0)] (bA ?_)))))))));have⟨z,i,Z⟩:=aW i;refine cO (.exit 0) (fun L' w'=>∃(k:lR),∃n p f,(.inl k)=z/\L'=[(1,vP c 0),(3,vS n k p)]/\m.le f/\St f (kR n k p 132 2::O) w'/\MRow f c 0 (Va p0 a1 c1 a2 c2)/\RepS aH f a1 c1 p0.2.1/\RepS C4 f a2 c2 p0.2.2/\RepS C5 f n p k) ?_ ?_
 .rintro _ S ⟨k,n,p,f,rfl,rfl,q,g,a,l,v,B⟩;have i:=Z;refine cK (aD (aC (cU 15 i (fun o2 L' w'=>∃d,L'=[(2,vB o2)]/\m.le d/\St d (kR n k p 132 2::O) w') ?_ ?_)))
  .rintro o2 i _ b ⟨d,rfl,q,g⟩;refine aQ (aJ ?_);obtain rfl:=sI i;exact aO [2] [vB o2] ⟨d,rfl,q,g.t⟩
  intro o2 i K;refine aA 1 [(25,vP c 1)] (bJ 26 (vS a1 p0.2.1 c1) g (a.drop 1) (aA 1 [(27,vP c 0)] (bJ 28 (vT p0.1) g a (aK 29 i (IM g l) ?_))));rintro D i _ G ⟨x,rfl,b,g⟩;have q:=q.t b;refine aA 1 [(30,vB D)] (bC 30 i ?_ ?_)
  .intro A i;refine aA 9 [(2,vB true)] ?_;cases i;exact aU _ kr (K _ _ ⟨x,rfl,q,g⟩)
  intro A i;refine aA 1 [(31,vP c 1)] (bJ 32 (vS a1 p0.2.1 c1) g ((a.mono b).drop 1) (aK 33 i (RM g (l.mono b)) ?_));rintro E i _ M ⟨y,rfl,o,g⟩;refine aA 2 [(35,vB E)] (bC 35 i ?_ ?_)
  .intro A i;refine aA 4 [(2,vB true)] ?_;cases i;exact aU _ kr (K _ _ ⟨y,rfl,q.t o,g⟩)
  intro A i;refine aA 1 [(36,vS n k p)] (aK 37 i (qAw g ((B.mono b).mono o)) ?_);rintro F i _ R ⟨s,rfl,u,g⟩;refine aA 2 [(2,vB F)] ?_;cases i;exact aU _ kr (K _ _ ⟨s,rfl,(q.t o).t u,g⟩)
 intro B;refine cH _ kr (cG (fun E L' w'=>∃(b:lR×Int),∃o s d,aI (xY N p0) E b=some z/\L'=[(1,vP c 0),(3,vS o b.1 s),(7,vS a2 p0.2.2 c2),(8,vI (p0.2.2.length:Int)),(9,vI b.2)]/\m.le d/\St d (kR o b.1 s 132 2::O) w'/\MRow d c 0 (Va p0 a1 c1 a2 c2)/\RepS aH d a1 c1 p0.2.1/\RepS C4 d a2 c2 p0.2.2/\RepS C5 d o s b.1) N ⟨(([]:lR),0),none,0,m1,i,rfl,q.t H,(g.nilroom 132 2),a,l.mono H,v.mono H,(RepS.nil _ _)⟩ ?_);rintro E _ w3 ⟨b,o,s,d,hL,rfl,q,g,a,l,v,r4⟩;rcases E with _|E
 .exact cJ hL
 obtain⟨a9,i,M,y⟩:=cL hL;clear hL;unfold xY at i;refine aB 1 [(10,vB (decide (b.2<(p0.2.2.length:Int))))] (aE ?_);refine aG i ?_ ?_
 .intro A i;refine aM (aD (aE (bA (aC (dQ 11 v i ?_)))));rintro x1 i b2 f1 a8 ⟨_,_,rfl,rfl,⟨_,_,rfl,rfl,⟨_,_,rfl,⟨F,G,rfl,r5⟩,⟨R,U,rfl,r6⟩⟩⟩⟩ Y;refine dV 12 43 11 f1 (.agg (V7 x1 F G R U)) g Y (cZ 5 43 (.agg #[vI 0,vT eB,v7,v7]) g fun b3 w4 g=>(cA (.agg (V7 x1 F G R U)) g fun w5 g=>(aQ (aE (aC (bL 1 14 26 13 2 (vS F x1.2.2.1 G) g.h (aK 15 i (RM g r5) ?_)))))));rintro y1 i _ w6 ⟨m4,rfl,u,g⟩;refine aQ (aG i ?_ ?_)
  .intro A i;refine aT 1 [(2,vB true)] ?_;refine aS rfl ?_;have g:=g.f1.t;refine aD (aJ (aL (aZ (aL ?_))));have ho:=y _ (sI i);subst ho;have i:=Z;refine aL (aZ (aL ?_));cases i;exact aO [2] [vB true] ⟨m4,rfl,q.t u,g.t⟩
  intro A i;refine aM (aD (aX (aA 2 [(16,vS o b.1 s),(17,vP b3 0)] (bE 18 (vI x1.1) g.h (bL 1 20 9 19 1 (vT x1.2.1) g.h (aA 1 [(21,.agg #[vI x1.1,vT x1.2.1])] (eR 22 132 1 C5 [(x1.1,x1.2.1)] g fun b4 m5 w7 x g r7=>(iN 23 129 129 132 24 16 22 g.f2 (.inl kr) ((r4.mono u).mono x) r7.src i fun l1 i S V m6 w8 D g r8=>(aA 1 [(3,vS S l1 V)] (aS rfl ?_))))))))));have g:=g.f1.t;refine bI (aD (aX (aA 2 [(9,vI (wr (b.2+1)))] (aS rfl ?_))));have hL:=M _ (sI i);exact xE (cE ⟨(l1,wr (b.2+1)),S,V,m6,hL,rfl,((q.t u).t x).t D,g.f1.t,((a.mono u).mono x).mono D,((l.mono u).mono x).mono D,((v.mono u).mono x).mono D,r8⟩)
 intro A i;refine cD (bD ?_);have ho:=y _ (sI i);refine bD ?_;exact xE (B _ _ ⟨b.1,o,s,d,ho,rfl,q,g,a,l,v,r4⟩)
def BF(N:Nat)(x1:Tz)(d:pW)(x5:Tr)(a:pW):Option (pW⊕T9):=
 if(decide (a.1<(List.length x5.2.2.2.2:Int)))=true then(((idx x5.2.2.2.2 a.1).bind fun b=>(idx a.2 d.1).bind fun c=>(idx a.2 b).bind fun e=>(idx x1.2.2.2 d.1).bind fun d=>if(d.1 !=4)=true then((idx (List.set a.2 (Int.toNat b) c) b).bind fun d=>(idx (List.set a.2 (Int.toNat b) c) b).bind fun e=>some (List.set (List.set a.2 (Int.toNat b) c) (Int.toNat b) (IntKind.wrap .i64 (d+1)))) else(some (List.set a.2 (Int.toNat b) c)):Option T9).bind fun b=>some (.inl (IntKind.wrap .i64 (a.1+1),b))) else(some (.inr a.2))
def yC(N:Nat)(x1:Tz)(a:pW):Option (pW⊕T9⊕Bool):=
 if(decide (a.1>=0))=true then((idx a.2 a.1).bind fun b=>(if(b==0)=true then((idx a.2 a.1).bind fun b=>some (List.set a.2 (Int.toNat a.1) 1)) else(some a.2):Option T9).bind fun b=>(idx b a.1).bind fun c=>if(decide (c>32))=true then(some (.inr (.inr (true)))) else((idx x1.2.2.2 a.1).bind fun x5=>(aI (BF N x1 a x5) N (0,b)).bind fun b=>some (.inl (IntKind.wrap .i64 (a.1-1),b)))) else(some (.inr (.inl a.2)))
def BG(N:Nat)(p0:eF)(b:Int):Td:=
 if(decide (b<(List.length p0.2.2:Int)))=true then((idx p0.2.2 b).bind fun x1=>(if(decide ((List.length x1.2.2.1:Int)>8))=true then(some true) else(some (decide ((List.length x1.2.2.2:Int)>256))):Te).bind fun a=>if a=true then(some (.inr (.inr (true)))) else((qL 8 0 (List.length x1.2.2.2:Int)).bind fun a=>(aI (yC N x1) N (IntKind.wrap .i64 ((List.length x1.2.2.2:Int)-1),a)).bind fun a=>(match a with| .inl o4=>some (.inl (IntKind.wrap .i64 (b+1)))| .inr (z)=>some (.inr (.inr (z)))))) else(some (.inr (.inl ())))
def BP(N:Nat)(p0:eF):Te:=
 (if(decide ((List.length p0.2.1:Int)>8))=true then(some true) else(some (decide ((List.length p0.2.2:Int)>64))):Te).bind fun a=>if a=true then(some true) else((aI (BG N p0) N 0).bind fun a=>(match a with| .inl o2=>some false| .inr (z)=>some z))
theorem qDn{p0:eF}{r:Bool}(g:St m (O) w)(r1:RepS aH m a1 c1 p0.2.1)(c:RepS C4 m a2 c2 p0.2.2)(i:BP N p0=some r):Calls prog 47 #[.agg (V6 p0 a1 c1 a2 c2)] w fun e w'=>∃m',e= .returned (vB r)/\m.le m'/\St m' (O) w':=by
 unfold BP at i;have q:=m.le_refl;refine bF func47 rfl ntmps47 ?_;refine aC (iE 1 29 (.agg (V6 p0 a1 c1 a2 c2)) g fun b1 m1 w1 e1 g G=>(aF 1 [] (aE (aC ?_))));have⟨o1,i,J⟩:=aW i;refine rN (j:=10) (fun L' w'=>∃V,L'=[(1,vP b1 0),(18,vB o1)]/\m.le V/\St V (O) w'/\MRow V b1 0 (Va p0 a1 c1 a2 c2)/\P5 V a1 c1 a2 c2 p0.2) ?_ ?_
 .have i:=J;rintro _ w2 ⟨V,rfl,q,g,G,r1,c⟩;refine aQ (aG i ?_ ?_)
  .intro A i;refine aB 1 [(2,vB true)] (aJ ?_);refine aL ?_;cases i;exact aO [2] [vB true] ⟨V,rfl,q,g⟩
  intro A i;refine aM (aD (aE (aT 1 [(19,vP b1 2)] (bJ 20 (vS a2 p0.2.2 c2) g (G.drop 2) (aF 2 [(21,vI (p0.2.2.length:Int)),(22,vI 0)] (bA ?_))))));have⟨b8,i,j1⟩:=aW i;refine cO (.exit 0) (fun L' w'=>∃(o2:Unit),∃m3,(.inl o2)=b8/\L'=[]/\m.le m3/\St m3 (O) w') ?_ ?_
  .rintro _ a ⟨o2,m3,rfl,rfl,q,g⟩;have i:=j1;refine cK (aD (aB 1 [(2,vB false)] (aJ ?_)));cases i;exact aO [2] [vB false] ⟨m3,rfl,q,g⟩
  intro c7;refine cH _ kr (cG (fun k1 L' w'=>∃(B:Int),∃Y,aI (BG N p0) k1 B=some b8/\L'=[(20,vS a2 p0.2.2 c2),(21,vI (p0.2.2.length:Int)),(22,vI B)]/\m.le Y/\St Y (O) w'/\RepS C4 Y a2 c2 p0.2.2) N ⟨0,V,i,rfl,q,g,c⟩ ?_);rintro k1 _ w4 ⟨B,Y,hL,rfl,q,g,c⟩;rcases k1 with _|k1
  .exact cJ hL
  obtain⟨f9,i,e2,U⟩:=cL hL;clear hL;unfold BG at i;refine aB 1 [(23,vB (decide (B<(p0.2.2.length:Int))))] (aE ?_);refine aG i ?_ ?_
  .intro A i;refine aM (aD (aE (bA (aC (dQ 24 c i ?_)))));rintro x1 i b2 f1 f5 ⟨_,_,rfl,rfl,⟨_,_,rfl,rfl,⟨_,_,rfl,⟨p,s,rfl,o⟩,⟨k,l,rfl,n⟩⟩⟩⟩ e7;refine dV 25 43 24 f1 (.agg (V7 x1 p s k l)) g e7 (cZ 4 43 (.agg #[vI 0,vT eB,v7,v7]) g fun z w5 g=>(cA (.agg (V7 x1 p s k l)) g fun w6 g=>(aQ (aE (aC (cU 10 i (fun o3 L' w'=>∃Z,L'=[(4,vP z 0),(20,vS a2 p0.2.2 c2),(21,vI (p0.2.2.length:Int)),(22,vI B),(35,vB o3)]/\m.le Z/\St Z (kB z (V7 x1 p s k l) 43::O) w'/\RepS C4 Z a2 c2 p0.2.2/\P2 Z p s k l x1.2.2) ?_ ?_))))))
   .rintro o3 i _ w7 ⟨Z,rfl,q,g,c,o,n⟩;refine aQ (aG i ?_ ?_)
    .intro A i;refine aB 1 [(2,vB true)] (aJ ?_);refine aL (aZ (aL ?_));have ho:=U _ (sI i);subst ho;have i:=j1;refine aL (aZ (aL ?_));cases i;exact aO [2] [vB true] ⟨Z,rfl,q,g.t⟩
    intro A i;refine aM (aD (aC (bL 1 37 41 36 3 (vS k x1.2.2.2 l) g.h (aA 1 [(38,vI (x1.2.2.2.length:Int))] ?_))));have⟨l1,d2,i⟩:=aW i;refine bB rfl (MT (d:=39) (t:=22) (e:=3) (by_:=8) (x:=(.tmp 38)) (y:=(.tmp 38)) (fun x:Int=>Value.int .i64 x) kr rfl (ev (vI (x1.2.2.2.length:Int))) (ev (vI (x1.2.2.2.length:Int))) kr kr rfl g d2 fun a w8 e6 g=>(aF 1 [(5,.slice (aP a) (Int.toNat (x1.2.2.2.length:Int)) (Int.toNat (x1.2.2.2.length:Int)))] (aC (bL 1 41 41 40 3 (vS k x1.2.2.2 l) g.t.h (aF 3 [(6,vI (wr ((x1.2.2.2.length:Int)-1)))] (bA ?_))))));have⟨b9,i,j2⟩:=aW i;refine cO (.exit 2) (fun L' w'=>∃(o4:T9),∃m6,(.inl o4)=b9/\L'=[(20,vS a2 p0.2.2 c2),(21,vI (p0.2.2.length:Int)),(22,vI B)]/\m.le m6/\St m6 (kB z (V7 x1 p s k l) 43:: .blk a (.cells (iD (fun x:Int=>Value.int .i64 x) o4 []) 3 (0,0))::O) w'/\RepS C4 m6 a2 c2 p0.2.2/\RepS aH m6 p s x1.2.2.1/\RepS C3 m6 k l x1.2.2.2/\List.length o4=(Int.toNat (x1.2.2.2.length:Int))) ?_ ?_
    .rintro _ v ⟨o4,m6,rfl,rfl,q,g,c,o,n,b⟩;have i:=j2;refine cK (bI (aD (aX (aA 2 [(22,vI (wr (B+1)))] (aS rfl ?_)))));have hL:=e2 _ (sI i);exact xE (cE ⟨wr (B+1),m6,hL,rfl,q,g.t.t,c⟩)
    intro c8;refine cH _ kr (cG (fun k2 L' w'=>∃(b:pW),∃H,aI (yC N x1) k2 b=some b9/\L'=[(4,vP z 0),(5,.slice (aP a) (Int.toNat (x1.2.2.2.length:Int)) (Int.toNat (x1.2.2.2.length:Int))),(6,vI b.1),(20,vS a2 p0.2.2 c2),(21,vI (p0.2.2.length:Int)),(22,vI B)]/\m.le H/\St H (kB z (V7 x1 p s k l) 43:: .blk a (.cells (iD (fun x:Int=>Value.int .i64 x) b.2 []) 3 (0,0))::O) w'/\RepS C4 H a2 c2 p0.2.2/\RepS aH H p s x1.2.2.1/\RepS C3 H k l x1.2.2.2/\List.length b.2=(Int.toNat (x1.2.2.2.length:Int))) N ⟨(wr ((x1.2.2.2.length:Int)-1),l1),Z,i,rfl,q,g.f1,c,o,n,e6⟩ ?_);rintro k2 _ g2 ⟨b,H,hL,rfl,q,g,c,o,n,R⟩;rcases k2 with _|k2
    .exact cJ hL
    obtain⟨g0,i,e3,b0⟩:=cL hL;clear hL;unfold yC at i;refine aE (aB 2 [(45,vB (decide (b.1>=0)))] (aG i ?_ ?_))
    .intro A i;refine aM (aD (aE (bA (aE (aT 2 [(48,.slice (aP a) (Int.toNat (x1.2.2.2.length:Int)) (Int.toNat (x1.2.2.2.length:Int))),(49,vI b.1)] ?_)))));have⟨x2,d3,i⟩:=aW i;refine bB rfl (pH (d:=50) (t:=22) (e:=3) (x:=(.tmp 48)) (y:=(.tmp 49)) kr rfl (ev (.slice (aP a) (Int.toNat (x1.2.2.2.length:Int)) (Int.toNat (x1.2.2.2.length:Int)))) (ev (vI b.1)) kr R d3 (bB rfl (yH (d:=51) (t:=3) (x:=(.tmp 50)) kr rfl (ev (.pointer (some ⟨a,Int.toNat b.1,none⟩))) g.t.h d3 kr (aF 1 [(52,vB (x2==0))] (cC .normal i (fun o5 L' w'=>∃S,L'=[(4,vP z 0),(5,.slice (aP a) (Int.toNat (x1.2.2.2.length:Int)) (Int.toNat (x1.2.2.2.length:Int))),(6,vI b.1),(20,vS a2 p0.2.2 c2),(21,vI (p0.2.2.length:Int)),(22,vI B)]/\m.le S/\St S (kB z (V7 x1 p s k l) 43:: .blk a (.cells (iD (fun x:Int=>Value.int .i64 x) o5 []) 3 (0,0))::O) w'/\RepS C4 S a2 c2 p0.2.2/\RepS aH S p s x1.2.2.1/\RepS C3 S k l x1.2.2.2/\List.length o5=(Int.toNat (x1.2.2.2.length:Int))) ?_ ?_)))))
     .rintro o5 i _ g3 ⟨S,rfl,q,g,c,o,n,d7⟩;refine aD (aE (aT 2 [(56,.slice (aP a) (Int.toNat (x1.2.2.2.length:Int)) (Int.toNat (x1.2.2.2.length:Int))),(57,vI b.1)] ?_));have⟨x4,d5,i⟩:=aW i;refine bB rfl (pH (d:=58) (t:=22) (e:=3) (x:=(.tmp 56)) (y:=(.tmp 57)) kr rfl (ev (.slice (aP a) (Int.toNat (x1.2.2.2.length:Int)) (Int.toNat (x1.2.2.2.length:Int)))) (ev (vI b.1)) kr d7 d5 (bB rfl (yH (d:=59) (t:=3) (x:=(.tmp 58)) kr rfl (ev (.pointer (some ⟨a,Int.toNat b.1,none⟩))) g.t.h d5 kr (aF 1 [(60,vB (decide (x4>32)))] (aG i ?_ ?_)))))
      .intro A i;refine aB 1 [(2,vB true)] (aJ ?_);refine aL (aZ (aL ?_));have ho:=b0 _ (sI i);subst ho;have i:=j2;refine aL (aZ (aZ (aL ?_)));have ho:=U _ (sI i);subst ho;have i:=j1;refine aL (aZ (aL ?_));cases i;exact aO [2] [vB true] ⟨S,rfl,q,g.t.t⟩
      intro A i;refine aM (aD (aC (bL 1 62 41 61 3 (vS k x1.2.2.2 l) g.h (aA 1 [(63,vI b.1)] (dQ 64 n i ?_)))));rintro x5 i b5 f2 f6 ⟨_,_,rfl,rfl,⟨_,_,rfl,rfl,⟨_,_,rfl,rfl,⟨_,_,rfl,rfl,⟨a5,c5,rfl,r5⟩⟩⟩⟩⟩ e8;refine aA 1 [(65,.pointer (some ⟨b5,f2+4,none⟩))] (bJ 66 (vS a5 x5.2.2.2.2 c5) g (e8.drop 4) (aF 2 [(67,vI (x5.2.2.2.2.length:Int)),(68,vI 0)] (bA (cC (.exit 4) i (fun M L' w'=>∃(o6:T9),∃m9,o6=M/\L'=[(4,vP z 0),(5,.slice (aP a) (Int.toNat (x1.2.2.2.length:Int)) (Int.toNat (x1.2.2.2.length:Int))),(6,vI b.1),(20,vS a2 p0.2.2 c2),(21,vI (p0.2.2.length:Int)),(22,vI B)]/\m.le m9/\St m9 (kB z (V7 x1 p s k l) 43:: .blk a (.cells (iD (fun x:Int=>Value.int .i64 x) o6 []) 3 (0,0))::O) w'/\RepS C4 m9 a2 c2 p0.2.2/\RepS aH m9 p s x1.2.2.1/\RepS C3 m9 k l x1.2.2.2/\List.length o6=(Int.toNat (x1.2.2.2.length:Int))) ?_ ?_))))
      .rintro M i _ D ⟨o6,m9,rfl,rfl,q,g,c,o,n,v⟩;refine cK (bI (aD (aX (aA 3 [(6,vI (wr (b.1-1)))] (aS rfl ?_)))));have hL:=e3 _ (sI i);exact xE (cE ⟨(wr (b.1-1),o6),m9,hL,rfl,q,g.f1.f1,c,o,n,v⟩)
      intro M i c9;refine cH _ kr (cG (fun k3 L' w'=>∃(F:pW),∃v,aI (BF N x1 b x5) k3 F=some M/\L'=[(4,vP z 0),(5,.slice (aP a) (Int.toNat (x1.2.2.2.length:Int)) (Int.toNat (x1.2.2.2.length:Int))),(6,vI b.1),(20,vS a2 p0.2.2 c2),(21,vI (p0.2.2.length:Int)),(22,vI B),(66,vS a5 x5.2.2.2.2 c5),(67,vI (x5.2.2.2.2.length:Int)),(68,vI F.1)]/\m.le v/\St v (kB z (V7 x1 p s k l) 43:: .blk a (.cells (iD (fun x:Int=>Value.int .i64 x) F.2 []) 3 (0,0))::O) w'/\RepS C4 v a2 c2 p0.2.2/\RepS (aV .i64) v a5 c5 x5.2.2.2.2/\RepS aH v p s x1.2.2.1/\RepS C3 v k l x1.2.2.2/\List.length F.2=(Int.toNat (x1.2.2.2.length:Int))) N ⟨(0,o5),S,i,rfl,q,g.f1.f1,c,r5,o,n,d7⟩ ?_);rintro k3 _ g4 ⟨F,v,hL,rfl,q,g,c,r5,o,n,a7⟩;rcases k3 with _|k3
      .exact cJ hL
      obtain⟨g1,i,e4,e0⟩:=cL hL;clear hL;unfold BF at i;refine aB 1 [(69,vB (decide (F.1<(x5.2.2.2.2.length:Int))))] (aE ?_);refine aG i ?_ ?_
      .intro A i;refine aM (aD (aE (cC .normal i (fun o7 L' w'=>∃E,L'=[(4,vP z 0),(5,.slice (aP a) (Int.toNat (x1.2.2.2.length:Int)) (Int.toNat (x1.2.2.2.length:Int))),(6,vI b.1),(20,vS a2 p0.2.2 c2),(21,vI (p0.2.2.length:Int)),(22,vI B),(66,vS a5 x5.2.2.2.2 c5),(67,vI (x5.2.2.2.2.length:Int)),(68,vI F.1)]/\m.le E/\St E (kB z (V7 x1 p s k l) 43:: .blk a (.cells (iD (fun x:Int=>Value.int .i64 x) o7 []) 3 (0,0))::O) w'/\RepS C4 E a2 c2 p0.2.2/\RepS (aV .i64) E a5 c5 x5.2.2.2.2/\RepS aH E p s x1.2.2.1/\RepS C3 E k l x1.2.2.2/\List.length o7=(Int.toNat (x1.2.2.2.length:Int))) ?_ ?_)))
       .rintro o7 i _ a8 ⟨E,rfl,q,g,c,r5,o,n,D⟩;refine aD (aX (aA 2 [(68,vI (wr (F.1+1)))] (aS rfl ?_)));have hL:=e4 _ (sI i);exact xE (cE ⟨(wr (F.1+1),o7),E,hL,rfl,q,g.f1.f1,c,r5,o,n,D⟩)
       intro o7 i d0;refine bA (aC (dQ 70 r5 i ?_));rintro D i b6 f3 f7 rfl e9;refine dV 71 3 70 f3 (vI D) g e9 (aF 1 [(8,vI D)] (aC (aA 4 [(72,.slice (aP a) (Int.toNat (x1.2.2.2.length:Int)) (Int.toNat (x1.2.2.2.length:Int))),(73,vI D),(74,.slice (aP a) (Int.toNat (x1.2.2.2.length:Int)) (Int.toNat (x1.2.2.2.length:Int))),(75,vI b.1)] ?_)));have⟨x7,d8,i⟩:=aW i;refine bB rfl (pH (d:=76) (t:=22) (e:=3) (x:=(.tmp 74)) (y:=(.tmp 75)) kr rfl (ev (.slice (aP a) (Int.toNat (x1.2.2.2.length:Int)) (Int.toNat (x1.2.2.2.length:Int)))) (ev (vI b.1)) kr a7 d8 (bB rfl (yH (d:=77) (t:=3) (x:=(.tmp 76)) kr rfl (ev (.pointer (some ⟨a,Int.toNat b.1,none⟩))) g.t.h d8 kr ?_)));have⟨x8,d9,i⟩:=aW i;refine bB rfl (pH (d:=78) (t:=22) (e:=3) (x:=(.tmp 72)) (y:=(.tmp 73)) kr rfl (ev (.slice (aP a) (Int.toNat (x1.2.2.2.length:Int)) (Int.toNat (x1.2.2.2.length:Int)))) (ev (vI D)) kr a7 d9 (bB rfl (yF (f:=(fun x:Int=>Value.int .i64 x)) (u:=x7) (t:=3) (x:=(.tmp 78)) (y:=(.tmp 77)) kr (ev (.pointer (some ⟨a,Int.toNat D,none⟩))) (ev (vI x7)) g.f1 d9 rfl kr fun g5 g=> ?_)));have a8:List.length (List.set F.2 (Int.toNat D) x7)=(Int.toNat (x1.2.2.2.length:Int)):=vY a7 _ _;refine aQ (aC (bL 1 80 41 79 3 (vS k x1.2.2.2 l) g.t.h (aA 1 [(81,vI b.1)] (dQ 82 n i ?_))))
       rintro x9 i b7 f4 f8 ⟨_,_,rfl,rfl,⟨_,_,rfl,rfl,⟨_,_,rfl,rfl,⟨_,_,rfl,rfl,⟨a6,c6,rfl,r6⟩⟩⟩⟩⟩ f0;refine aA 1 [(83,vP b7 f4)] (dV 84 3 83 f4 (vI x9.1) g f0 (aF 1 [(85,vB (x9.1 !=4))] (aG i ?_ ?_)))
       .intro A i;refine aX (aA 2 [(86,.slice (aP a) (Int.toNat (x1.2.2.2.length:Int)) (Int.toNat (x1.2.2.2.length:Int))),(87,vI D)] ?_);have⟨a9,d1,i⟩:=aW i;refine bB rfl (pH (d:=88) (t:=22) (e:=3) (x:=(.tmp 86)) (y:=(.tmp 87)) kr rfl (ev (.slice (aP a) (Int.toNat (x1.2.2.2.length:Int)) (Int.toNat (x1.2.2.2.length:Int)))) (ev (vI D)) kr a8 d1 (bB rfl (yH (d:=89) (t:=3) (x:=(.tmp 88)) kr rfl (ev (.pointer (some ⟨a,Int.toNat D,none⟩))) g.h d1 kr (aA 1 [(90,vI (wr (a9+1)))] ?_))));have⟨g7,d6,i⟩:=aW i;refine bB rfl (pH (d:=91) (t:=22) (e:=3) (x:=(.tmp 86)) (y:=(.tmp 87)) kr rfl (ev (.slice (aP a) (Int.toNat (x1.2.2.2.length:Int)) (Int.toNat (x1.2.2.2.length:Int)))) (ev (vI D)) kr a8 d6 (bB rfl (yF (f:=(fun x:Int=>Value.int .i64 x)) (u:=wr (a9+1)) (t:=3) (x:=(.tmp 91)) (y:=(.tmp 90)) kr (ev (.pointer (some ⟨a,Int.toNat D,none⟩))) (ev (vI (wr (a9+1)))) g d6 rfl kr fun g6 g=> ?_)));have e5:List.length (List.set (List.set F.2 (Int.toNat D) x7) (Int.toNat D) (wr (a9+1)))=(Int.toNat (x1.2.2.2.length:Int)):=vY a8 _ _;refine aS rfl (bI ?_);cases i;exact xE (d0 _ _ ⟨v,rfl,q,g.f1,c,r5,o,n,e5⟩)
       intro A i;refine aM (bI ?_);cases i;exact xE (d0 _ _ ⟨v,rfl,q,g.f1,c,r5,o,n,a8⟩)
      intro A i;refine cD (bD ?_);have ho:=e0 _ (sI i);have g:=g.f1.f1;refine bD ?_;exact xE (c9 _ _ ⟨F.2,v,ho,rfl,q,g,c,o,n,a7⟩)
     intro o5 i v;refine aG i ?_ ?_
     .intro A i;refine aX (aA 2 [(53,.slice (aP a) (Int.toNat (x1.2.2.2.length:Int)) (Int.toNat (x1.2.2.2.length:Int))),(54,vI b.1)] ?_);have⟨M,D,i⟩:=aW i;refine bB rfl (pH (d:=55) (t:=22) (e:=3) (x:=(.tmp 53)) (y:=(.tmp 54)) kr rfl (ev (.slice (aP a) (Int.toNat (x1.2.2.2.length:Int)) (Int.toNat (x1.2.2.2.length:Int)))) (ev (vI b.1)) kr R D (bB rfl (yF (f:=(fun x:Int=>Value.int .i64 x)) (u:=1) (t:=3) (x:=(.tmp 55)) (y:=(.const (vI 1))) kr (ev (.pointer (some ⟨a,Int.toNat b.1,none⟩))) (ev (vI 1)) g.f1 D rfl kr fun F g=> ?_)));have E:List.length (List.set b.2 (Int.toNat b.1) 1)=(Int.toNat (x1.2.2.2.length:Int)):=vY R _ _;refine aS rfl ?_;cases i;exact xE (v _ _ ⟨H,rfl,q,g.f1,c,o,n,E⟩)
     intro A i;refine aM ?_;cases i;exact xE (v _ _ ⟨H,rfl,q,g.f1.f1,c,o,n,R⟩)
    intro A i;refine cD (bD ?_);have ho:=b0 _ (sI i);have g:=g.f1.f1;refine bD ?_;exact xE (c8 _ _ ⟨b.2,H,ho,rfl,q,g,c,o,n,R⟩)
   intro o3 i K;refine bL 1 27 26 26 2 (vS p x1.2.2.1 s) g.h (aA 3 [(30,vB (decide ((x1.2.2.1.length:Int)>8)))] (bC 30 i ?_ ?_))
   .intro A i;refine aA 5 [(35,vB true)] ?_;cases i;exact aU _ kr (K _ _ ⟨Y,rfl,q,g,c,o,n⟩)
   intro A i;refine bL 1 32 41 31 3 (vS k x1.2.2.2 l) g.h (aA 3 [(35,vB (decide ((x1.2.2.2.length:Int)>256)))] ?_);cases i;exact aU _ kr (K _ _ ⟨Y,rfl,q,g,c,o,n⟩)
  intro A i;refine cD (bD ?_);have ho:=U _ (sI i);refine bD ?_;exact xE (c7 _ _ ⟨(),Y,ho,rfl,q,g⟩)
 intro K;refine aA 1 [(9,vP b1 1)] (bJ 10 (vS a1 p0.2.1 c1) g (G.drop 1) (aA 3 [(13,vB (decide ((p0.2.1.length:Int)>8)))] (bC 13 i ?_ ?_)))
 .intro A i;refine aA 5 [(18,vB true)] ?_;cases i;exact aU _ kr (K _ _ ⟨m1,rfl,q.t e1,g,G,r1.mono e1,c.mono e1⟩)
 intro A i;refine aA 1 [(14,vP b1 2)] (bJ 15 (vS a2 p0.2.2 c2) g (G.drop 2) (aA 3 [(18,vB (decide ((p0.2.2.length:Int)>64)))] ?_));cases i;exact aU _ kr (K _ _ ⟨m1,rfl,q.t e1,g,G,r1.mono e1,c.mono e1⟩)
def qC(N:Nat)(p0:eF):T8:=
 (BJ N p0).bind fun y1=>if(!y1)=true then(some 9) else((BL N p0).bind fun a=>if a=true then(some 10) else((BP N p0).bind fun a=>if a=true then(some 2) else(some 0)))
theorem RZ{p0:eF}{r:Int}(g:St m (O) w)(c:RepS aH m a1 c1 p0.2.1)(d:RepS C4 m a2 c2 p0.2.2)(i:qC N p0=some r):Calls prog 13 #[.agg (V6 p0 a1 c1 a2 c2)] w fun e w'=>∃m',e= .returned (vI r)/\m.le m'/\St m' (O) w':=by
 unfold qC at i;have q:=m.le_refl;refine bF func13 rfl ntmps13 ?_;refine aC (iE 1 29 (.agg (V6 p0 a1 c1 a2 c2)) g fun u v x f g b=> ?_);have c:=c.mono f;have d:=d.mono f;refine aF 1 [] (aE (bA (aC (bJ 4 (.agg (V6 p0 a1 c1 a2 c2)) g b (aK 5 i (qCv (p0:=p0) g c d) ?_)))));rintro y1 i _ y ⟨n,rfl,a,g⟩;refine aF 2 [(3,vB (!y1))] (aG i ?_ ?_)
 .intro A i;refine aB 1 [(2,vI 9)] (aJ ?_);refine aZ (aL ?_);cases i;exact aO [2] [vI 9] ⟨n,rfl,(q.t f).t a,g⟩
 intro A i;refine aC (bJ 8 (.agg (V6 p0 a1 c1 a2 c2)) g (b.mono a) (aK 9 i (qDh (p0:=p0) g (c.mono a) (d.mono a)) ?_));rintro p i _ z ⟨o,rfl,h,g⟩;have q:=((q.t f).t a).t h;refine aF 1 [(7,vB p)] (aG i ?_ ?_)
 .intro A i;refine aB 1 [(2,vI 10)] (aJ ?_);refine aZ (aL ?_);cases i;exact aO [2] [vI 10] ⟨o,rfl,q,g⟩
 intro A i;refine aC (bJ 11 (.agg (V6 p0 a1 c1 a2 c2)) g ((b.mono a).mono h) (aK 12 i (qDn (p0:=p0) g ((c.mono a).mono h) ((d.mono a).mono h)) ?_));rintro s i _ B ⟨l,rfl,k,g⟩;refine aF 1 [(10,vB s)] (aG i ?_ ?_)
 .intro A i;refine aB 1 [(2,vI 2)] (aJ ?_);refine aZ (aL ?_);cases i;exact aO [2] [vI 2] ⟨l,rfl,q.t k,g⟩
 intro A i;refine aM (bI (aD (aB 1 [(2,vI 0)] (aJ ?_))));cases i;exact aO [2] [vI 0] ⟨l,rfl,q.t k,g⟩
def yB(N:Nat)(p0:Int):T8:=
 (if(p0==6)=true then(some (p0==6)) else(some (p0==7)):Te).bind fun a=>if a=true then(some 1) else((if(p0==1)=true then(some (p0==1)) else(some (p0==2)):Te).bind fun o2=>if o2=true then(some 2) else(some 3))
theorem RQ{p0:Int}{r:Int}(g:St m (O) w)(i:yB N p0=some r):Calls prog 144 #[vI p0] w fun e w'=>∃m',e= .returned (vI r)/\m.le m'/\St m' (O) w':=by
 unfold yB at i;have q:=m.le_refl;refine bF func144 rfl ntmps144 ?_;refine aB 1 [] (aE ?_);refine aB 1 [(3,vI p0)] (bA ?_);refine aE (aB 2 [(4,vB (p0==6))] (cC .normal i (fun d L' w'=>∃a,L'=[(3,vI p0),(4,vB d)]/\m.le a/\St a (O) w') ?_ ?_))
 .rintro d i _ f ⟨a,rfl,q,g⟩;refine aD (aG i ?_ ?_)
  .intro A i;refine aB 1 [(2,vI 1)] (aJ ?_);refine aZ (aL ?_);cases i;exact aO [2] [vI 1] ⟨a,rfl,q,g⟩
  intro A i;refine aE (aB 2 [(7,vB (p0==1))] (cC .normal i (fun o2 L' w'=>∃b,L'=[(7,vB o2)]/\m.le b/\St b (O) w') ?_ ?_))
  .rintro o2 i _ c ⟨b,rfl,q,g⟩;refine aD (aG i ?_ ?_)
   .intro A i;refine aB 1 [(2,vI 2)] (aJ ?_);refine aZ (aL ?_);cases i;exact aO [2] [vI 2] ⟨b,rfl,q,g⟩
   intro A i;refine aM (bI (aD (aB 1 [(2,vI 3)] (aJ ?_))));cases i;exact aO [2] [vI 3] ⟨b,rfl,q,g⟩
  intro o2 i c;refine aG i ?_ ?_
  .intro A i;refine aM ?_;cases i;exact xE (c _ _ ⟨a,rfl,q,g⟩)
  intro A i;refine aX (aA 2 [(7,vB (p0==2))] (aS rfl ?_));cases i;exact xE (c _ _ ⟨a,rfl,q,g⟩)
 intro d i b;refine aG i ?_ ?_
 .intro A i;refine aM ?_;cases i;exact xE (b _ _ ⟨m,rfl,q,g⟩)
 intro A i;refine aX (aA 2 [(4,vB (p0==7))] (aS rfl ?_));cases i;exact xE (b _ _ ⟨m,rfl,q,g⟩)
def vL(N:Nat)(p0:Tr):T8:=
 if(p0.1==5)=true then(some 0) else(if(p0.1==4)=true then((yB N p0.2.2.1).bind fun y1=>some y1) else(some 4))
theorem RW{p0:Tr}{r:Int}(g:St m (O) w)(k:RepS (aV .i64) m a1 c1 p0.2.2.2.2)(i:vL N p0=some r):Calls prog 114 #[.agg (V8 p0 a1 c1)] w fun e w'=>∃m',e= .returned (vI r)/\m.le m'/\St m' (O) w':=by
 unfold vL at i;have q:=m.le_refl;refine bF func114 rfl ntmps114 ?_;refine aC (iE 1 61 (.agg (V8 p0 a1 c1)) g fun b c l d g a=> ?_);have q:=q.t d;refine aF 1 [] (aE (aT 1 [(3,vP b 0)] (bJ 4 (vI p0.1) g a (aQ (bA (aB 2 [(5,vB (p0.1==5))] (aG i ?_ ?_)))))))
 .intro A i;refine aB 1 [(2,vI 0)] (aJ ?_);refine aZ (aL ?_);cases i;exact aO [2] [vI 0] ⟨c,rfl,q,g⟩
 intro A i;refine aB 2 [(7,vB (p0.1==4))] (aG i ?_ ?_)
 .intro A i;refine aT 1 [(9,vP b 2)] ?_;refine bJ 10 (vI p0.2.2.1) g (a.drop 2) ?_;refine aK 11 i (RQ g) ?_;rintro y1 i _ n ⟨h,rfl,f,g⟩;refine aF 1 [(2,vI y1)] (aJ (aZ (aL ?_)));obtain rfl:=sI i;exact aO [2] [vI y1] ⟨h,rfl,q.t f,g⟩
 intro A i;refine aM (bI (aD (aB 1 [(2,vI 4)] (aJ ?_))));cases i;exact aO [2] [vI 4] ⟨c,rfl,q,g⟩
theorem bcc_true{b:Nat}{R:List Value}{e:Nat}(g:St m (.blk b (.cells ⟨vP b 0::R⟩ e (0,0))::O) w):
  Calls prog 76 #[vP b 0] w fun ex w'=>∃m':Mem,ex= .returned (.tuple #[])/\m.le m'/\St m' (.blk b (.cells ⟨vP b 0::R⟩ e (0,0))::O) w':=by
 have q:=m.le_refl;refine OZ func76 rfl ntmps76 [(0,vP b 0)] kr rfl ?_;refine aC (rR 3 [(4,vP b 0)] kr kr (bB rfl (BO (d:=5) (t:=63) (x:=(.tmp 4)) (vP b 0) kr rfl (ev (vP b 0)) g.h kr (rR 1 [(6,vB false)] kr kr (HE rfl (rQ false kr (fun h=>Bool.noConfusion h) fun _=>(aC (rR 3 [(16,vP b 0)] kr kr (bB rfl (BO (d:=17) (t:=63) (x:=(.tmp 16)) (vP b 0) kr rfl (ev (vP b 0)) g.h kr (rR 1 [(18,vP b 0)] kr kr (bB rfl (qEy (d:=19) (t:=63) (t2:=63) (r:=66) (x:=(.tmp 17)) (y:=(.tmp 18)) (a:=⟨b,0,none⟩) kr rfl (ev (vP b 0)) (ev (vP b 0)) kr kr (HE rfl (rQ false kr (fun h=>Bool.noConfusion h) fun _=>(aM (nS [] [] rfl ResAll.nil ?_)))))))))))))))));exact⟨m,rfl,q,g⟩
theorem qGx{b:Nat}{R:List Value}{e:Nat}(hl:liesAt prog prog.depth e ((⟨.pointer none::R⟩:Array Value).size/prog.cellsOf e) 0 66 1=true)(g:St m (.blk b (.cells ⟨.pointer none::R⟩ e (0,0))::O) w):
  Calls prog 76 #[vP b 0] w fun ex w'=>∃m':Mem,ex= .returned (.tuple #[])/\m.le m'/\St m' (.blk b (.cells ⟨vP b 0::R⟩ e (0,0))::O) w':=by
 have q:=m.le_refl;refine OZ func76 rfl ntmps76 [(0,vP b 0)] kr rfl ?_;refine aC (rR 3 [(4,vP b 0)] kr kr (bB rfl (BO (d:=5) (t:=63) (x:=(.tmp 4)) (.pointer none) kr rfl (ev (vP b 0)) g.h kr (rR 1 [(6,vB true)] kr kr (HE rfl (rQ true kr (fun _=> ?_) (fun h=>Bool.noConfusion h)))))));refine aX (rR 2 [(7,vP b 0),(8,vP b 0)] kr kr (bB rfl (qEe (d:=9) (src:=63) (dst:=143) (t:=66) (x:=(.tmp 8)) kr rfl (ev (vP b 0)) g.h kr kr kr (by simp) (bB rfl (qEq (d:=10) (f:=113) (ts:= #[143]) (x:=(.tmp 9)) (v:=vP b 0) kr rfl (ev (vP b 0)) func113 kr kr (bB rfl (qDl (d:=11) (src:=143) (dst:=63) (u:=66) (x:=(.tmp 10)) kr rfl (ev (vP b 0)) g.h kr kr kr hl (rR 2 [(13,vP b 0)] kr kr (bB rfl (JX (t:=63) (x:=(.tmp 13)) (y:=(.tmp 11)) (v:=vP b 0) (c':=⟨vP b 0::R⟩) kr (ev (vP b 0)) (ev (vP b 0)) g kr kr ?_))))))))));clear g;intro a g;refine aS rfl (nS [] [] rfl ResAll.nil ?_);exact⟨m,rfl,q,g⟩
theorem mX{b:Nat}{c0:Option Addr}{R:List Value}{e:Nat}(A:(c0=none/\liesAt prog prog.depth e ((⟨.pointer none::R⟩:Array Value).size/prog.cellsOf e) 0 66 1=true)\/c0=some ⟨b,0,none⟩)(g:St m (.blk b (.cells ⟨.pointer c0::R⟩ e (0,0))::O) w):
  Calls prog 76 #[vP b 0] w fun ex w'=>∃m':Mem,ex= .returned (.tuple #[])/\m.le m'/\St m' (.blk b (.cells ⟨vP b 0::R⟩ e (0,0))::O) w':=by
 rcases A with ⟨rfl,hl⟩|rfl
 .exact qGx hl g
 exact bcc_true g
end
section
open Go Go.Dc Go.Proofs.Tryz
set_option maxHeartbeats 4000000
set_option maxRecDepth 100000
variable {N bp0 c1 c2 c3:Nat} {m:Mem} {O:List Piece} {w:World} {a1 a2 a3:Option Addr}
def strconv_Itoa(_:Nat)(p0:Int):Tf:=
 LI p0
def qDj:Go.Shelf.Ren:=⟨fun|171=>116|243=>145|246=>159|283=>166|284=>167|285=>168|286=>169|129=>185|317=>187|318=>188|319=>189|320=>190|337=>201|338=>202|n=>n,fun|3=>3|9=>9|2=>2|4=>4|171=>174|0=>0|53=>155|37=>64|5=>5|173=>177|212=>194|51=>192|20=>20|213=>195|46=>173|232=>209|233=>210|n=>n,fun|17=>1|18=>2|19=>3|n=>n⟩
theorem qGm:Go.Proofs.LaysM.n171 prog qDj where
 mixed:=kr
 f129:=func185.trans (congrArg some kr)
 f171:=func116.trans (congrArg some kr)
 f243:=func145.trans (congrArg some kr)
 f246:=func159.trans (congrArg some kr)
 f283:=func166.trans (congrArg some kr)
 f284:=func167.trans (congrArg some kr)
 f285:=func168.trans (congrArg some kr)
 f286:=func169.trans (congrArg some kr)
 f317:=func187.trans (congrArg some kr)
 f318:=func188.trans (congrArg some kr)
 f319:=func189.trans (congrArg some kr)
 f320:=func190.trans (congrArg some kr)
 f337:=func201.trans (congrArg some kr)
 f338:=func202.trans (congrArg some kr)
 t0:=Tryz.underlying0
 a0:=Tryz.isAgg0
 z0:=Tryz.sizeOf0
 v0:=Tryz.zeroValue0
 t2:=Tryz.underlying2
 a2:=Tryz.isAgg2
 z2:=Tryz.sizeOf2
 v2:=Tryz.zeroValue2
 t3:=Tryz.underlying3
 a3:=Tryz.isAgg3
 z3:=Tryz.sizeOf3
 v3:=Tryz.zeroValue3
 t4:=Tryz.underlying4
 a4:=Tryz.isAgg4
 z4:=Tryz.sizeOf4
 v4:=Tryz.zeroValue4
 t5:=Tryz.underlying5
 a5:=Tryz.isAgg5
 z5:=Tryz.sizeOf5
 v5:=Tryz.zeroValue5
 t9:=Tryz.underlying9
 a9:=Tryz.isAgg9
 z9:=Tryz.sizeOf9
 v9:=Tryz.zeroValue9
 t20:=Tryz.underlying20
 a20:=Tryz.isAgg20
 z20:=Tryz.sizeOf20
 v20:=Tryz.zeroValue20
 t37:=Tryz.underlying64
 a37:=Tryz.isAgg64
 z37:=Tryz.sizeOf64
 v37:=Tryz.zeroValue64
 t46:=Tryz.underlying173
 a46:=Tryz.isAgg173
 z46:=Tryz.sizeOf173
 v46:=Tryz.zeroValue173
 t51:=Tryz.underlying192
 a51:=Tryz.isAgg192
 z51:=Tryz.sizeOf192
 v51:=Tryz.zeroValue192
 t53:=Tryz.underlying155
 a53:=Tryz.isAgg155
 z53:=Tryz.sizeOf155
 v53:=Tryz.zeroValue155
 t171:=Tryz.underlying174
 a171:=Tryz.isAgg174
 z171:=Tryz.sizeOf174
 v171:=Tryz.zeroValue174
 t173:=Tryz.underlying177
 a173:=Tryz.isAgg177
 z173:=Tryz.sizeOf177
 v173:=Tryz.zeroValue177
 t212:=Tryz.underlying194
 a212:=Tryz.isAgg194
 z212:=Tryz.sizeOf194
 v212:=Tryz.zeroValue194
 t213:=Tryz.underlying195
 a213:=Tryz.isAgg195
 z213:=Tryz.sizeOf195
 t232:=Tryz.underlying209
 a232:=Tryz.isAgg209
 z232:=Tryz.sizeOf209
 v232:=Tryz.zeroValue209
 t233:=Tryz.underlying210
 a233:=Tryz.isAgg210
 z233:=Tryz.sizeOf210
 v233:=Tryz.zeroValue210
 g17:=kr
 g18:=kr
 g19:=kr
 i0:=kr
 i2:=kr
 i3:=kr
 i4:=kr
 i5:=kr
 i9:=kr
 i20:=kr
 i37:=kr
 i46:=kr
 i51:=kr
 i53:=kr
 i171:=kr
 i173:=kr
 i212:=kr
 i232:=kr
 i233:=kr
 m17:=kr
 m18:=kr
 m19:=kr
theorem RY{p0:Int}{r:BA}(g:St m (O) w)(i:strconv_Itoa N p0=some r):Calls prog 116 #[vI p0] w fun e w'=>∃m',e= .returned (vT r)/\m.le m'/\St m' (O) w':=qFr qGm kr g i
def BN(N:Nat):Option (Option lR):=
 (iH (some []:Option lR) 1 (⟨#[43]⟩:BA)).bind fun a=>(iH a 2 (⟨#[45]⟩:BA)).bind fun a=>(iH a 3 (⟨#[42]⟩:BA)).bind fun a=>(iH a 4 (⟨#[47]⟩:BA)).bind fun a=>(iH a 5 (⟨#[37]⟩:BA)).bind fun a=>(iH a 6 (⟨#[60]⟩:BA)).bind fun a=>(iH a 7 (⟨#[61,61]⟩:BA)).bind fun a=>some a
theorem RX{r:Option lR}(g:St m (O) w)(i:BN N=some r):Calls prog 117 #[] w fun e w'=>∃rq1 b f m',e= .returned (.map rq1)/\m.le m'/\St m' (dS rq1 b f::O) w'/\MapQ (fun n:Int=>Value.int .i64 n) aH false m' rq1 b f r:=by
 unfold BN at i;have q:=m.le_refl;refine bF func117 rfl ntmps117 ?_;refine aB 1 [] (aC ?_);refine bB rfl (FR (d:=1) (t:=146) kr rfl g fun a w1 g=> ?_);have⟨b3,o,i⟩:=aW i;refine bB rfl (mL (ek:=(fun n:Int=>Value.int .i64 n)) (c:=aH) (agg:=false) (k:=1) (yv:=bm) (cs:=[vT bm]) (z:=(vT eB)) (v:=(vT bm)) (kt:=3) (et:=9) (t:=146) (x:=(.tmp 1)) (y:=(.const (vI 1))) (u:=(.const (vT bm))) kr (ev (.map (some a))) (ev (vI 1)) (ev (vT bm)) kr (lP kr) g (MapQ.new (fun n:Int=>Value.int .i64 n) aH false _ _) rfl rfl o fun a6 U w2 g F=> ?_);have⟨b4,p,i⟩:=aW i;refine bB rfl (mL (ek:=(fun n:Int=>Value.int .i64 n)) (c:=aH) (agg:=false) (k:=2) (yv:=bn) (cs:=[vT bn]) (z:=(vT eB)) (v:=(vT bn)) (kt:=3) (et:=9) (t:=146) (x:=(.tmp 1)) (y:=(.const (vI 2))) (u:=(.const (vT bn))) kr (ev (.map (some a))) (ev (vI 2)) (ev (vT bn)) kr (lP kr) g F rfl rfl p fun a7 V w3 g G=> ?_);have⟨b5,s,i⟩:=aW i;refine bB rfl (mL (ek:=(fun n:Int=>Value.int .i64 n)) (c:=aH) (agg:=false) (k:=3) (yv:=bo) (cs:=[vT bo]) (z:=(vT eB)) (v:=(vT bo)) (kt:=3) (et:=9) (t:=146) (x:=(.tmp 1)) (y:=(.const (vI 3))) (u:=(.const (vT bo))) kr (ev (.map (some a))) (ev (vI 3)) (ev (vT bo)) kr (lP kr) g G rfl rfl s fun a8 Y w4 g H=> ?_);have⟨b6,A,i⟩:=aW i
 refine bB rfl (mL (ek:=(fun n:Int=>Value.int .i64 n)) (c:=aH) (agg:=false) (k:=4) (yv:=bp) (cs:=[vT bp]) (z:=(vT eB)) (v:=(vT bp)) (kt:=3) (et:=9) (t:=146) (x:=(.tmp 1)) (y:=(.const (vI 4))) (u:=(.const (vT bp))) kr (ev (.map (some a))) (ev (vI 4)) (ev (vT bp)) kr (lP kr) g H rfl rfl A fun a9 Z w5 g K=> ?_);have⟨b7,B,i⟩:=aW i;refine bB rfl (mL (ek:=(fun n:Int=>Value.int .i64 n)) (c:=aH) (agg:=false) (k:=5) (yv:=bq) (cs:=[vT bq]) (z:=(vT eB)) (v:=(vT bq)) (kt:=3) (et:=9) (t:=146) (x:=(.tmp 1)) (y:=(.const (vI 5))) (u:=(.const (vT bq))) kr (ev (.map (some a))) (ev (vI 5)) (ev (vT bq)) kr (lP kr) g K rfl rfl B fun b0 a4 w6 g M=> ?_);have⟨b8,D,i⟩:=aW i;refine bB rfl (mL (ek:=(fun n:Int=>Value.int .i64 n)) (c:=aH) (agg:=false) (k:=6) (yv:=br) (cs:=[vT br]) (z:=(vT eB)) (v:=(vT br)) (kt:=3) (et:=9) (t:=146) (x:=(.tmp 1)) (y:=(.const (vI 6))) (u:=(.const (vT br))) kr (ev (.map (some a))) (ev (vI 6)) (ev (vT br)) kr (lP kr) g M rfl rfl D fun b2 a5 w7 g R=> ?_);have⟨b9,E,i⟩:=aW i
 refine bB rfl (mL (ek:=(fun n:Int=>Value.int .i64 n)) (c:=aH) (agg:=false) (k:=7) (yv:=bs) (cs:=[vT bs]) (z:=(vT eB)) (v:=(vT bs)) (kt:=3) (et:=9) (t:=146) (x:=(.tmp 1)) (y:=(.const (vI 7))) (u:=(.const (vT bs))) kr (ev (.map (some a))) (ev (vI 7)) (ev (vT bs)) kr (lP kr) g R rfl rfl E fun l h w8 g S=>(aF 2 [(0,.map (some a))] (aJ ?_)));obtain rfl:=sI i;exact aO [0] [.map (some a)] ⟨(some a),l,h,m,rfl,q,g,S⟩
def IZ(N:Nat)(R7:oG->(Int)->(Int)->(Int)->wO)(p3:Int)(x1:Tr)(a:DM):Option (DM⊕IC):=
 if(decide (a.1<(List.length ([(⟨#[105,102,32]⟩:BA),(⟨#[32,116,104,101,110,32]⟩:BA),(⟨#[32,101,108,115,101,32]⟩:BA)]):Int)))=true then((idx ([(⟨#[105,102,32]⟩:BA),(⟨#[32,116,104,101,110,32]⟩:BA),(⟨#[32,101,108,115,101,32]⟩:BA)]) a.1).bind fun x5=>(cW 1 a.2.2.1 x5.data.toList).bind fun b=>(idx x1.2.2.2.2 a.1).bind fun c=>(R7 ((true,b),a.2.2.2.1,a.2.2.2.2.1,a.2.2.2.2.2) c 0 (IntKind.wrap .i64 (p3+1))).bind fun b=>some (.inl (IntKind.wrap .i64 (a.1+1),b.1.1,b.1.2,b.2.1,b.2.2.1,b.2.2.2))) else(some (.inr a.2))
def AK(N:Nat)(R7:oG->(Int)->(Int)->(Int)->wO)(p3:Int)(x1:Tr)(a:DM):Option (DM⊕IC):=
 if(decide (a.1<(List.length x1.2.2.2.2:Int)))=true then((idx x1.2.2.2.2 a.1).bind fun c=>(if(decide (a.1>0))=true then((cW 1 a.2.2.1 ((⟨#[44,32]⟩:BA).data.toList)).bind fun b=>some (true,b)) else(some (a.2.1,a.2.2.1)):Option (Bool×pC)).bind fun o4=>(R7 (o4,a.2.2.2.1,a.2.2.2.2.1,a.2.2.2.2.2) c 0 (IntKind.wrap .i64 (p3+1))).bind fun b=>some (.inl (IntKind.wrap .i64 (a.1+1),b.1.1,b.1.2,b.2.1,b.2.2.1,b.2.2.2))) else(some (.inr a.2))
def xP(N:Nat)(R7:oG->(Int)->(Int)->(Int)->wO)(p0:oG)(p1:Int)(p2:Int)(p3:Int):wO:=
 (idx p0.2.1 p1).bind fun x1=>(vL N x1).bind fun y1=>if(decide (y1<p2))=true then((cW 1 p0.1.2 ([(40:UInt8)])).bind fun a=>(R7 ((true,a),p0.2.1,p0.2.2.1,p0.2.2.2) p1 0 (IntKind.wrap .i64 (p3+1))).bind fun a=>(cW 1 a.1.2 ([(41:UInt8)])).bind fun b=>some ((true,b),a.2.1,a.2.2.1,a.2.2.2)) else(if(x1.1==1)=true then((strconv_Itoa N x1.2.1).bind fun a=>(cW 1 p0.1.2 a.data.toList).bind fun a=>some ((true,a),p0.2.1,p0.2.2.1,if p3>p0.2.2.2 then p3 else p0.2.2.2)) else(if(x1.1==2)=true then((idx p0.2.2.1 x1.2.1).bind fun a=>(cW 1 p0.1.2 a.data.toList).bind fun a=>some ((true,a),p0.2.1,p0.2.2.1,if p3>p0.2.2.2 then p3 else p0.2.2.2)) else(if(x1.1==4)=true then((vL N x1).bind fun a=>(if(a==1)=true then(some (IntKind.wrap .i64 (a+1))) else(some a):T8).bind fun b=>(idx x1.2.2.2.2 0).bind fun c=>(R7 (p0.1,p0.2.1,p0.2.2.1,if p3>p0.2.2.2 then p3 else p0.2.2.2) c b p3).bind fun y5=>(BN N).bind fun b=>(bH (⟨#[32]⟩:BA) ((cX b x1.2.2.1).getD (⟨#[]⟩:BA))).bind fun b=>(bH b (⟨#[32]⟩:BA)).bind fun b=>(cW 1 y5.1.2 b.data.toList).bind fun b=>(idx x1.2.2.2.2 1).bind fun c=>(R7 ((true,b),y5.2.1,y5.2.2.1,y5.2.2.2) c (IntKind.wrap .i64 (a+1)) p3).bind fun a=>some (a.1,a.2.1,a.2.2.1,a.2.2.2)) else(if(x1.1==5)=true then((aI (IZ N R7 p3 x1) N (0,p0.1.1,p0.1.2,p0.2.1,p0.2.2.1,if p3>p0.2.2.2 then p3 else p0.2.2.2)).bind fun o2=>some ((o2.1,o2.2.1),o2.2.2.1,o2.2.2.2.1,o2.2.2.2.2)) else(if(x1.1==3)=true then((bH x1.2.2.2.1 (⟨#[40]⟩:BA)).bind fun a=>(cW 1 p0.1.2 a.data.toList).bind fun a=>(aI (AK N R7 p3 x1) N (0,true,a,p0.2.1,p0.2.2.1,if p3>p0.2.2.2 then p3 else p0.2.2.2)).bind fun a=>(cW 1 a.2.1 ([(41:UInt8)])).bind fun b=>some ((true,b),a.2.2.1,a.2.2.2.1,a.2.2.2.2)) else(if(x1.1==6)=true then((bH (⟨#[114,101,97,100,40,34]⟩:BA) x1.2.2.2.1).bind fun a=>(bH a (⟨#[34,44,32]⟩:BA)).bind fun a=>(cW 1 p0.1.2 a.data.toList).bind fun a=>(idx x1.2.2.2.2 0).bind fun b=>(R7 ((true,a),p0.2.1,p0.2.2.1,if p3>p0.2.2.2 then p3 else p0.2.2.2) b 0 (IntKind.wrap .i64 (p3+1))).bind fun a=>(cW 1 a.1.2 ([(41:UInt8)])).bind fun b=>some ((true,b),a.2.1,a.2.2.1,a.2.2.2)) else(if(x1.1==10)=true then((strconv_Itoa N x1.2.1).bind fun a=>(bH (⟨#[102,108,105,112,40]⟩:BA) a).bind fun a=>(bH a (⟨#[41]⟩:BA)).bind fun a=>(cW 1 p0.1.2 a.data.toList).bind fun a=>some ((true,a),p0.2.1,p0.2.2.1,if p3>p0.2.2.2 then p3 else p0.2.2.2)) else((iH (some []:Option lR) 7 (⟨#[115,105,122,101]⟩:BA)).bind fun a=>(iH a 8 (⟨#[104,97,115]⟩:BA)).bind fun a=>(iH a 9 (⟨#[101,110,118]⟩:BA)).bind fun a=>(bH ((cX a x1.1).getD (⟨#[]⟩:BA)) (⟨#[40,34]⟩:BA)).bind fun a=>(bH a x1.2.2.2.1).bind fun a=>(bH a (⟨#[34,41]⟩:BA)).bind fun a=>(cW 1 p0.1.2 a.data.toList).bind fun a=>some ((true,a),p0.2.1,p0.2.2.1,if p3>p0.2.2.2 then p3 else p0.2.2.2)))))))))
def vE(N:Nat):Nat->(oG->(Int)->(Int)->(Int)->wO)
 |0=>(fun _ _ _ _=>none)
 |D+1=>xP N (vE N D)
def MA(N:Nat)(p0:oG)(p1:Int)(p2:Int)(p3:Int):wO:=(vE N N) p0 p1 p2 p3
abbrev qCg(F:oG->(Int)->(Int)->(Int)->wO):Prop:=∀{m:Mem} {O:List Piece} {w:World} {p0:oG} {p1:Int} {p2:Int} {p3:Int} {a:Nat} {b:Option Addr} {c:Nat} {d:Option Addr} {h:Nat} {f:Option Addr} {k:Nat} {r:oG} (g:St m (kB a #[.pointer (cI p0.1.1 a),vS b p0.1.2 c,vS d p0.2.1 h,vS f p0.2.2.1 k,vI p0.2.2.2] 115::kR b p0.1.2 c 5 1::O) w) (l:RepS lD m b c p0.1.2) (b:RepS C3 m d h p0.2.1) (b:RepS aH m f k p0.2.2.1) (i:F p0 p1 p2 p3=some r),Calls prog 77 #[vP a 0,vI p1,vI p2,vI p3] w fun e w'=>∃b c d h f k m',e= .returned (.tuple #[])/\m.le m'/\St m' (kB a #[.pointer (cI r.1.1 a),vS b r.1.2 c,vS d r.2.1 h,vS f r.2.2.1 k,vI r.2.2.2] 115::kR b r.1.2 c 5 1::O) w'/\P6 m' b c d h f k r
theorem qBn{R7:oG->(Int)->(Int)->(Int)->wO}(a:qCg R7){p0:oG}{p1:Int}{p2:Int}{p3:Int}{r:oG}(g:St m (kB bp0 #[.pointer (cI p0.1.1 bp0),vS a1 p0.1.2 c1,vS a2 p0.2.1 c2,vS a3 p0.2.2.1 c3,vI p0.2.2.2] 115::kR a1 p0.1.2 c1 5 1::O) w)(G:RepS lD m a1 c1 p0.1.2)(E:RepS C3 m a2 c2 p0.2.1)(F:RepS aH m a3 c3 p0.2.2.1)(i:xP N R7 p0 p1 p2 p3=some r):Calls prog 77 #[vP bp0 0,vI p1,vI p2,vI p3] w fun e w'=>∃g4 g5 h2 h4 h3 h5 m',e= .returned (.tuple #[])/\m.le m'/\St m' (kB bp0 #[.pointer (cI r.1.1 bp0),vS g4 r.1.2 g5,vS h2 r.2.1 h4,vS h3 r.2.2.1 h5,vI r.2.2.2] 115::kR g4 r.1.2 g5 5 1::O) w'/\P6 m' g4 g5 h2 h4 h3 h5 r:=by
 unfold xP at i;have q:=m.le_refl;refine bF func77 rfl ntmps77 ?_;refine aC (bL 3 19 41 18 2 (vS a2 p0.2.1 c2) g.h (aA 1 [(20,vI p1)] (dQ 21 E i ?_)));rintro x1 i b1 f1 n3 ⟨_,_,rfl,rfl,⟨_,_,rfl,rfl,⟨_,_,rfl,rfl,⟨_,_,rfl,rfl,⟨b,f,rfl,p⟩⟩⟩⟩⟩ k0;refine dV 22 61 21 f1 (.agg (V8 x1 b f)) g k0 (cZ 8 61 (.agg #[vI 0,vI 0,vI 0,vT eB,v7]) g fun o w1 g=>(cA (.agg (V8 x1 b f)) g fun w2 g=>(aQ (aE (aC (bE 23 (.agg (V8 x1 b f)) g.h (aK 24 i (RW (p0:=x1) g p) ?_)))))));rintro y1 i _ w3 ⟨B,rfl,e1,g⟩;have q:=q.t e1;have p:=p.mono e1;have G:=G.mono e1;have E:=E.mono e1;have F:=F.mono e1;refine aF 2 [(26,vB (decide (y1<p2)))] (aG i ?_ ?_)
 .intro A i;refine aT 3 [(29,vP bp0 0)] ?_;refine bB rfl (dN 30 115 #[vP bp0 0,.int .u8 40] kr rfl (bF func115 rfl ntmps115 (aB 1 [] (aC (aA 1 [(5,vP bp0 0)] ?_)))));have g:=g.f1;refine bB rfl (dN 6 76 #[vP bp0 0] kr rfl ((mX (c0:=(cI p0.1.1 bp0)) (R:=[vS a1 p0.1.2 c1,vS a2 p0.2.1 c2,vS a3 p0.2.2.1 c3,vI p0.2.2.2]) (nB p0.1.1 bp0 kr) g).mono ?_));rintro _ w4 ⟨m2,rfl,U,g⟩;refine⟨_,rfl,?_⟩;have g:St m2 (kB bp0 #[.pointer (cI true bp0),vS a1 p0.1.2 c1,vS a2 p0.2.1 c2,vS a3 p0.2.2.1 c3,vI p0.2.2.2] 115::kB o (V8 x1 b f) 61::kR a1 p0.1.2 c1 5 1::O) w4:=g;refine aQ (aC (aA 4 [(7,vP bp0 0),(10,vP bp0 1)] (bE 11 (vS a1 p0.1.2 c1) g.h (aA 1 [(12,.int .u8 40)] (bB rfl (nN (d:=13) (t:=64) (e:=5) (len:=1) (parts:= #[(0,(.tmp 12))]) lD (xs:=[(40:UInt8)]) [.int .u8 40] kr rfl (fun _=>nO kr _) rfl rfl g ⟨[.int .u8 40],_,rfl,rfl,rfl⟩ fun b3 m3 w5 V g r5=>(iN 14 64 64 5 1 11 13 g.f3 (.inl kr) ((G.mono U).mono V) r5.src i fun l1 i a5 c5 m4 w6 e4 g r6=>(aA 2 [(16,vP bp0 1)] (dR #[.pointer (cI true bp0),vS a5 l1 c5,vS a2 p0.2.1 c2,vS a3 p0.2.2.1 c3,vI p0.2.2.2] g.f2 fun w7 g=>(aS rfl ?_))))))))));have g:=g.f2.t;refine aD (aB 1 [(4,.nilIface)] (aJ (aO [4] [.nilIface] (⟨_,rfl,?_⟩))))
  refine aQ (aC (aA 4 [(31,vP bp0 0),(32,vI p1),(34,vI (wr (p3+1)))] (aK 35 i (a (p0:=((true,l1),p0.2.1,p0.2.2.1,p0.2.2.2)) g.f1.f1 r6 (((E.mono U).mono V).mono e4) (((F.mono U).mono V).mono e4)) ?_)));rintro l i _ w8 ⟨s,K,D,M,H,S,m5,rfl,e5,g,r7,r8,r9⟩;refine aQ (aC (aA 3 [(38,vP bp0 0)] (bB rfl (dN 39 115 #[vP bp0 0,.int .u8 41] kr rfl (bF func115 rfl ntmps115 (aB 1 [] (aC (aA 1 [(5,vP bp0 0)] (bB rfl (dN 6 76 #[vP bp0 0] kr rfl ((mX (c0:=(cI l.1.1 bp0)) (R:=[vS s l.1.2 K,vS D l.2.1 M,vS H l.2.2.1 S,vI l.2.2.2]) (nB l.1.1 bp0 kr) g).mono ?_)))))))))));rintro _ w9 ⟨m6,rfl,Y,g⟩;refine⟨_,rfl,?_⟩;have g:St m6 (kB bp0 #[.pointer (cI true bp0),vS s l.1.2 K,vS D l.2.1 M,vS H l.2.2.1 S,vI l.2.2.2] 115::kR s l.1.2 K 5 1::kB o (V8 x1 b f) 61::O) w9:=g
  refine aQ (aC (aA 4 [(7,vP bp0 0),(10,vP bp0 1)] (bE 11 (vS s l.1.2 K) g.h (aA 1 [(12,.int .u8 41)] (bB rfl (nN (d:=13) (t:=64) (e:=5) (len:=1) (parts:= #[(0,(.tmp 12))]) lD (xs:=[(41:UInt8)]) [.int .u8 41] kr rfl (fun _=>nO kr _) rfl rfl g ⟨[.int .u8 41],_,rfl,rfl,rfl⟩ fun b4 m7 d1 Z g b0=>(iN 14 64 64 5 1 11 13 g.f2 (.inl kr) ((r7.mono Y).mono Z) b0.src i fun l2 i a9 c9 m8 d2 e8 g d0=>(aA 2 [(16,vP bp0 1)] (dR #[.pointer (cI true bp0),vS a9 l2 c9,vS D l.2.1 M,vS H l.2.2.1 S,vI l.2.2.2] g.f2 fun d3 g=>(aS rfl ?_))))))))));have g:=g.f2.t;refine aD (aB 1 [(4,.nilIface)] (aJ (aO [4] [.nilIface] (⟨_,rfl,?_⟩))));refine aQ (aJ (aL ?_));cases i;exact zE [] [] rfl ResAll.nil ⟨a9,c9,D,M,H,S,m8,rfl,((((((q.t U).t V).t e4).t e5).t Y).t Z).t e8,g.f2.t.f1.f1,d0,((r8.mono Y).mono Z).mono e8,((r9.mono Y).mono Z).mono e8⟩
 intro A i;refine aM (aD (aT 4 [(40,vP bp0 0),(43,vP bp0 4)] (bE 44 (vI p0.2.2.2) g.t.h (aA 4 [(46,vI (if p3>p0.2.2.2 then p3 else p0.2.2.2)),(48,vP bp0 4)] (dR #[.pointer (cI p0.1.1 bp0),vS a1 p0.1.2 c1,vS a2 p0.2.1 c2,vS a3 p0.2.2.1 c3,vI (if p3>p0.2.2.2 then p3 else p0.2.2.2)] g.f1 fun n6 g=>(aQ (aC (bL 1 50 3 49 0 (vI x1.1) g.t.h (aQ (bA (aB 2 [(66,vB (x1.1==1))] (aG i ?_ ?_))))))))))))
 .intro A i;refine eC [(7,fun w'=>Inv B w'/\Piece.holds B w' (kB o (V8 x1 b f) 61)/\True)] kr g fun b0 _ g=> ?_;have l:=B.le_refl;refine⟨⟨.inr ⟨Inv.anti g.inv l,Piece.holds_anti g.t.h l,trivial⟩,trivial⟩,?_⟩;refine aR 0 68 (vP bp0 0) (.head _) (aR 1 69 (vP bp0 0) (.head _) (aR 2 70 (vP bp0 0) (.head _) (aR 3 71 (vP o 1) (.head _) (dM 3 71 4 72 1 (vI x1.2.1) (.head _) (fun _ h=>h.2.1) (cB 5 kr (eS 73 i (fun _ h=>RY g h) ?_))))));rintro K i _ d0 ⟨m9,rfl,H,g⟩;refine⟨_,rfl,?_⟩;have l:=Mem.le_trans l H;refine⟨⟨.inr ⟨Inv.anti g.inv l,Piece.holds_anti g.t.h l,trivial⟩,trivial⟩,?_⟩;refine cB 6 kr (dN 74 33 #[vP bp0 0,vT K] kr rfl (bF func33 rfl ntmps33 (aB 2 [] (aC (aA 1 [(6,vP bp0 0)] (bB rfl (dN 7 76 #[vP bp0 0] kr rfl ((mX (c0:=(cI p0.1.1 bp0)) (R:=[vS a1 p0.1.2 c1,vS a2 p0.2.1 c2,vS a3 p0.2.2.1 c3,vI (if p3>p0.2.2.2 then p3 else p0.2.2.2)]) (nB p0.1.1 bp0 kr) g).mono ?_))))))));rintro _ Z ⟨U,rfl,s,g⟩;refine⟨_,rfl,?_⟩;have l:=Mem.le_trans l s;have g:St U (kB bp0 #[.pointer (cI true bp0),vS a1 p0.1.2 c1,vS a2 p0.2.1 c2,vS a3 p0.2.2.1 c3,vI (if p3>p0.2.2.2 then p3 else p0.2.2.2)] 115::kB o (V8 x1 b f) 61::kR a1 p0.1.2 c1 5 1::O) Z:=g
  refine aQ (aC (aA 4 [(8,vP bp0 0),(11,vP bp0 1)] (bE 12 (vS a1 p0.1.2 c1) g.h (aA 1 [(13,vT K)] (iN 14 64 9 5 1 12 13 g.f2 (.inr kr) ((G.mono H).mono s) (Gives.str _) i fun l3 i M S V d1 D g Y=> ?_)))));have l:=Mem.le_trans l D;refine aA 2 [(16,vP bp0 1)] (dR #[.pointer (cI true bp0),vS M l3 S,vS a2 p0.2.1 c2,vS a3 p0.2.2.1 c3,vI (if p3>p0.2.2.2 then p3 else p0.2.2.2)] g.f1 fun d2 g=>(aQ (aC (aF 4 [(4,vI (K.size:Int)),(5,.nilIface)] (aJ (aO [4,5] [vI (K.size:Int),.nilIface] (⟨_,rfl,?_⟩)))))));refine⟨⟨.inr ⟨Inv.anti g.inv l,Piece.holds_anti g.t.t.h l,trivial⟩,trivial⟩,?_⟩;refine dU kr ?_;refine bI ?_;cases i;exact nS [] [] rfl ResAll.nil ⟨M,S,a2,c2,a3,c3,V,rfl,((q.t H).t s).t D,g.f2.t.f1.f1,Y,((E.mono H).mono s).mono D,((F.mono H).mono s).mono D⟩
 intro A i;refine aB 2 [(75,vB (x1.1==2))] (aG i ?_ ?_)
 .intro A i;refine eC [(12,fun w'=>Inv B w'/\Piece.holds B w' (kB o (V8 x1 b f) 61)/\True),(11,fun w'=>Inv B w'/\Piece.holds B w' (kB bp0 #[.pointer (cI p0.1.1 bp0),vS a1 p0.1.2 c1,vS a2 p0.2.1 c2,vS a3 p0.2.2.1 c3,vI (if p3>p0.2.2.2 then p3 else p0.2.2.2)] 115)/\True)] kr g fun d0 _ g=> ?_;have l:=B.le_refl;refine⟨⟨.inr ⟨Inv.anti g.inv l,Piece.holds_anti g.t.h l,trivial⟩,⟨.inr ⟨Inv.anti g.inv l,Piece.holds_anti g.h l,trivial⟩,trivial⟩⟩,?_⟩;refine aR 0 77 (vP bp0 0) (.head _) (aR 1 78 (vP bp0 0) (.head _) (aR 2 79 (vP bp0 0) (.head _) (aR 3 80 (vP bp0 0) (.head _) (aR 4 81 (vP bp0 0) (.head _) (aR 5 82 (vP bp0 3) (.head _) (aR 7 84 (vP o 1) (.head _) (dM 3 84 8 85 1 (vI x1.2.1) (.head _) (fun _ h=>h.2.1) (cB 6 kr (qMu 83 26 82 3 (vS a3 p0.2.2.1 c3) g.h (⟨⟨.inr ⟨Inv.anti g.inv l,Piece.holds_anti g.t.h l,trivial⟩,⟨.inr ⟨Inv.anti g.inv l,Piece.holds_anti g.h l,trivial⟩,trivial⟩⟩,?_⟩))))))))));have⟨H,d8,i⟩:=aW i;refine iY (t:=26) (e:=9) (x:=(.tmp 83)) (y:=(.tmp 85)) 9 86 aH kr rfl kr (.head _) (cP eT) (ev (vS a3 p0.2.2.1 c3)) (ev (vI x1.2.1)) kr F d8 ?_;rintro b5 f2 b0 rfl S
  refine eP 9 86 10 87 f2 (vT H) (.head _) (fun _ h=>h.1) S (cB 11 kr (dN 88 33 #[vP bp0 0,vT H] kr rfl (bF func33 rfl ntmps33 (aB 2 [] (aC (aA 1 [(6,vP bp0 0)] (bB rfl (dN 7 76 #[vP bp0 0] kr rfl ((mX (c0:=(cI p0.1.1 bp0)) (R:=[vS a1 p0.1.2 c1,vS a2 p0.2.1 c2,vS a3 p0.2.2.1 c3,vI (if p3>p0.2.2.2 then p3 else p0.2.2.2)]) (nB p0.1.1 bp0 kr) g).mono ?_)))))))));rintro _ Z ⟨U,rfl,s,g⟩;refine⟨_,rfl,?_⟩;have l:=Mem.le_trans l s;have g:St U (kB bp0 #[.pointer (cI true bp0),vS a1 p0.1.2 c1,vS a2 p0.2.1 c2,vS a3 p0.2.2.1 c3,vI (if p3>p0.2.2.2 then p3 else p0.2.2.2)] 115::kB o (V8 x1 b f) 61::kR a1 p0.1.2 c1 5 1::O) Z:=g;refine aQ (aC (aA 4 [(8,vP bp0 0),(11,vP bp0 1)] (bE 12 (vS a1 p0.1.2 c1) g.h (aA 1 [(13,vT H)] (iN 14 64 9 5 1 12 13 g.f2 (.inr kr) (G.mono s) (Gives.str _) i fun l4 i K M V d1 D g Y=> ?_)))));have l:=Mem.le_trans l D;refine aA 2 [(16,vP bp0 1)] (dR #[.pointer (cI true bp0),vS K l4 M,vS a2 p0.2.1 c2,vS a3 p0.2.2.1 c3,vI (if p3>p0.2.2.2 then p3 else p0.2.2.2)] g.f1 fun d2 g=>(aQ (aC (aF 4 [(4,vI (H.size:Int)),(5,.nilIface)] (aJ (aO [4,5] [vI (H.size:Int),.nilIface] (⟨_,rfl,?_⟩)))))));refine⟨⟨.inr ⟨Inv.anti g.inv l,Piece.holds_anti g.t.t.h l,trivial⟩,⟨.inl rfl,trivial⟩⟩,?_⟩;refine dU kr ?_;refine bI ?_;cases i
  exact nS [] [] rfl ResAll.nil ⟨K,M,a2,c2,a3,c3,V,rfl,(q.t s).t D,g.f2.t.f1.f1,Y,(E.mono s).mono D,(F.mono s).mono D⟩
 intro A i;refine aB 2 [(89,vB (x1.1==4))] (aG i ?_ ?_)
 .intro A i;refine aC (bE 91 (.agg (V8 x1 b f)) g.t.h (aK 92 i (RW (p0:=x1) g p) ?_));rintro V i _ l0 ⟨d3,rfl,D,g⟩;have p:=p.mono D;have G:=G.mono D;have E:=E.mono D;have F:=F.mono D;refine aF 1 [(9,vI V)] (aC (aF 2 [(10,vI V)] (aE (aB 2 [(95,vB (V==1))] (cC .normal i (fun o1 L' w'=>∃s,L'=[(0,vP bp0 0),(3,vI p3),(8,vP o 0),(9,vI V),(10,vI o1)]/\m.le s/\St s (kB bp0 #[.pointer (cI p0.1.1 bp0),vS a1 p0.1.2 c1,vS a2 p0.2.1 c2,vS a3 p0.2.2.1 c3,vI (if p3>p0.2.2.2 then p3 else p0.2.2.2)] 115::kB o (V8 x1 b f) 61::kR a1 p0.1.2 c1 5 1::O) w'/\RepS lD s a1 c1 p0.1.2/\RepS C3 s a2 c2 p0.2.1/\RepS aH s a3 c3 p0.2.2.1/\RepS (aV .i64) s b f x1.2.2.2.2) ?_ ?_)))))
  .rintro o1 i _ n0 ⟨s,rfl,q,g,G,E,F,p⟩;refine aD (aT 2 [(98,vP bp0 0),(99,vP o 4)] (bE 100 (vS b x1.2.2.2.2 f) g.t.h (dQ 101 p i ?_)));rintro x3 i b6 f3 k5 rfl g3;refine dV 102 3 101 f3 (vI x3) g g3 (aA 2 [(103,vI o1),(104,vI p3)] (aK 105 i (a (p0:=(p0.1,p0.2.1,p0.2.2.1,if p3>p0.2.2.2 then p3 else p0.2.2.2)) g.f2.f1 G E F) ?_));rintro y5 i _ n1 ⟨S,U,Y,b0,Z,d0,d1,rfl,d2,g,g9,h0,h1⟩;refine aQ (aE (eC [(10,fun w'=>Inv d1 w'/\Piece.holds d1 w' (kB o (V8 x1 b f) 61)/\True)] kr g fun n2 _ g=> ?_));have l:=d1.le_refl;refine⟨⟨.inr ⟨Inv.anti g.inv l,Piece.holds_anti g.t.t.h l,trivial⟩,trivial⟩,?_⟩;refine aR 0 106 (vP bp0 0) (.head _) (aR 1 107 (vP bp0 0) (.head _) (aR 2 108 (vP bp0 0) (.head _) (aR 4 110 (vP o 2) (.head _) (dM 3 110 5 111 2 (vI x1.2.2.1) (.head _) (fun _ h=>h.2.1) (cB 3 kr (eS 109 i (fun _ h=>RX g h) ?_))))));rintro y6 i _ n4 ⟨q1,g2,g0,k8,rfl,H,g,h6⟩;refine⟨_,rfl,?_⟩;have l:=Mem.le_trans l H;refine⟨⟨.inr ⟨Inv.anti g.inv l,Piece.holds_anti g.t.t.t.h l,trivial⟩,trivial⟩,?_⟩;refine cB 6 kr (yL (ek:=(fun n:Int=>Value.int .i64 n)) (c:=aH) (agg:=false) (k:=x1.2.2.1) (zx:=eB) (zcs:=[vT eB]) (z:=(vT eB)) (kt:=3) (et:=9) (d:=112) (t:=146) (x:=(.tmp 109)) (y:=(.tmp 111)) (ok:=false) kr rfl (ev (.map q1)) (ev (vI x1.2.2.1)) kr (lP kr) g.h h6 rfl rfl ?_);rintro k6 rfl
   refine⟨⟨.inr ⟨Inv.anti g.inv l,Piece.holds_anti g.t.t.t.h l,trivial⟩,trivial⟩,?_⟩;refine cV 9 9 ((.const (vT sA))) 112 7 113 (.head _) i fun s1 i=> ?_;refine cV 9 9 113 ((.const (vT sA))) 8 114 (.head _) i fun s2 i=> ?_;refine cB 9 kr (dN 115 33 #[vP bp0 0,vT s2] kr rfl (bF func33 rfl ntmps33 (aB 2 [] (aC (aA 1 [(6,vP bp0 0)] ?_)))));have g:=g.f1;refine bB rfl (dN 7 76 #[vP bp0 0] kr rfl ((mX (c0:=(cI y5.1.1 bp0)) (R:=[vS S y5.1.2 U,vS Y y5.2.1 b0,vS Z y5.2.2.1 d0,vI y5.2.2.2]) (nB y5.1.1 bp0 kr) g).mono ?_));rintro _ k4 ⟨g7,rfl,K,g⟩;refine⟨_,rfl,?_⟩;have l:=Mem.le_trans l K;have g:St g7 (kB bp0 #[.pointer (cI true bp0),vS S y5.1.2 U,vS Y y5.2.1 b0,vS Z y5.2.2.1 d0,vI y5.2.2.2] 115::dS q1 g2 g0::kR S y5.1.2 U 5 1::kB o (V8 x1 b f) 61::O) k4:=g;refine aQ (aC (aA 4 [(8,vP bp0 0),(11,vP bp0 1)] (bE 12 (vS S y5.1.2 U) g.h (aA 1 [(13,vT s2)] (iN 14 64 9 5 1 12 13 g.f2 (.inr kr) ((g9.mono H).mono K) (Gives.str _) i fun l5 i d4 d9 k9 n5 M g h7=> ?_)))));have l:=Mem.le_trans l M;refine aA 2 [(16,vP bp0 1)] (dR #[.pointer (cI true bp0),vS d4 l5 d9,vS Y y5.2.1 b0,vS Z y5.2.2.1 d0,vI y5.2.2.2] g.f1 fun n7 g=>(aQ (aC (aF 4 [(4,vI (s2.size:Int)),(5,.nilIface)] (aJ (aO [4,5] [vI (s2.size:Int),.nilIface] (⟨_,rfl,?_⟩)))))))
   refine⟨⟨.inr ⟨Inv.anti g.inv l,Piece.holds_anti g.t.t.t.h l,trivial⟩,trivial⟩,?_⟩;refine dU kr ?_;refine aD (aX (aA 2 [(116,vP bp0 0),(117,vP o 4)] (bE 118 (vS b x1.2.2.2.2 f) g.t.t.t.h (dQ 119 ((((p.mono d2).mono H).mono K).mono M) i ?_))));rintro x4 i b7 f4 k7 rfl g6;refine dV 120 3 119 f4 (vI x4) g g6 (aA 3 [(122,vI (wr (V+1))),(123,vI p3)] (aK 124 i (a (p0:=((true,l5),y5.2.1,y5.2.2.1,y5.2.2.2)) g.f1.f1 h7 (((h0.mono H).mono K).mono M) (((h1.mono H).mono K).mono M)) ?_));rintro y7 i _ n8 ⟨d5,e0,d6,f0,d7,f9,g8,rfl,g1,g,h8,h9,k3⟩;refine aS rfl (bI ?_);cases i;exact nS [] [] rfl ResAll.nil ⟨d5,e0,d6,f0,d7,f9,g8,rfl,((((q.t d2).t H).t K).t M).t g1,g.f2.t.f2.t.f1.f1,h8,h9,k3⟩
  intro o1 i l;refine aG i ?_ ?_
  .intro A i;refine aX (aA 3 [(10,vI (wr (V+1)))] (aS rfl ?_));cases i;exact xE (l _ _ ⟨d3,rfl,q.t D,g.f2.f2.f2,G,E,F,p⟩)
  intro A i;refine aM ?_;cases i;exact xE (l _ _ ⟨d3,rfl,q.t D,g.f2.f2.f2,G,E,F,p⟩)
 intro A i;refine aB 2 [(125,vB (x1.1==5))] (aG i ?_ ?_)
 .intro A i;refine aC (eR 127 9 3 aH [sW,sV,sY] g fun b8 h9 n5 d1 g d7=>(aF 2 [(128,vI (List.length ([sW,sV,sY]):Int)),(129,vI 0)] (bA (cC (.exit 1) i (fun Z L' w'=>∃(o2:IC),∃b0 d0 d3 d5 d4 d6 K,o2=Z/\L'=[]/\m.le K/\St K (kB bp0 #[.pointer (cI o2.1 bp0),vS b0 o2.2.1 d0,vS d3 o2.2.2.1 d5,vS d4 o2.2.2.2.1 d6,vI o2.2.2.2.2] 115::kB o (V8 x1 b f) 61:: .room (aP b8) (List.length ([sW,sV,sY])) 3 9 1::kR b0 o2.2.1 d0 5 1::O) w'/\RepS lD K b0 d0 o2.2.1/\RepS C3 K d3 d5 o2.2.2.1/\RepS aH K d4 d6 o2.2.2.2.1/\RepS (aV .i64) K b f x1.2.2.2.2) ?_ ?_))))
  .rintro Z i _ H ⟨o2,b0,d0,d3,d5,d4,d6,K,rfl,rfl,q,g,l,s,D,p⟩;refine cK (bI ?_);cases i;exact nS [] [] rfl ResAll.nil ⟨b0,d0,d3,d5,d4,d6,K,rfl,q,g.f1.t.f1.t.f1.f1,l,s,D⟩
  intro Z i e0;refine cH _ kr (cG (fun k1 L' w'=>∃(l:DM),∃s D M U S V H,aI (IZ N R7 p3 x1) k1 l=some Z/\L'=[(0,vP bp0 0),(3,vI p3),(8,vP o 0),(127,.slice (aP b8) (List.length ([sW,sV,sY])) 3),(128,vI (List.length ([sW,sV,sY]):Int)),(129,vI l.1)]/\m.le H/\St H (kB bp0 #[.pointer (cI l.2.1 bp0),vS s l.2.2.1 D,vS M l.2.2.2.1 U,vS S l.2.2.2.2.1 V,vI l.2.2.2.2.2] 115::kB o (V8 x1 b f) 61:: .room (aP b8) (List.length ([sW,sV,sY])) 3 9 1::kR s l.2.2.1 D 5 1::O) w'/\RepS aH H (aP b8) 3 ([sW,sV,sY])/\RepS lD H s D l.2.2.1/\RepS C3 H M U l.2.2.2.1/\RepS aH H S V l.2.2.2.2.1/\RepS (aV .i64) H b f x1.2.2.2.2) N ⟨(0,p0.1.1,p0.1.2,p0.2.1,p0.2.2.1,if p3>p0.2.2.2 then p3 else p0.2.2.2),a1,c1,a2,c2,a3,c3,h9,i,rfl,q.t d1,g.f3.f1.f3.f3,d7,G.mono d1,E.mono d1,F.mono d1,p.mono d1⟩ ?_);rintro k1 _ n7 ⟨l,s,D,M,U,S,V,H,hL,rfl,q,g,d7,f0,f9,g0,p⟩;rcases k1 with _|k1
  .exact cJ hL
  obtain⟨n4,i,g2,g1⟩:=cL hL;clear hL;unfold IZ at i;refine aB 1 [(130,vB (decide (l.1<(List.length ([sW,sV,sY]):Int))))] (aE ?_);refine aG i ?_ ?_
  .intro A i;refine aM (aD (aE (bA (aT 1 [(131,vI l.1)] (dQ 132 d7 i ?_)))));rintro x5 i b9 f5 n0 rfl h7;refine dV 133 9 132 f5 (vT x5) g h7 (aF 2 [(11,vI l.1),(12,vT x5)] (aC (aA 4 [(136,vP bp0 0),(137,vT x5)] (bB rfl (dN 138 33 #[vP bp0 0,vT x5] kr rfl (bF func33 rfl ntmps33 (aB 2 [] (aC (aA 1 [(6,vP bp0 0)] (bB rfl (dN 7 76 #[vP bp0 0] kr rfl ((mX (c0:=(cI l.2.1 bp0)) (R:=[vS s l.2.2.1 D,vS M l.2.2.2.1 U,vS S l.2.2.2.2.1 V,vI l.2.2.2.2.2]) (nB l.2.1 bp0 kr) g).mono ?_))))))))))));rintro _ k9 ⟨k3,rfl,Y,g⟩;refine⟨_,rfl,?_⟩;have g:St k3 (kB bp0 #[.pointer (cI true bp0),vS s l.2.2.1 D,vS M l.2.2.2.1 U,vS S l.2.2.2.2.1 V,vI l.2.2.2.2.2] 115::kB o (V8 x1 b f) 61:: .room (aP b8) (List.length ([sW,sV,sY])) 3 9 1::kR s l.2.2.1 D 5 1::O) k9:=g;refine aQ (aC (aA 4 [(8,vP bp0 0),(11,vP bp0 1)] (bE 12 (vS s l.2.2.1 D) g.h (aA 1 [(13,vT x5)] (iN 14 64 9 5 1 12 13 g.f3 (.inr kr) (f0.mono Y) (Gives.str _) i fun l6 i g3 g9 n2 n8 d2 g k5=> ?_)))));have p:=(p.mono Y).mono d2;refine aA 2 [(16,vP bp0 1)] (dR #[.pointer (cI true bp0),vS g3 l6 g9,vS M l.2.2.2.1 U,vS S l.2.2.2.2.1 V,vI l.2.2.2.2.2] g.f1 fun n9 g=>(aQ (aC (aF 4 [(4,vI (x5.size:Int)),(5,.nilIface)] (aJ (aO [4,5] [vI (x5.size:Int),.nilIface] (⟨_,rfl,?_⟩)))))))
   refine aQ (aX (aA 2 [(139,vP bp0 0),(140,vP o 4)] (bE 141 (vS b x1.2.2.2.2 f) g.t.t.h (aA 1 [(142,vI l.1)] (dQ 143 p i ?_)))));rintro x6 i l0 f6 n1 rfl h8;refine dV 144 3 143 f6 (vI x6) g h8 (aA 2 [(146,vI (wr (p3+1)))] (aK 147 i (a (p0:=((true,l6),l.2.2.2.1,l.2.2.2.2.1,l.2.2.2.2.2)) g.f1.f1 k5 ((f9.mono Y).mono d2) ((g0.mono Y).mono d2)) ?_));rintro y8 i _ o0 ⟨g6,h0,g7,h1,g8,h6,k4,rfl,d9,g,k6,k7,k8⟩;refine aS rfl (bI (aD (aX (aA 2 [(129,vI (wr (l.1+1)))] (aS rfl ?_)))));have hL:=g2 _ (sI i);exact xE (cE ⟨(wr (l.1+1),y8.1.1,y8.1.2,y8.2.1,y8.2.2.1,y8.2.2.2),g6,h0,g7,h1,g8,h6,k4,hL,rfl,((q.t Y).t d2).t d9,g.f1.f3.f3.f3,((d7.mono Y).mono d2).mono d9,k6,k7,k8,p.mono d9⟩)
  intro A i;refine cD (bD ?_);have ho:=g1 _ (sI i);have g:=g.f3.f3.f3.f3;refine bD ?_;exact xE (e0 _ _ ⟨l.2,s,D,M,U,S,V,H,ho,rfl,q,g,f0,f9,g0,p⟩)
 intro A i;refine aB 2 [(149,vB (x1.1==3))] (aG i ?_ ?_)
 .intro A i;refine aE (eC [(7,fun w'=>Inv B w'/\Piece.holds B w' (kB o (V8 x1 b f) 61)/\True)] kr g fun n7 _ g=> ?_);have D:=B.le_refl;refine⟨⟨.inr ⟨Inv.anti g.inv D,Piece.holds_anti g.t.h D,trivial⟩,trivial⟩,?_⟩;refine aR 0 151 (vP bp0 0) (.head _) (aR 1 152 (vP bp0 0) (.head _) (aR 2 153 (vP bp0 0) (.head _) (aR 3 154 (vP o 3) (.head _) (dM 9 154 4 155 3 (vT x1.2.2.2.1) (.head _) (fun _ h=>h.2.1) (cV 9 9 155 ((.const (vT bi))) 5 156 (.head _) i fun s4 i=>(cB 6 kr (dN 157 33 #[vP bp0 0,vT s4] kr rfl (bF func33 rfl ntmps33 (aB 2 [] (aC (aA 1 [(6,vP bp0 0)] (bB rfl (dN 7 76 #[vP bp0 0] kr rfl ((mX (c0:=(cI p0.1.1 bp0)) (R:=[vS a1 p0.1.2 c1,vS a2 p0.2.1 c2,vS a3 p0.2.2.1 c3,vI (if p3>p0.2.2.2 then p3 else p0.2.2.2)]) (nB p0.1.1 bp0 kr) g).mono ?_))))))))))))));rintro _ n1 ⟨k4,rfl,d6,g⟩;refine⟨_,rfl,?_⟩;have D:=Mem.le_trans D d6;have g:St k4 (kB bp0 #[.pointer (cI true bp0),vS a1 p0.1.2 c1,vS a2 p0.2.1 c2,vS a3 p0.2.2.1 c3,vI (if p3>p0.2.2.2 then p3 else p0.2.2.2)] 115::kB o (V8 x1 b f) 61::kR a1 p0.1.2 c1 5 1::O) n1:=g;refine aQ (aC (aA 4 [(8,vP bp0 0),(11,vP bp0 1)] (bE 12 (vS a1 p0.1.2 c1) g.h (aA 1 [(13,vT s4)] (iN 14 64 9 5 1 12 13 g.f2 (.inr kr) (G.mono d6) (Gives.str _) i fun l7 i g8 h0 k5 n8 d9 g k7=> ?_)))));have D:=Mem.le_trans D d9
  refine aA 2 [(16,vP bp0 1)] (dR #[.pointer (cI true bp0),vS g8 l7 h0,vS a2 p0.2.1 c2,vS a3 p0.2.2.1 c3,vI (if p3>p0.2.2.2 then p3 else p0.2.2.2)] g.f1 fun n9 g=>(aQ (aC (aF 4 [(4,vI (s4.size:Int)),(5,.nilIface)] (aJ (aO [4,5] [vI (s4.size:Int),.nilIface] (⟨_,rfl,?_⟩)))))));refine⟨⟨.inr ⟨Inv.anti g.inv D,Piece.holds_anti g.t.t.h D,trivial⟩,trivial⟩,?_⟩;refine dU kr ?_;refine aD (aE (aC (bL 1 159 22 158 4 (vS b x1.2.2.2.2 f) g.t.t.h (aF 2 [(160,vI (x1.2.2.2.2.length:Int)),(161,vI 0)] (bA (cC (.exit 3) i (fun d7 L' w'=>∃(s:IC),∃Z b0 d0 d2 d1 d3 d4,s=d7/\L'=[(0,vP bp0 0)]/\m.le d4/\St d4 (kB bp0 #[.pointer (cI s.1 bp0),vS Z s.2.1 b0,vS d0 s.2.2.1 d2,vS d1 s.2.2.2.1 d3,vI s.2.2.2.2] 115::kB o (V8 x1 b f) 61::kR Z s.2.1 b0 5 1::O) w'/\RepS lD d4 Z b0 s.2.1/\RepS C3 d4 d0 d2 s.2.2.1/\RepS aH d4 d1 d3 s.2.2.2.1/\RepS (aV .i64) d4 b f x1.2.2.2.2) ?_ ?_))))))
  .rintro d7 i _ g3 ⟨s,Z,b0,d0,d2,d1,d3,d4,rfl,rfl,q,g,Y,d5,e0,p⟩;refine cK (aD (aX (aA 3 [(180,vP bp0 0)] (bB rfl (dN 181 115 #[vP bp0 0,.int .u8 41] kr rfl (bF func115 rfl ntmps115 (aB 1 [] (aC (aA 1 [(5,vP bp0 0)] (bB rfl (dN 6 76 #[vP bp0 0] kr rfl ((mX (c0:=(cI s.1 bp0)) (R:=[vS Z s.2.1 b0,vS d0 s.2.2.1 d2,vS d1 s.2.2.2.1 d3,vI s.2.2.2.2]) (nB s.1 bp0 kr) g).mono ?_))))))))))));rintro _ g0 ⟨U,rfl,l,g⟩;refine⟨_,rfl,?_⟩;have g:St U (kB bp0 #[.pointer (cI true bp0),vS Z s.2.1 b0,vS d0 s.2.2.1 d2,vS d1 s.2.2.2.1 d3,vI s.2.2.2.2] 115::kB o (V8 x1 b f) 61::kR Z s.2.1 b0 5 1::O) g0:=g;refine aQ (aC (aA 4 [(7,vP bp0 0),(10,vP bp0 1)] (bE 11 (vS Z s.2.1 b0) g.h (aA 1 [(12,.int .u8 41)] (bB rfl (nN (d:=13) (t:=64) (e:=5) (len:=1) (parts:= #[(0,(.tmp 12))]) lD (xs:=[(41:UInt8)]) [.int .u8 41] kr rfl (fun _=>nO kr _) rfl rfl g ⟨[.int .u8 41],_,rfl,rfl,rfl⟩ fun g1 g2 g6 H g f0=>(iN 14 64 64 5 1 11 13 g.f3 (.inl kr) ((Y.mono l).mono H) f0.src i fun l9 i M S V g7 K g f9=>(aA 2 [(16,vP bp0 1)] (dR #[.pointer (cI true bp0),vS M l9 S,vS d0 s.2.2.1 d2,vS d1 s.2.2.2.1 d3,vI s.2.2.2.2] g.f2 fun g9 g=>(aS rfl ?_))))))))));have g:=g.f2.t;refine aD (aB 1 [(4,.nilIface)] (aJ (aO [4] [.nilIface] (⟨_,rfl,?_⟩))));refine aS rfl (bI ?_);cases i
   exact nS [] [] rfl ResAll.nil ⟨M,S,d0,d2,d1,d3,V,rfl,((q.t l).t H).t K,g.f2.t.f1.f1,f9,((d5.mono l).mono H).mono K,((e0.mono l).mono H).mono K⟩
  intro d7 i g6;refine cH _ kr (cG (fun k2 L' w'=>∃(l:DM),∃H K M U S V Y,aI (AK N R7 p3 x1) k2 l=some d7/\L'=[(0,vP bp0 0),(3,vI p3),(159,vS b x1.2.2.2.2 f),(160,vI (x1.2.2.2.2.length:Int)),(161,vI l.1)]/\m.le Y/\St Y (kB bp0 #[.pointer (cI l.2.1 bp0),vS H l.2.2.1 K,vS M l.2.2.2.1 U,vS S l.2.2.2.2.1 V,vI l.2.2.2.2.2] 115::kB o (V8 x1 b f) 61::kR H l.2.2.1 K 5 1::O) w'/\RepS (aV .i64) Y b f x1.2.2.2.2/\RepS lD Y H K l.2.2.1/\RepS C3 Y M U l.2.2.2.1/\RepS aH Y S V l.2.2.2.2.1) N ⟨(0,true,l7,p0.2.1,p0.2.2.1,if p3>p0.2.2.2 then p3 else p0.2.2.2),g8,h0,a2,c2,a3,c3,k5,i,rfl,(q.t d6).t d9,g.f1.f2.f2,(p.mono d6).mono d9,k7,(E.mono d6).mono d9,(F.mono d6).mono d9⟩ ?_);rintro k2 _ o0 ⟨l,H,K,M,U,S,V,Y,hL,rfl,q,g,p,g3,f0,f9⟩;rcases k2 with _|k2
  .exact cJ hL
  obtain⟨n5,i,h7,h6⟩:=cL hL;clear hL;unfold AK at i;refine aB 1 [(162,vB (decide (l.1<(x1.2.2.2.2.length:Int))))] (aE ?_);refine aG i ?_ ?_
  .intro A i;refine aM (aD (aE (bA (aT 1 [(163,vI l.1)] (dQ 164 p i ?_)))));rintro x7 i n2 f7 n4 rfl k3;refine dV 165 3 164 f7 (vI x7) g k3 (aF 2 [(13,vI l.1),(14,vI x7)] (aE (aB 2 [(167,vB (decide (l.1>0)))] (cC .normal i (fun o4 L' w'=>∃g0 g1 d5,L'=[(0,vP bp0 0),(3,vI p3),(14,vI x7),(159,vS b x1.2.2.2.2 f),(160,vI (x1.2.2.2.2.length:Int)),(161,vI l.1)]/\m.le d5/\St d5 (kB bp0 #[.pointer (cI o4.1 bp0),vS g0 o4.2 g1,vS M l.2.2.2.1 U,vS S l.2.2.2.2.1 V,vI l.2.2.2.2.2] 115::kB o (V8 x1 b f) 61::kR g0 o4.2 g1 5 1::O) w'/\RepS (aV .i64) d5 b f x1.2.2.2.2/\RepS lD d5 g0 g1 o4.2/\RepS C3 d5 M U l.2.2.2.1/\RepS aH d5 S V l.2.2.2.2.1) ?_ ?_))))
   .rintro o4 i _ o5 ⟨g0,g1,d5,rfl,q,g,p,k8,f0,f9⟩;refine aD (aX (aA 4 [(172,vP bp0 0),(173,vI x7),(175,vI (wr (p3+1)))] (aK 176 i (a (p0:=(o4,l.2.2.2.1,l.2.2.2.2.1,l.2.2.2.2.2)) g.f2.f1 k8 f0 f9) ?_)));rintro y9 i _ o6 ⟨g2,h1,g7,h8,g9,h9,k6,rfl,e0,g,k9,l0,n0⟩;refine aS rfl (bI (aD (aX (aA 2 [(161,vI (wr (l.1+1)))] (aS rfl ?_)))));have hL:=h7 _ (sI i);exact xE (cE ⟨(wr (l.1+1),y9.1.1,y9.1.2,y9.2.1,y9.2.2.1,y9.2.2.2),g2,h1,g7,h8,g9,h9,k6,hL,rfl,q.t e0,g.f1.f2.f2,p.mono e0,k9,l0,n0⟩)
   intro o4 i g7;refine aG i ?_ ?_
   .intro A i;refine aX (aA 3 [(170,vP bp0 0)] (bB rfl (dN 171 33 #[vP bp0 0,vT b1o] kr rfl (bF func33 rfl ntmps33 (aB 2 [] (aC (aA 1 [(6,vP bp0 0)] (bB rfl (dN 7 76 #[vP bp0 0] kr rfl ((mX (c0:=(cI l.2.1 bp0)) (R:=[vS H l.2.2.1 K,vS M l.2.2.2.1 U,vS S l.2.2.2.2.1 V,vI l.2.2.2.2.2]) (nB l.2.1 bp0 kr) g).mono ?_))))))))));rintro _ k8 ⟨h8,rfl,e0,g⟩;refine⟨_,rfl,?_⟩;have g:St h8 (kB bp0 #[.pointer (cI true bp0),vS H l.2.2.1 K,vS M l.2.2.2.1 U,vS S l.2.2.2.2.1 V,vI l.2.2.2.2.2] 115::kB o (V8 x1 b f) 61::kR H l.2.2.1 K 5 1::O) k8:=g;refine aQ (aC (aA 4 [(8,vP bp0 0),(11,vP bp0 1)] (bE 12 (vS H l.2.2.1 K) g.h (aA 1 [(13,vT b1o)] (iN 14 64 9 5 1 12 13 g.f2 (.inr kr) (g3.mono e0) (Gives.str _) i fun l8 i g9 h1 h9 k9 g2 g k6=>(aA 2 [(16,vP bp0 1)] (dR #[.pointer (cI true bp0),vS g9 l8 h1,vS M l.2.2.2.1 U,vS S l.2.2.2.2.1 V,vI l.2.2.2.2.2] g.f1 fun l0 g=>(aQ (aC (aF 4 [(4,vI (b1o.size:Int)),(5,.nilIface)] (aJ (aO [4,5] [vI (b1o.size:Int),.nilIface] (⟨_,rfl,?_⟩)))))))))))));refine aS rfl ?_;cases i;exact xE (g7 _ _ ⟨g9,h1,h9,rfl,(q.t e0).t g2,g.f1.f2.f2,(p.mono e0).mono g2,k6,(f0.mono e0).mono g2,(f9.mono e0).mono g2⟩)
   intro A i;refine aM ?_;cases i;exact xE (g7 _ _ ⟨H,K,Y,rfl,q,g.f2.f2.f2,p,g3,f0,f9⟩)
  intro A i;refine cD (bD ?_);have ho:=h6 _ (sI i);have g:=g.f2.f2.f2;refine bD ?_;exact xE (g6 _ _ ⟨l.2,H,K,M,U,S,V,Y,ho,rfl,q,g,g3,f0,f9,p⟩)
 intro A i;refine aB 2 [(182,vB (x1.1==6))] (aG i ?_ ?_)
 .intro A i;refine aE (eC [(8,fun w'=>Inv B w'/\Piece.holds B w' (kB o (V8 x1 b f) 61)/\True)] kr g fun k3 _ g=> ?_);have s:=B.le_refl;refine⟨⟨.inr ⟨Inv.anti g.inv s,Piece.holds_anti g.t.h s,trivial⟩,trivial⟩,?_⟩;refine aR 0 184 (vP bp0 0) (.head _) (aR 1 185 (vP bp0 0) (.head _) (aR 2 186 (vP bp0 0) (.head _) (aR 3 187 (vP o 3) (.head _) (dM 9 187 4 188 3 (vT x1.2.2.2.1) (.head _) (fun _ h=>h.2.1) (cV 9 9 ((.const (vT bj))) 188 5 189 (.head _) i fun s6 i=>(cV 9 9 189 ((.const (vT bk))) 6 190 (.head _) i fun s7 i=>(cB 7 kr (dN 191 33 #[vP bp0 0,vT s7] kr rfl (bF func33 rfl ntmps33 (aB 2 [] (aC (aA 1 [(6,vP bp0 0)] (bB rfl (dN 7 76 #[vP bp0 0] kr rfl ((mX (c0:=(cI p0.1.1 bp0)) (R:=[vS a1 p0.1.2 c1,vS a2 p0.2.1 c2,vS a3 p0.2.2.1 c3,vI (if p3>p0.2.2.2 then p3 else p0.2.2.2)]) (nB p0.1.1 bp0 kr) g).mono ?_)))))))))))))));rintro _ g8 ⟨e0,rfl,D,g⟩;refine⟨_,rfl,?_⟩;have s:=Mem.le_trans s D;have g:St e0 (kB bp0 #[.pointer (cI true bp0),vS a1 p0.1.2 c1,vS a2 p0.2.1 c2,vS a3 p0.2.2.1 c3,vI (if p3>p0.2.2.2 then p3 else p0.2.2.2)] 115::kB o (V8 x1 b f) 61::kR a1 p0.1.2 c1 5 1::O) g8:=g;refine aQ (aC (aA 4 [(8,vP bp0 0),(11,vP bp0 1)] (bE 12 (vS a1 p0.1.2 c1) g.h (aA 1 [(13,vT s7)] (iN 14 64 9 5 1 12 13 g.f2 (.inr kr) (G.mono D) (Gives.str _) i fun d3 i d4 d5 h7 k4 H g g0=> ?_)))));have s:=Mem.le_trans s H
  refine aA 2 [(16,vP bp0 1)] (dR #[.pointer (cI true bp0),vS d4 d3 d5,vS a2 p0.2.1 c2,vS a3 p0.2.2.1 c3,vI (if p3>p0.2.2.2 then p3 else p0.2.2.2)] g.f1 fun k5 g=>(aQ (aC (aF 4 [(4,vI (s7.size:Int)),(5,.nilIface)] (aJ (aO [4,5] [vI (s7.size:Int),.nilIface] (⟨_,rfl,?_⟩)))))));refine⟨⟨.inr ⟨Inv.anti g.inv s,Piece.holds_anti g.t.t.h s,trivial⟩,trivial⟩,?_⟩;refine dU kr ?_;refine aD (aT 2 [(192,vP bp0 0),(193,vP o 4)] (bE 194 (vS b x1.2.2.2.2 f) g.t.t.h (dQ 195 ((p.mono D).mono H) i ?_)));rintro x8 i h0 f8 h6 rfl d7;refine dV 196 3 195 f8 (vI x8) g d7 (aA 2 [(198,vI (wr (p3+1)))] (aK 199 i (a (p0:=((true,d3),p0.2.1,p0.2.2.1,if p3>p0.2.2.2 then p3 else p0.2.2.2)) g.f1.f1 g0 ((E.mono D).mono H) ((F.mono D).mono H)) ?_));rintro l i _ k6 ⟨K,U,M,V,S,Y,h8,rfl,d6,g,g1,g2,g3⟩;refine aQ (aX (aA 3 [(202,vP bp0 0)] (bB rfl (dN 203 115 #[vP bp0 0,.int .u8 41] kr rfl (bF func115 rfl ntmps115 (aB 1 [] (aC (aA 1 [(5,vP bp0 0)] (bB rfl (dN 6 76 #[vP bp0 0] kr rfl ((mX (c0:=(cI l.1.1 bp0)) (R:=[vS K l.1.2 U,vS M l.2.1 V,vS S l.2.2.1 Y,vI l.2.2.2]) (nB l.1.1 bp0 kr) g).mono ?_)))))))))));rintro _ g9 ⟨f0,rfl,Z,g⟩;refine⟨_,rfl,?_⟩;have g:St f0 (kB bp0 #[.pointer (cI true bp0),vS K l.1.2 U,vS M l.2.1 V,vS S l.2.2.1 Y,vI l.2.2.2] 115::kR K l.1.2 U 5 1::kB o (V8 x1 b f) 61::O) g9:=g
  refine aQ (aC (aA 4 [(7,vP bp0 0),(10,vP bp0 1)] (bE 11 (vS K l.1.2 U) g.h (aA 1 [(12,.int .u8 41)] (bB rfl (nN (d:=13) (t:=64) (e:=5) (len:=1) (parts:= #[(0,(.tmp 12))]) lD (xs:=[(41:UInt8)]) [.int .u8 41] kr rfl (fun _=>nO kr _) rfl rfl g ⟨[.int .u8 41],_,rfl,rfl,rfl⟩ fun h1 h9 k7 b0 g g6=>(iN 14 64 64 5 1 11 13 g.f2 (.inl kr) ((g1.mono Z).mono b0) g6.src i fun d9 i d1 d2 f9 k8 d0 g g7=>(aA 2 [(16,vP bp0 1)] (dR #[.pointer (cI true bp0),vS d1 d9 d2,vS M l.2.1 V,vS S l.2.2.1 Y,vI l.2.2.2] g.f2 fun k9 g=>(aS rfl ?_))))))))));have g:=g.f2.t;refine aD (aB 1 [(4,.nilIface)] (aJ (aO [4] [.nilIface] (⟨_,rfl,?_⟩))));refine aS rfl (bI ?_);cases i;exact nS [] [] rfl ResAll.nil ⟨d1,d2,M,V,S,Y,f9,rfl,(((((q.t D).t H).t d6).t Z).t b0).t d0,g.f2.t.f1.f1,g7,((g2.mono Z).mono b0).mono d0,((g3.mono Z).mono b0).mono d0⟩
 intro A i;refine aB 2 [(204,vB (x1.1==10))] (aG i ?_ ?_)
 .intro A i;refine eC [(9,fun w'=>Inv B w'/\Piece.holds B w' (kB o (V8 x1 b f) 61)/\True)] kr g fun d1 _ g=> ?_;have l:=B.le_refl;refine⟨⟨.inr ⟨Inv.anti g.inv l,Piece.holds_anti g.t.h l,trivial⟩,trivial⟩,?_⟩;refine aR 0 206 (vP bp0 0) (.head _) (aR 1 207 (vP bp0 0) (.head _) (aR 2 208 (vP bp0 0) (.head _) (aR 3 209 (vP o 1) (.head _) (dM 3 209 4 210 1 (vI x1.2.1) (.head _) (fun _ h=>h.2.1) (cB 5 kr (eS 211 i (fun _ h=>RY g h) ?_))))));rintro d5 i _ d2 ⟨d0,rfl,s,g⟩;refine⟨_,rfl,?_⟩;have l:=Mem.le_trans l s;refine⟨⟨.inr ⟨Inv.anti g.inv l,Piece.holds_anti g.t.h l,trivial⟩,trivial⟩,?_⟩;refine cV 9 9 ((.const (vT (⟨#[102,108,105,112,40]⟩:BA)))) 211 6 212 (.head _) i fun s8 i=> ?_;refine cV 9 9 212 ((.const (vT bl))) 7 213 (.head _) i fun K i=> ?_;refine cB 8 kr (dN 214 33 #[vP bp0 0,vT K] kr rfl (bF func33 rfl ntmps33 (aB 2 [] (aC (aA 1 [(6,vP bp0 0)] (bB rfl (dN 7 76 #[vP bp0 0] kr rfl ((mX (c0:=(cI p0.1.1 bp0)) (R:=[vS a1 p0.1.2 c1,vS a2 p0.2.1 c2,vS a3 p0.2.2.1 c3,vI (if p3>p0.2.2.2 then p3 else p0.2.2.2)]) (nB p0.1.1 bp0 kr) g).mono ?_))))))));rintro _ b0 ⟨V,rfl,D,g⟩;refine⟨_,rfl,?_⟩;have l:=Mem.le_trans l D
  have g:St V (kB bp0 #[.pointer (cI true bp0),vS a1 p0.1.2 c1,vS a2 p0.2.1 c2,vS a3 p0.2.2.1 c3,vI (if p3>p0.2.2.2 then p3 else p0.2.2.2)] 115::kB o (V8 x1 b f) 61::kR a1 p0.1.2 c1 5 1::O) b0:=g;refine aQ (aC (aA 4 [(8,vP bp0 0),(11,vP bp0 1)] (bE 12 (vS a1 p0.1.2 c1) g.h (aA 1 [(13,vT K)] (iN 14 64 9 5 1 12 13 g.f2 (.inr kr) ((G.mono s).mono D) (Gives.str _) i fun U i M S Y d3 H g Z=> ?_)))));have l:=Mem.le_trans l H;refine aA 2 [(16,vP bp0 1)] (dR #[.pointer (cI true bp0),vS M U S,vS a2 p0.2.1 c2,vS a3 p0.2.2.1 c3,vI (if p3>p0.2.2.2 then p3 else p0.2.2.2)] g.f1 fun d4 g=>(aQ (aC (aF 4 [(4,vI (K.size:Int)),(5,.nilIface)] (aJ (aO [4,5] [vI (K.size:Int),.nilIface] (⟨_,rfl,?_⟩)))))));refine⟨⟨.inr ⟨Inv.anti g.inv l,Piece.holds_anti g.t.t.h l,trivial⟩,trivial⟩,?_⟩;refine dU kr ?_;refine bI ?_;cases i;exact nS [] [] rfl ResAll.nil ⟨M,S,a2,c2,a3,c3,Y,rfl,((q.t s).t D).t H,g.f2.t.f1.f1,Z,((E.mono s).mono D).mono H,((F.mono s).mono D).mono H⟩
 intro A i;refine aC (bB rfl (FR (d:=51) (t:=146) kr rfl g fun s g8 g=> ?_));have⟨g2,Y,i⟩:=aW i;refine bB rfl (mL (ek:=(fun n:Int=>Value.int .i64 n)) (c:=aH) (agg:=false) (k:=7) (yv:=b1a) (cs:=[vT b1a]) (z:=(vT eB)) (v:=(vT b1a)) (kt:=3) (et:=9) (t:=146) (x:=(.tmp 51)) (y:=(.const (vI 7))) (u:=(.const (vT b1a))) kr (ev (.map (some s))) (ev (vI 7)) (ev (vT b1a)) kr (lP kr) g (MapQ.new (fun n:Int=>Value.int .i64 n) aH false _ _) rfl rfl Y fun g0 f0 g9 g d4=> ?_);have⟨g3,Z,i⟩:=aW i;refine bB rfl (mL (ek:=(fun n:Int=>Value.int .i64 n)) (c:=aH) (agg:=false) (k:=8) (yv:=b1b) (cs:=[vT b1b]) (z:=(vT eB)) (v:=(vT b1b)) (kt:=3) (et:=9) (t:=146) (x:=(.tmp 51)) (y:=(.const (vI 8))) (u:=(.const (vT b1b))) kr (ev (.map (some s))) (ev (vI 8)) (ev (vT b1b)) kr (lP kr) g d4 rfl rfl Z fun g1 f9 h0 g d5=> ?_);have⟨U,b0,i⟩:=aW i
 refine bB rfl (mL (ek:=(fun n:Int=>Value.int .i64 n)) (c:=aH) (agg:=false) (k:=9) (yv:=b1c) (cs:=[vT b1c]) (z:=(vT eB)) (v:=(vT b1c)) (kt:=3) (et:=9) (t:=146) (x:=(.tmp 51)) (y:=(.const (vI 9))) (u:=(.const (vT b1c))) kr (ev (.map (some s))) (ev (vI 9)) (ev (vT b1c)) kr (lP kr) g d5 rfl rfl b0 fun d0 V h1 g d6=>(aA 2 [(52,.map (some s)),(53,vP o 0)] (bE 54 (vI x1.1) g.t.t.h (bB rfl (yL (ek:=(fun n:Int=>Value.int .i64 n)) (c:=aH) (agg:=false) (k:=x1.1) (zx:=eB) (zcs:=[vT eB]) (z:=(vT eB)) (kt:=3) (et:=9) (d:=55) (t:=146) (x:=(.tmp 52)) (y:=(.tmp 54)) (ok:=false) kr rfl (ev (.map (some s))) (ev (vI x1.1)) kr (lP kr) g.h d6 rfl rfl ?_)))));rintro e0 rfl;refine aF 1 [(15,vT ((cX U x1.1).getD eB))] (eC [(10,fun w'=>Inv B w'/\Piece.holds B w' (kB o (V8 x1 b f) 61)/\True)] kr g fun h6 _ g=> ?_);have l:=B.le_refl;refine⟨⟨.inr ⟨Inv.anti g.inv l,Piece.holds_anti g.t.t.h l,trivial⟩,trivial⟩,?_⟩
 refine aR 0 56 (vP bp0 0) (.head _) (aR 1 57 (vP bp0 0) (.head _) (aR 2 58 (vP bp0 0) (.head _) (aR 3 59 (vT ((cX U x1.1).getD eB)) (.head _) (cV 9 9 59 ((.const (vT (⟨#[40,34]⟩:BA)))) 4 60 (.head _) i fun g6 i=>(aR 5 61 (vP o 3) (.head _) (dM 9 61 6 62 3 (vT x1.2.2.2.1) (.head _) (fun _ h=>h.2.1) (cV 9 9 60 62 7 63 (.head _) i fun g7 i=>(cV 9 9 63 ((.const (vT bh))) 8 64 (.head _) i fun K i=>(cB 9 kr (dN 65 33 #[vP bp0 0,vT K] kr rfl (bF func33 rfl ntmps33 (aB 2 [] (aC (aA 1 [(6,vP bp0 0)] ?_))))))))))))));have g:=g.f1;refine bB rfl (dN 7 76 #[vP bp0 0] kr rfl ((mX (c0:=(cI p0.1.1 bp0)) (R:=[vS a1 p0.1.2 c1,vS a2 p0.2.1 c2,vS a3 p0.2.2.1 c3,vI (if p3>p0.2.2.2 then p3 else p0.2.2.2)]) (nB p0.1.1 bp0 kr) g).mono ?_));rintro _ d9 ⟨d2,rfl,D,g⟩;refine⟨_,rfl,?_⟩;have l:=Mem.le_trans l D;have g:St d2 (kB bp0 #[.pointer (cI true bp0),vS a1 p0.1.2 c1,vS a2 p0.2.1 c2,vS a3 p0.2.2.1 c3,vI (if p3>p0.2.2.2 then p3 else p0.2.2.2)] 115::dS (some s) d0 V::kB o (V8 x1 b f) 61::kR a1 p0.1.2 c1 5 1::O) d9:=g;refine aQ (aC (aA 4 [(8,vP bp0 0),(11,vP bp0 1)] (bE 12 (vS a1 p0.1.2 c1) g.h (aA 1 [(13,vT K)] (iN 14 64 9 5 1 12 13 g.f3 (.inr kr) (G.mono D) (Gives.str _) i fun d1 i M S d3 h7 H g d7=> ?_)))));have l:=Mem.le_trans l H
 refine aA 2 [(16,vP bp0 1)] (dR #[.pointer (cI true bp0),vS M d1 S,vS a2 p0.2.1 c2,vS a3 p0.2.2.1 c3,vI (if p3>p0.2.2.2 then p3 else p0.2.2.2)] g.f1 fun h8 g=>(aQ (aC (aF 4 [(4,vI (K.size:Int)),(5,.nilIface)] (aJ (aO [4,5] [vI (K.size:Int),.nilIface] (⟨_,rfl,?_⟩)))))));refine⟨⟨.inr ⟨Inv.anti g.inv l,Piece.holds_anti g.t.t.t.h l,trivial⟩,trivial⟩,?_⟩;refine dU kr ?_;refine bI ?_;cases i;exact nS [] [] rfl ResAll.nil ⟨M,S,a2,c2,a3,c3,d3,rfl,(q.t D).t H,g.f2.t.f2.t.f1.f1,d7,(E.mono D).mono H,(F.mono D).mono H⟩
theorem RB(N:Nat):∀D:Nat,(∀{m:Mem} {O:List Piece} {w:World} {p0:oG} {p1:Int} {p2:Int} {p3:Int} {a:Nat} {l:Option Addr} {n:Nat} {o:Option Addr} {q:Nat} {p:Option Addr} {s:Nat} {r:oG} (g:St m (kB a #[.pointer (cI p0.1.1 a),vS l p0.1.2 n,vS o p0.2.1 q,vS p p0.2.2.1 s,vI p0.2.2.2] 115::kR l p0.1.2 n 5 1::O) w) (t:RepS lD m l n p0.1.2) (u:RepS C3 m o q p0.2.1) (v:RepS aH m p s p0.2.2.1) (i:(vE N D) p0 p1 p2 p3=some r),Calls prog 77 #[vP a 0,vI p1,vI p2,vI p3] w fun e w'=>∃b c d h f k m',e= .returned (.tuple #[])/\m.le m'/\St m' (kB a #[.pointer (cI r.1.1 a),vS b r.1.2 c,vS d r.2.1 h,vS f r.2.2.1 k,vI r.2.2.2] 115::kR b r.1.2 c 5 1::O) w'/\P6 m' b c d h f k r)
 |0=>fun _ _ _ _ i=>(by cases i)
 |D+1=>fun g t u v i=>qBn (RB N D) g t u v i
theorem qCc{p0:oG}{p1:Int}{p2:Int}{p3:Int}{r:oG}(g:St m (kB bp0 #[.pointer (cI p0.1.1 bp0),vS a1 p0.1.2 c1,vS a2 p0.2.1 c2,vS a3 p0.2.2.1 c3,vI p0.2.2.2] 115::kR a1 p0.1.2 c1 5 1::O) w)(k:RepS lD m a1 c1 p0.1.2)(l:RepS C3 m a2 c2 p0.2.1)(n:RepS aH m a3 c3 p0.2.2.1)(i:MA N p0 p1 p2 p3=some r):Calls prog 77 #[vP bp0 0,vI p1,vI p2,vI p3] w fun e w'=>∃a b c f d h m',e= .returned (.tuple #[])/\m.le m'/\St m' (kB bp0 #[.pointer (cI r.1.1 bp0),vS a r.1.2 b,vS c r.2.1 f,vS d r.2.2.1 h,vI r.2.2.2] 115::kR a r.1.2 b 5 1::O) w'/\P6 m' a b c f d h r:=
 (RB N N) g k l n i
def yG(N:Nat)(p0:Ts)(p1:T6):Option Tj:=
 (MA N ((false,([]:pC)),p0,p1,0) (IntKind.wrap .i64 ((List.length p0:Int)-1)) 0 1).bind fun y1=>(HO y1.1.2).bind fun a=>some (cN y1.1.2,y1.2.2.2)
theorem qDe{p0:Ts}{p1:T6}{r:Tj}(g:St m (O) w)(B:RepS C3 m a1 c1 p0)(D:RepS aH m a2 c2 p1)(i:yG N p0 p1=some r):Calls prog 34 #[vS a1 p0 c1,vS a2 p1 c2] w fun e w'=>∃m',e= .returned (.tuple #[vT r.1,vI r.2])/\m.le m'/\St m' (O) w':=by
 unfold yG at i;have q:=m.le_refl;refine bF func34 rfl ntmps34 ?_;refine aB 2 [] (aC ?_);refine aA 3 [(9,.agg #[.pointer none,vc,vS a1 p0 c1,vS a2 p1 c2,vI 0])] (bB rfl (uE 10 115 9 (.agg #[.pointer none,vc,vS a1 p0 c1,vS a2 p1 c2,vI 0]) g fun a H g=>(aF 1 [(6,vP a 0)] (aC (aA 4 [(11,vP a 0),(14,vI (wr ((p0.length:Int)-1)))] ?_)))));have g:=(g.nilroom 5 1).front1;refine aK 15 i (qCc (p0:=((false,([]:pC)),p0,p1,0)) g (RepS.nil _ _) B D) ?_;rintro y1 i _ K ⟨k,l,o,s,p,u,f,rfl,A,g,v,E,F⟩;refine aQ (aE (eC [(10,fun w'=>Inv f w'/\Piece.holds f w' (kB a #[.pointer (cI y1.1.1 a),vS k y1.1.2 l,vS o y1.2.1 s,vS p y1.2.2.1 u,vI y1.2.2.2] 115)/\True)] kr g fun M _ g=> ?_));have c:=f.le_refl;refine⟨⟨.inr ⟨Inv.anti g.inv c,Piece.holds_anti g.h c,trivial⟩,trivial⟩,?_⟩;refine aR 0 16 (vP a 0) (.head _) (aR 1 17 (vP a 0) (.head _) (aR 2 18 (vP a 0) (.head _) (aR 4 20 (vP a 0) (.head _) (aR 5 21 (vP a 0) (.head _) (aR 6 22 (vP a 4) (.head _) (dM 3 22 7 23 4 (vI y1.2.2.2) (.head _) (fun _ h=>h.2.1) (cB 3 kr (dN 19 37 #[vP a 0] kr rfl (bF func37 rfl ntmps37 (aB 1 [] (aE (eC [(12,fun w'=>Inv f w'/\Piece.holds f w' (kB a #[.pointer (cI y1.1.1 a),vS k y1.1.2 l,vS o y1.2.1 s,vS p y1.2.2.1 u,vI y1.2.2.2] 115)/\True)] kr g fun R _ g=> ?_))))))))))));have b:=f.le_refl
 refine⟨⟨.inr ⟨Inv.anti g.inv b,Piece.holds_anti g.h b,trivial⟩,trivial⟩,?_⟩;refine aR 0 3 (vP a 0) (.head _) (aR 1 4 (vP a 0) (.head _) (aR 2 5 (vP a 1) (.head _) (dM 64 5 3 6 1 (vS k y1.1.2 l) (.head _) (fun _ h=>h.2.1) (aR 5 8 (vP a 0) (.head _) (aR 6 9 (vP a 0) (.head _) (aR 7 10 (vP a 1) (.head _) (dM 64 10 8 11 1 (vS k y1.1.2 l) (.head _) (fun _ h=>h.2.1) (aR 9 12 (vI (y1.1.2.length:Int)) (.head _) ?_))))))));have⟨G,z,i⟩:=aW i;have n:=YE z;refine cB 4 kr (SD (d:=7) (t:=64) (x:=(.tmp 6)) kr rfl (ev (vS k y1.1.2 l)) v n (⟨⟨.inr ⟨Inv.anti g.inv b,Piece.holds_anti g.h b,trivial⟩,trivial⟩,?_⟩));refine cB 10 kr (RU (d:=13) (pt:=118) (it:=3) (e:=5) (x:=(.tmp 7)) (y:=(.tmp 12)) kr rfl (ev (.pointer k)) (ev (vI (y1.1.2.length:Int))) g.f1 v n kr kr fun S g=>(⟨⟨.inr ⟨Inv.anti g.inv b,Piece.holds_anti g.h b,trivial⟩,trivial⟩,?_⟩));refine aR 11 2 (vT (cN y1.1.2)) (.head _) (dU kr (aD (aJ (aO [2] [vT (cN y1.1.2)] (⟨_,rfl,?_⟩)))));refine⟨⟨.inr ⟨Inv.anti g.inv c,Piece.holds_anti g.h c,trivial⟩,trivial⟩,?_⟩;refine aR 8 4 (vT (cN y1.1.2)) (.head _) (aR 9 5 (vI y1.2.2.2) (.head _) (dU kr (aD (aJ ?_))));obtain rfl:=sI i;exact aO [4,5] [vT (cN y1.1.2),vI y1.2.2.2] ⟨f,rfl,q.t A,g.t⟩
def yI(N:Nat)(p0:Ts)(p1:T6):Option Tj:=
 (qC N ((⟨#[112]⟩:BA),([]:T6),[(1,(⟨#[102]⟩:BA),p1,p0)])).bind fun y1=>if(y1 !=0)=true then(some ((⟨#[]⟩:BA),y1)) else((yG N p0 p1).bind fun a=>some (a.1,0))
theorem qDo{p0:Ts}{p1:T6}{r:Tj}(g:St m (O) w)(f:RepS C3 m a1 c1 p0)(h:RepS aH m a2 c2 p1)(i:yI N p0 p1=some r):Calls prog 17 #[vS a1 p0 c1,vS a2 p1 c2] w fun e w'=>∃m',e= .returned (.tuple #[vT r.1,vI r.2])/\m.le m'/\St m' (O) w':=by
 unfold yI at i;have q:=m.le_refl;refine bF func17 rfl ntmps17 ?_;refine aB 2 [] (aE ?_);refine aT 3 [(11,.agg #[vI 1,vT bg,vS a2 p1 c2,vS a1 p0 c1])] ?_;refine bB rfl (nN (d:=12) (t:=27) (e:=43) (len:=1) (parts:= #[(0,(.tmp 11))]) C4 (xs:=[(1,bg,p1,p0)]) [vI 1,vT bg,vS a2 p1 c2,vS a1 p0 c1] kr rfl (fun _=>nO kr _) rfl rfl g ⟨[vI 1,vT bg,vS a2 p1 c2,vS a1 p0 c1],_,rfl,⟨_,_,rfl,rfl,⟨_,_,rfl,rfl,⟨_,_,rfl,(rA h),(rA f)⟩⟩⟩,rfl⟩ fun k s u a g p=>(aA 1 [(13,.agg #[vT ba,v1,.slice (aP k) (List.length ([(1,bg,p1,p0)])) 1])] (aK 14 i (RZ (p0:=(ba,([]:T6),[(1,bg,p1,p0)])) g (RepS.nil _ _) p) ?_)));rintro y1 i _ v ⟨n,rfl,b,g⟩;refine aA 1 [(6,vI y1)] (aS rfl ?_);have g:=g.t;refine aD (aB 2 [(16,vB (y1 !=0))] (aG i ?_ ?_))
 .intro A i;refine aB 3 [(4,vT eB),(5,vI y1)] (aJ ?_);refine aL ?_;obtain rfl:=sI i;exact aO [4,5] [vT eB,vI y1] ⟨n,rfl,(q.t a).t b,g⟩
 intro A i;refine aM (aD (aT 2 [(19,vS a1 p0 c1),(20,vS a2 p1 c2)] (aK 21 i (qDe g ((f.mono a).mono b) ((h.mono a).mono b)) ?_)));rintro c i _ x ⟨o,rfl,l,g⟩;refine aF 5 [(7,vT c.1)] (aC (aF 3 [(4,vT c.1),(5,vI 0)] (aJ ?_)));cases i;exact aO [4,5] [vT c.1,vI 0] ⟨o,rfl,((q.t a).t b).t l,g⟩
def JN(N:Nat)(p0:T6)(p1:BA):Tf:=
 if((List.length p0:Int)==0)=true then(some (⟨#[]⟩:BA)) else(if((List.length p0:Int)==1)=true then((idx p0 0).bind fun x1=>some x1) else none)
def tR(N:Nat)(p0:T6)(p1:BA):Tf:=
 if 2<=List.length p0 then LK p0 p1 else JN N p0 p1
theorem qCz{p0:T6}{p1:BA}{r:BA}(g:St m (O) w)(c:RepS aH m a1 c1 p0)(i:JN N p0 p1=some r):Calls prog 35 #[vS a1 p0 c1,vT p1] w fun e w'=>∃m',e= .returned (vT r)/\m.le m'/\St m' (O) w':=by
 unfold JN at i;have q:=m.le_refl;refine bF func35 rfl ntmps35 ?_;refine aB 1 [] (aE ?_);refine aB 2 [(12,vI (p0.length:Int))] (bA ?_);refine aB 2 [(13,vB ((p0.length:Int)==0))] (aG i ?_ ?_)
 .intro A i;refine aB 1 [(4,vT eB)] (aJ ?_);refine aZ (aL ?_);cases i;exact aO [4] [vT eB] ⟨m,rfl,q,g⟩
 intro A i;refine aB 2 [(15,vB ((p0.length:Int)==1))] (aG i ?_ ?_)
 .intro A i;refine aT 1 [(17,vS a1 p0 c1)] ?_;refine dQ 18 c i ?_;rintro x1 i f b d rfl a;refine dV 19 9 18 b (vT x1) g a (aF 1 [(4,vT x1)] (aJ (aZ (aL ?_))));obtain rfl:=sI i;exact aO [4] [vT x1] ⟨m,rfl,q,g⟩
 intro A i;cases i
def SG:Go.Shelf.Ren:=⟨fun|156=>35|165=>78|166=>33|169=>37|240=>76|241=>118|276=>113|277=>146|n=>n,fun|31=>26|9=>9|3=>3|4=>4|0=>0|20=>20|72=>66|76=>69|70=>63|37=>64|75=>68|127=>118|164=>143|5=>5|80=>75|n=>n,fun|n=>n⟩
theorem qHf:Go.Proofs.Lays.n156 prog SG where
 mixed:=kr
 f156:=func35.trans (congrArg some kr)
 f165:=func78.trans (congrArg some kr)
 f166:=func33.trans (congrArg some kr)
 f169:=func37.trans (congrArg some kr)
 f240:=func76.trans (congrArg some kr)
 f241:=func118.trans (congrArg some kr)
 f276:=func113.trans (congrArg some kr)
 f277:=func146.trans (congrArg some kr)
 t0:=Tryz.underlying0
 a0:=Tryz.isAgg0
 z0:=Tryz.sizeOf0
 v0:=Tryz.zeroValue0
 t3:=Tryz.underlying3
 a3:=Tryz.isAgg3
 z3:=Tryz.sizeOf3
 v3:=Tryz.zeroValue3
 t4:=Tryz.underlying4
 a4:=Tryz.isAgg4
 z4:=Tryz.sizeOf4
 v4:=Tryz.zeroValue4
 t9:=Tryz.underlying9
 a9:=Tryz.isAgg9
 z9:=Tryz.sizeOf9
 v9:=Tryz.zeroValue9
 t20:=Tryz.underlying20
 a20:=Tryz.isAgg20
 z20:=Tryz.sizeOf20
 v20:=Tryz.zeroValue20
 t31:=Tryz.underlying26
 a31:=Tryz.isAgg26
 z31:=Tryz.sizeOf26
 v31:=Tryz.zeroValue26
 t37:=Tryz.underlying64
 a37:=Tryz.isAgg64
 z37:=Tryz.sizeOf64
 v37:=Tryz.zeroValue64
 t70:=Tryz.underlying63
 a70:=Tryz.isAgg63
 z70:=Tryz.sizeOf63
 v70:=Tryz.zeroValue63
 t72:=Tryz.underlying66
 a72:=Tryz.isAgg66
 z72:=Tryz.sizeOf66
 v72:=Tryz.zeroValue66
 t75:=Tryz.underlying68
 a75:=Tryz.isAgg68
 z75:=Tryz.sizeOf68
 v75:=Tryz.zeroValue68
 t76:=Tryz.underlying69
 a76:=Tryz.isAgg69
 z76:=Tryz.sizeOf69
 v76:=Tryz.zeroValue69
 t127:=Tryz.underlying118
 a127:=Tryz.isAgg118
 z127:=Tryz.sizeOf118
 v127:=Tryz.zeroValue118
 t164:=Tryz.underlying143
 a164:=Tryz.isAgg143
 z164:=Tryz.sizeOf143
 v164:=Tryz.zeroValue143
theorem qLn:Go.Proofs.Builder.Extra prog SG where
 sizeBuilder:=kr
 liesBuilder:=kr
 t5:=Tryz.underlying5
 a5:=Tryz.isAgg5
 z5:=Tryz.sizeOf5
 v5:=Tryz.zeroValue5
 infoByte:=kr
 cellsByte:=kr
 sizeByte:=kr
 neB5:=by decide
theorem qDf{p0:T6}{p1:BA}{r:BA}(g:St m (O) w)(a:RepS aH m a1 c1 p0)(i:tR N p0 p1=some r):Calls prog 35 #[vS a1 p0 c1,vT p1] w fun e w'=>∃m',e= .returned (vT r)/\m.le m'/\St m' (O) w':=by
 unfold tR at i
 split at i
 .rename_i h2
  exact qGd qHf qLn g a h2 i
 exact qCz g a i
def xZ(N:Nat)(p0:eF)(a:Int×pC):Option (Int×pC⊕pC):=
 if(decide (a.1<(List.length p0.2.1:Int)))=true then((idx p0.2.1 a.1).bind fun b=>(bH (⟨#[105,109,112,111,114,116,32]⟩:BA) b).bind fun b=>(bH b (⟨#[59,10]⟩:BA)).bind fun b=>(cW 1 a.2 b.data.toList).bind fun b=>some (.inl (IntKind.wrap .i64 (a.1+1),b))) else(some (.inr a.2))
def oJ(N:Nat)(p0:eF)(p1:Int):Option Tj:=
 (qC N p0).bind fun y1=>if(y1 !=0)=true then(some ((⟨#[]⟩:BA),y1)) else((if(decide (p1<0))=true then(some true) else(some (decide (p1>=(List.length p0.2.2:Int)))):Te).bind fun a=>if a=true then(some ((⟨#[]⟩:BA),3)) else((idx p0.2.2 p1).bind fun x1=>(yI N x1.2.2.2 x1.2.2.1).bind fun a=>if(a.2 !=0)=true then(some ((⟨#[]⟩:BA),a.2)) else((bH (⟨#[112,97,99,107,97,103,101,32]⟩:BA) p0.1).bind fun b=>(bH b (⟨#[59,10]⟩:BA)).bind fun b=>(cW 1 ([]:pC) b.data.toList).bind fun b=>(aI (xZ N p0) N (0,b)).bind fun o2=>(if(x1.1==1)=true then((bH (⟨#[102,117,110,99,32]⟩:BA) x1.2.1).bind fun b=>(bH b (⟨#[40]⟩:BA)).bind fun b=>(tR N x1.2.2.1 (⟨#[44,32]⟩:BA)).bind fun c=>(bH b c).bind fun b=>(bH b (⟨#[41,32,61,32]⟩:BA)).bind fun b=>(cW 1 o2 b.data.toList).bind fun b=>some b) else(if(x1.1==2)=true then((bH (⟨#[116,101,115,116,32]⟩:BA) x1.2.1).bind fun b=>(bH b (⟨#[32,61,32]⟩:BA)).bind fun b=>(cW 1 o2 b.data.toList).bind fun b=>some b) else((bH (⟨#[103,101,110,32,34]⟩:BA) x1.2.1).bind fun b=>(bH b (⟨#[34,32,61,32]⟩:BA)).bind fun b=>(cW 1 o2 b.data.toList).bind fun b=>some b)):Option pC).bind fun b=>(bH a.1 (⟨#[59,10]⟩:BA)).bind fun a=>(cW 1 b a.data.toList).bind fun a=>(HO a).bind fun b=>some (cN a,0))))
theorem JK{p0:eF}{p1:Int}{r:Tj}(g:St m (O) w)(z:RepS aH m a1 c1 p0.2.1)(Z:RepS C4 m a2 c2 p0.2.2)(i:oJ N p0 p1=some r):Calls prog 20 #[.agg (V6 p0 a1 c1 a2 c2),vI p1] w fun e w'=>∃m',e= .returned (.tuple #[vT r.1,vI r.2])/\m.le m'/\St m' (O) w':=by
 unfold oJ at i;have q:=m.le_refl;refine bF func20 rfl ntmps20 ?_;refine aC (iE 2 29 (.agg (V6 p0 a1 c1 a2 c2)) g fun b1 m1 w1 e1 g p=> ?_);have z:=z.mono e1;have Z:=Z.mono e1;refine aF 2 [] (aE (aC (bJ 13 (.agg (V6 p0 a1 c1 a2 c2)) g p (aK 14 i (RZ (p0:=p0) g z Z) ?_))));rintro y1 i _ w2 ⟨m2,rfl,e2,g⟩;have q:=(q.t e1).t e2;have p:=p.mono e2;refine aF 1 [(6,vI y1)] (aC (aF 2 [(16,vB (y1 !=0))] (aG i ?_ ?_)))
 .intro A i;refine aB 3 [(4,vT eB),(5,vI y1)] (aJ ?_);refine aL ?_;obtain rfl:=sI i;exact aO [4,5] [vT eB,vI y1] ⟨m2,rfl,q,g⟩
 intro A i;refine aM (aD (aE (aC (cU 9 i (fun o1 L' w'=>∃m3,L'=[(1,vI p1),(2,vP b1 0),(26,vB o1)]/\m.le m3/\St m3 (O) w'/\MRow m3 b1 0 (Va p0 a1 c1 a2 c2)/\P5 m3 a1 c1 a2 c2 p0.2) ?_ ?_))))
 .rintro o1 i _ w3 ⟨m3,rfl,q,g,p,z,Z⟩;refine aQ (aG i ?_ ?_)
  .intro A i;refine aB 2 [(4,vT eB),(5,vI 3)] (aJ ?_);refine aL ?_;cases i;exact aO [4,5] [vT eB,vI 3] ⟨m3,rfl,q,g⟩
  intro A i;refine aM (aD (aT 1 [(27,vP b1 2)] (bJ 28 (vS a2 p0.2.2 c2) g (p.drop 2) (aA 1 [(29,vI p1)] (dQ 30 Z i ?_)))));rintro x1 i b2 f1 d5 ⟨_,_,rfl,rfl,⟨_,_,rfl,rfl,⟨_,_,rfl,⟨c,f,rfl,v⟩,⟨k,n,rfl,B⟩⟩⟩⟩ d2;refine dV 31 43 30 f1 (.agg (V7 x1 c f k n)) g d2 (cZ 7 43 (.agg #[vI 0,vT eB,v7,v7]) g fun s w4 g=>(cA (.agg (V7 x1 c f k n)) g fun w5 g=>(aQ (aC (bL 1 34 41 33 3 (vS k x1.2.2.2 n) g.h (bL 1 36 26 35 2 (vS c x1.2.2.1 f) g.h (aK 37 i (qDo g B v) ?_)))))));rintro G i _ w6 ⟨m4,rfl,Y,g⟩;refine aF 5 [(8,vT G.1),(9,vI G.2)] (aE (aB 2 [(41,vB (G.2 !=0))] (aG i ?_ ?_)))
  .intro A i;refine aB 3 [(4,vT eB),(5,vI G.2)] (aJ ?_);refine aL ?_;cases i;exact aO [4,5] [vT eB,vI G.2] ⟨m4,rfl,q.t Y,g.t⟩
  intro A i;refine aM (aD (aC (cZ 10 66 (.agg #[.pointer none,v7]) g fun a w7 g=>(aQ (aC (aA 1 [(43,vP b1 0)] (bJ 44 (vT p0.1) g (p.mono Y) (cM 45 i fun s1 i=>(cM 46 i fun s2 i=>(bB rfl (dN 47 33 #[vP a 0,vT s2] kr rfl (bF func33 rfl ntmps33 (aB 2 [] (aC (aA 1 [(6,vP a 0)] (bB rfl (dN 7 76 #[vP a 0] kr rfl ((mX (c0:=(cI false a)) (R:=[vc]) (nB false a kr) g).mono ?_))))))))))))))))));rintro _ w8 ⟨m5,rfl,e4,g⟩;refine⟨_,rfl,?_⟩;have g:St m5 (kB a #[.pointer (cI true a),vc] 66::kB s (V7 x1 c f k n) 43::O) w8:=g;refine aQ (aC (aA 4 [(8,vP a 0),(11,vP a 1)] (bE 12 (vc) g.h (aA 1 [(13,vT s2)] (iN 14 64 9 5 1 12 13 (g.nilroom 5 1) (.inr kr) (RepS.nil _ _) (Gives.str _) i fun l1 i a5 c5 m6 w9 e5 g r5=>(aA 2 [(16,vP a 1)] (dR #[.pointer (cI true a),vS a5 l1 c5] g.f1 fun d6 g=>(aQ (aC (aF 4 [(4,vI (s2.size:Int)),(5,.nilIface)] (aJ (aO [4,5] [vI (s2.size:Int),.nilIface] (⟨_,rfl,?_⟩)))))))))))))
  refine aQ (aE (aT 1 [(48,vP b1 1)] (bJ 49 (vS a1 p0.2.1 c1) g ((((p.mono Y).mono e4).mono e5).drop 1) (aF 2 [(50,vI (p0.2.1.length:Int)),(51,vI 0)] (bA (cC (.exit 0) i (fun F L' w'=>∃(o2:pC),∃l o V,o2=F/\L'=[(7,vP s 0),(8,vT G.1),(10,vP a 0)]/\m.le V/\St V (kB a #[.pointer (cI true a),vS l o2 o] 66::kB s (V7 x1 c f k n) 43::kR l o2 o 5 1::O) w'/\RepS lD V l o o2/\P2 V c f k n x1.2.2) ?_ ?_))))))
  .rintro F i _ d7 ⟨o2,l,o,V,rfl,rfl,q,g,r6,v,B⟩;refine cK (aD (aE (aC (bL 1 61 3 60 0 (vI x1.1) g.t.h (aQ (cC .normal i (fun E L' w'=>∃H S U,L'=[(8,vT G.1),(10,vP a 0)]/\m.le U/\St U (kB a #[.pointer (cI true a),vS H E S] 66::kB s (V7 x1 c f k n) 43::kR H E S 5 1::O) w'/\RepS lD U H S E/\P2 U c f k n x1.2.2) ?_ ?_))))))
   .rintro E i _ d8 ⟨H,S,U,rfl,q,g,r9,v,B⟩;refine aD (aT 1 [(86,vT G.1)] (cM 87 i fun b6 i=>(bB rfl (dN 88 33 #[vP a 0,vT b6] kr rfl (bF func33 rfl ntmps33 (aB 2 [] (aC (aA 1 [(6,vP a 0)] (bB rfl (dN 7 76 #[vP a 0] kr rfl ((mX (c0:=(cI true a)) (R:=[vS H E S]) (nB true a kr) g).mono ?_)))))))))));rintro _ d4 ⟨d3,rfl,b8,g⟩;refine⟨_,rfl,?_⟩;have g:St d3 (kB a #[.pointer (cI true a),vS H E S] 66::kB s (V7 x1 c f k n) 43::kR H E S 5 1::O) d4:=g;refine aQ (aC (aA 4 [(8,vP a 0),(11,vP a 1)] (bE 12 (vS H E S) g.h (aA 1 [(13,vT b6)] (iN 14 64 9 5 1 12 13 g.f2 (.inr kr) (r9.mono b8) (Gives.str _) i fun u i D M b0 d9 d1 g b9=>(aA 2 [(16,vP a 1)] (dR #[.pointer (cI true a),vS D u M] g.f1 fun e0 g=>(aQ (aC (aF 4 [(4,vI (b6.size:Int)),(5,.nilIface)] (aJ (aO [4,5] [vI (b6.size:Int),.nilIface] (⟨_,rfl,?_⟩)))))))))))));refine aQ (aC (bB rfl (dN 89 37 #[vP a 0] kr rfl (bF func37 rfl ntmps37 (aB 1 [] (aE (eC [(12,fun w'=>Inv b0 w'/\Piece.holds b0 w' (kB a #[.pointer (cI true a),vS D u M] 66)/\True)] kr g fun f0 _ g=> ?_)))))));have b:=b0.le_refl;refine⟨⟨.inr ⟨Inv.anti g.inv b,Piece.holds_anti g.h b,trivial⟩,trivial⟩,?_⟩
    refine aR 0 3 (vP a 0) (.head _) (aR 1 4 (vP a 0) (.head _) (aR 2 5 (vP a 1) (.head _) (dM 64 5 3 6 1 (vS D u M) (.head _) (fun _ h=>h.2.1) (aR 5 8 (vP a 0) (.head _) (aR 6 9 (vP a 0) (.head _) (aR 7 10 (vP a 1) (.head _) (dM 64 10 8 11 1 (vS D u M) (.head _) (fun _ h=>h.2.1) (aR 9 12 (vI (u.length:Int)) (.head _) ?_))))))));have⟨u3,d0,i⟩:=aW i;have b7:=YE d0;refine cB 4 kr (SD (d:=7) (t:=64) (x:=(.tmp 6)) kr rfl (ev (vS D u M)) b9 b7 (⟨⟨.inr ⟨Inv.anti g.inv b,Piece.holds_anti g.h b,trivial⟩,trivial⟩,?_⟩));refine cB 10 kr (RU (d:=13) (pt:=118) (it:=3) (e:=5) (x:=(.tmp 7)) (y:=(.tmp 12)) kr rfl (ev (.pointer D)) (ev (vI (u.length:Int))) g.f1 b9 b7 kr kr fun f3 g=>(⟨⟨.inr ⟨Inv.anti g.inv b,Piece.holds_anti g.h b,trivial⟩,trivial⟩,?_⟩));refine aR 11 2 (vT (cN u)) (.head _) (dU kr (aD (aJ (aO [2] [vT (cN u)] (⟨_,rfl,?_⟩)))));refine aF 2 [(4,vT (cN u)),(5,vI 0)] (aJ ?_);obtain rfl:=sI i;exact aO [4,5] [vT (cN u),vI 0] ⟨b0,rfl,(q.t b8).t d1,g.t.t⟩
   intro E i D;refine bA (aB 2 [(67,vB (x1.1==1))] (aG i ?_ ?_))
   .intro A i;refine eC [(10,fun w'=>Inv V w'/\Piece.holds V w' (kB s (V7 x1 c f k n) 43)/\True)] kr g fun d3 _ g=> ?_;have b:=V.le_refl;refine⟨⟨.inr ⟨Inv.anti g.inv b,Piece.holds_anti g.t.h b,trivial⟩,trivial⟩,?_⟩;refine aR 0 69 (vP s 1) (.head _) (dM 9 69 1 70 1 (vT x1.2.1) (.head _) (fun _ h=>h.2.1) (cV 9 9 ((.const (vT (⟨#[102,117,110,99,32]⟩:BA)))) 70 2 71 (.head _) i fun s6 i=>(cV 9 9 71 ((.const (vT bi))) 3 72 (.head _) i fun s7 i=>(aR 4 73 (vP s 2) (.head _) (dM 26 73 5 74 2 (vS c x1.2.2.1 f) (.head _) (fun _ h=>h.2.1) (cB 6 kr (eS 75 i (fun _ h=>qDf g v h) ?_)))))));rintro y3 i _ d4 ⟨d1,rfl,M,g⟩;refine⟨_,rfl,?_⟩;have b:=Mem.le_trans b M;refine⟨⟨.inr ⟨Inv.anti g.inv b,Piece.holds_anti g.t.h b,trivial⟩,trivial⟩,?_⟩;refine cV 9 9 72 75 7 76 (.head _) i fun s8 i=> ?_;refine cV 9 9 76 ((.const (vT (⟨#[41,32,61,32]⟩:BA)))) 8 77 (.head _) i fun s9 i=> ?_;refine cB 9 kr (dN 78 33 #[vP a 0,vT s9] kr rfl (bF func33 rfl ntmps33 (aB 2 [] (aC (aA 1 [(6,vP a 0)] (bB rfl (dN 7 76 #[vP a 0] kr rfl ((mX (c0:=(cI true a)) (R:=[vS l o2 o]) (nB true a kr) g).mono ?_))))))));rintro _ d0 ⟨b7,rfl,e9,g⟩;refine⟨_,rfl,?_⟩;have b:=Mem.le_trans b e9;have g:St b7 (kB a #[.pointer (cI true a),vS l o2 o] 66::kB s (V7 x1 c f k n) 43::kR l o2 o 5 1::O) d0:=g
    refine aQ (aC (aA 4 [(8,vP a 0),(11,vP a 1)] (bE 12 (vS l o2 o) g.h (aA 1 [(13,vT s9)] (iN 14 64 9 5 1 12 13 g.f2 (.inr kr) ((r6.mono M).mono e9) (Gives.str _) i fun l3 i b0 b6 b8 d8 u g b9=> ?_)))));have b:=Mem.le_trans b u;refine aA 2 [(16,vP a 1)] (dR #[.pointer (cI true a),vS b0 l3 b6] g.f1 fun d9 g=>(aQ (aC (aF 4 [(4,vI (s9.size:Int)),(5,.nilIface)] (aJ (aO [4,5] [vI (s9.size:Int),.nilIface] (⟨_,rfl,?_⟩)))))));refine⟨⟨.inr ⟨Inv.anti g.inv b,Piece.holds_anti g.t.t.h b,trivial⟩,trivial⟩,?_⟩;refine dU kr ?_;refine bI ?_;cases i;exact xE (D _ _ ⟨b0,b6,b8,rfl,((q.t M).t e9).t u,g.f1.f2.f2,b9,((v.mono M).mono e9).mono u,((B.mono M).mono e9).mono u⟩)
   intro A i;refine aB 2 [(79,vB (x1.1==2))] (aG i ?_ ?_)
   .intro A i;refine aX (bL 1 82 9 81 1 (vT x1.2.1) g.t.h (cM 83 i fun d1 i=>(cM 84 i fun u i=>(bB rfl (dN 85 33 #[vP a 0,vT u] kr rfl (bF func33 rfl ntmps33 (aB 2 [] (aC (aA 1 [(6,vP a 0)] (bB rfl (dN 7 76 #[vP a 0] kr rfl ((mX (c0:=(cI true a)) (R:=[vS l o2 o]) (nB true a kr) g).mono ?_))))))))))));rintro _ d0 ⟨b7,rfl,b,g⟩;refine⟨_,rfl,?_⟩;have g:St b7 (kB a #[.pointer (cI true a),vS l o2 o] 66::kB s (V7 x1 c f k n) 43::kR l o2 o 5 1::O) d0:=g;refine aQ (aC (aA 4 [(8,vP a 0),(11,vP a 1)] (bE 12 (vS l o2 o) g.h (aA 1 [(13,vT u)] (iN 14 64 9 5 1 12 13 g.f2 (.inr kr) (r6.mono b) (Gives.str _) i fun l4 i b0 b6 b8 d3 M g b9=>(aA 2 [(16,vP a 1)] (dR #[.pointer (cI true a),vS b0 l4 b6] g.f1 fun d4 g=>(aQ (aC (aF 4 [(4,vI (u.size:Int)),(5,.nilIface)] (aJ (aO [4,5] [vI (u.size:Int),.nilIface] (⟨_,rfl,?_⟩)))))))))))));refine aS rfl (bI ?_);cases i;exact xE (D _ _ ⟨b0,b6,b8,rfl,(q.t b).t M,g.f1.f2.f2,b9,(v.mono b).mono M,(B.mono b).mono M⟩)
   intro A i;refine aX (bL 1 63 9 62 1 (vT x1.2.1) g.t.h (cM 64 i fun d1 i=>(cM 65 i fun u i=>(bB rfl (dN 66 33 #[vP a 0,vT u] kr rfl (bF func33 rfl ntmps33 (aB 2 [] (aC (aA 1 [(6,vP a 0)] (bB rfl (dN 7 76 #[vP a 0] kr rfl ((mX (c0:=(cI true a)) (R:=[vS l o2 o]) (nB true a kr) g).mono ?_))))))))))));rintro _ d0 ⟨b7,rfl,b,g⟩;refine⟨_,rfl,?_⟩;have g:St b7 (kB a #[.pointer (cI true a),vS l o2 o] 66::kB s (V7 x1 c f k n) 43::kR l o2 o 5 1::O) d0:=g;refine aQ (aC (aA 4 [(8,vP a 0),(11,vP a 1)] (bE 12 (vS l o2 o) g.h (aA 1 [(13,vT u)] (iN 14 64 9 5 1 12 13 g.f2 (.inr kr) (r6.mono b) (Gives.str _) i fun l5 i b0 b6 b8 d3 M g b9=>(aA 2 [(16,vP a 1)] (dR #[.pointer (cI true a),vS b0 l5 b6] g.f1 fun d4 g=>(aQ (aC (aF 4 [(4,vI (u.size:Int)),(5,.nilIface)] (aJ (aO [4,5] [vI (u.size:Int),.nilIface] (⟨_,rfl,?_⟩)))))))))))));refine aS rfl (bI ?_);cases i;exact xE (D _ _ ⟨b0,b6,b8,rfl,(q.t b).t M,g.f1.f2.f2,b9,(v.mono b).mono M,(B.mono b).mono M⟩)
  intro F i M;refine cH _ kr (cG (fun U L' w'=>∃(b:Int×pC),∃u D E,aI (xZ N p0) U b=some F/\L'=[(7,vP s 0),(8,vT G.1),(10,vP a 0),(49,vS a1 p0.2.1 c1),(50,vI (p0.2.1.length:Int)),(51,vI b.1)]/\m.le E/\St E (kB a #[.pointer (cI true a),vS u b.2 D] 66::kB s (V7 x1 c f k n) 43::kR u b.2 D 5 1::O) w'/\RepS aH E a1 c1 p0.2.1/\RepS lD E u D b.2/\P2 E c f k n x1.2.2) N ⟨(0,l1),a5,c5,m6,i,rfl,((q.t Y).t e4).t e5,g.f1.f2.f2,((z.mono Y).mono e4).mono e5,r5,((v.mono Y).mono e4).mono e5,((B.mono Y).mono e4).mono e5⟩ ?_);rintro U _ d3 ⟨b,u,D,E,hL,rfl,q,g,z,r7,v,B⟩;rcases U with _|U
  .exact cJ hL
  obtain⟨d1,i,b6,b0⟩:=cL hL;clear hL;unfold xZ at i;refine aB 1 [(52,vB (decide (b.1<(p0.2.1.length:Int))))] (aE ?_);refine aG i ?_ ?_
  .intro A i;refine aM (aD (aE (bA (aC (dQ 53 z i ?_)))));rintro x2 i b5 f2 d0 rfl b7;refine dV 54 9 53 f2 (vT x2) g b7 (aF 1 [(12,vT x2)] (aX (aA 1 [(55,vT x2)] (cM 56 i fun s4 i=>(cM 57 i fun s5 i=>(bB rfl (dN 58 33 #[vP a 0,vT s5] kr rfl (bF func33 rfl ntmps33 (aB 2 [] (aC (aA 1 [(6,vP a 0)] (bB rfl (dN 7 76 #[vP a 0] kr rfl ((mX (c0:=(cI true a)) (R:=[vS u b.2 D]) (nB true a kr) g).mono ?_))))))))))))));rintro _ b9 ⟨m9,rfl,H,g⟩;refine⟨_,rfl,?_⟩;have g:St m9 (kB a #[.pointer (cI true a),vS u b.2 D] 66::kB s (V7 x1 c f k n) 43::kR u b.2 D 5 1::O) b9:=g;refine aQ (aC (aA 4 [(8,vP a 0),(11,vP a 1)] (bE 12 (vS u b.2 D) g.h (aA 1 [(13,vT s5)] (iN 14 64 9 5 1 12 13 g.f2 (.inr kr) (r7.mono H) (Gives.str _) i fun l2 i a8 c8 b8 d4 S g r8=>(aA 2 [(16,vP a 1)] (dR #[.pointer (cI true a),vS a8 l2 c8] g.f1 fun d7 g=>(aQ (aC (aF 4 [(4,vI (s5.size:Int)),(5,.nilIface)] (aJ (aO [4,5] [vI (s5.size:Int),.nilIface] (⟨_,rfl,?_⟩)))))))))))));refine aS rfl (bI (aD (aX (aA 2 [(51,vI (wr (b.1+1)))] (aS rfl ?_)))));have hL:=b6 _ (sI i);exact xE (cE ⟨(wr (b.1+1),l2),a8,c8,b8,hL,rfl,(q.t H).t S,g.f1.f2.f2,(z.mono H).mono S,r8,(v.mono H).mono S,(B.mono H).mono S⟩)
  intro A i;refine cD (bD ?_);have ho:=b0 _ (sI i);have g:=g.f2.f2.f2;refine bD ?_;exact xE (M _ _ ⟨b.2,u,D,E,ho,rfl,q,g,r7,v,B⟩)
 intro o1 i K;refine aA 3 [(20,vB (decide (p1<0)))] (bC 20 i ?_ ?_)
 .intro A i;refine aA 6 [(26,vB true)] ?_;cases i;exact aU _ kr (K _ _ ⟨m2,rfl,q,g,p,z.mono e2,Z.mono e2⟩)
 intro A i;refine aA 2 [(21,vI p1),(22,vP b1 2)] (bJ 23 (vS a2 p0.2.2 c2) g (p.drop 2) (aA 3 [(26,vB (decide (p1>=(p0.2.2.length:Int))))] ?_));cases i;exact aU _ kr (K _ _ ⟨m2,rfl,q,g,p,z.mono e2,Z.mono e2⟩)
def qT(N:Nat)(p0:BA):Te:=
 ((vJ N p0).bind fun y1=>if y1=true then((AE N p0).bind fun a=>some (!a)) else(some false):Te).bind fun a=>some a
theorem vC{p0:BA}{r:Bool}(g:St m (O) w)(i:qT N p0=some r):Calls prog 48 #[vT p0] w fun e w'=>∃m',e= .returned (vB r)/\m.le m'/\St m' (O) w':=by
 unfold qT at i;have q:=m.le_refl;refine bF func48 rfl ntmps48 ?_;refine aB 1 [] (aC ?_);refine cU 8 i (fun b L' w'=>∃a,L'=[(2,vB b)]/\m.le a/\St a (O) w') ?_ ?_
 .rintro b i _ c ⟨a,rfl,q,g⟩;refine aQ (aJ ?_);obtain rfl:=sI i;exact aO [2] [vB b] ⟨a,rfl,q,g⟩
 intro b i K;refine aA 1 [(3,vT p0)] (aK 4 i (IX g) ?_);rintro y1 i _ l ⟨f,rfl,c,g⟩;refine aA 1 [(5,vB y1)] (bC 5 i ?_ ?_)
 .intro A i;refine aA 1 [(6,vT p0)] (aK 7 i (QW g) ?_);rintro k i _ n ⟨h,rfl,d,g⟩;refine aA 3 [(2,vB (!k))] ?_;cases i;exact aU _ kr (K _ _ ⟨h,rfl,(q.t c).t d,g⟩)
 intro A i;refine aA 5 [(2,vB false)] ?_;cases i;exact aU _ kr (K _ _ ⟨f,rfl,q.t c,g⟩)
end
section
open Go Go.Dc Go.Proofs.Tryz
set_option maxHeartbeats 4000000
set_option maxRecDepth 100000
variable {N c1 c2:Nat} {m:Mem} {O:List Piece} {w:World} {a1 a2:Option Addr}
def FB(N:Nat)(p0:Tr)(p1:Int):Te:=
 (if(p0.1==3)=true then(some true) else(if(p0.1==6)=true then(some true) else(if(p0.1==7)=true then(some true) else(if(p0.1==8)=true then(some true) else(some (p0.1==9))))):Te).bind fun a=>(if(p0.1==1)=true then(some true) else(if(p0.1==2)=true then(some true) else(some (p0.1==10))):Te).bind fun o2=>(if(decide (p0.1<1))=true then(some true) else(if(decide (p0.1>10))=true then(some true) else(if(!a)=true then(if(!(p0.2.2.2.1.toList==(⟨#[]⟩:BA).toList))=true then(some true) else(if(!o2)=true then(if(p0.2.1 !=0)=true then(some true) else(if(p0.1 !=4)=true then(some (p0.2.2.1 !=0)) else(some false))) else(if(p0.1 !=4)=true then(some (p0.2.2.1 !=0)) else(some false)))) else(if(!o2)=true then(if(p0.2.1 !=0)=true then(some true) else(if(p0.1 !=4)=true then(some (p0.2.2.1 !=0)) else(some false))) else(if(p0.1 !=4)=true then(some (p0.2.2.1 !=0)) else(some false))))):Te).bind fun a=>if a=true then(some false) else(if(p0.1==1)=true then((if(decide (p0.2.1>=(-9007199254740992)))=true then(some (decide (p0.2.1<=9007199254740992))) else(some false):Te).bind fun o4=>some o4) else(if(p0.1==2)=true then((if(decide (p0.2.1>=0))=true then(some (decide (p0.2.1<p1))) else(some false):Te).bind fun a=>some a) else(if(p0.1==10)=true then((if(decide (p0.2.1>=0))=true then(some (decide (p0.2.1<64))) else(some false):Te).bind fun a=>some a) else(if(p0.1==4)=true then((if(decide (p0.2.2.1>=1))=true then(some (decide (p0.2.2.1<=7))) else(some false):Te).bind fun a=>some a) else(if(p0.1==3)=true then((qT N p0.2.2.2.1).bind fun y1=>some y1) else(if(p0.1==9)=true then((vJ N p0.2.2.2.1).bind fun a=>some a) else((if(p0.1==6)=true then(some (p0.1==6)) else(if(p0.1==7)=true then(some (p0.1==7)) else(some (p0.1==8))):Te).bind fun a=>if a=true then((vH N p0.2.2.2.1).bind fun a=>some a) else(some true))))))))
theorem qBx{p0:Tr}{p1:Int}{r:Bool}(g:St m (O) w)(c:RepS (aV .i64) m a1 c1 p0.2.2.2.2)(i:FB N p0 p1=some r):Calls prog 50 #[.agg (V8 p0 a1 c1),vI p1] w fun e w'=>∃m',e= .returned (vB r)/\m.le m'/\St m' (O) w':=by
 unfold FB at i;have q:=m.le_refl;refine bF func50 rfl ntmps50 ?_;refine aC (iE 2 61 (.agg (V8 p0 a1 c1)) g fun b n B s g a=> ?_);have q:=q.t s;have c:=c.mono s;refine aF 1 [] (aC ?_);have⟨o,i,J⟩:=aW i;refine rN (j:=24) (fun L' w'=>∃k,L'=[(1,vI p1),(2,vP b 0),(5,vB o)]/\m.le k/\St k (O) w'/\MRow k b 0 (V9 p0 a1 c1)/\RepS (aV .i64) k a1 c1 p0.2.2.2.2) ?_ ?_
 .have i:=J;rintro _ D ⟨k,rfl,q,g,a,c⟩;refine aQ (aC ?_);have⟨o2,i,J⟩:=aW i;refine rN (j:=14) (fun L' w'=>∃d,L'=[(1,vI p1),(2,vP b 0),(5,vB o),(6,vB o2)]/\m.le d/\St d (O) w'/\MRow d b 0 (V9 p0 a1 c1)/\RepS (aV .i64) d a1 c1 p0.2.2.2.2) ?_ ?_
  .have i:=J;rintro _ E ⟨d,rfl,q,g,a,c⟩;refine aQ (aE (aC ?_));have⟨x,i,J⟩:=aW i;refine rN (j:=36) (fun L' w'=>∃f,L'=[(1,vI p1),(2,vP b 0),(78,vB x)]/\m.le f/\St f (O) w'/\MRow f b 0 (V9 p0 a1 c1)/\RepS (aV .i64) f a1 c1 p0.2.2.2.2) ?_ ?_
   .have i:=J;rintro _ F ⟨f,rfl,q,g,a,c⟩;refine aQ (aG i ?_ ?_)
    .intro A i;refine aB 1 [(4,vB false)] (aJ ?_);refine aL ?_;cases i;exact aO [4] [vB false] ⟨f,rfl,q,g⟩
    intro A i;refine aM (aD (aE (aT 1 [(79,vP b 0)] (bJ 80 (vI p0.1) g a (aQ (bA (aB 2 [(81,vB (p0.1==1))] (aG i ?_ ?_))))))))
    .intro A i;refine aC (cU 9 i (fun o4 L' w'=>∃h,L'=[(4,vB o4)]/\m.le h/\St h (O) w') ?_ ?_)
     .rintro o4 i _ l ⟨h,rfl,q,g⟩;refine aQ (aJ (aZ (aL ?_)));obtain rfl:=sI i;exact aO [4] [vB o4] ⟨h,rfl,q,g⟩
     intro o4 i K;refine aA 1 [(83,vP b 1)] (bJ 84 (vI p0.2.1) g (a.drop 1) (aA 2 [(86,vB (decide (p0.2.1>=(-9007199254740992))))] (bC 86 i ?_ ?_)))
     .intro A i;refine aA 1 [(87,vP b 1)] (bJ 88 (vI p0.2.1) g (a.drop 1) (aA 3 [(4,vB (decide (p0.2.1<=9007199254740992)))] ?_));cases i;exact aU _ kr (K _ _ ⟨f,rfl,q,g⟩)
     intro A i;refine aA 5 [(4,vB false)] ?_;cases i;exact aU _ kr (K _ _ ⟨f,rfl,q,g⟩)
    intro A i;refine aB 2 [(91,vB (p0.1==2))] (aG i ?_ ?_)
    .intro A i;refine aC (cU 10 i (fun l L' w'=>∃h,L'=[(4,vB l)]/\m.le h/\St h (O) w') ?_ ?_)
     .rintro l i _ p ⟨h,rfl,q,g⟩;refine aQ (aJ (aZ (aL ?_)));obtain rfl:=sI i;exact aO [4] [vB l] ⟨h,rfl,q,g⟩
     intro l i K;refine aA 1 [(93,vP b 1)] (bJ 94 (vI p0.2.1) g (a.drop 1) (aA 2 [(96,vB (decide (p0.2.1>=0)))] (bC 96 i ?_ ?_)))
     .intro A i;refine aA 1 [(97,vP b 1)] (bJ 98 (vI p0.2.1) g (a.drop 1) (aA 4 [(4,vB (decide (p0.2.1<p1)))] ?_));cases i;exact aU _ kr (K _ _ ⟨f,rfl,q,g⟩)
     intro A i;refine aA 6 [(4,vB false)] ?_;cases i;exact aU _ kr (K _ _ ⟨f,rfl,q,g⟩)
    intro A i;refine aB 2 [(102,vB (p0.1==10))] (aG i ?_ ?_)
    .intro A i;refine aC (cU 9 i (fun l L' w'=>∃h,L'=[(4,vB l)]/\m.le h/\St h (O) w') ?_ ?_)
     .rintro l i _ p ⟨h,rfl,q,g⟩;refine aQ (aJ (aZ (aL ?_)));obtain rfl:=sI i;exact aO [4] [vB l] ⟨h,rfl,q,g⟩
     intro l i K;refine aA 1 [(104,vP b 1)] (bJ 105 (vI p0.2.1) g (a.drop 1) (aA 2 [(107,vB (decide (p0.2.1>=0)))] (bC 107 i ?_ ?_)))
     .intro A i;refine aA 1 [(108,vP b 1)] (bJ 109 (vI p0.2.1) g (a.drop 1) (aA 3 [(4,vB (decide (p0.2.1<64)))] ?_));cases i;exact aU _ kr (K _ _ ⟨f,rfl,q,g⟩)
     intro A i;refine aA 5 [(4,vB false)] ?_;cases i;exact aU _ kr (K _ _ ⟨f,rfl,q,g⟩)
    intro A i;refine aB 2 [(112,vB (p0.1==4))] (aG i ?_ ?_)
    .intro A i;refine aC (cU 9 i (fun l L' w'=>∃h,L'=[(4,vB l)]/\m.le h/\St h (O) w') ?_ ?_)
     .rintro l i _ p ⟨h,rfl,q,g⟩;refine aQ (aJ (aZ (aL ?_)));obtain rfl:=sI i;exact aO [4] [vB l] ⟨h,rfl,q,g⟩
     intro l i K;refine aA 1 [(114,vP b 2)] (bJ 115 (vI p0.2.2.1) g (a.drop 2) (aA 2 [(117,vB (decide (p0.2.2.1>=1)))] (bC 117 i ?_ ?_)))
     .intro A i;refine aA 1 [(118,vP b 2)] (bJ 119 (vI p0.2.2.1) g (a.drop 2) (aA 3 [(4,vB (decide (p0.2.2.1<=7)))] ?_));cases i;exact aU _ kr (K _ _ ⟨f,rfl,q,g⟩)
     intro A i;refine aA 5 [(4,vB false)] ?_;cases i;exact aU _ kr (K _ _ ⟨f,rfl,q,g⟩)
    intro A i;refine aB 2 [(122,vB (p0.1==3))] (aG i ?_ ?_)
    .intro A i;refine aT 1 [(124,vP b 3)] ?_;refine bJ 125 (vT p0.2.2.2.1) g (a.drop 3) ?_;refine aK 126 i (vC g) ?_;rintro y1 i _ p ⟨l,rfl,h,g⟩;refine aF 1 [(4,vB y1)] (aJ (aZ (aL ?_)));obtain rfl:=sI i;exact aO [4] [vB y1] ⟨l,rfl,q.t h,g⟩
    intro A i;refine aB 2 [(127,vB (p0.1==9))] (aG i ?_ ?_)
    .intro A i;refine aT 1 [(129,vP b 3)] ?_;refine bJ 130 (vT p0.2.2.2.1) g (a.drop 3) ?_;refine aK 131 i (IX g) ?_;rintro l i _ u ⟨h,rfl,p,g⟩;refine aF 1 [(4,vB l)] (aJ (aZ (aL ?_)));obtain rfl:=sI i;exact aO [4] [vB l] ⟨h,rfl,q.t p,g⟩
    intro A i;refine aE (aB 2 [(132,vB (p0.1==6))] (cC .normal i (fun p L' w'=>∃h,L'=[(2,vP b 0),(132,vB p)]/\m.le h/\St h (O) w'/\MRow h b 0 (V9 p0 a1 c1)/\RepS (aV .i64) h a1 c1 p0.2.2.2.2) ?_ ?_))
    .rintro p i _ y ⟨h,rfl,q,g,a,c⟩;refine aD (aG i ?_ ?_)
     .intro A i;refine aT 1 [(136,vP b 3)] ?_;refine bJ 137 (vT p0.2.2.2.1) g (a.drop 3) ?_;refine aK 138 i (IY g) ?_;rintro u i _ z ⟨l,rfl,v,g⟩;refine aF 1 [(4,vB u)] (aJ (aZ (aL ?_)));obtain rfl:=sI i;exact aO [4] [vB u] ⟨l,rfl,q.t v,g⟩
     intro A i;refine aM (bI (aD (aB 1 [(4,vB true)] (aJ ?_))));cases i;exact aO [4] [vB true] ⟨h,rfl,q,g⟩
    intro p i l;refine aG i ?_ ?_
    .intro A i;refine aM ?_;cases i;exact xE (l _ _ ⟨f,rfl,q,g,a,c⟩)
    intro A i;refine aB 2 [(132,vB (p0.1==7))] (aG i ?_ ?_)
    .intro A i;refine aM ?_;cases i;exact xE (l _ _ ⟨f,rfl,q,g,a,c⟩)
    intro A i;refine aX (aA 2 [(132,vB (p0.1==8))] (aS rfl ?_));cases i;exact xE (l _ _ ⟨f,rfl,q,g,a,c⟩)
   intro K;refine aA 1 [(43,vP b 0)] (bJ 44 (vI p0.1) g a (aA 2 [(46,vB (decide (p0.1<1)))] (bC 46 i ?_ ?_)))
   .intro A i;refine aA 32 [(78,vB true)] ?_;cases i;exact aU _ kr (K _ _ ⟨d,rfl,q,g,a,c⟩)
   intro A i;refine aA 1 [(47,vP b 0)] (bJ 48 (vI p0.1) g a (aA 3 [(51,vB (decide (p0.1>10)))] (bC 51 i ?_ ?_)))
   .intro A i;refine aA 27 [(78,vB true)] ?_;cases i;exact aU _ kr (K _ _ ⟨d,rfl,q,g,a,c⟩)
   intro A i;refine aA 3 [(54,vB (!o))] (bC 54 i ?_ ?_)
   .intro A i;refine aA 1 [(55,vP b 3)] (bJ 56 (vT p0.2.2.2.1) g (a.drop 3) (aA 4 [(60,vB (!(p0.2.2.2.1.toList==eB.toList)))] (bC 60 i ?_ ?_)))
    .intro A i;refine aA 18 [(78,vB true)] ?_;cases i;exact aU _ kr (K _ _ ⟨d,rfl,q,g,a,c⟩)
    intro A i;refine aA 3 [(63,vB (!o2))] (bC 63 i ?_ ?_)
    .intro A i;refine aA 1 [(64,vP b 1)] (bJ 65 (vI p0.2.1) g (a.drop 1) (aA 4 [(69,vB (p0.2.1 !=0))] (bC 69 i ?_ ?_)))
     .intro A i;refine aA 9 [(78,vB true)] ?_;cases i;exact aU _ kr (K _ _ ⟨d,rfl,q,g,a,c⟩)
     intro A i;refine aA 1 [(70,vP b 0)] (bJ 71 (vI p0.1) g a (aA 2 [(73,vB (p0.1 !=4))] (bC 73 i ?_ ?_)))
     .intro A i;refine aA 1 [(74,vP b 2)] (bJ 75 (vI p0.2.2.1) g (a.drop 2) (aA 3 [(78,vB (p0.2.2.1 !=0))] ?_));cases i;exact aU _ kr (K _ _ ⟨d,rfl,q,g,a,c⟩)
     intro A i;refine aA 5 [(78,vB false)] ?_;cases i;exact aU _ kr (K _ _ ⟨d,rfl,q,g,a,c⟩)
    intro A i;refine aA 7 [(69,vB false),(70,vP b 0)] (bJ 71 (vI p0.1) g a (aA 2 [(73,vB (p0.1 !=4))] (bC 73 i ?_ ?_)))
    .intro A i;refine aA 1 [(74,vP b 2)] (bJ 75 (vI p0.2.2.1) g (a.drop 2) (aA 3 [(78,vB (p0.2.2.1 !=0))] ?_));cases i;exact aU _ kr (K _ _ ⟨d,rfl,q,g,a,c⟩)
    intro A i;refine aA 5 [(78,vB false)] ?_;cases i;exact aU _ kr (K _ _ ⟨d,rfl,q,g,a,c⟩)
   intro A i;refine aA 9 [(60,vB false),(63,vB (!o2))] (bC 63 i ?_ ?_)
   .intro A i;refine aA 1 [(64,vP b 1)] (bJ 65 (vI p0.2.1) g (a.drop 1) (aA 4 [(69,vB (p0.2.1 !=0))] (bC 69 i ?_ ?_)))
    .intro A i;refine aA 9 [(78,vB true)] ?_;cases i;exact aU _ kr (K _ _ ⟨d,rfl,q,g,a,c⟩)
    intro A i;refine aA 1 [(70,vP b 0)] (bJ 71 (vI p0.1) g a (aA 2 [(73,vB (p0.1 !=4))] (bC 73 i ?_ ?_)))
    .intro A i;refine aA 1 [(74,vP b 2)] (bJ 75 (vI p0.2.2.1) g (a.drop 2) (aA 3 [(78,vB (p0.2.2.1 !=0))] ?_));cases i;exact aU _ kr (K _ _ ⟨d,rfl,q,g,a,c⟩)
    intro A i;refine aA 5 [(78,vB false)] ?_;cases i;exact aU _ kr (K _ _ ⟨d,rfl,q,g,a,c⟩)
   intro A i;refine aA 7 [(69,vB false),(70,vP b 0)] (bJ 71 (vI p0.1) g a (aA 2 [(73,vB (p0.1 !=4))] (bC 73 i ?_ ?_)))
   .intro A i;refine aA 1 [(74,vP b 2)] (bJ 75 (vI p0.2.2.1) g (a.drop 2) (aA 3 [(78,vB (p0.2.2.1 !=0))] ?_));cases i;exact aU _ kr (K _ _ ⟨d,rfl,q,g,a,c⟩)
   intro A i;refine aA 5 [(78,vB false)] ?_;cases i;exact aU _ kr (K _ _ ⟨d,rfl,q,g,a,c⟩)
  intro K;refine aA 1 [(30,vP b 0)] (bJ 31 (vI p0.1) g a (aA 2 [(33,vB (p0.1==1))] (bC 33 i ?_ ?_)))
  .intro A i;refine aA 10 [(6,vB true)] ?_;cases i;exact aU _ kr (K _ _ ⟨k,rfl,q,g,a,c⟩)
  intro A i;refine aA 1 [(34,vP b 0)] (bJ 35 (vI p0.1) g a (aA 3 [(38,vB (p0.1==2))] (bC 38 i ?_ ?_)))
  .intro A i;refine aA 5 [(6,vB true)] ?_;cases i;exact aU _ kr (K _ _ ⟨k,rfl,q,g,a,c⟩)
  intro A i;refine aA 1 [(39,vP b 0)] (bJ 40 (vI p0.1) g a (aA 3 [(6,vB (p0.1==10))] ?_));cases i;exact aU _ kr (K _ _ ⟨k,rfl,q,g,a,c⟩)
 intro K;refine aA 1 [(7,vP b 0)] (bJ 8 (vI p0.1) g a (aA 2 [(10,vB (p0.1==3))] (bC 10 i ?_ ?_)))
 .intro A i;refine aA 20 [(5,vB true)] ?_;cases i;exact aU _ kr (K _ _ ⟨n,rfl,q,g,a,c⟩)
 intro A i;refine aA 1 [(11,vP b 0)] (bJ 12 (vI p0.1) g a (aA 3 [(15,vB (p0.1==6))] (bC 15 i ?_ ?_)))
 .intro A i;refine aA 15 [(5,vB true)] ?_;cases i;exact aU _ kr (K _ _ ⟨n,rfl,q,g,a,c⟩)
 intro A i;refine aA 1 [(16,vP b 0)] (bJ 17 (vI p0.1) g a (aA 3 [(20,vB (p0.1==7))] (bC 20 i ?_ ?_)))
 .intro A i;refine aA 10 [(5,vB true)] ?_;cases i;exact aU _ kr (K _ _ ⟨n,rfl,q,g,a,c⟩)
 intro A i;refine aA 1 [(21,vP b 0)] (bJ 22 (vI p0.1) g a (aA 3 [(25,vB (p0.1==8))] (bC 25 i ?_ ?_)))
 .intro A i;refine aA 5 [(5,vB true)] ?_;cases i;exact aU _ kr (K _ _ ⟨n,rfl,q,g,a,c⟩)
 intro A i;refine aA 1 [(26,vP b 0)] (bJ 27 (vI p0.1) g a (aA 3 [(5,vB (p0.1==9))] ?_));cases i;exact aU _ kr (K _ _ ⟨n,rfl,q,g,a,c⟩)
def FE(N:Nat)(p0:Int):T8:=
 if(p0==3)=true then(some (-1)) else(if(p0==4)=true then(some 2) else(if(p0==5)=true then(some 3) else(if(p0==6)=true then(some 1) else(some 0))))
theorem qBt{p0:Int}{r:Int}(g:St m (O) w)(i:FE N p0=some r):Calls prog 102 #[vI p0] w fun e w'=>∃m',e= .returned (vI r)/\m.le m'/\St m' (O) w':=by
 unfold FE at i;have q:=m.le_refl;refine bF func102 rfl ntmps102 ?_;refine aB 1 [] (aE ?_);refine aB 1 [(3,vI p0)] (bA ?_);refine aB 2 [(4,vB (p0==3))] (aG i ?_ ?_)
 .intro A i;refine aB 1 [(2,vI (-1))] (aJ ?_);refine aZ (aL ?_);cases i;exact aO [2] [vI (-1)] ⟨m,rfl,q,g⟩
 intro A i;refine aB 2 [(6,vB (p0==4))] (aG i ?_ ?_)
 .intro A i;refine aB 1 [(2,vI 2)] (aJ ?_);refine aZ (aL ?_);cases i;exact aO [2] [vI 2] ⟨m,rfl,q,g⟩
 intro A i;refine aB 2 [(8,vB (p0==5))] (aG i ?_ ?_)
 .intro A i;refine aB 1 [(2,vI 3)] (aJ ?_);refine aZ (aL ?_);cases i;exact aO [2] [vI 3] ⟨m,rfl,q,g⟩
 intro A i;refine aB 2 [(10,vB (p0==6))] (aG i ?_ ?_)
 .intro A i;refine aB 1 [(2,vI 1)] (aJ ?_);refine aZ (aL ?_);cases i;exact aO [2] [vI 1] ⟨m,rfl,q,g⟩
 intro A i;refine aM (bI (aD (aB 1 [(2,vI 0)] (aJ ?_))));cases i;exact aO [2] [vI 0] ⟨m,rfl,q,g⟩
def zV(N:Nat)(b:Ta)(x1:Tr)(o2:Int)(a:Int):Td:=
 if(decide (a<o2))=true then((idx x1.2.2.2.2 a).bind fun c=>(idx b.1 (IntKind.wrap .i64 ((IntKind.wrap .i64 (((List.length b.1):Int)-o2))+a))).bind fun b=>if(c !=b)=true then(some (.inr (.inr (false)))) else(some (.inl (IntKind.wrap .i64 (a+1))))) else(some (.inr (.inl ())))
def zX(N:Nat)(p0:Ts)(a:Ta):Option (Ta⊕T9⊕Bool):=
 if(decide (a.2<(List.length p0:Int)))=true then((idx p0 a.2).bind fun x1=>(FE N x1.1).bind fun y1=>(if(decide (y1<0))=true then(some (List.length x1.2.2.2.2:Int)) else(some y1):T8).bind fun o2=>(if((List.length x1.2.2.2.2:Int) !=o2)=true then(some true) else(some (decide (o2>((List.length a.1):Int)))):Te).bind fun b=>if b=true then(some (.inr (.inr (false)))) else((aI (zV N a x1 o2) N 0).bind fun b=>(match b with| .inl o4=>(nH a.1 0 (IntKind.wrap .i64 (((List.length a.1):Int)-o2))).bind fun b=>(cW 8 b ([a.2])).bind fun b=>some (.inl (b,IntKind.wrap .i64 (a.2+1)))| .inr (z)=>some (.inr (.inr (z)))))) else(some (.inr (.inl a.1)))
def ET(N:Nat)(p0:Ts):Te:=
 (aI (zX N p0) N (([]:T9),0)).bind fun a=>(match a with| .inl a=>some (((List.length a):Int)==1)| .inr (z)=>some z)
theorem qBj{p0:Ts}{r:Bool}(g:St m (O) w)(s:RepS C3 m a1 c1 p0)(i:ET N p0=some r):Calls prog 51 #[vS a1 p0 c1] w fun e w'=>∃m',e= .returned (vB r)/\m.le m'/\St m' (O) w':=by
 unfold ET at i;have q:=m.le_refl;refine bF func51 rfl ntmps51 ?_;refine aB 1 [] (aC ?_);refine aF 1 [(3,v8)] (aE (aB 3 [(8,vS a1 p0 c1),(9,vI (p0.length:Int)),(10,vI 0)] (bA ?_)));have g:=WM (f:=(fun x:Int=>([vI x]:List Value))) (g.nilroom 3 1);have⟨a6,i,j1⟩:=aW i;refine cO (.exit 0) (fun L' w'=>∃(U:T9),∃a2 c2 T1 m1,(.inl U)=a6/\L'=[(3,vS a2 U c2)]/\m.le m1/\St m1 (eY a2 (bZ (fun x:Int=>([vI x]:List Value)) U T1) 3::O) w'/\OAS a2 U.length c2 1 T1) ?_ ?_
 .rintro _ b ⟨U,a2,c2,T1,m1,rfl,rfl,q,g,a⟩;have i:=j1;refine cK (aD (aB 4 [(2,vB ((U.length:Int)==1))] (aJ ?_)));obtain rfl:=sI i;exact aO [2] [vB ((U.length:Int)==1)] ⟨m1,rfl,q,g.t⟩
 intro a8;refine cH _ kr (cG (fun k1 L' w'=>∃(a:Ta),∃b B T2 m2,aI (zX N p0) k1 a=some a6/\L'=[(3,vS b a.1 B),(8,vS a1 p0 c1),(9,vI (p0.length:Int)),(10,vI a.2)]/\m.le m2/\St m2 (eY b (bZ (fun x:Int=>([vI x]:List Value)) a.1 T2) 3::O) w'/\RepS C3 m2 a1 c1 p0/\OAS b a.1.length B 1 T2) N ⟨(([]:T9),0),none,0,[],m,i,rfl,q,g,s,(OAS.nil 1)⟩ ?_);rintro k1 _ w2 ⟨a,b,B,T2,m2,hL,rfl,q,g,s,V⟩;rcases k1 with _|k1
 .exact cJ hL
 obtain⟨c6,i,b0,H⟩:=cL hL;clear hL;unfold zX at i;refine aB 1 [(11,vB (decide (a.2<(p0.length:Int))))] (aE ?_);refine aG i ?_ ?_
 .intro A i;refine aM (aD (aE (bA (aT 1 [(12,vI a.2)] (dQ 13 s i ?_)))));rintro x1 i b1 f1 b8 ⟨_,_,rfl,rfl,⟨_,_,rfl,rfl,⟨_,_,rfl,rfl,⟨_,_,rfl,rfl,⟨n,p,rfl,F⟩⟩⟩⟩⟩ b6;refine dV 14 61 13 f1 (.agg (V8 x1 n p)) g b6 (cZ 5 61 (.agg #[vI 0,vI 0,vI 0,vT eB,v7]) g fun G w3 g=>(aA 1 [(4,vI a.2)] (cA (.agg (V8 x1 n p)) g fun w4 g=>(aQ (aC (bL 1 16 3 15 0 (vI x1.1) g.h (aK 17 i (qBt g) ?_)))))));rintro y1 i _ w5 ⟨m3,rfl,Y,g⟩;refine aF 1 [(6,vI y1)] (aE (aB 2 [(19,vB (decide (y1<0)))] (cC .normal i (fun o2 L' w'=>∃R,L'=[(3,vS b a.1 B),(4,vI a.2),(5,vP G 0),(6,vI o2),(8,vS a1 p0 c1),(9,vI (p0.length:Int)),(10,vI a.2)]/\m.le R/\St R (kB G (V8 x1 n p) 61::eY b (bZ (fun x:Int=>([vI x]:List Value)) a.1 T2) 3::O) w'/\RepS C3 R a1 c1 p0/\RepS (aV .i64) R n p x1.2.2.2.2) ?_ ?_)))
  .rintro o2 i _ w6 ⟨R,rfl,q,g,s,F⟩;refine aD (aE (aC (cU 11 i (fun o3 L' w'=>∃S,L'=[(3,vS b a.1 B),(4,vI a.2),(5,vP G 0),(6,vI o2),(8,vS a1 p0 c1),(9,vI (p0.length:Int)),(10,vI a.2),(33,vB o3)]/\m.le S/\St S (kB G (V8 x1 n p) 61::eY b (bZ (fun x:Int=>([vI x]:List Value)) a.1 T2) 3::O) w'/\RepS C3 S a1 c1 p0/\RepS (aV .i64) S n p x1.2.2.2.2) ?_ ?_)))
   .rintro o3 i _ w7 ⟨S,rfl,q,g,s,F⟩;refine aQ (aG i ?_ ?_)
    .intro A i;refine aB 1 [(2,vB false)] (aJ ?_);refine aL (aZ (aL ?_));have ho:=H _ (sI i);subst ho;have i:=j1;refine aL (aZ (aL ?_));cases i;exact aO [2] [vB false] ⟨S,rfl,q,g.t.t⟩
    intro A i;refine aM (aD (aE (aB 1 [(7,vI 0)] (bA ?_))));have⟨a7,i,j3⟩:=aW i;refine cO (.exit 2) (fun L' w'=>∃(o4:Unit),∃m6,(.inl o4)=a7/\L'=[(3,vS b a.1 B),(4,vI a.2),(6,vI o2),(8,vS a1 p0 c1),(9,vI (p0.length:Int)),(10,vI a.2)]/\m.le m6/\St m6 (kB G (V8 x1 n p) 61::eY b (bZ (fun x:Int=>([vI x]:List Value)) a.1 T2) 3::O) w'/\RepS C3 m6 a1 c1 p0/\RepS (aV .i64) m6 n p x1.2.2.2.2) ?_ ?_
    .rintro _ w8 ⟨o4,m6,rfl,rfl,q,g,s,F⟩;have i:=j3;refine cK (aD (aX (aA 5 [(54,vS b a.1 B),(58,vI (wr ((a.1.length:Int)-o2)))] ?_)));have g:=g.f1;have⟨l1,d5,i⟩:=aW i;refine bB rfl (qIe (d:=59) (t:=22) (e:=3) (x:=(.tmp 54)) (y:=(.tmp 58)) (f:=(fun x:Int=>([vI x]:List Value))) (l:=a.1) (fun _=>rfl) kr rfl (ev (vS b a.1 B)) (ev (vI (wr ((a.1.length:Int)-o2)))) kr g V rfl d5 fun T3 Z g=>(aA 1 [(60,vI a.2)] (eR 61 3 1 (aV .i64) [a.2] g fun b4 m8 b5 M g r3=> ?_)));have g:=g.f1;have⟨l2,d6,i⟩:=aW i;refine bB rfl (SY (d:=62) (t:=22) (u:=22) (e:=3) (by_:=8) (x:=(.tmp 59)) (y:=(.tmp 61)) (c:=(aV .i64)) (f:=(fun x:Int=>([vI x]:List Value))) (l:=l1) (fun _ _ _ h=>by obtain rfl:=h;rfl) (fun _=>rfl) kr rfl (ev (vS b l1 B)) (ev (vS (aP b4) ([a.2]) 1)) g Z rfl kr (.inl kr) r3.src d6 fun D E T4 b7 a9 g=>(aA 1 [(3,vS D l2 E)] (aS rfl ?_)));have g:=g.f1.t;refine bI (aD (aX (aA 2 [(10,vI (wr (a.2+1)))] (aS rfl ?_))));have hL:=b0 _ (sI i);exact xE (cE ⟨(l2,wr (a.2+1)),D,E,T4,m8,hL,rfl,q.t M,g.f1.t,s.mono M,a9⟩)
    intro a9;refine cH _ kr (cG (fun k2 L' w'=>∃(D:Int),∃E,aI (zV N a x1 o2) k2 D=some a7/\L'=[(3,vS b a.1 B),(4,vI a.2),(5,vP G 0),(6,vI o2),(7,vI D),(8,vS a1 p0 c1),(9,vI (p0.length:Int)),(10,vI a.2)]/\m.le E/\St E (kB G (V8 x1 n p) 61::eY b (bZ (fun x:Int=>([vI x]:List Value)) a.1 T2) 3::O) w'/\RepS C3 E a1 c1 p0/\RepS (aV .i64) E n p x1.2.2.2.2) N ⟨0,S,i,rfl,q,g.f1.f1,s,F⟩ ?_);rintro k2 _ w9 ⟨D,E,hL,rfl,q,g,s,F⟩;rcases k2 with _|k2
    .exact cJ hL
    obtain⟨c7,i,b5,Z⟩:=cL hL;clear hL;unfold zV at i;refine aE (aB 3 [(36,vB (decide (D<o2)))] (aG i ?_ ?_))
    .intro A i;refine aM (aD (aE (bA (aE (eC [(15,fun w'=>Inv E w'/\Piece.holds E w' (kB G (V8 x1 n p) 61)/\Piece.holds E w' (eY b (bZ (fun x:Int=>([vI x]:List Value)) a.1 T2) 3)/\True)] kr g fun c8 _ g=> ?_)))));have M:=E.le_refl;refine⟨⟨.inr ⟨Inv.anti g.inv M,Piece.holds_anti g.h M,OF g.t.h M,trivial⟩,trivial⟩,?_⟩;refine aR 0 39 (vP G 4) (.head _) (dM 22 39 1 40 4 (vS n x1.2.2.2.2 p) (.head _) (fun _ h=>h.2.1) (aR 2 41 (vI D) (.head _) ?_));have⟨x2,d3,i⟩:=aW i;refine iY (t:=22) (e:=3) (x:=(.tmp 40)) (y:=(.tmp 41)) 3 42 (aV .i64) kr rfl kr (.head _) (bK (cP (bK (bK (cP (bK (cP (bK (bK (cP (bK eT))))))))))) (ev (vS n x1.2.2.2.2 p)) (ev (vI D)) kr F d3 ?_;rintro b3 f2 b9 rfl b7;refine eP 3 42 4 43 f2 (vI x2) (.head _) (fun _ h=>h.1) b7 (aR 5 44 (vS b a.1 B) (.head _) (aR 6 45 (vS b a.1 B) (.head _) (aR 7 46 (vI (a.1.length:Int)) (.head _) (aR 8 47 (vI o2) (.head _) (aR 9 48 (vI (wr ((a.1.length:Int)-o2))) (.head _) (aR 10 49 (vI D) (.head _) (aR 11 50 (vI (wr ((wr ((a.1.length:Int)-o2))+D))) (.head _) ?_)))))));have⟨x3,d4,i⟩:=aW i
     refine MR (t:=22) (e:=3) (x:=(.tmp 44)) (y:=(.tmp 50)) (k:=1) 12 51 kr rfl kr (.head _) (bK (cP (bK (bK (cP (bK (cP (bK (bK (cP (bK eT))))))))))) (ev (vS b a.1 B)) (ev (vI (wr ((wr ((a.1.length:Int)-o2))+D)))) kr V rfl d4 ?_;refine FT (t:=3) (x:=(.tmp 51)) (o:=0) (f:=(fun x:Int=>([vI x]:List Value))) (z:=x3) (v:=vI x3) 13 52 (fun _=>rfl) (Int.toNat (wr ((wr ((a.1.length:Int)-o2))+D))*1) rfl kr rfl kr (.head _) (bK (cP (bK (bK (cP (bK (cP (bK (bK (cP (bK eT))))))))))) (fun _ h=>h.2.2.1) (ev (.pointer (some ⟨ab b,Int.toNat (wr ((wr ((a.1.length:Int)-o2))+D))*1,none⟩))) V rfl d4 kr ?_;refine aR 14 53 (vB (x2 !=x3)) (.head _) (dU kr (aD (aG i ?_ ?_)))
     .intro A i;refine aB 1 [(2,vB false)] (aJ ?_);refine aZ (aL ?_);have ho:=Z _ (sI i);subst ho;have i:=j3;refine aL (aZ (aL (aZ (aL ?_))));have ho:=H _ (sI i);subst ho;have i:=j1;refine aL (aZ (aL ?_));cases i;exact aO [2] [vB false] ⟨E,rfl,q,g.t.t⟩
     intro A i;refine aM (bI (aD (aX (aA 3 [(7,vI (wr (D+1)))] (aS rfl ?_)))));have hL:=b5 _ (sI i);exact xE (cE ⟨wr (D+1),E,hL,rfl,q,g.f1.f1,s,F⟩)
    intro A i;refine cD (bD ?_);have ho:=Z _ (sI i);have g:=g.f1.f1;refine bD ?_;exact xE (a9 _ _ ⟨(),E,ho,rfl,q,g,s,F⟩)
   intro o3 i K;refine bL 1 24 22 23 4 (vS n x1.2.2.2.2 p) g.h (aA 4 [(28,vB ((x1.2.2.2.2.length:Int) !=o2))] (bC 28 i ?_ ?_))
   .intro A i;refine aA 5 [(33,vB true)] ?_;cases i;exact aU _ kr (K _ _ ⟨R,rfl,q,g.f1.f1,s,F⟩)
   intro A i;refine aA 5 [(33,vB (decide (o2>(a.1.length:Int))))] ?_;cases i;exact aU _ kr (K _ _ ⟨R,rfl,q,g.f1.f1,s,F⟩)
  intro o2 i D;refine aG i ?_ ?_
  .intro A i;refine aX (bL 1 21 22 20 4 (vS n x1.2.2.2.2 p) g.h (aA 2 [(6,vI (x1.2.2.2.2.length:Int))] (aS rfl ?_)));cases i;exact xE (D _ _ ⟨m3,rfl,q.t Y,g.f1.f1,s.mono Y,F.mono Y⟩)
  intro A i;refine aM ?_;cases i;exact xE (D _ _ ⟨m3,rfl,q.t Y,g.f1.f1,s.mono Y,F.mono Y⟩)
 intro A i;refine cD (bD ?_);have ho:=H _ (sI i);refine bD ?_;exact xE (a8 _ _ ⟨a.1,b,B,T2,m2,ho,rfl,q,g,V⟩)
def AJ(N:Nat)(R8:Ts->(Int)->T8)(p0:Ts)(p1:Int)(x1:Tr)(a:Tl):Option (Tl⊕Int):=
 if(decide (a.2<(List.length x1.2.2.2.2:Int)))=true then((idx x1.2.2.2.2 a.2).bind fun b=>(R8 p0 b).bind fun y1=>(idx p0 p1).bind fun b=>(if(b.1 !=4)=true then(some (IntKind.wrap .i64 (y1+1))) else(some y1):T8).bind fun o2=>some (.inl (if o2>a.1 then o2 else a.1,IntKind.wrap .i64 (a.2+1)))) else(some (.inr a.1))
def EY(N:Nat)(R8:Ts->(Int)->T8)(p0:Ts)(p1:Int):T8:=
 (idx p0 p1).bind fun x1=>(aI (AJ N R8 p0 p1 x1) N (1,0)).bind fun a=>some a
def xO(N:Nat):Nat->(Ts->(Int)->T8)
 |0=>(fun _ _=>none)
 |D+1=>EY N (xO N D)
def JH(N:Nat)(p0:Ts)(p1:Int):T8:=(xO N N) p0 p1
abbrev qCh(F:Ts->(Int)->T8):Prop:=∀{m:Mem} {O:List Piece} {w:World} {p0:Ts} {p1:Int} {a:Option Addr} {b:Nat} {r:Int} (g:St m (O) w) (c:RepS C3 m a b p0) (i:F p0 p1=some r),Calls prog 54 #[vS a p0 b,vI p1] w fun e w'=>∃m',e= .returned (vI r)/\m.le m'/\St m' (O) w'
theorem qBl{R8:Ts->(Int)->T8}(a:qCh R8){p0:Ts}{p1:Int}{r:Int}(g:St m (O) w)(c:RepS C3 m a1 c1 p0)(i:EY N R8 p0 p1=some r):Calls prog 54 #[vS a1 p0 c1,vI p1] w fun e w'=>∃m',e= .returned (vI r)/\m.le m'/\St m' (O) w':=by
 unfold EY at i;have q:=m.le_refl;refine bF func54 rfl ntmps54 ?_;refine aB 1 [] (aC ?_);refine aF 1 [(5,vI 1)] (aE (aT 2 [(9,vS a1 p0 c1),(10,vI p1)] (dQ 11 c i ?_)));rintro x1 i M S V ⟨_,_,rfl,rfl,⟨_,_,rfl,rfl,⟨_,_,rfl,rfl,⟨_,_,rfl,rfl,⟨l,n,rfl,f⟩⟩⟩⟩⟩ E;refine aA 1 [(12,.pointer (some ⟨M,S+4,none⟩))] (bJ 13 (vS l x1.2.2.2.2 n) g (E.drop 4) (aF 2 [(14,vI (x1.2.2.2.2.length:Int)),(15,vI 0)] (bA (cC (.exit 0) i (fun d L' w'=>∃(p:Int),∃v,p=d/\L'=[(5,vI p)]/\m.le v/\St v (O) w') ?_ ?_))))
 .rintro d i _ b ⟨p,v,rfl,rfl,q,g⟩;refine cK (aD (aB 2 [(4,vI p)] (aJ ?_)));obtain rfl:=sI i;exact aO [4] [vI p] ⟨v,rfl,q,g⟩
 intro d i s;refine cH _ kr (cG (fun u L' w'=>∃(b:Tl),∃h,aI (AJ N R8 p0 p1 x1) u b=some d/\L'=[(0,vS a1 p0 c1),(1,vI p1),(5,vI b.1),(13,vS l x1.2.2.2.2 n),(14,vI (x1.2.2.2.2.length:Int)),(15,vI b.2)]/\m.le h/\St h (O) w'/\RepS C3 h a1 c1 p0/\RepS (aV .i64) h l n x1.2.2.2.2) N ⟨(1,0),m,i,rfl,q,g,c,f⟩ ?_);rintro u _ w2 ⟨b,h,hL,rfl,q,g,c,f⟩;rcases u with _|u
 .exact cJ hL
 obtain⟨a4,i,z,y⟩:=cL hL;clear hL;unfold AJ at i;refine aB 1 [(16,vB (decide (b.2<(x1.2.2.2.2.length:Int))))] (aE ?_);refine aG i ?_ ?_
 .intro A i;refine aM (aD (aE (bA (aC (dQ 17 f i ?_)))));rintro B i b2 U Y rfl F;refine dV 18 3 17 U (vI B) g F (aF 1 [(7,vI B)] (aC (aA 2 [(19,vS a1 p0 c1),(20,vI B)] (aK 21 i (a g c) ?_))));rintro y1 i _ w3 ⟨H,rfl,o,g⟩;have c:=c.mono o;refine aF 1 [(8,vI y1)] (aE (aT 2 [(22,vS a1 p0 c1),(23,vI p1)] (dQ 24 c i ?_)));rintro K i R D Z ⟨_,_,rfl,rfl,⟨_,_,rfl,rfl,⟨_,_,rfl,rfl,⟨_,_,rfl,rfl,⟨a3,c3,rfl,r3⟩⟩⟩⟩⟩ G;refine aA 1 [(25,vP R D)] (dV 26 3 25 D (vI K.1) g G (aF 1 [(27,vB (K.1 !=4))] (cC .normal i (fun o2 L' w'=>∃k,L'=[(0,vS a1 p0 c1),(1,vI p1),(5,vI b.1),(8,vI o2),(13,vS l x1.2.2.2.2 n),(14,vI (x1.2.2.2.2.length:Int)),(15,vI b.2)]/\m.le k/\St k (O) w'/\RepS C3 k a1 c1 p0/\RepS (aV .i64) k l n x1.2.2.2.2) ?_ ?_)))
  .rintro o2 i _ x ⟨k,rfl,q,g,c,f⟩;refine aD (aX (aA 4 [(5,vI (if o2>b.1 then o2 else b.1))] (aS rfl (bI (aD (aX (aA 2 [(15,vI (wr (b.2+1)))] (aS rfl ?_))))))));have hL:=z _ (sI i);exact xE (cE ⟨(if o2>b.1 then o2 else b.1,wr (b.2+1)),k,hL,rfl,q,g,c,f⟩)
  intro o2 i x;refine aG i ?_ ?_
  .intro A i;refine aX (aA 3 [(8,vI (wr (y1+1)))] (aS rfl ?_));cases i;exact xE (x _ _ ⟨H,rfl,q.t o,g,c,f.mono o⟩)
  intro A i;refine aM ?_;cases i;exact xE (x _ _ ⟨H,rfl,q.t o,g,c,f.mono o⟩)
 intro A i;refine cD (bD ?_);have ho:=y _ (sI i);refine bD ?_;exact xE (s _ _ ⟨b.1,h,ho,rfl,q,g⟩)
theorem RC(N:Nat):∀D:Nat,(∀{m:Mem} {O:List Piece} {w:World} {p0:Ts} {p1:Int} {a:Option Addr} {b:Nat} {r:Int} (g:St m (O) w) (c:RepS C3 m a b p0) (i:(xO N D) p0 p1=some r),Calls prog 54 #[vS a p0 b,vI p1] w fun e w'=>∃m',e= .returned (vI r)/\m.le m'/\St m' (O) w')
 |0=>fun _ _ i=>(by cases i)
 |D+1=>fun g c i=>qBl (RC N D) g c i
theorem qCl{p0:Ts}{p1:Int}{r:Int}(g:St m (O) w)(a:RepS C3 m a1 c1 p0)(i:JH N p0 p1=some r):Calls prog 54 #[vS a1 p0 c1,vI p1] w fun e w'=>∃m',e= .returned (vI r)/\m.le m'/\St m' (O) w':=
 (RC N N) g a i
def xA(N:Nat)(p0:eF)(a:Int):qN:=
 if(decide (a<(List.length p0.2.1:Int)))=true then((idx p0.2.1 a).bind fun x1=>(qT N x1).bind fun b=>if(!b)=true then(some (.inr (.inr (9)))) else(some (.inl (IntKind.wrap .i64 (a+1))))) else(some (.inr (.inl ())))
def wX(N:Nat)(b:Tz)(a:Int):qN:=
 if(decide (a<(List.length b.2.2.1:Int)))=true then((idx b.2.2.1 a).bind fun b=>(qT N b).bind fun b=>if(!b)=true then(some (.inr (.inr (9)))) else(some (.inl (IntKind.wrap .i64 (a+1))))) else(some (.inr (.inl ())))
def xB(N:Nat)(b:Tz)(a:Int):qN:=
 if(decide (a<(List.length b.2.2.2:Int)))=true then((idx b.2.2.2 a).bind fun c=>(FB N c (List.length b.2.2.1:Int)).bind fun b=>if(!b)=true then(some (.inr (.inr (9)))) else(some (.inl (IntKind.wrap .i64 (a+1))))) else(some (.inr (.inl ())))
def xG(N:Nat)(p0:eF)(c:Int):qN:=
 if(decide (c<(List.length p0.2.2:Int)))=true then((idx p0.2.2 c).bind fun a=>(if(decide (a.1<1))=true then(some true) else(if(decide (a.1>3))=true then(some true) else(if(a.1 !=1)=true then(if(decide ((List.length a.2.2.1:Int)>0))=true then(some true) else(if(a.1==3)=true then((vH N a.2.1).bind fun b=>if(!b)=true then(some true) else(if(a.1 !=3)=true then((qT N a.2.1).bind fun b=>some (!b)) else(some false))) else(if(a.1 !=3)=true then((qT N a.2.1).bind fun y5=>some (!y5)) else(some false)))) else(if(a.1==3)=true then((vH N a.2.1).bind fun b=>if(!b)=true then(some true) else(if(a.1 !=3)=true then((qT N a.2.1).bind fun b=>some (!b)) else(some false))) else(if(a.1 !=3)=true then((qT N a.2.1).bind fun b=>some (!b)) else(some false))))):Te).bind fun b=>if b=true then(some (.inr (.inr (9)))) else((aI (wX N a) N 0).bind fun b=>(match b with| .inl o4=>(aI (xB N a) N 0).bind fun b=>(match b with| .inl b=>(ET N a.2.2.2).bind fun a=>if(!a)=true then(some (.inr (.inr (9)))) else(some (.inl (IntKind.wrap .i64 (c+1))))| .inr (z)=>some (.inr (.inr (z))))| .inr (z)=>some (.inr (.inr (z)))))) else(some (.inr (.inl ())))
def xH(N:Nat)(p0:eF)(a:Int):qN:=
 if(decide (a<(List.length p0.2.1:Int)))=true then((idx p0.2.1 a).bind fun x5=>(if(x5.toList==p0.1.toList)=true then(some true) else((nH p0.2.1 0 a).bind fun b=>(oI N b x5).bind fun b=>some b):Te).bind fun b=>if b=true then(some (.inr (.inr (10)))) else(some (.inl (IntKind.wrap .i64 (a+1))))) else(some (.inr (.inl ())))
def wY(N:Nat)(b:Tz)(a:Int):qN:=
 if(decide (a<(List.length b.2.2.1:Int)))=true then((idx b.2.2.1 a).bind fun c=>(nH b.2.2.1 0 a).bind fun b=>(oI N b c).bind fun b=>if b=true then(some (.inr (.inr (10)))) else(some (.inl (IntKind.wrap .i64 (a+1))))) else(some (.inr (.inl ())))
def xC(N:Nat)(p0:eF)(a:Int):qN:=
 if(decide (a<(List.length p0.2.2:Int)))=true then((idx p0.2.2 a).bind fun b=>(nH p0.2.2 0 a).bind fun c=>(tH N ((⟨#[]⟩:BA),([]:T6),c) b.1 b.2.1).bind fun c=>if c=true then(some (.inr (.inr (10)))) else((aI (wY N b) N 0).bind fun b=>(match b with| .inl b=>some (.inl (IntKind.wrap .i64 (a+1)))| .inr (z)=>some (.inr (.inr (z)))))) else(some (.inr (.inl ())))
def xD(N:Nat)(p0:eF)(b:Int):qN:=
 if(decide (b<(List.length p0.2.2:Int)))=true then((idx p0.2.2 b).bind fun a=>(if(decide ((List.length a.2.2.1:Int)>8))=true then(some true) else(if(decide ((List.length a.2.2.2:Int)>256))=true then(some true) else((JH N a.2.2.2 (IntKind.wrap .i64 ((List.length a.2.2.2:Int)-1))).bind fun a=>some (decide (a>32)))):Te).bind fun a=>if a=true then(some (.inr (.inr (2)))) else(some (.inl (IntKind.wrap .i64 (b+1))))) else(some (.inr (.inl ())))
def xR(N:Nat)(p0:eF):T8:=
 (qT N p0.1).bind fun y1=>if(!y1)=true then(some 9) else((aI (xA N p0) N 0).bind fun a=>(match a with| .inl a=>(aI (xG N p0) N 0).bind fun a=>(match a with| .inl o2=>(aI (xH N p0) N 0).bind fun a=>(match a with| .inl a=>(aI (xC N p0) N 0).bind fun a=>(match a with| .inl a=>(if(decide ((List.length p0.2.1:Int)>8))=true then(some true) else(some (decide ((List.length p0.2.2:Int)>64))):Te).bind fun a=>if a=true then(some 2) else((aI (xD N p0) N 0).bind fun a=>(match a with| .inl a=>some 0| .inr (z)=>some z))| .inr (z)=>some z)| .inr (z)=>some z)| .inr (z)=>some z)| .inr (z)=>some z))
theorem qBy{p0:eF}{r:Int}(g:St m (O) w)(c:RepS aH m a1 c1 p0.2.1)(b:RepS C4 m a2 c2 p0.2.2)(i:xR N p0=some r):Calls prog 14 #[.agg (V6 p0 a1 c1 a2 c2)] w fun e w'=>∃m',e= .returned (vI r)/\m.le m'/\St m' (O) w':=by
 unfold xR at i;have q:=m.le_refl;refine bF func14 rfl ntmps14 ?_;refine aC (iE 1 29 (.agg (V6 p0 a1 c1 a2 c2)) g fun k m1 w1 e1 g a=>(aF 1 [] (aE (aT 1 [(19,vP k 0)] (bJ 20 (vT p0.1) g a (aK 21 i (vC g) ?_))))));rintro y1 i _ w2 ⟨m2,rfl,S,g⟩;refine aF 1 [(22,vB (!y1))] (aG i ?_ ?_)
 .intro A i;refine aB 1 [(2,vI 9)] (aJ ?_);refine aL ?_;cases i;exact aO [2] [vI 9] ⟨m2,rfl,(q.t e1).t S,g⟩
 intro A i;refine aM (aD (aE (aT 1 [(23,vP k 1)] (bJ 24 (vS a1 p0.2.1 c1) g ((a.mono S).drop 1) (aF 2 [(25,vI (p0.2.1.length:Int)),(26,vI 0)] (bA ?_))))));have⟨d0,i,j1⟩:=aW i;refine cO (.exit 0) (fun L' w'=>∃(o1:Unit),∃U,(.inl o1)=d0/\L'=[(1,vP k 0)]/\m.le U/\St U (O) w'/\MRow U k 0 (Va p0 a1 c1 a2 c2)/\P5 U a1 c1 a2 c2 p0.2) ?_ ?_
 .rintro _ w3 ⟨o1,U,rfl,rfl,q,g,a,c,b⟩;have i:=j1;refine cK (aD (aE (aT 1 [(34,vP k 2)] (bJ 35 (vS a2 p0.2.2 c2) g (a.drop 2) (aF 2 [(36,vI (p0.2.2.length:Int)),(37,vI 0)] (bA ?_))))));have⟨d1,i,j2⟩:=aW i;refine cO (.exit 2) (fun L' w'=>∃(o2:Unit),∃V,(.inl o2)=d1/\L'=[(1,vP k 0)]/\m.le V/\St V (O) w'/\MRow V k 0 (Va p0 a1 c1 a2 c2)/\P5 V a1 c1 a2 c2 p0.2) ?_ ?_
  .rintro _ w6 ⟨o2,V,rfl,rfl,q,g,a,c,b⟩;have i:=j2;refine cK (aD (aE (aT 1 [(112,vP k 1)] (bJ 113 (vS a1 p0.2.1 c1) g (a.drop 1) (aF 2 [(114,vI (p0.2.1.length:Int)),(115,vI 0)] (bA ?_))))));have⟨d2,i,j6⟩:=aW i;refine cO (.exit 8) (fun L' w'=>∃(o6:Unit),∃F,(.inl o6)=d2/\L'=[(1,vP k 0)]/\m.le F/\St F (O) w'/\MRow F k 0 (Va p0 a1 c1 a2 c2)/\P5 F a1 c1 a2 c2 p0.2) ?_ ?_
   .rintro _ g8 ⟨o6,F,rfl,rfl,q,g,a,c,b⟩;have i:=j6;refine cK (aD (aE (aT 1 [(133,vP k 2)] (bJ 134 (vS a2 p0.2.2 c2) g (a.drop 2) (aF 2 [(135,vI (p0.2.2.length:Int)),(136,vI 0)] (bA ?_))))));have⟨d3,i,j8⟩:=aW i;refine cO (.exit 10) (fun L' w'=>∃(o8:Unit),∃B,(.inl o8)=d3/\L'=[(1,vP k 0)]/\m.le B/\St B (O) w'/\MRow B k 0 (Va p0 a1 c1 a2 c2)/\P5 B a1 c1 a2 c2 p0.2) ?_ ?_
    .rintro _ g0 ⟨o8,B,rfl,rfl,q,g,a,c,b⟩;have i:=j8;refine cK (aD (aE (aC ?_)));have⟨d8,i,J⟩:=aW i;refine rN (j:=10) (fun L' w'=>∃n,L'=[(1,vP k 0),(176,vB d8)]/\m.le n/\St n (O) w'/\MRow n k 0 (Va p0 a1 c1 a2 c2)/\P5 n a1 c1 a2 c2 p0.2) ?_ ?_
     .have i:=J;rintro _ g1 ⟨n,rfl,q,g,a,c,b⟩;refine aQ (aG i ?_ ?_)
      .intro A i;refine aB 1 [(2,vI 2)] (aJ ?_);refine aL ?_;cases i;exact aO [2] [vI 2] ⟨n,rfl,q,g⟩
      intro A i;refine aM (aD (aE (aT 1 [(177,vP k 2)] (bJ 178 (vS a2 p0.2.2 c2) g (a.drop 2) (aF 2 [(179,vI (p0.2.2.length:Int)),(180,vI 0)] (bA ?_))))));have⟨Y,i,b0⟩:=aW i;refine cO (.exit 14) (fun L' w'=>∃(d4:Unit),∃G,(.inl d4)=Y/\L'=[]/\m.le G/\St G (O) w') ?_ ?_
      .rintro _ f ⟨d4,G,rfl,rfl,q,g⟩;have i:=b0;refine cK (aD (aB 1 [(2,vI 0)] (aJ ?_)));cases i;exact aO [2] [vI 0] ⟨G,rfl,q,g⟩
      intro M;refine cH _ kr (cG (fun k8 L' w'=>∃(z:Int),∃o,aI (xD N p0) k8 z=some Y/\L'=[(178,vS a2 p0.2.2 c2),(179,vI (p0.2.2.length:Int)),(180,vI z)]/\m.le o/\St o (O) w'/\RepS C4 o a2 c2 p0.2.2) N ⟨0,n,i,rfl,q,g,b⟩ ?_);rintro k8 _ g2 ⟨z,o,hL,rfl,q,g,b⟩;rcases k8 with _|k8
      .exact cJ hL
      obtain⟨e0,i,Z,E⟩:=cL hL;clear hL;unfold xD at i;refine aB 1 [(181,vB (decide (z<(p0.2.2.length:Int))))] (aE ?_);refine aG i ?_ ?_
      .intro A i;refine aM (aD (aE (bA (aC (dQ 182 b i ?_)))));rintro s i f0 f8 f9 ⟨_,_,rfl,rfl,⟨_,_,rfl,rfl,⟨_,_,rfl,⟨u,v,rfl,H⟩,⟨f,l,rfl,y⟩⟩⟩⟩ d6;refine dV 183 43 182 f8 (.agg (V7 s u v f l)) g d6 (cZ 18 43 (.agg #[vI 0,vT eB,v7,v7]) g fun d5 g3 g=>(cA (.agg (V7 s u v f l)) g fun g4 g=>(aQ (aC (cU 20 i (fun R L' w'=>∃p,L'=[(178,vS a2 p0.2.2 c2),(179,vI (p0.2.2.length:Int)),(180,vI z),(203,vB R)]/\m.le p/\St p (kB d5 (V7 s u v f l) 43::O) w'/\RepS C4 p a2 c2 p0.2.2/\P2 p u v f l s.2.2) ?_ ?_)))))
       .rintro R i _ D ⟨p,rfl,q,g,b,H,y⟩;refine aQ (aG i ?_ ?_)
        .intro A i;refine aB 1 [(2,vI 2)] (aJ ?_);refine aZ (aL ?_);have ho:=E _ (sI i);subst ho;have i:=b0;refine aL (aZ (aL ?_));cases i;exact aO [2] [vI 2] ⟨p,rfl,q,g.t⟩
        intro A i;refine aM (bI (aD (aX (aA 2 [(180,vI (wr (z+1)))] (aS rfl ?_)))));have hL:=Z _ (sI i);exact xE (cE ⟨wr (z+1),p,hL,rfl,q,g.t,b⟩)
       intro R i K;refine bL 1 185 26 184 2 (vS u s.2.2.1 v) g.h (aA 3 [(188,vB (decide ((s.2.2.1.length:Int)>8)))] (bC 188 i ?_ ?_))
       .intro A i;refine aA 15 [(203,vB true)] ?_;cases i;exact aU _ kr (K _ _ ⟨o,rfl,q,g,b,H,y⟩)
       intro A i;refine bL 1 190 41 189 3 (vS f s.2.2.2 l) g.h (aA 4 [(194,vB (decide ((s.2.2.2.length:Int)>256)))] (bC 194 i ?_ ?_))
       .intro A i;refine aA 9 [(203,vB true)] ?_;cases i;exact aU _ kr (K _ _ ⟨o,rfl,q,g,b,H,y⟩)
       intro A i;refine bL 1 196 41 195 3 (vS f s.2.2.2 l) g.h (bL 1 198 41 197 3 (vS f s.2.2.2 l) g.h (aA 2 [(200,vI (wr ((s.2.2.2.length:Int)-1)))] (aK 201 i (qCl g y) ?_)));rintro d9 i _ g5 ⟨d7,rfl,D,g⟩;refine aA 2 [(203,vB (decide (d9>32)))] ?_;cases i;exact aU _ kr (K _ _ ⟨d7,rfl,q.t D,g,b.mono D,H.mono D,y.mono D⟩)
      intro A i;refine cD (bD ?_);have ho:=E _ (sI i);refine bD ?_;exact xE (M _ _ ⟨(),o,ho,rfl,q,g⟩)
     intro K;refine aA 1 [(167,vP k 1)] (bJ 168 (vS a1 p0.2.1 c1) g (a.drop 1) (aA 3 [(171,vB (decide ((p0.2.1.length:Int)>8)))] (bC 171 i ?_ ?_)))
     .intro A i;refine aA 5 [(176,vB true)] ?_;cases i;exact aU _ kr (K _ _ ⟨B,rfl,q,g,a,c,b⟩)
     intro A i;refine aA 1 [(172,vP k 2)] (bJ 173 (vS a2 p0.2.2 c2) g (a.drop 2) (aA 3 [(176,vB (decide ((p0.2.2.length:Int)>64)))] ?_));cases i;exact aU _ kr (K _ _ ⟨B,rfl,q,g,a,c,b⟩)
    intro Y;refine cH _ kr (cG (fun k6 L' w'=>∃(u:Int),∃l,aI (xC N p0) k6 u=some d3/\L'=[(1,vP k 0),(134,vS a2 p0.2.2 c2),(135,vI (p0.2.2.length:Int)),(136,vI u)]/\m.le l/\St l (O) w'/\MRow l k 0 (Va p0 a1 c1 a2 c2)/\P5 l a1 c1 a2 c2 p0.2) N ⟨0,F,i,rfl,q,g,a,c,b⟩ ?_);rintro k6 _ g9 ⟨u,l,hL,rfl,q,g,a,c,b⟩;rcases k6 with _|k6
    .exact cJ hL
    obtain⟨g6,i,d7,M⟩:=cL hL;clear hL;unfold xC at i;refine aB 1 [(137,vB (decide (u<(p0.2.2.length:Int))))] (aE ?_);refine aG i ?_ ?_
    .intro A i;refine aM (aD (aE (bA (aT 1 [(138,vI u)] (dQ 139 b i ?_)))));rintro f i b9 f6 g4 ⟨_,_,rfl,rfl,⟨_,_,rfl,rfl,⟨_,_,rfl,⟨v,y,rfl,R⟩,⟨G,H,rfl,r8⟩⟩⟩⟩ f0;refine dV 140 43 139 f6 (.agg (V7 f v y G H)) g f0 (cZ 14 43 (.agg #[vI 0,vT eB,v7,v7]) g fun E h0 g=>(aA 1 [(13,vI u)] (cA (.agg (V7 f v y G H)) g fun h1 g=>(aQ (aE (aE (eC [(10,fun w'=>Inv l w'/\Piece.holds l w' (kB E (V7 f v y G H) 43)/\True)] kr g fun h2 _ g=> ?_)))))));have n:=l.le_refl;refine⟨⟨.inr ⟨Inv.anti g.inv n,Piece.holds_anti g.h n,trivial⟩,trivial⟩,?_⟩;refine aR 0 141 (vP k 2) (.head _) (eP 27 141 1 142 2 (vS a2 p0.2.2 c2) (.head _) (fun _ h=>h.1) (a.drop 2) (aR 2 143 (vI u) (.head _) ?_));have⟨l2,d9,i⟩:=aW i;refine WI (t:=27) (e:=43) (x:=(.tmp 142)) (lo:=none) (hi:=(some (.tmp 143))) 3 144 C4 kr rfl kr (.head _) (bK (bK (cP (bK (bK (cP (bK eT))))))) (ev (vS a2 p0.2.2 c2)) kr b (.inl ⟨rfl,rfl⟩) (.inr ⟨_,_,rfl,(ev (vI u))⟩) d9 ?_;intro a9 c9 r9;refine aR 4 145 (.agg #[vT eB,v1,vS a9 l2 c9]) (.head _) (aR 5 146 (vP E 0) (.head _) (dM 3 146 6 147 0 (vI f.1) (.head _) (fun _ h=>h.2.1) (aR 7 148 (vP E 1) (.head _) (dM 9 148 8 149 1 (vT f.2.1) (.head _) (fun _ h=>h.2.1) (cB 9 kr (eS 150 i (fun _ h=>RI (p0:=(eB,([]:T6),l2)) g (RepS.nil _ _) r9 h) ?_))))));rintro h6 i _ h3 ⟨d5,rfl,o,g⟩
     refine⟨_,rfl,?_⟩;have n:=Mem.le_trans n o;refine⟨⟨.inr ⟨Inv.anti g.inv n,Piece.holds_anti g.h n,trivial⟩,trivial⟩,?_⟩;refine dU kr ?_;refine aD (aG i ?_ ?_)
     .intro A i;refine aB 1 [(2,vI 10)] (aJ ?_);refine aL (aZ (aL ?_));have ho:=M _ (sI i);subst ho;have i:=j8;refine aL (aZ (aL ?_));cases i;exact aO [2] [vI 10] ⟨d5,rfl,q.t o,g.t⟩
     intro A i;refine aM (aD (aC (bL 1 152 26 151 2 (vS v f.2.2.1 y) g.h (aF 2 [(153,vI (f.2.2.1.length:Int)),(154,vI 0)] (bA ?_)))));have⟨d4,i,j9⟩:=aW i;refine cO (.exit 12) (fun L' w'=>∃(o9:Unit),∃p,(.inl o9)=d4/\L'=[(1,vP k 0),(134,vS a2 p0.2.2 c2),(135,vI (p0.2.2.length:Int)),(136,vI u)]/\m.le p/\St p (kB E (V7 f v y G H) 43::O) w'/\MRow p k 0 (Va p0 a1 c1 a2 c2)/\RepS aH p a1 c1 p0.2.1/\RepS C4 p a2 c2 p0.2.2/\P2 p v y G H f.2.2) ?_ ?_
     .rintro _ s ⟨o9,p,rfl,rfl,q,g,a,c,b,R,r8⟩;have i:=j9;refine cK (bI (aD (aX (aA 2 [(136,vI (wr (u+1)))] (aS rfl ?_)))));have hL:=d7 _ (sI i);exact xE (cE ⟨wr (u+1),p,hL,rfl,q,g.t,a,c,b⟩)
     intro Z;refine cH _ kr (cG (fun k7 L' w'=>∃(D:Int),∃s,aI (wY N f) k7 D=some d4/\L'=[(1,vP k 0),(14,vP E 0),(134,vS a2 p0.2.2 c2),(135,vI (p0.2.2.length:Int)),(136,vI u),(152,vS v f.2.2.1 y),(153,vI (f.2.2.1.length:Int)),(154,vI D)]/\m.le s/\St s (kB E (V7 f v y G H) 43::O) w'/\MRow s k 0 (Va p0 a1 c1 a2 c2)/\RepS aH s a1 c1 p0.2.1/\RepS C4 s a2 c2 p0.2.2/\P2 s v y G H f.2.2) N ⟨0,d5,i,rfl,q.t o,g,a.mono o,c.mono o,b.mono o,R.mono o,r8.mono o⟩ ?_);rintro k7 _ h4 ⟨D,s,hL,rfl,q,g,a,c,b,R,r8⟩;rcases k7 with _|k7
     .exact cJ hL
     obtain⟨g7,i,d8,b0⟩:=cL hL;clear hL;unfold wY at i;refine aB 1 [(155,vB (decide (D<(f.2.2.1.length:Int))))] (aE ?_);refine aG i ?_ ?_
     .intro A i;refine aM (aD (aE (bA (aT 1 [(156,vI D)] (dQ 157 R i ?_)))));rintro x7 i g2 f7 g5 rfl f9;refine dV 158 9 157 f7 (vT x7) g f9 (aF 2 [(15,vI D),(16,vT x7)] (aC (bL 1 160 26 159 2 (vS v f.2.2.1 y) g.h (aA 1 [(161,vI D)] ?_))));have⟨l3,e0,i⟩:=aW i;refine bB rfl (FX (d:=162) (t:=26) (e:=9) (x:=(.tmp 160)) (lo:=none) (hi:=(some (.tmp 161))) aH kr rfl (ev (vS v f.2.2.1 y)) kr R (.inl ⟨rfl,rfl⟩) (.inr ⟨_,_,rfl,(ev (vI D))⟩) e0 ?_);intro g1 g3 g0;refine aA 1 [(163,vT x7)] (aK 164 i (JC g g0) ?_);rintro h7 i _ h5 ⟨d6,rfl,z,g⟩;refine aQ (aG i ?_ ?_)
      .intro A i;refine aB 1 [(2,vI 10)] (aJ ?_);refine aZ (aL ?_);have ho:=b0 _ (sI i);subst ho;have i:=j9;refine aL (aZ (aZ (aL ?_)));have ho:=M _ (sI i);subst ho;have i:=j8;refine aL (aZ (aL ?_));cases i;exact aO [2] [vI 10] ⟨d6,rfl,q.t z,g.t⟩
      intro A i;refine aM (bI (aD (aX (aA 2 [(154,vI (wr (D+1)))] (aS rfl ?_)))));have hL:=d8 _ (sI i);exact xE (cE ⟨wr (D+1),d6,hL,rfl,q.t z,g,a.mono z,c.mono z,b.mono z,R.mono z,r8.mono z⟩)
     intro A i;refine cD (bD ?_);have ho:=b0 _ (sI i);refine bD ?_;exact xE (Z _ _ ⟨(),s,ho,rfl,q,g,a,c,b,R,r8⟩)
    intro A i;refine cD (bD ?_);have ho:=M _ (sI i);refine bD ?_;exact xE (Y _ _ ⟨(),l,ho,rfl,q,g,a,c,b⟩)
   intro s;refine cH _ kr (cG (fun u L' w'=>∃(n:Int),∃f,aI (xH N p0) u n=some d2/\L'=[(1,vP k 0),(113,vS a1 p0.2.1 c1),(114,vI (p0.2.1.length:Int)),(115,vI n)]/\m.le f/\St f (O) w'/\MRow f k 0 (Va p0 a1 c1 a2 c2)/\P5 f a1 c1 a2 c2 p0.2) N ⟨0,V,i,rfl,q,g,a,c,b⟩ ?_);rintro u _ Y ⟨n,f,hL,rfl,q,g,a,c,b⟩;rcases u with _|u
   .exact cJ hL
   obtain⟨R,i,v,p⟩:=cL hL;clear hL;unfold xH at i;refine aB 1 [(116,vB (decide (n<(p0.2.1.length:Int))))] (aE ?_);refine aG i ?_ ?_
   .intro A i;refine aM (aD (aE (bA (aT 1 [(117,vI n)] (dQ 118 c i ?_)))));rintro x5 i b8 G M rfl B;refine dV 119 9 118 G (vT x5) g B (aF 2 [(11,vI n),(12,vT x5)] (aC (cU 12 i (fun y L' w'=>∃l,L'=[(1,vP k 0),(113,vS a1 p0.2.1 c1),(114,vI (p0.2.1.length:Int)),(115,vI n),(131,vB y)]/\m.le l/\St l (O) w'/\MRow l k 0 (Va p0 a1 c1 a2 c2)/\P5 l a1 c1 a2 c2 p0.2) ?_ ?_)))
    .rintro y i _ o ⟨l,rfl,q,g,a,c,b⟩;refine aQ (aG i ?_ ?_)
     .intro A i;refine aB 1 [(2,vI 10)] (aJ ?_);refine aZ (aL ?_);have ho:=p _ (sI i);subst ho;have i:=j6;refine aL (aZ (aL ?_));cases i;exact aO [2] [vI 10] ⟨l,rfl,q,g⟩
     intro A i;refine aM (bI (aD (aX (aA 2 [(115,vI (wr (n+1)))] (aS rfl ?_)))));have hL:=v _ (sI i);exact xE (cE ⟨wr (n+1),l,hL,rfl,q,g,a,c,b⟩)
    intro y i K;refine aA 2 [(120,vT x5),(121,vP k 0)] (bJ 122 (vT p0.1) g a (aA 2 [(124,vB (x5.toList==p0.1.toList))] (bC 124 i ?_ ?_)))
    .intro A i;refine aA 7 [(131,vB true)] ?_;cases i;exact aU _ kr (K _ _ ⟨f,rfl,q,g,a,c,b⟩)
    intro A i;refine aA 1 [(125,vP k 1)] (bJ 126 (vS a1 p0.2.1 c1) g (a.drop 1) (aA 1 [(127,vI n)] ?_));have⟨l1,z,i⟩:=aW i;refine bB rfl (FX (d:=128) (t:=26) (e:=9) (x:=(.tmp 126)) (lo:=none) (hi:=(some (.tmp 127))) aH kr rfl (ev (vS a1 p0.2.1 c1)) kr c (.inl ⟨rfl,rfl⟩) (.inr ⟨_,_,rfl,(ev (vI n))⟩) z ?_);intro a6 c6 H;refine aA 1 [(129,vT x5)] (aK 130 i (JC g H) ?_);rintro E i _ Z ⟨D,rfl,o,g⟩;refine aA 1 [(131,vB E)] ?_;cases i;exact aU _ kr (K _ _ ⟨D,rfl,q.t o,g,a.mono o,c.mono o,b.mono o⟩)
   intro A i;refine cD (bD ?_);have ho:=p _ (sI i);refine bD ?_;exact xE (s _ _ ⟨(),f,ho,rfl,q,g,a,c,b⟩)
  intro b0;refine cH _ kr (cG (fun k2 L' w'=>∃(G:Int),∃F,aI (xG N p0) k2 G=some d1/\L'=[(1,vP k 0),(35,vS a2 p0.2.2 c2),(36,vI (p0.2.2.length:Int)),(37,vI G)]/\m.le F/\St F (O) w'/\MRow F k 0 (Va p0 a1 c1 a2 c2)/\P5 F a1 c1 a2 c2 p0.2) N ⟨0,U,i,rfl,q,g,a,c,b⟩ ?_);rintro k2 _ w7 ⟨G,F,hL,rfl,q,g,a,c,b⟩;rcases k2 with _|k2
  .exact cJ hL
  obtain⟨f0,i,d4,D⟩:=cL hL;clear hL;unfold xG at i;refine aB 1 [(38,vB (decide (G<(p0.2.2.length:Int))))] (aE ?_);refine aG i ?_ ?_
  .intro A i;refine aM (aD (aE (bA (aC (dQ 39 b i ?_)))));rintro f i b3 f2 d9 ⟨_,_,rfl,rfl,⟨_,_,rfl,rfl,⟨_,_,rfl,⟨o,p,rfl,n⟩,⟨s,u,rfl,l⟩⟩⟩⟩ d6;refine dV 40 43 39 f2 (.agg (V7 f o p s u)) g d6 (cZ 6 43 (.agg #[vI 0,vT eB,v7,v7]) g fun y w8 g=>(cA (.agg (V7 f o p s u)) g fun w9 g=>(aQ (aE (aC (cU 41 i (fun o3 L' w'=>∃H,L'=[(1,vP k 0),(6,vP y 0),(35,vS a2 p0.2.2 c2),(36,vI (p0.2.2.length:Int)),(37,vI G),(81,vB o3)]/\m.le H/\St H (kB y (V7 f o p s u) 43::O) w'/\MRow H k 0 (Va p0 a1 c1 a2 c2)/\RepS aH H a1 c1 p0.2.1/\RepS C4 H a2 c2 p0.2.2/\P2 H o p s u f.2.2) ?_ ?_))))))
   .rintro o3 i _ g0 ⟨H,rfl,q,g,a,c,b,n,l⟩;refine aQ (aG i ?_ ?_)
    .intro A i;refine aB 1 [(2,vI 9)] (aJ ?_);refine aL (aZ (aL ?_));have ho:=D _ (sI i);subst ho;have i:=j2;refine aL (aZ (aL ?_));cases i;exact aO [2] [vI 9] ⟨H,rfl,q,g.t⟩
    intro A i;refine aM (aD (aE (aC (bL 1 83 26 82 2 (vS o f.2.2.1 p) g.h (aF 2 [(84,vI (f.2.2.1.length:Int)),(85,vI 0)] (bA ?_))))));have⟨Y,i,j3⟩:=aW i;refine cO (.exit 4) (fun L' w'=>∃(o4:Unit),∃z,(.inl o4)=Y/\L'=[(1,vP k 0),(6,vP y 0),(35,vS a2 p0.2.2 c2),(36,vI (p0.2.2.length:Int)),(37,vI G)]/\m.le z/\St z (kB y (V7 f o p s u) 43::O) w'/\MRow z k 0 (Va p0 a1 c1 a2 c2)/\RepS aH z a1 c1 p0.2.1/\RepS C4 z a2 c2 p0.2.2/\P2 z o p s u f.2.2) ?_ ?_
    .rintro _ g1 ⟨o4,z,rfl,rfl,q,g,a,c,b,n,l⟩;have i:=j3;refine cK (aD (aE (aC (bL 1 94 41 93 3 (vS s f.2.2.2 u) g.h (aF 2 [(95,vI (f.2.2.2.length:Int)),(96,vI 0)] (bA ?_))))));have⟨Z,i,j4⟩:=aW i;refine cO (.exit 6) (fun L' w'=>∃(o5:Unit),∃E,(.inl o5)=Z/\L'=[(1,vP k 0),(6,vP y 0),(35,vS a2 p0.2.2 c2),(36,vI (p0.2.2.length:Int)),(37,vI G)]/\m.le E/\St E (kB y (V7 f o p s u) 43::O) w'/\MRow E k 0 (Va p0 a1 c1 a2 c2)/\RepS aH E a1 c1 p0.2.1/\RepS C4 E a2 c2 p0.2.2/\P2 E o p s u f.2.2) ?_ ?_
     .rintro _ R ⟨o5,E,rfl,rfl,q,g,a,c,b,n,l⟩;have i:=j4;refine cK (aD (aC (bL 1 108 41 107 3 (vS s f.2.2.2 u) g.h (aK 109 i (qBj g l) ?_))));rintro M i _ d2 ⟨B,rfl,v,g⟩;refine aF 1 [(110,vB (!M))] (aG i ?_ ?_)
      .intro A i;refine aB 1 [(2,vI 9)] (aJ ?_);refine aZ (aL ?_);have ho:=D _ (sI i);subst ho;have i:=j2;refine aL (aZ (aL ?_));cases i;exact aO [2] [vI 9] ⟨B,rfl,q.t v,g.t⟩
      intro A i;refine aM (bI (aD (aX (aA 2 [(37,vI (wr (G+1)))] (aS rfl ?_)))));have hL:=d4 _ (sI i);exact xE (cE ⟨wr (G+1),B,hL,rfl,q.t v,g.t,a.mono v,c.mono v,b.mono v⟩)
     intro d2;refine cH _ kr (cG (fun k4 L' w'=>∃(M:Int),∃v,aI (xB N f) k4 M=some Z/\L'=[(1,vP k 0),(6,vP y 0),(35,vS a2 p0.2.2 c2),(36,vI (p0.2.2.length:Int)),(37,vI G),(94,vS s f.2.2.2 u),(95,vI (f.2.2.2.length:Int)),(96,vI M)]/\m.le v/\St v (kB y (V7 f o p s u) 43::O) w'/\MRow v k 0 (Va p0 a1 c1 a2 c2)/\RepS aH v a1 c1 p0.2.1/\RepS C4 v a2 c2 p0.2.2/\RepS C3 v s u f.2.2.2/\RepS aH v o p f.2.2.1) N ⟨0,z,i,rfl,q,g,a,c,b,l,n⟩ ?_);rintro k4 _ g2 ⟨M,v,hL,rfl,q,g,a,c,b,l,n⟩;rcases k4 with _|k4
     .exact cJ hL
     obtain⟨f9,i,d5,R⟩:=cL hL;clear hL;unfold xB at i;refine aB 1 [(97,vB (decide (M<(f.2.2.2.length:Int))))] (aE ?_);refine aG i ?_ ?_
     .intro A i;refine aM (aD (aE (bA (aC (dQ 98 l i ?_)))));rintro x4 i b6 f4 e0 ⟨_,_,rfl,rfl,⟨_,_,rfl,rfl,⟨_,_,rfl,rfl,⟨_,_,rfl,rfl,⟨a5,c5,rfl,r5⟩⟩⟩⟩⟩ d7;refine dV 99 61 98 f4 (.agg (V8 x4 a5 c5)) g d7 (cZ 10 61 (.agg #[vI 0,vI 0,vI 0,vT eB,v7]) g fun b7 g3 g=>(cA (.agg (V8 x4 a5 c5)) g fun g4 g=>(aQ (aC (bE 100 (.agg (V8 x4 a5 c5)) g.h (bL 1 102 26 101 2 (vS o f.2.2.1 p) g.t.h (aA 1 [(103,vI (f.2.2.1.length:Int))] (aK 104 i (qBx (p0:=x4) g r5) ?_))))))));rintro d8 i _ g5 ⟨d3,rfl,B,g⟩;refine aF 1 [(105,vB (!d8))] (aG i ?_ ?_)
      .intro A i;refine aB 1 [(2,vI 9)] (aJ ?_);refine aZ (aL ?_);have ho:=R _ (sI i);subst ho;have i:=j4;refine aL (aZ (aL (aZ (aL ?_))));have ho:=D _ (sI i);subst ho;have i:=j2;refine aL (aZ (aL ?_));cases i;exact aO [2] [vI 9] ⟨d3,rfl,q.t B,g.t.t⟩
      intro A i;refine aM (bI (aD (aX (aA 2 [(96,vI (wr (M+1)))] (aS rfl ?_)))));have hL:=d5 _ (sI i);exact xE (cE ⟨wr (M+1),d3,hL,rfl,q.t B,g.t,a.mono B,c.mono B,b.mono B,l.mono B,n.mono B⟩)
     intro A i;refine cD (bD ?_);have ho:=R _ (sI i);refine bD ?_;exact xE (d2 _ _ ⟨(),v,ho,rfl,q,g,a,c,b,n,l⟩)
    intro R;refine cH _ kr (cG (fun Z L' w'=>∃(E:Int),∃v,aI (wX N f) Z E=some Y/\L'=[(1,vP k 0),(6,vP y 0),(35,vS a2 p0.2.2 c2),(36,vI (p0.2.2.length:Int)),(37,vI G),(83,vS o f.2.2.1 p),(84,vI (f.2.2.1.length:Int)),(85,vI E)]/\m.le v/\St v (kB y (V7 f o p s u) 43::O) w'/\MRow v k 0 (Va p0 a1 c1 a2 c2)/\RepS aH v a1 c1 p0.2.1/\RepS C4 v a2 c2 p0.2.2/\P2 v o p s u f.2.2) N ⟨0,H,i,rfl,q,g,a,c,b,n,l⟩ ?_);rintro Z _ e0 ⟨E,v,hL,rfl,q,g,a,c,b,n,l⟩;rcases Z with _|Z
    .exact cJ hL
    obtain⟨d8,i,d3,M⟩:=cL hL;clear hL;unfold wX at i;refine aB 1 [(86,vB (decide (E<(f.2.2.1.length:Int))))] (aE ?_);refine aG i ?_ ?_
    .intro A i;refine aM (aD (aE (bA (aC (dQ 87 n i ?_)))));rintro x3 i b5 f3 d7 rfl d5;refine dV 88 9 87 f3 (vT x3) g d5 (aF 1 [(8,vT x3)] (aC (aA 1 [(89,vT x3)] (aK 90 i (vC g) ?_))));rintro y9 i _ f9 ⟨d2,rfl,B,g⟩;refine aF 1 [(91,vB (!y9))] (aG i ?_ ?_)
     .intro A i;refine aB 1 [(2,vI 9)] (aJ ?_);refine aZ (aL ?_);have ho:=M _ (sI i);subst ho;have i:=j3;refine aL (aZ (aL (aZ (aL ?_))));have ho:=D _ (sI i);subst ho;have i:=j2;refine aL (aZ (aL ?_));cases i;exact aO [2] [vI 9] ⟨d2,rfl,q.t B,g.t⟩
     intro A i;refine aM (bI (aD (aX (aA 2 [(85,vI (wr (E+1)))] (aS rfl ?_)))));have hL:=d3 _ (sI i);exact xE (cE ⟨wr (E+1),d2,hL,rfl,q.t B,g,a.mono B,c.mono B,b.mono B,n.mono B,l.mono B⟩)
    intro A i;refine cD (bD ?_);have ho:=M _ (sI i);refine bD ?_;exact xE (R _ _ ⟨(),v,ho,rfl,q,g,a,c,b,n,l⟩)
   intro o3 i K;refine bL 1 42 3 41 0 (vI f.1) g.h (aA 2 [(44,vB (decide (f.1<1)))] (bC 44 i ?_ ?_))
   .intro A i;refine aA 37 [(81,vB true)] ?_;cases i;exact aU _ kr (K _ _ ⟨F,rfl,q,g,a,c,b,n,l⟩)
   intro A i;refine bL 1 46 3 45 0 (vI f.1) g.h (aA 3 [(49,vB (decide (f.1>3)))] (bC 49 i ?_ ?_))
   .intro A i;refine aA 32 [(81,vB true)] ?_;cases i;exact aU _ kr (K _ _ ⟨F,rfl,q,g,a,c,b,n,l⟩)
   intro A i;refine bL 1 51 3 50 0 (vI f.1) g.h (aA 2 [(53,vB (f.1 !=1))] (bC 53 i ?_ ?_))
   .intro A i;refine bL 1 55 26 54 2 (vS o f.2.2.1 p) g.h (aA 5 [(60,vB (decide ((f.2.2.1.length:Int)>0)))] (bC 60 i ?_ ?_))
    .intro A i;refine aA 21 [(81,vB true)] ?_;cases i;exact aU _ kr (K _ _ ⟨F,rfl,q,g,a,c,b,n,l⟩)
    intro A i;refine bL 1 62 3 61 0 (vI f.1) g.h (aA 2 [(64,vB (f.1==3))] (bC 64 i ?_ ?_))
    .intro A i;refine bL 1 66 9 65 1 (vT f.2.1) g.h (aK 67 i (IY g) ?_);rintro M i _ Y ⟨E,rfl,v,g⟩;have q:=q.t v;have a:=a.mono v;have c:=c.mono v;have b:=b.mono v;have n:=n.mono v;have l:=l.mono v;refine aA 4 [(71,vB (!M))] (bC 71 i ?_ ?_)
     .intro A i;refine aA 10 [(81,vB true)] ?_;cases i;exact aU _ kr (K _ _ ⟨E,rfl,q,g,a,c,b,n,l⟩)
     intro A i;refine bL 1 73 3 72 0 (vI f.1) g.h (aA 2 [(75,vB (f.1 !=3))] (bC 75 i ?_ ?_))
     .intro A i;refine bL 1 77 9 76 1 (vT f.2.1) g.h (aK 78 i (vC g) ?_);rintro R i _ Z ⟨B,rfl,z,g⟩;refine aA 3 [(81,vB (!R))] ?_;cases i;exact aU _ kr (K _ _ ⟨B,rfl,q.t z,g,a.mono z,c.mono z,b.mono z,n.mono z,l.mono z⟩)
     intro A i;refine aA 6 [(81,vB false)] ?_;cases i;exact aU _ kr (K _ _ ⟨E,rfl,q,g,a,c,b,n,l⟩)
    intro A i;refine aA 8 [(71,vB false),(72,vP y 0)] (bE 73 (vI f.1) g.h (aA 2 [(75,vB (f.1 !=3))] (bC 75 i ?_ ?_)))
    .intro A i;refine bL 1 77 9 76 1 (vT f.2.1) g.h (aK 78 i (vC g) ?_);rintro y5 i _ B ⟨z,rfl,v,g⟩;refine aA 3 [(81,vB (!y5))] ?_;cases i;exact aU _ kr (K _ _ ⟨z,rfl,q.t v,g,a.mono v,c.mono v,b.mono v,n.mono v,l.mono v⟩)
    intro A i;refine aA 6 [(81,vB false)] ?_;cases i;exact aU _ kr (K _ _ ⟨F,rfl,q,g,a,c,b,n,l⟩)
   intro A i;refine aA 8 [(60,vB false),(61,vP y 0)] (bE 62 (vI f.1) g.h (aA 2 [(64,vB (f.1==3))] (bC 64 i ?_ ?_)))
   .intro A i;refine bL 1 66 9 65 1 (vT f.2.1) g.h (aK 67 i (IY g) ?_);rintro M i _ Y ⟨B,rfl,v,g⟩;have q:=q.t v;have a:=a.mono v;have c:=c.mono v;have b:=b.mono v;have n:=n.mono v;have l:=l.mono v;refine aA 4 [(71,vB (!M))] (bC 71 i ?_ ?_)
    .intro A i;refine aA 10 [(81,vB true)] ?_;cases i;exact aU _ kr (K _ _ ⟨B,rfl,q,g,a,c,b,n,l⟩)
    intro A i;refine bL 1 73 3 72 0 (vI f.1) g.h (aA 2 [(75,vB (f.1 !=3))] (bC 75 i ?_ ?_))
    .intro A i;refine bL 1 77 9 76 1 (vT f.2.1) g.h (aK 78 i (vC g) ?_);rintro R i _ Z ⟨E,rfl,z,g⟩;refine aA 3 [(81,vB (!R))] ?_;cases i;exact aU _ kr (K _ _ ⟨E,rfl,q.t z,g,a.mono z,c.mono z,b.mono z,n.mono z,l.mono z⟩)
    intro A i;refine aA 6 [(81,vB false)] ?_;cases i;exact aU _ kr (K _ _ ⟨B,rfl,q,g,a,c,b,n,l⟩)
   intro A i;refine aA 8 [(71,vB false),(72,vP y 0)] (bE 73 (vI f.1) g.h (aA 2 [(75,vB (f.1 !=3))] (bC 75 i ?_ ?_)))
   .intro A i;refine bL 1 77 9 76 1 (vT f.2.1) g.h (aK 78 i (vC g) ?_);rintro B i _ E ⟨z,rfl,v,g⟩;refine aA 3 [(81,vB (!B))] ?_;cases i;exact aU _ kr (K _ _ ⟨z,rfl,q.t v,g,a.mono v,c.mono v,b.mono v,n.mono v,l.mono v⟩)
   intro A i;refine aA 6 [(81,vB false)] ?_;cases i;exact aU _ kr (K _ _ ⟨F,rfl,q,g,a,c,b,n,l⟩)
  intro A i;refine cD (bD ?_);have ho:=D _ (sI i);refine bD ?_;exact xE (b0 _ _ ⟨(),F,ho,rfl,q,g,a,c,b⟩)
 intro p;refine cH _ kr (cG (fun s L' w'=>∃(l:Int),∃f,aI (xA N p0) s l=some d0/\L'=[(1,vP k 0),(24,vS a1 p0.2.1 c1),(25,vI (p0.2.1.length:Int)),(26,vI l)]/\m.le f/\St f (O) w'/\MRow f k 0 (Va p0 a1 c1 a2 c2)/\P5 f a1 c1 a2 c2 p0.2) N ⟨0,m2,i,rfl,(q.t e1).t S,g,a.mono S,(c.mono e1).mono S,(b.mono e1).mono S⟩ ?_);rintro s _ G ⟨l,f,hL,rfl,q,g,a,c,b⟩;rcases s with _|s
 .exact cJ hL
 obtain⟨E,i,u,o⟩:=cL hL;clear hL;unfold xA at i;refine aB 1 [(27,vB (decide (l<(p0.2.1.length:Int))))] (aE ?_);refine aG i ?_ ?_
 .intro A i;refine aM (aD (aE (bA (aC (dQ 28 c i ?_)))));rintro x1 i F z D rfl v;refine dV 29 9 28 z (vT x1) g v (aF 1 [(4,vT x1)] (aC (aA 1 [(30,vT x1)] (aK 31 i (vC g) ?_))));rintro B i _ H ⟨y,rfl,n,g⟩;refine aF 1 [(32,vB (!B))] (aG i ?_ ?_)
  .intro A i;refine aB 1 [(2,vI 9)] (aJ ?_);refine aZ (aL ?_);have ho:=o _ (sI i);subst ho;have i:=j1;refine aL (aZ (aL ?_));cases i;exact aO [2] [vI 9] ⟨y,rfl,q.t n,g⟩
  intro A i;refine aM (bI (aD (aX (aA 2 [(26,vI (wr (l+1)))] (aS rfl ?_)))));have hL:=u _ (sI i);exact xE (cE ⟨wr (l+1),y,hL,rfl,q.t n,g,a.mono n,c.mono n,b.mono n⟩)
 intro A i;refine cD (bD ?_);have ho:=o _ (sI i);refine bD ?_;exact xE (p _ _ ⟨(),f,ho,rfl,q,g,a,c,b⟩)
def AG(N:Nat)(p0:eF)(a:Tj):Option Tk:=
 if(decide (a.2<(List.length p0.2.1:Int)))=true then((idx p0.2.1 a.2).bind fun x1=>(bH (⟨#[105,109,112,111,114,116,32]⟩:BA) x1).bind fun b=>(bH b (⟨#[59,10]⟩:BA)).bind fun b=>(bH a.1 b).bind fun b=>some (.inl (b,IntKind.wrap .i64 (a.2+1)))) else(some (.inr a.1))
def AU(N:Nat)(p0:eF):Tf:=
 (bH (⟨#[112,97,99,107,97,103,101,32]⟩:BA) p0.1).bind fun a=>(bH a (⟨#[59,10]⟩:BA)).bind fun a=>(aI (AG N p0) N (a,0)).bind fun a=>some a
theorem qCk{p0:eF}{r:BA}(g:St m (O) w)(l:RepS aH m a1 c1 p0.2.1)(G:RepS C4 m a2 c2 p0.2.2)(i:AU N p0=some r):Calls prog 61 #[.agg (V6 p0 a1 c1 a2 c2)] w fun e w'=>∃m',e= .returned (vT r)/\m.le m'/\St m' (O) w':=by
 unfold AU at i;have q:=m.le_refl;refine bF func61 rfl ntmps61 ?_;refine aC (iE 1 29 (.agg (V6 p0 a1 c1 a2 c2)) g fun s B R u g n=>(aF 1 [] (aC (aA 1 [(6,vP s 0)] (bJ 7 (vT p0.1) g n (cM 8 i fun H i=>(cM 9 i fun x i=>(aF 1 [(3,vT x)] (aE (aT 1 [(10,vP s 1)] (bJ 11 (vS a1 p0.2.1 c1) g (n.drop 1) (aF 2 [(12,vI (p0.2.1.length:Int)),(13,vI 0)] (bA (cC (.exit 0) i (fun a L' w'=>∃(d:BA),∃k,d=a/\L'=[(3,vT d)]/\m.le k/\St k (O) w') ?_ ?_))))))))))))))
 .rintro a i _ b ⟨d,k,rfl,rfl,q,g⟩;refine cK (aD (aB 2 [(2,vT d)] (aJ ?_)));obtain rfl:=sI i;exact aO [2] [vT d] ⟨k,rfl,q,g⟩
 intro a i f;refine cH _ kr (cG (fun h L' w'=>∃(b:Tj),∃c,aI (AG N p0) h b=some a/\L'=[(3,vT b.1),(11,vS a1 p0.2.1 c1),(12,vI (p0.2.1.length:Int)),(13,vI b.2)]/\m.le c/\St c (O) w'/\RepS aH c a1 c1 p0.2.1) N ⟨(x,0),B,i,rfl,q.t u,g,l.mono u⟩ ?_);rintro h _ S ⟨b,c,hL,rfl,q,g,l⟩;rcases h with _|h
 .exact cJ hL
 obtain⟨E,i,p,o⟩:=cL hL;clear hL;unfold AG at i;refine aB 1 [(14,vB (decide (b.2<(p0.2.1.length:Int))))] (aE ?_);refine aG i ?_ ?_
 .intro A i;refine aM (aD (aE (bA (aC (dQ 15 l i ?_)))));rintro x1 i F z D rfl v;refine dV 16 9 15 z (vT x1) g v (aF 1 [(5,vT x1)] (aX (aA 2 [(17,vT b.1),(18,vT x1)] (cM 19 i fun K i=>(cM 20 i fun M i=>(cM 21 i fun y i=>(aA 1 [(3,vT y)] (aS rfl (bI (aD (aX (aA 2 [(13,vI (wr (b.2+1)))] (aS rfl ?_)))))))))))));have hL:=p _ (sI i);exact xE (cE ⟨(y,wr (b.2+1)),c,hL,rfl,q,g,l⟩)
 intro A i;refine cD (bD ?_);have ho:=o _ (sI i);refine bD ?_;exact xE (f _ _ ⟨b.1,c,ho,rfl,q,g⟩)
def EO(N:Nat)(R9:(Int)->Tf)(p0:Int):Tf:=
 if(decide (p0<10))=true then((lN (⟨#[48,49,50,51,52,53,54,55,56,57]⟩:BA) p0 (IntKind.wrap .u64 (p0+1))).bind fun a=>some a) else((R9 (IntKind.wrap .u64 (Int.tdiv p0 10))).bind fun y1=>(R9 (Int.tmod p0 10)).bind fun a=>(bH y1 a).bind fun a=>some a)
def EJ(N:Nat):Nat->((Int)->Tf)
 |0=>(fun _=>none)
 |D+1=>EO N (EJ N D)
def JD(N:Nat)(p0:Int):Tf:=(EJ N N) p0
abbrev qBm(F:(Int)->Tf):Prop:=∀{m:Mem} {O:List Piece} {w:World} {p0:Int} {r:BA} (g:St m (O) w) (i:F p0=some r),Calls prog 137 #[.int .u64 p0] w fun e w'=>∃m',e= .returned (vT r)/\m.le m'/\St m' (O) w'
theorem qBe{R9:(Int)->Tf}(a:qBm R9){p0:Int}{r:BA}(g:St m (O) w)(i:EO N R9 p0=some r):Calls prog 137 #[.int .u64 p0] w fun e w'=>∃m',e= .returned (vT r)/\m.le m'/\St m' (O) w':=by
 unfold EO at i;have q:=m.le_refl;refine bF func137 rfl ntmps137 ?_;refine aB 1 [] (aE ?_);refine aB 2 [(4,vB (decide (p0<10)))] (aG i ?_ ?_)
 .intro A i;refine aT 3 [(5,.int .u64 p0),(7,.int .u64 (IntKind.wrap .u64 (p0+1)))] ?_;have⟨b,c,i⟩:=aW i;refine bB rfl (nY (d:=8) (t:=9) (x:=(.const (vT bf))) (lo:=(some (.tmp 5))) (hi:=(some (.tmp 7))) kr rfl (ev (vT bf)) kr (.inr ⟨_,_,rfl,(ev (.int .u64 p0))⟩) (.inr ⟨_,_,rfl,(ev (.int .u64 (IntKind.wrap .u64 (p0+1))))⟩) c (aF 1 [(2,vT b)] (aJ (aL ?_))));obtain rfl:=sI i;exact aO [2] [vT b] ⟨m,rfl,q,g⟩
 intro A i;refine aM (aD (aT 2 [(10,.int .u64 (IntKind.wrap .u64 (Int.tdiv p0 10)))] (aK 11 i (a g) ?_)));rintro y1 i _ l ⟨k,rfl,c,g⟩;refine aA 2 [(13,.int .u64 (Int.tmod p0 10))] (aK 14 i (a g) ?_);rintro o i _ n ⟨h,rfl,f,g⟩;refine cM 15 i fun b i=> ?_;refine aF 1 [(2,vT b)] (aJ ?_);obtain rfl:=sI i;exact aO [2] [vT b] ⟨h,rfl,(q.t c).t f,g⟩
theorem QX(N:Nat):∀D:Nat,(∀{m:Mem} {O:List Piece} {w:World} {p0:Int} {r:BA} (g:St m (O) w) (i:(EJ N D) p0=some r),Calls prog 137 #[.int .u64 p0] w fun e w'=>∃m',e= .returned (vT r)/\m.le m'/\St m' (O) w')
 |0=>fun _ i=>(by cases i)
 |D+1=>fun g i=>qBe (QX N D) g i
theorem RE{p0:Int}{r:BA}(g:St m (O) w)(i:JD N p0=some r):Calls prog 137 #[.int .u64 p0] w fun e w'=>∃m',e= .returned (vT r)/\m.le m'/\St m' (O) w':=
 (QX N N) g i
def xN(N:Nat)(p0:Int):Tf:=
 if(decide (p0<0))=true then((JD N (IntKind.wrap .u64 ((IntKind.wrap .u64 (IntKind.wrap .i64 (0-(IntKind.wrap .i64 (p0+1)))))+1))).bind fun y1=>(bH (⟨#[45]⟩:BA) y1).bind fun a=>some a) else((JD N (IntKind.wrap .u64 p0)).bind fun a=>some a)
theorem RF{p0:Int}{r:BA}(g:St m (O) w)(i:xN N p0=some r):Calls prog 103 #[vI p0] w fun e w'=>∃m',e= .returned (vT r)/\m.le m'/\St m' (O) w':=by
 unfold xN at i;have q:=m.le_refl;refine bF func103 rfl ntmps103 ?_;refine aB 1 [] (aE ?_);refine aB 2 [(4,vB (decide (p0<0)))] (aG i ?_ ?_)
 .intro A i;refine aT 5 [(9,.int .u64 (IntKind.wrap .u64 ((IntKind.wrap .u64 (wr (0-(wr (p0+1)))))+1)))] ?_;refine aK 10 i (RE g) ?_;rintro y1 i _ d ⟨c,rfl,b,g⟩;refine cM 11 i fun a i=> ?_;refine aF 1 [(2,vT a)] (aJ (aL ?_));obtain rfl:=sI i;exact aO [2] [vT a] ⟨c,rfl,q.t b,g⟩
 intro A i;refine aM (aD (aT 2 [(13,.int .u64 (IntKind.wrap .u64 p0))] (aK 14 i (RE g) ?_)));rintro a i _ d ⟨c,rfl,b,g⟩;refine aF 1 [(2,vT a)] (aJ ?_);obtain rfl:=sI i;exact aO [2] [vT a] ⟨c,rfl,q.t b,g⟩
def tK(N:Nat)(p0:Tr):T8:=
 if(p0.1==5)=true then(some 0) else(if(p0.1 !=4)=true then(some 4) else((if(p0.2.2.1==1)=true then(some (p0.2.2.1==1)) else(some (p0.2.2.1==2)):Te).bind fun a=>if a=true then(some 2) else((if(p0.2.2.1==6)=true then(some (p0.2.2.1==6)) else(some (p0.2.2.1==7)):Te).bind fun o2=>if o2=true then(some 1) else(some 3))))
theorem RJ{p0:Tr}{r:Int}(g:St m (O) w)(n:RepS (aV .i64) m a1 c1 p0.2.2.2.2)(i:tK N p0=some r):Calls prog 104 #[.agg (V8 p0 a1 c1)] w fun e w'=>∃m',e= .returned (vI r)/\m.le m'/\St m' (O) w':=by
 unfold tK at i;have q:=m.le_refl;refine bF func104 rfl ntmps104 ?_;refine aC (iE 1 61 (.agg (V8 p0 a1 c1)) g fun h d o l g b=> ?_);have q:=q.t l;refine aF 1 [] (aE (aT 1 [(3,vP h 0)] (bJ 4 (vI p0.1) g b (aF 1 [(5,vB (p0.1==5))] (aG i ?_ ?_)))))
 .intro A i;refine aB 1 [(2,vI 0)] (aJ ?_);refine aL ?_;cases i;exact aO [2] [vI 0] ⟨d,rfl,q,g⟩
 intro A i;refine aM (aD (aE (aT 1 [(6,vP h 0)] (bJ 7 (vI p0.1) g b (aF 1 [(8,vB (p0.1 !=4))] (aG i ?_ ?_))))))
 .intro A i;refine aB 1 [(2,vI 4)] (aJ ?_);refine aL ?_;cases i;exact aO [2] [vI 4] ⟨d,rfl,q,g⟩
 intro A i;refine aM (aD (aE (aT 1 [(9,vP h 2)] (bJ 10 (vI p0.2.2.1) g (b.drop 2) (aQ (bA (aE (aB 2 [(11,vB (p0.2.2.1==1))] (cC .normal i (fun k L' w'=>∃a,L'=[(10,vI p0.2.2.1),(11,vB k)]/\m.le a/\St a (O) w') ?_ ?_)))))))))
 .rintro k i _ p ⟨a,rfl,q,g⟩;refine aD (aG i ?_ ?_)
  .intro A i;refine aB 1 [(2,vI 2)] (aJ ?_);refine aZ (aL ?_);cases i;exact aO [2] [vI 2] ⟨a,rfl,q,g⟩
  intro A i;refine aE (aB 2 [(14,vB (p0.2.2.1==6))] (cC .normal i (fun o2 L' w'=>∃c,L'=[(14,vB o2)]/\m.le c/\St c (O) w') ?_ ?_))
  .rintro o2 i _ f ⟨c,rfl,q,g⟩;refine aD (aG i ?_ ?_)
   .intro A i;refine aB 1 [(2,vI 1)] (aJ ?_);refine aZ (aL ?_);cases i;exact aO [2] [vI 1] ⟨c,rfl,q,g⟩
   intro A i;refine aM (bI (aD (aB 1 [(2,vI 3)] (aJ ?_))));cases i;exact aO [2] [vI 3] ⟨c,rfl,q,g⟩
  intro o2 i f;refine aG i ?_ ?_
  .intro A i;refine aM ?_;cases i;exact xE (f _ _ ⟨a,rfl,q,g⟩)
  intro A i;refine aX (aA 2 [(14,vB (p0.2.2.1==7))] (aS rfl ?_));cases i;exact xE (f _ _ ⟨a,rfl,q,g⟩)
 intro k i c;refine aG i ?_ ?_
 .intro A i;refine aM ?_;cases i;exact xE (c _ _ ⟨d,rfl,q,g⟩)
 intro A i;refine aX (aA 2 [(11,vB (p0.2.2.1==2))] (aS rfl ?_));cases i;exact xE (c _ _ ⟨d,rfl,q,g⟩)
end
section
open Go Go.Dc Go.Proofs.Tryz
set_option maxHeartbeats 4000000
set_option maxRecDepth 100000
variable {N c1 c2 bp0 c3:Nat} {m:Mem} {O:List Piece} {w:World} {a1 a2 a3:Option Addr}
def AD(N:Nat)(Ra:Ts->(Int)->T6->(Int)->Tf)(p0:Ts)(p2:T6)(x1:Tr)(a:Tj):Option Tk:=
 if(decide (a.2<(List.length x1.2.2.2.2:Int)))=true then((idx x1.2.2.2.2 a.2).bind fun c=>(if(decide (a.2>0))=true then((bH a.1 (⟨#[44,32]⟩:BA)).bind fun b=>some b) else(some a.1):Tf).bind fun b=>(Ra p0 c p2 0).bind fun c=>(bH b c).bind fun b=>some (.inl (b,IntKind.wrap .i64 (a.2+1)))) else(some (.inr a.1))
def qA(N:Nat)(Ra:Ts->(Int)->T6->(Int)->Tf)(p0:Ts)(p1:Int)(p2:T6)(p3:Int):Tf:=
 (idx p0 p1).bind fun x1=>(if(x1.1==1)=true then((xN N x1.2.1).bind fun y1=>some y1) else(if(x1.1==2)=true then((idx p2 x1.2.1).bind fun a=>some a) else(if(x1.1==3)=true then((bH x1.2.2.2.1 (⟨#[40]⟩:BA)).bind fun a=>(aI (AD N Ra p0 p2 x1) N (a,0)).bind fun o2=>(bH o2 (⟨#[41]⟩:BA)).bind fun a=>some a) else(if(x1.1==4)=true then((tK N x1).bind fun a=>(if(a==1)=true then(some 2) else(some a):T8).bind fun o4=>(idx x1.2.2.2.2 0).bind fun b=>(idx x1.2.2.2.2 1).bind fun x5=>(Ra p0 b p2 o4).bind fun b=>(bH b (⟨#[32]⟩:BA)).bind fun b=>(idx ([(⟨#[]⟩:BA),(⟨#[43]⟩:BA),(⟨#[45]⟩:BA),(⟨#[42]⟩:BA),(⟨#[47]⟩:BA),(⟨#[37]⟩:BA),(⟨#[60]⟩:BA),(⟨#[61,61]⟩:BA)]) x1.2.2.1).bind fun c=>(bH b c).bind fun b=>(bH b (⟨#[32]⟩:BA)).bind fun b=>(Ra p0 x5 p2 (IntKind.wrap .i64 (a+1))).bind fun y5=>(bH b y5).bind fun a=>some a) else(if(x1.1==5)=true then((idx x1.2.2.2.2 0).bind fun a=>(idx x1.2.2.2.2 1).bind fun b=>(idx x1.2.2.2.2 2).bind fun c=>(Ra p0 a p2 0).bind fun a=>(bH (⟨#[105,102,32]⟩:BA) a).bind fun a=>(bH a (⟨#[32,116,104,101,110,32]⟩:BA)).bind fun a=>(Ra p0 b p2 0).bind fun b=>(bH a b).bind fun a=>(bH a (⟨#[32,101,108,115,101,32]⟩:BA)).bind fun a=>(Ra p0 c p2 0).bind fun b=>(bH a b).bind fun a=>some a) else(if(x1.1==6)=true then((bH (⟨#[114,101,97,100,40,34]⟩:BA) x1.2.2.2.1).bind fun a=>(bH a (⟨#[34,44,32]⟩:BA)).bind fun a=>(idx x1.2.2.2.2 0).bind fun b=>(Ra p0 b p2 0).bind fun b=>(bH a b).bind fun a=>(bH a (⟨#[41]⟩:BA)).bind fun a=>some a) else(if(x1.1==7)=true then((bH (⟨#[115,105,122,101,40,34]⟩:BA) x1.2.2.2.1).bind fun a=>(bH a (⟨#[34,41]⟩:BA)).bind fun a=>some a) else(if(x1.1==8)=true then((bH (⟨#[104,97,115,40,34]⟩:BA) x1.2.2.2.1).bind fun a=>(bH a (⟨#[34,41]⟩:BA)).bind fun a=>some a) else(if(x1.1==9)=true then((bH (⟨#[101,110,118,40,34]⟩:BA) x1.2.2.2.1).bind fun a=>(bH a (⟨#[34,41]⟩:BA)).bind fun a=>some a) else(if(x1.1==10)=true then((xN N x1.2.1).bind fun a=>(bH (⟨#[102,108,105,112,40]⟩:BA) a).bind fun a=>(bH a (⟨#[41]⟩:BA)).bind fun a=>some a) else(some (⟨#[]⟩:BA))))))))))):Tf).bind fun a=>(tK N x1).bind fun b=>if(decide (b<p3))=true then((bH (⟨#[40]⟩:BA) a).bind fun b=>(bH b (⟨#[41]⟩:BA)).bind fun b=>some b) else(some a)
def xI(N:Nat):Nat->(Ts->(Int)->T6->(Int)->Tf)
 |0=>(fun _ _ _ _=>none)
 |D+1=>qA N (xI N D)
def JE(N:Nat)(p0:Ts)(p1:Int)(p2:T6)(p3:Int):Tf:=(xI N N) p0 p1 p2 p3
abbrev qBs(F:Ts->(Int)->T6->(Int)->Tf):Prop:=∀{m:Mem} {O:List Piece} {w:World} {p0:Ts} {p1:Int} {p2:T6} {p3:Int} {a:Option Addr} {c:Nat} {b:Option Addr} {d:Nat} {r:BA} (g:St m (O) w) (f:RepS C3 m a c p0) (f:RepS aH m b d p2) (i:F p0 p1 p2 p3=some r),Calls prog 63 #[vS a p0 c,vI p1,vS b p2 d,vI p3] w fun e w'=>∃m',e= .returned (vT r)/\m.le m'/\St m' (O) w'
theorem qBh{Ra:Ts->(Int)->T6->(Int)->Tf}(a:qBs Ra){p0:Ts}{p1:Int}{p2:T6}{p3:Int}{r:BA}(g:St m (O) w)(n:RepS C3 m a1 c1 p0)(o:RepS aH m a2 c2 p2)(i:qA N Ra p0 p1 p2 p3=some r):Calls prog 63 #[vS a1 p0 c1,vI p1,vS a2 p2 c2,vI p3] w fun e w'=>∃m',e= .returned (vT r)/\m.le m'/\St m' (O) w':=by
 unfold qA at i;have q:=m.le_refl;refine bF func63 rfl ntmps63 ?_;refine aB 1 [] (aC ?_);refine aA 2 [(16,vS a1 p0 c1),(17,vI p1)] (dQ 18 n i ?_);rintro x1 i b1 f1 c6 ⟨_,_,rfl,rfl,⟨_,_,rfl,rfl,⟨_,_,rfl,rfl,⟨_,_,rfl,rfl,⟨f,k,rfl,c⟩⟩⟩⟩⟩ a9;refine dV 19 61 18 f1 (.agg (V8 x1 f k)) g a9 (cZ 9 61 (.agg #[vI 0,vI 0,vI 0,vT eB,v7]) g fun u w1 g=>(cA (.agg (V8 x1 f k)) g fun w2 g=>(aQ (aC (aF 1 [(10,vT eB)] (aE (aC (bL 1 21 3 20 0 (vI x1.1) g.h (aQ (cC .normal i (fun R L' w'=>∃m1,L'=[(3,vI p3),(9,vP u 0),(10,vT R)]/\m.le m1/\St m1 (kB u (V8 x1 f k) 61::O) w'/\RepS (aV .i64) m1 f k x1.2.2.2.2) ?_ ?_))))))))))
 .rintro R i _ B ⟨m1,rfl,q,g,c⟩;refine aD (aE (aC (bE 162 (.agg (V8 x1 f k)) g.h (aK 163 i (RJ (p0:=x1) g c) ?_))));rintro s i _ z ⟨l,rfl,b,g⟩;refine aF 2 [(165,vB (decide (s<p3)))] (aG i ?_ ?_)
  .intro A i;refine aT 1 [(166,vT R)] ?_;refine cM 167 i fun v i=> ?_;refine cM 168 i fun p i=> ?_;refine aF 1 [(8,vT p)] (aJ (aL ?_));obtain rfl:=sI i;exact aO [8] [vT p] ⟨l,rfl,q.t b,g.t⟩
  intro A i;refine aM (aD (aB 2 [(8,vT R)] (aJ ?_)));obtain rfl:=sI i;exact aO [8] [vT R] ⟨l,rfl,q.t b,g.t⟩
 intro R i s;refine bA (aB 2 [(22,vB (x1.1==1))] (aG i ?_ ?_))
 .intro A i;refine aX (bL 1 25 3 24 1 (vI x1.2.1) g.h (aK 26 i (RF g) ?_));rintro y1 i _ p ⟨l,rfl,b,g⟩;refine aA 1 [(10,vT y1)] (aS rfl (bI ?_));cases i;exact xE (s _ _ ⟨l,rfl,q.t b,g,c.mono b⟩)
 intro A i;refine aB 2 [(27,vB (x1.1==2))] (aG i ?_ ?_)
 .intro A i;refine aX (aA 2 [(29,vS a2 p2 c2),(30,vP u 1)] (bE 31 (vI x1.2.1) g.h (dQ 32 o i ?_)));rintro l i z p v rfl b;refine dV 33 9 32 p (vT l) g b (aA 1 [(10,vT l)] (aS rfl (bI ?_)));cases i;exact xE (s _ _ ⟨m,rfl,q,g,c⟩)
 intro A i;refine aB 2 [(34,vB (x1.1==3))] (aG i ?_ ?_)
 .intro A i;refine aC (bL 1 37 9 36 3 (vT x1.2.2.2.1) g.h (cM 38 i fun S i=>(aF 1 [(10,vT S)] (aE (aC (bL 1 40 22 39 4 (vS f x1.2.2.2.2 k) g.h (aF 2 [(41,vI (x1.2.2.2.2.length:Int)),(42,vI 0)] (bA (cC (.exit 1) i (fun p L' w'=>∃(o2:BA),∃z,o2=p/\L'=[(3,vI p3),(9,vP u 0),(10,vT o2)]/\m.le z/\St z (kB u (V8 x1 f k) 61::O) w'/\RepS (aV .i64) z f k x1.2.2.2.2) ?_ ?_)))))))))
  .rintro p i _ l ⟨o2,z,rfl,rfl,q,g,c⟩;refine cK (aD (aX (aA 1 [(58,vT o2)] (cM 59 i fun b i=>(aA 1 [(10,vT b)] (aS rfl (bI ?_)))))));cases i;exact xE (s _ _ ⟨z,rfl,q,g,c⟩)
  intro p i B;refine cH _ kr (cG (fun E L' w'=>∃(b:Tj),∃l,aI (AD N Ra p0 p2 x1) E b=some p/\L'=[(0,vS a1 p0 c1),(2,vS a2 p2 c2),(3,vI p3),(9,vP u 0),(10,vT b.1),(40,vS f x1.2.2.2.2 k),(41,vI (x1.2.2.2.2.length:Int)),(42,vI b.2)]/\m.le l/\St l (kB u (V8 x1 f k) 61::O) w'/\RepS C3 l a1 c1 p0/\RepS aH l a2 c2 p2/\RepS (aV .i64) l f k x1.2.2.2.2) N ⟨(S,0),m,i,rfl,q,g,n,o,c⟩ ?_);rintro E _ w6 ⟨b,l,hL,rfl,q,g,n,o,c⟩;rcases E with _|E
  .exact cJ hL
  obtain⟨a4,i,K,H⟩:=cL hL;clear hL;unfold AD at i;refine aB 1 [(43,vB (decide (b.2<(x1.2.2.2.2.length:Int))))] (aE ?_);refine aG i ?_ ?_
  .intro A i;refine aM (aD (aE (bA (aT 1 [(44,vI b.2)] (dQ 45 c i ?_)))));rintro G i b4 V Z rfl M;refine dV 46 3 45 V (vI G) g M (aF 2 [(11,vI b.2),(12,vI G)] (aE (aB 2 [(48,vB (decide (b.2>0)))] (cC .normal i (fun F L' w'=>∃v,L'=[(0,vS a1 p0 c1),(2,vS a2 p2 c2),(3,vI p3),(9,vP u 0),(10,vT F),(12,vI G),(40,vS f x1.2.2.2.2 k),(41,vI (x1.2.2.2.2.length:Int)),(42,vI b.2)]/\m.le v/\St v (kB u (V8 x1 f k) 61::O) w'/\RepS C3 v a1 c1 p0/\RepS aH v a2 c2 p2/\RepS (aV .i64) v f k x1.2.2.2.2) ?_ ?_))))
   .rintro F i _ w7 ⟨v,rfl,q,g,n,o,c⟩;refine aD (aX (aA 4 [(51,vT F),(52,vS a1 p0 c1),(53,vI G),(54,vS a2 p2 c2)] (aK 55 i (a g n o) ?_)));rintro y2 i _ w8 ⟨Y,rfl,D,g⟩;refine cM 56 i fun U i=> ?_;refine aA 1 [(10,vT U)] (aS rfl (bI (aD (aX (aA 2 [(42,vI (wr (b.2+1)))] (aS rfl ?_))))));have hL:=K _ (sI i);exact xE (cE ⟨(U,wr (b.2+1)),Y,hL,rfl,q.t D,g,n.mono D,o.mono D,c.mono D⟩)
   intro F i D;refine aG i ?_ ?_
   .intro A i;refine aX (aA 1 [(49,vT b.1)] (cM 50 i fun U i=>(aA 1 [(10,vT U)] (aS rfl ?_))));cases i;exact xE (D _ _ ⟨l,rfl,q,g,n,o,c⟩)
   intro A i;refine aM ?_;cases i;exact xE (D _ _ ⟨l,rfl,q,g,n,o,c⟩)
  intro A i;refine cD (bD ?_);have ho:=H _ (sI i);refine bD ?_;exact xE (B _ _ ⟨b.1,l,ho,rfl,q,g,c⟩)
 intro A i;refine aB 2 [(60,vB (x1.1==4))] (aG i ?_ ?_)
 .intro A i;refine aC (bE 62 (.agg (V8 x1 f k)) g.h (aK 63 i (RJ (p0:=x1) g c) ?_));rintro S i _ w9 ⟨m7,rfl,G,g⟩;refine aF 1 [(13,vI S)] (aC (aF 5 [(14,vI S),(15,vI (wr (S+1)))] (aE (aB 2 [(68,vB (S==1))] (cC .normal i (fun o4 L' w'=>∃E,L'=[(0,vS a1 p0 c1),(2,vS a2 p2 c2),(3,vI p3),(9,vP u 0),(14,vI o4),(15,vI (wr (S+1)))]/\m.le E/\St E (kB u (V8 x1 f k) 61::O) w'/\RepS C3 E a1 c1 p0/\RepS aH E a2 c2 p2/\RepS (aV .i64) E f k x1.2.2.2.2) ?_ ?_)))))
  .rintro o4 i _ c9 ⟨E,rfl,q,g,n,o,c⟩;refine aD (eC [(26,fun w'=>Inv E w'/\Piece.holds E w' (kB u (V8 x1 f k) 61)/\True)] kr g fun d0 _ g=> ?_);have b:=E.le_refl;refine⟨⟨.inr ⟨Inv.anti g.inv b,Piece.holds_anti g.h b,trivial⟩,trivial⟩,?_⟩;refine aR 0 69 (vS a1 p0 c1) (.head _) (aR 1 70 (vP u 4) (.head _) (dM 22 70 2 71 4 (vS f x1.2.2.2.2 k) (.head _) (fun _ h=>h.2.1) ?_));have⟨x4,a6,i⟩:=aW i;refine iY (t:=22) (e:=3) (x:=(.tmp 71)) (y:=(.const (vI 0))) 3 72 (aV .i64) kr rfl kr (.head _) (cP (bK eT)) (ev (vS f x1.2.2.2.2 k)) (ev (vI 0)) kr c a6 ?_;rintro b5 f4 c7 rfl b0;refine eP 3 72 4 73 f4 (vI x4) (.head _) (fun _ h=>h.1) b0 (aR 5 74 (vS a2 p2 c2) (.head _) (aR 6 75 (vI o4) (.head _) (aR 10 79 (vP u 2) (.head _) (dM 3 79 11 80 2 (vI x1.2.2.1) (.head _) (fun _ h=>h.2.1) (aR 16 85 (vS a1 p0 c1) (.head _) (aR 17 86 (vP u 4) (.head _) (dM 22 86 18 87 4 (vS f x1.2.2.2.2 k) (.head _) (fun _ h=>h.2.1) ?_)))))));have⟨x5,a7,i⟩:=aW i;refine iY (t:=22) (e:=3) (x:=(.tmp 87)) (y:=(.const (vI 1))) 19 88 (aV .i64) kr rfl kr (.head _) (cP (bK eT)) (ev (vS f x1.2.2.2.2 k)) (ev (vI 1)) kr c a7 ?_;rintro b6 f5 c8 rfl c4;refine eP 3 88 20 89 f5 (vI x5) (.head _) (fun _ h=>h.1) c4 (aR 21 90 (vS a2 p2 c2) (.head _) (aR 22 91 (vI (wr (S+1))) (.head _) (CI [7,9] kr (by simp) (CG ?_ ?_))))
   .refine eS 76 i (fun _ h=>a g n o h) ?_;rintro y4 i _ c5 ⟨m9,rfl,B,g⟩;refine⟨_,rfl,?_⟩;have q:=q.t B;have n:=n.mono B;have o:=o.mono B;have c:=c.mono B;have b:=Mem.le_trans b B;refine⟨⟨.inr ⟨Inv.anti g.inv b,Piece.holds_anti g.h b,trivial⟩,trivial⟩,?_⟩;refine cV 9 9 76 ((.const (vT sA))) 8 77 (.head _) i fun s6 i=> ?_;refine CI [9,23] kr (by simp) (CG ?_ ?_)
    .refine nN (d:=78) (t:=26) (e:=9) (len:=8) (parts:= #[(0,(.const (vT eB))),(1,(.const (vT bm))),(2,(.const (vT bn))),(3,(.const (vT bo))),(4,(.const (vT bp))),(5,(.const (vT bq))),(6,(.const (vT br))),(7,(.const (vT bs)))]) aH (xs:=[eB,bm,bn,bo,bp,bq,br,bs]) [vT eB,vT bm,vT bn,vT bo,vT bp,vT bq,vT br,vT bs] kr rfl (fun _=>nO kr _) rfl rfl g ⟨[vT eB],_,rfl,rfl,⟨[vT bm],_,rfl,rfl,⟨[vT bn],_,rfl,rfl,⟨[vT bo],_,rfl,rfl,⟨[vT bp],_,rfl,rfl,⟨[vT bq],_,rfl,rfl,⟨[vT br],_,rfl,rfl,⟨[vT bs],_,rfl,rfl,rfl⟩⟩⟩⟩⟩⟩⟩⟩ fun U V a4 l g Y=> ?_;have b:=Mem.le_trans b l;refine⟨⟨.inr ⟨Inv.anti g.inv b,Piece.holds_anti g.t.h b,trivial⟩,trivial⟩,?_⟩;have⟨M,a8,i⟩:=aW i;refine iY (t:=26) (e:=9) (x:=(.tmp 78)) (y:=(.tmp 80)) 12 81 aH kr rfl kr (.head _) (cP (bK eT)) (ev (.slice (aP U) (List.length ([eB,bm,bn,bo,bp,bq,br,bs])) 8)) (ev (vI x1.2.2.1)) kr Y a8 ?_;rintro F H a5 rfl z;refine CI [13,23] kr (by simp) (CG ?_ ?_)
     .refine vM (d:=82) (t:=9) (x:=(.tmp 81)) (vT M) kr rfl (ev (vP F H)) g z kr ?_;refine⟨⟨.inr ⟨Inv.anti g.inv b,Piece.holds_anti g.t.h b,trivial⟩,trivial⟩,?_⟩;refine cV 9 9 77 82 14 83 (.head _) i fun Z i=> ?_;refine cV 9 9 83 ((.const (vT sA))) 15 84 (.head _) i fun s8 i=> ?_;refine cB 23 kr (eS 92 i (fun _ h=>a g (n.mono l) (o.mono l) h) ?_);rintro y5 i _ K ⟨v,rfl,p,g⟩;refine⟨_,rfl,?_⟩;have b:=Mem.le_trans b p;refine⟨⟨.inr ⟨Inv.anti g.inv b,Piece.holds_anti g.t.h b,trivial⟩,trivial⟩,?_⟩;refine cV 9 9 84 92 24 93 (.head _) i fun D i=> ?_;refine aR 25 10 (vT D) (.head _) (dU kr ?_);have g:=g.t;refine bI ?_;cases i;exact xE (s _ _ ⟨v,rfl,(q.t l).t p,g,(c.mono l).mono p⟩)
     replace i:=QA i;refine eS 92 i (fun _ h=>a g (n.mono l) (o.mono l) h) ?_;rintro y5 i _ K ⟨v,rfl,p,g⟩;refine⟨_,rfl,?_⟩;have b:=Mem.le_trans b p;refine⟨⟨.inr ⟨Inv.anti g.inv b,Piece.holds_anti g.t.h b,trivial⟩,trivial⟩,?_⟩;refine cB 13 kr (vM (d:=82) (t:=9) (x:=(.tmp 81)) (vT M) kr rfl (ev (vP F H)) g (z.mono p) kr (⟨⟨.inr ⟨Inv.anti g.inv b,Piece.holds_anti g.t.h b,trivial⟩,trivial⟩,?_⟩));refine cV 9 9 77 82 14 83 (.head _) i fun Z i=> ?_;refine cV 9 9 83 ((.const (vT sA))) 15 84 (.head _) i fun s8 i=> ?_;refine cV 9 9 84 92 24 93 (.head _) i fun D i=> ?_;refine aR 25 10 (vT D) (.head _) (dU kr ?_);have g:=g.t;refine bI ?_;cases i;exact xE (s _ _ ⟨v,rfl,(q.t l).t p,g,(c.mono l).mono p⟩)
    replace i:=qMk i;refine eS 92 i (fun _ h=>a g n o h) ?_;rintro y5 i _ a4 ⟨V,rfl,l,g⟩;refine⟨_,rfl,?_⟩;have b:=Mem.le_trans b l;refine⟨⟨.inr ⟨Inv.anti g.inv b,Piece.holds_anti g.h b,trivial⟩,trivial⟩,?_⟩;refine cB 9 kr (nN (d:=78) (t:=26) (e:=9) (len:=8) (parts:= #[(0,(.const (vT eB))),(1,(.const (vT bm))),(2,(.const (vT bn))),(3,(.const (vT bo))),(4,(.const (vT bp))),(5,(.const (vT bq))),(6,(.const (vT br))),(7,(.const (vT bs)))]) aH (xs:=[eB,bm,bn,bo,bp,bq,br,bs]) [vT eB,vT bm,vT bn,vT bo,vT bp,vT bq,vT br,vT bs] kr rfl (fun _=>nO kr _) rfl rfl g ⟨[vT eB],_,rfl,rfl,⟨[vT bm],_,rfl,rfl,⟨[vT bn],_,rfl,rfl,⟨[vT bo],_,rfl,rfl,⟨[vT bp],_,rfl,rfl,⟨[vT bq],_,rfl,rfl,⟨[vT br],_,rfl,rfl,⟨[vT bs],_,rfl,rfl,rfl⟩⟩⟩⟩⟩⟩⟩⟩ fun U v K p g Y=> ?_);have b:=Mem.le_trans b p;refine⟨⟨.inr ⟨Inv.anti g.inv b,Piece.holds_anti g.t.h b,trivial⟩,trivial⟩,?_⟩;have⟨M,a8,i⟩:=aW i;refine iY (t:=26) (e:=9) (x:=(.tmp 78)) (y:=(.tmp 80)) 12 81 aH kr rfl kr (.head _) (cP (bK eT)) (ev (.slice (aP U) (List.length ([eB,bm,bn,bo,bp,bq,br,bs])) 8)) (ev (vI x1.2.2.1)) kr Y a8 ?_;rintro F H a5 rfl z;refine cB 13 kr (vM (d:=82) (t:=9) (x:=(.tmp 81)) (vT M) kr rfl (ev (vP F H)) g z kr (⟨⟨.inr ⟨Inv.anti g.inv b,Piece.holds_anti g.t.h b,trivial⟩,trivial⟩,?_⟩))
    refine cV 9 9 77 82 14 83 (.head _) i fun Z i=> ?_;refine cV 9 9 83 ((.const (vT sA))) 15 84 (.head _) i fun s8 i=> ?_;refine cV 9 9 84 92 24 93 (.head _) i fun D i=> ?_;refine aR 25 10 (vT D) (.head _) (dU kr ?_);have g:=g.t;refine bI ?_;cases i;exact xE (s _ _ ⟨v,rfl,(q.t l).t p,g,(c.mono l).mono p⟩)
   replace i:=QA i;refine nN (d:=78) (t:=26) (e:=9) (len:=8) (parts:= #[(0,(.const (vT eB))),(1,(.const (vT bm))),(2,(.const (vT bn))),(3,(.const (vT bo))),(4,(.const (vT bp))),(5,(.const (vT bq))),(6,(.const (vT br))),(7,(.const (vT bs)))]) aH (xs:=[eB,bm,bn,bo,bp,bq,br,bs]) [vT eB,vT bm,vT bn,vT bo,vT bp,vT bq,vT br,vT bs] kr rfl (fun _=>nO kr _) rfl rfl g ⟨[vT eB],_,rfl,rfl,⟨[vT bm],_,rfl,rfl,⟨[vT bn],_,rfl,rfl,⟨[vT bo],_,rfl,rfl,⟨[vT bp],_,rfl,rfl,⟨[vT bq],_,rfl,rfl,⟨[vT br],_,rfl,rfl,⟨[vT bs],_,rfl,rfl,rfl⟩⟩⟩⟩⟩⟩⟩⟩ fun U m9 c5 B g Y=> ?_;have q:=q.t B;have n:=n.mono B;have o:=o.mono B;have c:=c.mono B;have b:=Mem.le_trans b B;refine⟨⟨.inr ⟨Inv.anti g.inv b,Piece.holds_anti g.t.h b,trivial⟩,trivial⟩,?_⟩;have⟨M,a8,i⟩:=aW i;refine iY (t:=26) (e:=9) (x:=(.tmp 78)) (y:=(.tmp 80)) 12 81 aH kr rfl kr (.head _) (cP (bK eT)) (ev (.slice (aP U) (List.length ([eB,bm,bn,bo,bp,bq,br,bs])) 8)) (ev (vI x1.2.2.1)) kr Y a8 ?_;rintro F H a5 rfl z;refine CI [7,13] kr (by simp) (CG ?_ ?_)
   .refine eS 76 i (fun _ h=>a g n o h) ?_;rintro y4 i _ a4 ⟨V,rfl,l,g⟩;refine⟨_,rfl,?_⟩;have b:=Mem.le_trans b l;refine⟨⟨.inr ⟨Inv.anti g.inv b,Piece.holds_anti g.t.h b,trivial⟩,trivial⟩,?_⟩;refine cV 9 9 76 ((.const (vT sA))) 8 77 (.head _) i fun s6 i=> ?_;refine CI [13,23] kr (by simp) (CG ?_ ?_)
    .refine vM (d:=82) (t:=9) (x:=(.tmp 81)) (vT M) kr rfl (ev (vP F H)) g (z.mono l) kr ?_;refine⟨⟨.inr ⟨Inv.anti g.inv b,Piece.holds_anti g.t.h b,trivial⟩,trivial⟩,?_⟩;refine cV 9 9 77 82 14 83 (.head _) i fun Z i=> ?_;refine cV 9 9 83 ((.const (vT sA))) 15 84 (.head _) i fun s8 i=> ?_;refine cB 23 kr (eS 92 i (fun _ h=>a g (n.mono l) (o.mono l) h) ?_);rintro y5 i _ K ⟨v,rfl,p,g⟩;refine⟨_,rfl,?_⟩;have b:=Mem.le_trans b p;refine⟨⟨.inr ⟨Inv.anti g.inv b,Piece.holds_anti g.t.h b,trivial⟩,trivial⟩,?_⟩;refine cV 9 9 84 92 24 93 (.head _) i fun D i=> ?_;refine aR 25 10 (vT D) (.head _) (dU kr ?_);have g:=g.t;refine bI ?_;cases i;exact xE (s _ _ ⟨v,rfl,(q.t l).t p,g,(c.mono l).mono p⟩)
    replace i:=QA i;refine eS 92 i (fun _ h=>a g (n.mono l) (o.mono l) h) ?_;rintro y5 i _ K ⟨v,rfl,p,g⟩;refine⟨_,rfl,?_⟩;have b:=Mem.le_trans b p;refine⟨⟨.inr ⟨Inv.anti g.inv b,Piece.holds_anti g.t.h b,trivial⟩,trivial⟩,?_⟩;refine cB 13 kr (vM (d:=82) (t:=9) (x:=(.tmp 81)) (vT M) kr rfl (ev (vP F H)) g ((z.mono l).mono p) kr (⟨⟨.inr ⟨Inv.anti g.inv b,Piece.holds_anti g.t.h b,trivial⟩,trivial⟩,?_⟩));refine cV 9 9 77 82 14 83 (.head _) i fun Z i=> ?_;refine cV 9 9 83 ((.const (vT sA))) 15 84 (.head _) i fun s8 i=> ?_;refine cV 9 9 84 92 24 93 (.head _) i fun D i=> ?_;refine aR 25 10 (vT D) (.head _) (dU kr ?_);have g:=g.t;refine bI ?_;cases i;exact xE (s _ _ ⟨v,rfl,(q.t l).t p,g,(c.mono l).mono p⟩)
   refine vM (d:=82) (t:=9) (x:=(.tmp 81)) (vT M) kr rfl (ev (vP F H)) g z kr ?_;refine⟨⟨.inr ⟨Inv.anti g.inv b,Piece.holds_anti g.t.h b,trivial⟩,trivial⟩,?_⟩;refine cB 7 kr (eS 76 i (fun _ h=>a g n o h) ?_);rintro y4 i _ a4 ⟨V,rfl,l,g⟩;refine⟨_,rfl,?_⟩;have b:=Mem.le_trans b l;refine⟨⟨.inr ⟨Inv.anti g.inv b,Piece.holds_anti g.t.h b,trivial⟩,trivial⟩,?_⟩;refine cV 9 9 76 ((.const (vT sA))) 8 77 (.head _) i fun s6 i=> ?_;refine cV 9 9 77 82 14 83 (.head _) i fun Z i=> ?_;refine cV 9 9 83 ((.const (vT sA))) 15 84 (.head _) i fun s8 i=> ?_;refine cB 23 kr (eS 92 i (fun _ h=>a g (n.mono l) (o.mono l) h) ?_);rintro y5 i _ K ⟨v,rfl,p,g⟩;refine⟨_,rfl,?_⟩;have b:=Mem.le_trans b p;refine⟨⟨.inr ⟨Inv.anti g.inv b,Piece.holds_anti g.t.h b,trivial⟩,trivial⟩,?_⟩;refine cV 9 9 84 92 24 93 (.head _) i fun D i=> ?_;refine aR 25 10 (vT D) (.head _) (dU kr ?_);have g:=g.t;refine bI ?_;cases i;exact xE (s _ _ ⟨v,rfl,(q.t l).t p,g,(c.mono l).mono p⟩)
  intro o4 i b;refine aG i ?_ ?_
  .intro A i;refine aX (aA 1 [(14,vI 2)] (aS rfl ?_));cases i;exact xE (b _ _ ⟨m7,rfl,q.t G,g,n.mono G,o.mono G,c.mono G⟩)
  intro A i;refine aM ?_;cases i;exact xE (b _ _ ⟨m7,rfl,q.t G,g,n.mono G,o.mono G,c.mono G⟩)
 intro A i;refine aB 2 [(94,vB (x1.1==5))] (aG i ?_ ?_)
 .intro A i;refine eC [(27,fun w'=>Inv m w'/\Piece.holds m w' (kB u (V8 x1 f k) 61)/\True)] kr g fun d0 _ g=> ?_;have b:=m.le_refl;refine⟨⟨.inr ⟨Inv.anti g.inv b,Piece.holds_anti g.h b,trivial⟩,trivial⟩,?_⟩;refine aR 0 96 (vS a1 p0 c1) (.head _) (aR 1 97 (vP u 4) (.head _) (dM 22 97 2 98 4 (vS f x1.2.2.2.2 k) (.head _) (fun _ h=>h.2.1) ?_));have⟨V,z,i⟩:=aW i;refine iY (t:=22) (e:=3) (x:=(.tmp 98)) (y:=(.const (vI 0))) 3 99 (aV .i64) kr rfl kr (.head _) (cP (bK eT)) (ev (vS f x1.2.2.2.2 k)) (ev (vI 0)) kr c z ?_;rintro b9 M a6 rfl E;refine eP 3 99 4 100 M (vI V) (.head _) (fun _ h=>h.1) E (aR 5 101 (vS a2 p2 c2) (.head _) (aR 9 105 (vS a1 p0 c1) (.head _) (aR 10 106 (vP u 4) (.head _) (dM 22 106 11 107 4 (vS f x1.2.2.2.2 k) (.head _) (fun _ h=>h.2.1) ?_))));have⟨Y,B,i⟩:=aW i;refine iY (t:=22) (e:=3) (x:=(.tmp 107)) (y:=(.const (vI 1))) 12 108 (aV .i64) kr rfl kr (.head _) (cP (bK eT)) (ev (vS f x1.2.2.2.2 k)) (ev (vI 1)) kr c B ?_;rintro a4 S a7 rfl F;refine eP 3 108 13 109 S (vI Y) (.head _) (fun _ h=>h.1) F (aR 14 110 (vS a2 p2 c2) (.head _) (aR 18 114 (vS a1 p0 c1) (.head _) (aR 19 115 (vP u 4) (.head _) (dM 22 115 20 116 4 (vS f x1.2.2.2.2 k) (.head _) (fun _ h=>h.2.1) ?_))));have⟨Z,D,i⟩:=aW i
  refine iY (t:=22) (e:=3) (x:=(.tmp 116)) (y:=(.const (vI 2))) 21 117 (aV .i64) kr rfl kr (.head _) (cP (bK eT)) (ev (vS f x1.2.2.2.2 k)) (ev (vI 2)) kr c D ?_;rintro a5 U a8 rfl G;refine eP 3 117 22 118 U (vI Z) (.head _) (fun _ h=>h.1) G (aR 23 119 (vS a2 p2 c2) (.head _) (cB 6 kr (eS 102 i (fun _ h=>a g n o h) ?_)));rintro y6 i _ d1 ⟨b0,rfl,l,g⟩;refine⟨_,rfl,?_⟩;have b:=Mem.le_trans b l;refine⟨⟨.inr ⟨Inv.anti g.inv b,Piece.holds_anti g.h b,trivial⟩,trivial⟩,?_⟩;refine cV 9 9 ((.const (vT sW))) 102 7 103 (.head _) i fun c5 i=> ?_;refine cV 9 9 103 ((.const (vT sV))) 8 104 (.head _) i fun c7 i=> ?_;refine cB 15 kr (eS 111 i (fun _ h=>a g (n.mono l) (o.mono l) h) ?_);rintro y7 i _ d2 ⟨c4,rfl,p,g⟩;refine⟨_,rfl,?_⟩;have b:=Mem.le_trans b p;refine⟨⟨.inr ⟨Inv.anti g.inv b,Piece.holds_anti g.h b,trivial⟩,trivial⟩,?_⟩;refine cV 9 9 104 111 16 112 (.head _) i fun c8 i=> ?_;refine cV 9 9 112 ((.const (vT sY))) 17 113 (.head _) i fun c9 i=> ?_;refine cB 24 kr (eS 120 i (fun _ h=>a g ((n.mono l).mono p) ((o.mono l).mono p) h) ?_);rintro y8 i _ d3 ⟨H,rfl,v,g⟩;refine⟨_,rfl,?_⟩;have b:=Mem.le_trans b v;refine⟨⟨.inr ⟨Inv.anti g.inv b,Piece.holds_anti g.h b,trivial⟩,trivial⟩,?_⟩;refine cV 9 9 113 120 25 121 (.head _) i fun K i=> ?_;refine aR 26 10 (vT K) (.head _) (dU kr (bI ?_));cases i
  exact xE (s _ _ ⟨H,rfl,((q.t l).t p).t v,g,((c.mono l).mono p).mono v⟩)
 intro A i;refine aB 2 [(122,vB (x1.1==6))] (aG i ?_ ?_)
 .intro A i;refine eC [(14,fun w'=>Inv m w'/\Piece.holds m w' (kB u (V8 x1 f k) 61)/\True)] kr g fun S _ g=> ?_;have b:=m.le_refl;refine⟨⟨.inr ⟨Inv.anti g.inv b,Piece.holds_anti g.h b,trivial⟩,trivial⟩,?_⟩;refine aR 0 124 (vP u 3) (.head _) (dM 9 124 1 125 3 (vT x1.2.2.2.1) (.head _) (fun _ h=>h.2.1) (cV 9 9 ((.const (vT bj))) 125 2 126 (.head _) i fun H i=>(cV 9 9 126 ((.const (vT bk))) 3 127 (.head _) i fun K i=>(aR 4 128 (vS a1 p0 c1) (.head _) (aR 5 129 (vP u 4) (.head _) (dM 22 129 6 130 4 (vS f x1.2.2.2.2 k) (.head _) (fun _ h=>h.2.1) ?_))))));have⟨E,v,i⟩:=aW i;refine iY (t:=22) (e:=3) (x:=(.tmp 130)) (y:=(.const (vI 0))) 7 131 (aV .i64) kr rfl kr (.head _) (cP (bK eT)) (ev (vS f x1.2.2.2.2 k)) (ev (vI 0)) kr c v ?_;rintro G z F rfl p;refine eP 3 131 8 132 z (vI E) (.head _) (fun _ h=>h.1) p (aR 9 133 (vS a2 p2 c2) (.head _) (cB 10 kr (eS 134 i (fun _ h=>a g n o h) ?_)));rintro V i _ U ⟨B,rfl,l,g⟩;refine⟨_,rfl,?_⟩;have b:=Mem.le_trans b l;refine⟨⟨.inr ⟨Inv.anti g.inv b,Piece.holds_anti g.h b,trivial⟩,trivial⟩,?_⟩;refine cV 9 9 127 134 11 135 (.head _) i fun M i=> ?_;refine cV 9 9 135 ((.const (vT bl))) 12 136 (.head _) i fun D i=> ?_;refine aR 13 10 (vT D) (.head _) (dU kr (bI ?_));cases i;exact xE (s _ _ ⟨B,rfl,q.t l,g,c.mono l⟩)
 intro A i;refine aB 2 [(137,vB (x1.1==7))] (aG i ?_ ?_)
 .intro A i;refine aX (bL 1 140 9 139 3 (vT x1.2.2.2.1) g.h (cM 141 i fun l i=>(cM 142 i fun b i=>(aA 1 [(10,vT b)] (aS rfl (bI ?_))))));cases i;exact xE (s _ _ ⟨m,rfl,q,g,c⟩)
 intro A i;refine aB 2 [(143,vB (x1.1==8))] (aG i ?_ ?_)
 .intro A i;refine aX (bL 1 146 9 145 3 (vT x1.2.2.2.1) g.h (cM 147 i fun l i=>(cM 148 i fun b i=>(aA 1 [(10,vT b)] (aS rfl (bI ?_))))));cases i;exact xE (s _ _ ⟨m,rfl,q,g,c⟩)
 intro A i;refine aB 2 [(149,vB (x1.1==9))] (aG i ?_ ?_)
 .intro A i;refine aX (bL 1 152 9 151 3 (vT x1.2.2.2.1) g.h (cM 153 i fun l i=>(cM 154 i fun b i=>(aA 1 [(10,vT b)] (aS rfl (bI ?_))))));cases i;exact xE (s _ _ ⟨m,rfl,q,g,c⟩)
 intro A i;refine aB 2 [(155,vB (x1.1==10))] (aG i ?_ ?_)
 .intro A i;refine aX (bL 1 158 3 157 1 (vI x1.2.1) g.h (aK 159 i (RF g) ?_));rintro B i _ z ⟨l,rfl,b,g⟩;refine cM 160 i fun v i=> ?_;refine cM 161 i fun p i=> ?_;refine aA 1 [(10,vT p)] (aS rfl (bI ?_));cases i;exact xE (s _ _ ⟨l,rfl,q.t b,g,c.mono b⟩)
 intro A i;refine aM (bI ?_);cases i;exact xE (s _ _ ⟨m,rfl,q,g,c⟩)
theorem QY(N:Nat):∀D:Nat,(∀{m:Mem} {O:List Piece} {w:World} {p0:Ts} {p1:Int} {p2:T6} {p3:Int} {a:Option Addr} {c:Nat} {b:Option Addr} {d:Nat} {r:BA} (g:St m (O) w) (f:RepS C3 m a c p0) (h:RepS aH m b d p2) (i:(xI N D) p0 p1 p2 p3=some r),Calls prog 63 #[vS a p0 c,vI p1,vS b p2 d,vI p3] w fun e w'=>∃m',e= .returned (vT r)/\m.le m'/\St m' (O) w')
 |0=>fun _ _ _ i=>(by cases i)
 |D+1=>fun g f h i=>qBh (QY N D) g f h i
theorem qBv{p0:Ts}{p1:Int}{p2:T6}{p3:Int}{r:BA}(g:St m (O) w)(a:RepS C3 m a1 c1 p0)(b:RepS aH m a2 c2 p2)(i:JE N p0 p1 p2 p3=some r):Calls prog 63 #[vS a1 p0 c1,vI p1,vS a2 p2 c2,vI p3] w fun e w'=>∃m',e= .returned (vT r)/\m.le m'/\St m' (O) w':=
 (QY N N) g a b i
def vD(N:Nat)(p0:Tz)(a:Tj):Option Tk:=
 if(decide (a.2<(List.length p0.2.2.1:Int)))=true then((idx p0.2.2.1 a.2).bind fun x1=>(if(decide (a.2>0))=true then((bH a.1 (⟨#[44,32]⟩:BA)).bind fun b=>some b) else(some a.1):Tf).bind fun b=>(bH b x1).bind fun b=>some (.inl (b,IntKind.wrap .i64 (a.2+1)))) else(some (.inr a.1))
def AR(N:Nat)(p0:Tz):Tf:=
 (if(p0.1==1)=true then((bH (⟨#[102,117,110,99,32]⟩:BA) p0.2.1).bind fun a=>(bH a (⟨#[40]⟩:BA)).bind fun a=>(aI (vD N p0) N (a,0)).bind fun o2=>(bH o2 (⟨#[41]⟩:BA)).bind fun a=>some a) else(if(p0.1==2)=true then((bH (⟨#[116,101,115,116,32]⟩:BA) p0.2.1).bind fun a=>some a) else(if(p0.1==3)=true then((bH (⟨#[103,101,110,32,34]⟩:BA) p0.2.1).bind fun a=>(bH a (⟨#[34]⟩:BA)).bind fun a=>some a) else(some (⟨#[]⟩:BA)))):Tf).bind fun a=>(bH a (⟨#[32,61,32]⟩:BA)).bind fun a=>(JE N p0.2.2.2 (IntKind.wrap .i64 ((List.length p0.2.2.2:Int)-1)) p0.2.2.1 0).bind fun y1=>(bH a y1).bind fun a=>(bH a (⟨#[59,10]⟩:BA)).bind fun a=>some a
theorem qCd{p0:Tz}{r:BA}(g:St m (O) w)(b:RepS aH m a1 c1 p0.2.2.1)(d:RepS C3 m a2 c2 p0.2.2.2)(i:AR N p0=some r):Calls prog 62 #[.agg (V7 p0 a1 c1 a2 c2)] w fun e w'=>∃m',e= .returned (vT r)/\m.le m'/\St m' (O) w':=by
 unfold AR at i;have q:=m.le_refl;refine bF func62 rfl ntmps62 ?_;refine aC (iE 1 43 (.agg (V7 p0 a1 c1 a2 c2)) g fun c v V B g a=> ?_);have q:=q.t B;have b:=b.mono B;have d:=d.mono B;refine aF 1 [] (aC (aF 1 [(3,vT eB)] (aE (aT 1 [(6,vP c 0)] (bJ 7 (vI p0.1) g a (aQ (cC .normal i (fun x L' w'=>∃p,L'=[(1,vP c 0),(3,vT x)]/\m.le p/\St p (O) w'/\MRow p c 0 (Vb p0 a1 c1 a2 c2)/\P2 p a1 c1 a2 c2 p0.2.2) ?_ ?_)))))))
 .rintro x i _ o ⟨p,rfl,q,g,a,b,d⟩;refine aD (aT 1 [(43,vT x)] (cM 44 i fun l i=>(aA 1 [(45,vP c 3)] (bJ 46 (vS a2 p0.2.2.2 c2) g (a.drop 3) (aA 1 [(47,vP c 3)] (bJ 48 (vS a2 p0.2.2.2 c2) g (a.drop 3) (aA 3 [(50,vI (wr ((p0.2.2.2.length:Int)-1))),(51,vP c 2)] (bJ 52 (vS a1 p0.2.2.1 c1) g (a.drop 2) (aK 53 i (qBv g d b) ?_)))))))));rintro y1 i _ s ⟨k,rfl,h,g⟩;refine cM 54 i fun n i=> ?_;refine cM 55 i fun f i=> ?_;refine aF 1 [(2,vT f)] (aJ ?_);obtain rfl:=sI i;exact aO [2] [vT f] ⟨k,rfl,q.t h,g⟩
 intro x i l;refine bA (aB 2 [(8,vB (p0.1==1))] (aG i ?_ ?_))
 .intro A i;refine aT 1 [(10,vP c 1)] ?_;refine bJ 11 (vT p0.2.1) g (a.drop 1) ?_;refine cM 12 i fun U i=> ?_;refine cM 13 i fun G i=> ?_;refine aF 1 [(3,vT G)] (aE (aT 1 [(14,vP c 2)] (bJ 15 (vS a1 p0.2.2.1 c1) g (a.drop 2) (aF 2 [(16,vI (p0.2.2.1.length:Int)),(17,vI 0)] (bA (cC (.exit 1) i (fun h L' w'=>∃(o2:BA),∃n,o2=h/\L'=[(1,vP c 0),(3,vT o2)]/\m.le n/\St n (O) w'/\MRow n c 0 (Vb p0 a1 c1 a2 c2)/\P2 n a1 c1 a2 c2 p0.2.2) ?_ ?_))))))
  .rintro h i _ k ⟨o2,n,rfl,rfl,q,g,a,b,d⟩;refine cK (aD (aX (aA 1 [(30,vT o2)] (cM 31 i fun f i=>(aA 1 [(3,vT f)] (aS rfl (bI ?_)))))));cases i;exact xE (l _ _ ⟨n,rfl,q,g,a,b,d⟩)
  intro h i s;refine cH _ kr (cG (fun u L' w'=>∃(f:Tj),∃k,aI (vD N p0) u f=some h/\L'=[(1,vP c 0),(3,vT f.1),(15,vS a1 p0.2.2.1 c1),(16,vI (p0.2.2.1.length:Int)),(17,vI f.2)]/\m.le k/\St k (O) w'/\MRow k c 0 (Vb p0 a1 c1 a2 c2)/\P2 k a1 c1 a2 c2 p0.2.2) N ⟨(G,0),v,i,rfl,q,g,a,b,d⟩ ?_);rintro u _ Y ⟨f,k,hL,rfl,q,g,a,b,d⟩;rcases u with _|u
  .exact cJ hL
  obtain⟨R,i,E,D⟩:=cL hL;clear hL;unfold vD at i;refine aB 1 [(18,vB (decide (f.2<(p0.2.2.1.length:Int))))] (aE ?_);refine aG i ?_ ?_
  .intro A i;refine aM (aD (aE (bA (aT 1 [(19,vI f.2)] (dQ 20 b i ?_)))));rintro x1 i S H M rfl F;refine dV 21 9 20 H (vT x1) g F (aF 2 [(4,vI f.2),(5,vT x1)] (aE (aB 2 [(23,vB (decide (f.2>0)))] (cC .normal i (fun y L' w'=>∃o,L'=[(1,vP c 0),(3,vT y),(5,vT x1),(15,vS a1 p0.2.2.1 c1),(16,vI (p0.2.2.1.length:Int)),(17,vI f.2)]/\m.le o/\St o (O) w'/\MRow o c 0 (Vb p0 a1 c1 a2 c2)/\P2 o a1 c1 a2 c2 p0.2.2) ?_ ?_))))
   .rintro y i _ K ⟨o,rfl,q,g,a,b,d⟩;refine aD (aX (aA 2 [(26,vT y),(27,vT x1)] (cM 28 i fun z i=>(aA 1 [(3,vT z)] (aS rfl (bI (aD (aX (aA 2 [(17,vI (wr (f.2+1)))] (aS rfl ?_))))))))));have hL:=E _ (sI i);exact xE (cE ⟨(z,wr (f.2+1)),o,hL,rfl,q,g,a,b,d⟩)
   intro y i z;refine aG i ?_ ?_
   .intro A i;refine aX (aA 1 [(24,vT f.1)] (cM 25 i fun K i=>(aA 1 [(3,vT K)] (aS rfl ?_))));cases i;exact xE (z _ _ ⟨k,rfl,q,g,a,b,d⟩)
   intro A i;refine aM ?_;cases i;exact xE (z _ _ ⟨k,rfl,q,g,a,b,d⟩)
  intro A i;refine cD (bD ?_);have ho:=D _ (sI i);refine bD ?_;exact xE (s _ _ ⟨f.1,k,ho,rfl,q,g,a,b,d⟩)
 intro A i;refine aB 2 [(32,vB (p0.1==2))] (aG i ?_ ?_)
 .intro A i;refine aX (aA 1 [(34,vP c 1)] (bJ 35 (vT p0.2.1) g (a.drop 1) (cM 36 i fun f i=>(aA 1 [(3,vT f)] (aS rfl (bI ?_))))));cases i;exact xE (l _ _ ⟨v,rfl,q,g,a,b,d⟩)
 intro A i;refine aB 2 [(37,vB (p0.1==3))] (aG i ?_ ?_)
 .intro A i;refine aX (aA 1 [(39,vP c 1)] (bJ 40 (vT p0.2.1) g (a.drop 1) (cM 41 i fun h i=>(cM 42 i fun f i=>(aA 1 [(3,vT f)] (aS rfl (bI ?_)))))));cases i;exact xE (l _ _ ⟨v,rfl,q,g,a,b,d⟩)
 intro A i;refine aM (bI ?_);cases i;exact xE (l _ _ ⟨v,rfl,q,g,a,b,d⟩)
def qB(N:Nat)(p0:eF)(p1:Int):Option Tj:=
 (xR N p0).bind fun y1=>if(y1 !=0)=true then(some ((⟨#[]⟩:BA),y1)) else((if(decide (p1<0))=true then(some true) else(some (decide (p1>=(List.length p0.2.2:Int)))):Te).bind fun a=>if a=true then(some ((⟨#[]⟩:BA),3)) else((idx p0.2.2 p1).bind fun x1=>(AU N p0).bind fun a=>(AR N x1).bind fun b=>(bH a b).bind fun a=>some (a,0)))
theorem LX{p0:eF}{p1:Int}{r:Tj}(g:St m (O) w)(f:RepS aH m a1 c1 p0.2.1)(d:RepS C4 m a2 c2 p0.2.2)(i:qB N p0 p1=some r):Calls prog 21 #[.agg (V6 p0 a1 c1 a2 c2),vI p1] w fun e w'=>∃m',e= .returned (.tuple #[vT r.1,vI r.2])/\m.le m'/\St m' (O) w':=by
 unfold qB at i;have q:=m.le_refl;refine bF func21 rfl ntmps21 ?_;refine aC (iE 2 29 (.agg (V6 p0 a1 c1 a2 c2)) g fun l Y w1 o g b=> ?_);have f:=f.mono o;have d:=d.mono o;refine aF 2 [] (aE (aC (bJ 7 (.agg (V6 p0 a1 c1 a2 c2)) g b (aK 8 i (qBy (p0:=p0) g f d) ?_))));rintro y1 i _ w2 ⟨p,rfl,k,g⟩;have q:=(q.t o).t k;have b:=b.mono k;refine aF 1 [(6,vI y1)] (aC (aF 2 [(10,vB (y1 !=0))] (aG i ?_ ?_)))
 .intro A i;refine aB 3 [(4,vT eB),(5,vI y1)] (aJ ?_);refine aL ?_;obtain rfl:=sI i;exact aO [4,5] [vT eB,vI y1] ⟨p,rfl,q,g⟩
 intro A i;refine aM (aD (aE (aC (cU 9 i (fun s L' w'=>∃c,L'=[(1,vI p1),(2,vP l 0),(20,vB s)]/\m.le c/\St c (O) w'/\MRow c l 0 (Va p0 a1 c1 a2 c2)/\P5 c a1 c1 a2 c2 p0.2) ?_ ?_))))
 .rintro s i _ w3 ⟨c,rfl,q,g,b,f,d⟩;refine aQ (aG i ?_ ?_)
  .intro A i;refine aB 2 [(4,vT eB),(5,vI 3)] (aJ ?_);refine aL ?_;cases i;exact aO [4,5] [vT eB,vI 3] ⟨c,rfl,q,g⟩
  intro A i;refine aM (aD (aE (eC [(11,fun w'=>Inv c w'/\True)] kr g fun w4 _ g=> ?_)));have a:=c.le_refl;refine tA g a ?_;refine eP 29 2 0 21 0 (.agg (V6 p0 a1 c1 a2 c2)) (.head _) (fun _ h=>h.1) b (aR 2 23 (vP l 2) (.head _) (eP 27 23 3 24 2 (vS a2 p0.2.2 c2) (.head _) (fun _ h=>h.1) (b.drop 2) (aR 4 25 (vI p1) (.head _) ?_)));have⟨x1,G,i⟩:=aW i;refine iY (t:=27) (e:=43) (x:=(.tmp 24)) (y:=(.tmp 25)) 5 26 C4 kr rfl kr (.head _) (bK eT) (ev (vS a2 p0.2.2 c2)) (ev (vI p1)) kr d G ?_;rintro V H U ⟨_,_,rfl,rfl,⟨_,_,rfl,rfl,⟨_,_,rfl,⟨B,E,rfl,R⟩,⟨D,F,rfl,S⟩⟩⟩⟩ v;refine eP 43 26 6 27 H (.agg (V7 x1 B E D F)) (.head _) (fun _ h=>h.1) v (cB 1 kr (eS 22 i (fun _ h=>qCk (p0:=p0) g f d h) ?_));rintro y2 i _ w5 ⟨Z,rfl,n,g⟩;refine⟨_,rfl,?_⟩;have a:=Mem.le_trans a n;refine tA g a ?_;refine cB 7 kr (eS 28 i (fun _ h=>qCd (p0:=x1) g (R.mono n) (S.mono n) h) ?_);rintro y3 i _ w6 ⟨M,rfl,u,g⟩;refine⟨_,rfl,?_⟩;have a:=Mem.le_trans a u;refine tA g a ?_;refine cV 9 9 22 28 8 29 (.head _) i fun z i=> ?_;refine aR 9 4 (vT z) (.head _) (aR 10 5 (vI 0) (.head _) (dU kr (aD (aJ ?_))));obtain rfl:=sI i;exact aO [4,5] [vT z,vI 0] ⟨M,rfl,(q.t n).t u,g⟩
 intro s i K;refine aA 3 [(14,vB (decide (p1<0)))] (bC 14 i ?_ ?_)
 .intro A i;refine aA 6 [(20,vB true)] ?_;cases i;exact aU _ kr (K _ _ ⟨p,rfl,q,g,b,f.mono k,d.mono k⟩)
 intro A i;refine aA 2 [(15,vI p1),(16,vP l 2)] (bJ 17 (vS a2 p0.2.2 c2) g (b.drop 2) (aA 3 [(20,vB (decide (p1>=(p0.2.2.length:Int))))] ?_));cases i;exact aU _ kr (K _ _ ⟨p,rfl,q,g,b,f.mono k,d.mono k⟩)
def JI(N:Nat)(p0:BA)(p1:Int):T8:=
 (zO N p0 p1).bind fun y1=>some y1
theorem qCo{p0:BA}{p1:Int}{r:Int}(g:St m (O) w)(i:JI N p0 p1=some r):Calls prog 81 #[vT p0,.int .u8 p1] w fun e w'=>∃m',e= .returned (vI r)/\m.le m'/\St m' (O) w':=by
 unfold JI at i;have q:=m.le_refl;refine bF func81 rfl ntmps81 ?_;refine aB 1 [] (aC ?_);refine aA 2 [(5,vT p0),(6,.int .u8 p1)] (aK 7 i (QR g) ?_);rintro y1 i _ c ⟨b,rfl,a,g⟩;refine aF 1 [(4,vI y1)] (aJ ?_);obtain rfl:=sI i;exact aO [4] [vI y1] ⟨b,rfl,q.t a,g⟩
def IP(N:Nat)(p0:BA)(p1:BA):Te:=
 (if(decide ((ByteArray.size p0:Int)>=(ByteArray.size p1:Int)))=true then((lN p0 0 (ByteArray.size p1:Int)).bind fun a=>some (a.toList==p1.toList)) else(some false):Te).bind fun a=>some a
theorem qAl{p0:BA}{p1:BA}{r:Bool}(g:St m (O) w)(i:IP N p0 p1=some r):Calls prog 148 #[vT p0,vT p1] w fun e w'=>∃m',e= .returned (vB r)/\m.le m'/\St m' (O) w':=by
 unfold IP at i;have q:=m.le_refl;refine bF func148 rfl ntmps148 ?_;refine aB 1 [] (aC ?_);refine cU 14 i (fun b L' w'=>∃a,L'=[(4,vB b)]/\m.le a/\St a (O) w') ?_ ?_
 .rintro b i _ c ⟨a,rfl,q,g⟩;refine aQ (aJ ?_);obtain rfl:=sI i;exact aO [4] [vB b] ⟨a,rfl,q,g⟩
 intro b i K;refine aA 6 [(10,vB (decide ((p0.size:Int)>=(p1.size:Int))))] (bC 10 i ?_ ?_)
 .intro A i;refine aA 3 [(11,vT p0),(13,vI (p1.size:Int))] ?_;have⟨f,c,i⟩:=aW i;refine bB rfl (nY (d:=14) (t:=9) (x:=(.tmp 11)) (lo:=none) (hi:=(some (.tmp 13))) kr rfl (ev (vT p0)) kr (.inl ⟨rfl,rfl⟩) (.inr ⟨_,_,rfl,(ev (vI (p1.size:Int)))⟩) c (aA 4 [(4,vB (f.toList==p1.toList))] ?_));cases i;exact aU _ kr (K _ _ ⟨m,rfl,q,g⟩)
 intro A i;refine aA 8 [(4,vB false)] ?_;cases i;exact aU _ kr (K _ _ ⟨m,rfl,q,g⟩)
def FJ(N:Nat)(p0:BA)(p1:BA):Te:=
 (IP N p0 p1).bind fun y1=>some y1
theorem qCq{p0:BA}{p1:BA}{r:Bool}(g:St m (O) w)(i:FJ N p0 p1=some r):Calls prog 120 #[vT p0,vT p1] w fun e w'=>∃m',e= .returned (vB r)/\m.le m'/\St m' (O) w':=by
 unfold FJ at i;have q:=m.le_refl;refine bF func120 rfl ntmps120 ?_;refine aB 1 [] (aC ?_);refine aA 2 [(5,vT p0),(6,vT p1)] (aK 7 i (qAl g) ?_);rintro y1 i _ c ⟨b,rfl,a,g⟩;refine aF 1 [(4,vB y1)] (aJ ?_);obtain rfl:=sI i;exact aO [4] [vB y1] ⟨b,rfl,q.t a,g⟩
def yA(N:Nat)(b:pC)(a:Tl):Option (Tl⊕Int):=
 if(decide (a.2<(List.length b:Int)))=true then((idx b a.2).bind fun b=>some (.inl (if 9007199254740993<(IntKind.wrap .i64 ((IntKind.wrap .i64 (10*a.1))+(IntKind.wrap .i64 (IntKind.wrap .u8 ((b.toNat:Int)-48))))) then 9007199254740993 else(IntKind.wrap .i64 ((IntKind.wrap .i64 (10*a.1))+(IntKind.wrap .i64 (IntKind.wrap .u8 ((b.toNat:Int)-48))))),IntKind.wrap .i64 (a.2+1)))) else(some (.inr a.1))
def tP(N:Nat)(p0:BA)(p1:Int)(a:Int):Option (Int⊕Unit⊕Tn):=
 (if(decide (a<(ByteArray.size p0:Int)))=true then((eK p0 a).bind fun b=>if(decide ((b.toNat:Int)>=32))=true then((eK p0 a).bind fun b=>some (decide ((b.toNat:Int)<=126))) else(some false)) else(some false):Te).bind fun b=>if b=true then((eK p0 a).bind fun x5=>if((x5.toNat:Int)==34)=true then((lN p0 (IntKind.wrap .i64 (p1+1)) a).bind fun b=>some (.inr (.inr (((3,b,0,0),IntKind.wrap .i64 (a+1),0))))) else(some (.inl (IntKind.wrap .i64 (a+1))))) else(some (.inr (.inl ())))
def FU(N:Nat)(p0:BA)(p1:Int)(p2:mJ):Option Tn:=
 (eK p0 p1).bind fun x1=>if(((cX p2 (x1.toNat:Int)).getD 0)==1)=true then((sL N p0 p1 p2 ([(1:Int),2,3])).bind fun y1=>if(decide ((IntKind.wrap .i64 (y1-p1))>24))=true then(some ((0,(⟨#[]⟩:BA),0,0),0,2)) else((lN p0 p1 y1).bind fun a=>some ((1,a,0,0),y1,0))) else(if(((cX p2 (x1.toNat:Int)).getD 0)==2)=true then((sL N p0 p1 p2 ([(2:Int)])).bind fun b=>(lN p0 p1 b).bind fun a=>(vW a).bind fun a=>(aI (yA N a) N (0,0)).bind fun a=>if(decide (a>9007199254740992))=true then(some ((0,(⟨#[]⟩:BA),0,0),0,3)) else(some ((2,(⟨#[]⟩:BA),a,0),b,0))) else(if(((cX p2 (x1.toNat:Int)).getD 0)==7)=true then((aI (tP N p0 p1) N (IntKind.wrap .i64 (p1+1))).bind fun a=>(match a with| .inl o2=>some ((0,(⟨#[]⟩:BA),0,0),0,9)| .inr (z)=>some z)) else(if(((cX p2 (x1.toNat:Int)).getD 0)==8)=true then((lN p0 p1 (ByteArray.size p0:Int)).bind fun a=>(FJ N a (⟨#[61,61]⟩:BA)).bind fun a=>(if a=true then(some (IntKind.wrap .i64 ((IntKind.wrap .i64 (p1+1))+1))) else(some (IntKind.wrap .i64 (p1+1))):T8).bind fun o4=>(lN p0 p1 o4).bind fun a=>some ((4,a,0,0),o4,0)) else(some ((0,(⟨#[]⟩:BA),0,0),0,9)))))
theorem qDm{p0:BA}{p1:Int}{p2:mJ}{f:Option Nat}{b:Array MapEntry}{a:Nat}{r:Tn}(g:St m (dS f b a::O) w)(l:MapQ (fun n:Int=>Value.int .u8 n) (aV .i64) false m f b a p2)(i:FU N p0 p1 p2=some r):Calls prog 82 #[vT p0,vI p1,.map f] w fun e w'=>∃m',e= .returned (.tuple #[.agg (V2 r.1),vI r.2.1,vI r.2.2])/\m.le m'/\St m' (dS f b a::O) w':=by
 unfold FU at i;have q:=m.le_refl;refine bF func82 rfl ntmps82 ?_;refine aC (cZ 6 109 (.agg (V3 0 eB 0 0)) g fun p w1 g=>(aF 2 [] (aE (aT 3 [(16,.map f),(17,vT p0),(18,vI p1)] (iL 19 i fun x1 i=>(bB rfl (yL (ek:=(fun n:Int=>Value.int .u8 n)) (c:=(aV .i64)) (agg:=false) (k:=(x1.toNat:Int)) (zx:=0) (zcs:=[vI 0]) (z:=(vI 0)) (kt:=5) (et:=3) (d:=20) (t:=119) (x:=(.tmp 16)) (y:=(.tmp 19)) (ok:=false) kr rfl (ev (.map f)) (ev (.int .u8 (x1.toNat:Int))) kr (lP kr) g.t.h l rfl rfl ?_)))))));rintro a5 rfl;refine aQ (bA (aB 2 [(21,vB (((cX p2 (x1.toNat:Int)).getD 0)==1))] (aG i ?_ ?_)))
 .intro A i;refine aT 3 [(23,vT p0),(24,vI p1),(25,.map f)] ?_;refine eR 26 3 3 (aV .i64) [(1:Int),2,3] g fun E F G o g D=> ?_;refine aK 27 i (FL g.f2 (l.mono o) D) ?_;rintro y1 i _ H ⟨u,rfl,s,g⟩;refine aA 1 [(9,vI y1)] (aS rfl ?_);have g:=g.f1.t;refine aD (aE (aB 4 [(31,vB (decide ((wr (y1-p1))>24)))] (aG i ?_ ?_)))
  .intro A i;refine aT 1 [(32,.agg (V3 0 eB 0 0))] ?_;refine cA (.agg (V3 0 eB 0 0)) g.f1 fun v g=> ?_;refine aF 2 [(7,vI 0),(8,vI 2)] (aJ (aL (aZ (aL ?_))));cases i;refine iB 6 109 [7,8] [vI 0,vI 2] g.h ?_;exact⟨u,rfl,(q.t o).t s,g.t⟩
  intro A i;refine aM (aD (aT 3 [(33,vT p0),(34,vI p1),(35,vI y1)] ?_));have⟨v,B,i⟩:=aW i;refine bB rfl (nY (d:=36) (t:=9) (x:=(.tmp 33)) (lo:=(some (.tmp 34))) (hi:=(some (.tmp 35))) kr rfl (ev (vT p0)) kr (.inr ⟨_,_,rfl,(ev (vI p1))⟩) (.inr ⟨_,_,rfl,(ev (vI y1))⟩) B (aA 2 [(37,.agg (V3 1 v 0 0)),(38,vI y1)] (cA (.agg (V3 1 v 0 0)) g.f1 fun M g=>(aF 2 [(7,vI y1),(8,vI 0)] (aJ (aZ (aL ?_)))))));obtain rfl:=sI i;refine iB 6 109 [7,8] [vI y1,vI 0] g.h ?_;exact⟨u,rfl,(q.t o).t s,g.t⟩
 intro A i;refine aB 2 [(39,vB (((cX p2 (x1.toNat:Int)).getD 0)==2))] (aG i ?_ ?_)
 .intro A i;refine aT 3 [(41,vT p0),(42,vI p1),(43,.map f)] ?_;refine eR 44 3 1 (aV .i64) [(2:Int)] g fun b3 m3 w6 R g r3=> ?_;refine aK 45 i (FL g.f2 (l.mono R) r3) ?_;rintro u i _ w7 ⟨m4,rfl,Z,g⟩;refine aA 1 [(10,vI u)] (aS rfl ?_);have g:=g.f1.t;refine aD (aB 1 [(11,vI 0)] (aE (aT 3 [(46,vT p0),(47,vI p1),(48,vI u)] ?_)));have⟨s2,d5,i⟩:=aW i;refine bB rfl (nY (d:=49) (t:=9) (x:=(.tmp 46)) (lo:=(some (.tmp 47))) (hi:=(some (.tmp 48))) kr rfl (ev (vT p0)) kr (.inr ⟨_,_,rfl,(ev (vI p1))⟩) (.inr ⟨_,_,rfl,(ev (vI u))⟩) d5 ?_);have⟨B,d6,i⟩:=aW i;refine bB rfl (ST (d:=50) (t1:=9) (t2:=64) (e:=5) (x:=(.tmp 49)) kr rfl (ev (vT s2)) kr kr g d6 fun V Y m5 w8 e5 g M=>(aF 2 [(51,vI (B.length:Int)),(52,vI 0)] (bA (cC (.exit 1) i (fun s L' w'=>∃(E:Int),∃D,E=s/\L'=[(6,vP p 0),(10,vI u),(11,vI E)]/\m.le D/\St D (kB p (V3 0 eB 0 0) 109::dS f b a::O) w'/\MapQ (fun n:Int=>Value.int .u8 n) (aV .i64) false D f b a p2) ?_ ?_))))
  .rintro s i _ v ⟨E,D,rfl,rfl,q,g,l⟩;refine cK (aD (aE (aB 2 [(65,vB (decide (E>9007199254740992)))] (aG i ?_ ?_))))
   .intro A i;refine aT 1 [(66,.agg (V3 0 eB 0 0))] ?_;refine cA (.agg (V3 0 eB 0 0)) g fun o g=> ?_;refine aF 2 [(7,vI 0),(8,vI 3)] (aJ (aL (aZ (aL ?_))));cases i;refine iB 6 109 [7,8] [vI 0,vI 3] g.h ?_;exact⟨D,rfl,q,g.t⟩
   intro A i;refine aM (aD (aT 3 [(68,.agg (V3 2 eB E 0)),(69,vI u)] (cA (.agg (V3 2 eB E 0)) g fun o g=>(aF 2 [(7,vI u),(8,vI 0)] (aJ (aZ (aL ?_)))))));obtain rfl:=sI i;refine iB 6 109 [7,8] [vI u,vI 0] g.h ?_;exact⟨D,rfl,q,g.t⟩
  intro s i G;refine cH _ kr (cG (fun H L' w'=>∃(o:Tl),∃v,aI (yA N B) H o=some s/\L'=[(6,vP p 0),(10,vI u),(11,vI o.1),(50,vS (aP V) B Y),(51,vI (B.length:Int)),(52,vI o.2)]/\m.le v/\St v (kB p (V3 0 eB 0 0) 109::dS f b a::O) w'/\RepS lD v (aP V) Y B/\MapQ (fun n:Int=>Value.int .u8 n) (aV .i64) false v f b a p2) N ⟨(0,0),m5,i,rfl,((q.t R).t Z).t e5,g.f1,M,((l.mono R).mono Z).mono e5⟩ ?_);rintro H _ a8 ⟨o,v,hL,rfl,q,g,M,l⟩;rcases H with _|H
  .exact cJ hL
  obtain⟨a7,i,U,S⟩:=cL hL;clear hL;unfold yA at i;refine aB 1 [(53,vB (decide (o.2<(B.length:Int))))] (aE ?_);refine aG i ?_ ?_
  .intro A i;refine aM (aD (aE (bA (aC (dQ 54 M i ?_)))));rintro F i b5 f1 a6 rfl a4;refine dV 55 5 54 f1 (.int .u8 (F.toNat:Int)) g a4 (aF 1 [(13,.int .u8 (F.toNat:Int))] (aX (aA 8 [(11,vI (if 9007199254740993<(wr ((wr (10*o.1))+(wr (IntKind.wrap .u8 ((F.toNat:Int)-48))))) then 9007199254740993 else(wr ((wr (10*o.1))+(wr (IntKind.wrap .u8 ((F.toNat:Int)-48)))))))] (aS rfl (bI (aD (aX (aA 2 [(52,vI (wr (o.2+1)))] (aS rfl ?_)))))))));have hL:=U _ (sI i);exact xE (cE ⟨(if 9007199254740993<(wr ((wr (10*o.1))+(wr (IntKind.wrap .u8 ((F.toNat:Int)-48))))) then 9007199254740993 else(wr ((wr (10*o.1))+(wr (IntKind.wrap .u8 ((F.toNat:Int)-48))))),wr (o.2+1)),v,hL,rfl,q,g.f1.f1,M,l⟩)
  intro A i;refine cD (bD ?_);have ho:=S _ (sI i);have g:=g.f1.f1;refine bD ?_;exact xE (G _ _ ⟨o.1,v,ho,rfl,q,g,l⟩)
 intro A i;refine aB 2 [(70,vB (((cX p2 (x1.toNat:Int)).getD 0)==7))] (aG i ?_ ?_)
 .intro A i;refine aE (aB 3 [(14,vI (wr (p1+1)))] (bA ?_));have⟨D,i,R⟩:=aW i;refine cO (.exit 3) (fun L' w'=>∃(o2:Unit),∃B,(.inl o2)=D/\L'=[(6,vP p 0)]/\m.le B/\St B (kB p (V3 0 eB 0 0) 109::dS f b a::O) w'/\MapQ (fun n:Int=>Value.int .u8 n) (aV .i64) false B f b a p2) ?_ ?_
  .rintro _ o ⟨o2,B,rfl,rfl,q,g,l⟩;have i:=R;refine cK (aD (aT 1 [(104,.agg (V3 0 eB 0 0))] (cA (.agg (V3 0 eB 0 0)) g fun s g=>(aF 2 [(7,vI 0),(8,vI 9)] (aJ (aZ (aL ?_)))))));cases i;refine iB 6 109 [7,8] [vI 0,vI 9] g.h ?_;exact⟨B,rfl,q,g.t⟩
  intro E;refine cH _ kr (cG (fun F L' w'=>∃(o:Int),∃u,aI (tP N p0 p1) F o=some D/\L'=[(0,vT p0),(1,vI p1),(6,vP p 0),(14,vI o)]/\m.le u/\St u (kB p (V3 0 eB 0 0) 109::dS f b a::O) w'/\MapQ (fun n:Int=>Value.int .u8 n) (aV .i64) false u f b a p2) N ⟨wr (p1+1),m,i,rfl,q,g.f1.f1,l⟩ ?_);rintro F _ V ⟨o,u,hL,rfl,q,g,l⟩;rcases F with _|F
  .exact cJ hL
  obtain⟨U,i,G,v⟩:=cL hL;clear hL;unfold tP at i;refine aE (aC (cU 16 i (fun H L' w'=>∃s,L'=[(0,vT p0),(1,vI p1),(6,vP p 0),(14,vI o),(89,vB H)]/\m.le s/\St s (kB p (V3 0 eB 0 0) 109::dS f b a::O) w'/\MapQ (fun n:Int=>Value.int .u8 n) (aV .i64) false s f b a p2) ?_ ?_))
  .rintro H i _ Y ⟨s,rfl,q,g,l⟩;refine aQ (aG i ?_ ?_)
   .intro A i;refine aM (aD (aE (bA (aT 2 [(92,vT p0),(93,vI o)] (iL 94 i fun x5 i=>(aF 1 [(95,vB ((x5.toNat:Int)==34))] (aG i ?_ ?_)))))))
    .intro A i;refine aT 4 [(96,vT p0),(98,vI (wr (p1+1))),(99,vI o)] ?_;have⟨S,M,i⟩:=aW i;refine bB rfl (nY (d:=100) (t:=9) (x:=(.tmp 96)) (lo:=(some (.tmp 98))) (hi:=(some (.tmp 99))) kr rfl (ev (vT p0)) kr (.inr ⟨_,_,rfl,(ev (vI (wr (p1+1))))⟩) (.inr ⟨_,_,rfl,(ev (vI o))⟩) M (aA 3 [(101,.agg (V3 3 S 0 0)),(103,vI (wr (o+1)))] (cA (.agg (V3 3 S 0 0)) g fun Z g=>(aF 2 [(7,vI (wr (o+1))),(8,vI 0)] (aJ (aZ (aL ?_)))))));have ho:=v _ (sI i);subst ho;have i:=R;refine aL (aZ (aL (aZ (aL ?_))));obtain rfl:=sI i;refine iB 6 109 [7,8] [vI (wr (o+1)),vI 0] g.h ?_;exact⟨s,rfl,q,g.t⟩
    intro A i;refine aM (bI (aD (aX (aA 3 [(14,vI (wr (o+1)))] (aS rfl ?_)))));have hL:=G _ (sI i);exact xE (cE ⟨wr (o+1),s,hL,rfl,q,g.f1.f1,l⟩)
   intro A i;refine cD (bD ?_);have ho:=v _ (sI i);have g:=g.f1.f1;refine bD ?_;exact xE (E _ _ ⟨(),s,ho,rfl,q,g,l⟩)
  intro H i K;refine aA 5 [(78,vB (decide (o<(p0.size:Int))))] (bC 78 i ?_ ?_)
  .intro A i;refine aA 2 [(79,vT p0),(80,vI o)] (iL 81 i fun M i=>(aA 3 [(84,vB (decide ((M.toNat:Int)>=32)))] (bC 84 i ?_ ?_)))
   .intro A i;refine aA 2 [(85,vT p0),(86,vI o)] (iL 87 i fun S i=>(aA 2 [(89,vB (decide ((S.toNat:Int)<=126)))] ?_));cases i;exact aU _ kr (K _ _ ⟨u,rfl,q,g.f1.f1,l⟩)
   intro A i;refine aA 5 [(89,vB false)] ?_;cases i;exact aU _ kr (K _ _ ⟨u,rfl,q,g.f1.f1,l⟩)
  intro A i;refine aA 11 [(89,vB false)] ?_;cases i;exact aU _ kr (K _ _ ⟨u,rfl,q,g.f1.f1,l⟩)
 intro A i;refine aB 2 [(105,vB (((cX p2 (x1.toNat:Int)).getD 0)==8))] (aG i ?_ ?_)
 .intro A i;refine aB 3 [(15,vI (wr (p1+1)))] (aE ?_);refine aT 2 [(109,vT p0),(110,vI p1)] ?_;have⟨H,B,i⟩:=aW i;refine bB rfl (nY (d:=111) (t:=9) (x:=(.tmp 109)) (lo:=(some (.tmp 110))) (hi:=none) kr rfl (ev (vT p0)) kr (.inr ⟨_,_,rfl,(ev (vI p1))⟩) (.inl ⟨rfl,rfl⟩) B (aK 112 i (qCq g) ?_));rintro M i _ E ⟨v,rfl,s,g⟩;refine aQ (cC .normal i (fun o4 L' w'=>∃o,L'=[(0,vT p0),(1,vI p1),(6,vP p 0),(15,vI o4)]/\m.le o/\St o (kB p (V3 0 eB 0 0) 109::dS f b a::O) w'/\MapQ (fun n:Int=>Value.int .u8 n) (aV .i64) false o f b a p2) ?_ ?_)
  .rintro o4 i _ F ⟨o,rfl,q,g,l⟩;refine aD (aT 3 [(115,vT p0),(116,vI p1),(117,vI o4)] ?_);have⟨D,u,i⟩:=aW i;refine bB rfl (nY (d:=118) (t:=9) (x:=(.tmp 115)) (lo:=(some (.tmp 116))) (hi:=(some (.tmp 117))) kr rfl (ev (vT p0)) kr (.inr ⟨_,_,rfl,(ev (vI p1))⟩) (.inr ⟨_,_,rfl,(ev (vI o4))⟩) u (aA 2 [(119,.agg (V3 4 D 0 0)),(120,vI o4)] (cA (.agg (V3 4 D 0 0)) g fun G g=>(aF 2 [(7,vI o4),(8,vI 0)] (aJ (aZ (aL ?_)))))));obtain rfl:=sI i;refine iB 6 109 [7,8] [vI o4,vI 0] g.h ?_;exact⟨o,rfl,q,g.t⟩
  intro o4 i u;refine aG i ?_ ?_
  .intro A i;refine aX (aA 3 [(15,vI (wr ((wr (p1+1))+1)))] (aS rfl ?_));cases i;exact xE (u _ _ ⟨v,rfl,q.t s,g.f1.f1,l.mono s⟩)
  intro A i;refine aM ?_;cases i;exact xE (u _ _ ⟨v,rfl,q.t s,g.f1.f1,l.mono s⟩)
 intro A i;refine aM (bI (aD (aT 1 [(121,.agg (V3 0 eB 0 0))] (cA (.agg (V3 0 eB 0 0)) g fun o g=>(aF 2 [(7,vI 0),(8,vI 9)] (aJ ?_))))));cases i;refine iB 6 109 [7,8] [vI 0,vI 9] g.h ?_;exact⟨m,rfl,q,g.t⟩
def BC(N:Nat)(p0:BA)(y1:mJ)(c:Tp):Option (Tp⊕Tq):=
 (sL N p0 c.2 y1 ([(5:Int)])).bind fun a=>if(a==(ByteArray.size p0:Int))=true then((cW 40 c.1 ([(5,(⟨#[]⟩:BA),0,a)])).bind fun b=>some (.inr (b,0,0))) else((eK p0 a).bind fun x1=>if(((cX y1 (x1.toNat:Int)).getD 0)==6)=true then((lN p0 a (ByteArray.size p0:Int)).bind fun b=>(JI N b 10).bind fun b=>(if(decide (b<0))=true then(some (IntKind.wrap .i64 ((ByteArray.size p0:Int)-a))) else(some b):T8).bind fun b=>some (.inl (c.1,IntKind.wrap .i64 (a+b)))) else((FU N p0 a y1).bind fun b=>if(b.2.2 !=0)=true then(some (.inr (([]:To),a,b.2.2))) else((cW 40 c.1 ([(b.1.1,b.1.2.1,b.1.2.2.1,a)])).bind fun a=>some (.inl (a,b.2.1)))))
def FQ(N:Nat)(p0:BA):Option Tq:=
 if(decide ((ByteArray.size p0:Int)>16384))=true then(some (([]:To),0,2)) else((yJ N).bind fun y1=>(aI (BC N p0 y1) N (([]:To),0)).bind fun z=>some z)
theorem qDd{p0:BA}{r:Tq}(g:St m (O) w)(i:FQ N p0=some r):Calls prog 38 #[vT p0] w fun e w'=>∃K M m',e= .returned (.tuple #[vS K r.1 M,vI r.2.1,vI r.2.2])/\m.le m'/\St m' (kR K r.1 M 109 4::O) w'/\RepS C2 m' K M r.1:=by
 unfold FQ at i;have q:=m.le_refl;refine bF func38 rfl ntmps38 ?_;refine aB 3 [(2,v6)] (qKn ?_);refine aE (aB 3 [(13,vB (decide ((p0.size:Int)>16384)))] (aG i ?_ ?_))
 .intro A i;refine aB 3 [(2,v6),(3,vI 0),(4,vI 2)] (aJ ?_);refine aL (MU ?_);cases i;exact aO [2,3,4] [v6,vI 0,vI 2] ⟨none,0,m,rfl,q,(g.nilroom 109 4),(RepS.nil _ _)⟩
 intro A i;refine aM (aD (aC (aK 14 i (MK g) ?_)));rintro y1 i _ w1 ⟨o,B,v,m1,rfl,e1,g,l⟩;refine aF 1 [(5,.map o)] (aC (aF 1 [(6,vI 0)] (aE (qKy (aD (bA ?_))))));have⟨Y,i,j1⟩:=aW i;have g:=(g.nilroom 109 4).front1;refine cH _ kr (cG (fun S L' w'=>∃(f:Tp),∃p s G,aI (BC N p0 y1) S f=some Y/\L'=[(0,vT p0),(2,vS p f.1 s),(5,.map o),(6,vI f.2)]/\m.le G/\St G (dS o B v::kR p f.1 s 109 4::O) w'/\RepS C2 G p s f.1/\MapQ (fun n:Int=>Value.int .u8 n) (aV .i64) false G o B v y1) N ⟨(([]:To),0),none,0,m1,i,rfl,q.t e1,g,(RepS.nil _ _),l⟩ ?_);rintro S _ w2 ⟨f,p,s,G,hL,rfl,q,g,u,l⟩;rcases S with _|S
 .exact cJ hL
 obtain⟨a7,i,F,E⟩:=cL hL;clear hL;unfold BC at i;refine bA (aT 3 [(15,vT p0),(16,vI f.2),(17,.map o)] (eR 18 3 1 (aV .i64) [(5:Int)] g fun b1 m3 w3 R g r3=>(aK 19 i (FL g.f1 (l.mono R) r3) ?_)));rintro b i _ w4 ⟨m4,rfl,V,g⟩;have q:=(q.t R).t V;have u:=(u.mono R).mono V;have l:=(l.mono R).mono V;refine aA 1 [(6,vI b)] (aS rfl ?_);have g:=g.f1.t;refine aD (aE (bA (aB 5 [(20,vB (b==(p0.size:Int)))] (aG i ?_ ?_))))
 .intro A i;refine aT 3 [(25,vS p f.1 s),(27,.agg (V3 5 eB 0 b))] ?_;refine eR 28 109 1 C2 [(5,eB,0,b)] g fun b2 m5 w5 H g r4=> ?_;refine iN 29 76 76 109 40 25 28 g.f2 (.inl kr) (u.mono H) r4.src i fun U i a D m6 w6 Z g r5=> ?_;refine aA 3 [(2,vS a U D),(3,vI 0),(4,vI 0)] (aS rfl ?_);have g:=g.f1.t;refine aD (aJ (aZ (aL (aZ ?_))));have ho:=E _ (sI i);subst ho;have i:=j1;refine aL (aZ (MU ?_));obtain rfl:=sI i;exact aO [2,3,4] [vS a U D,vI 0,vI 0] ⟨a,D,m6,rfl,(q.t H).t Z,g.f1.t,r5⟩
 intro A i;refine aT 3 [(31,.map o),(32,vT p0),(33,vI b)] ?_;refine iL 34 i fun x1 i=> ?_;refine bB rfl (yL (ek:=(fun n:Int=>Value.int .u8 n)) (c:=(aV .i64)) (agg:=false) (k:=(x1.toNat:Int)) (zx:=0) (zcs:=[vI 0]) (z:=(vI 0)) (kt:=5) (et:=3) (d:=35) (t:=119) (x:=(.tmp 31)) (y:=(.tmp 34)) (ok:=false) kr rfl (ev (.map o)) (ev (.int .u8 (x1.toNat:Int))) kr (lP kr) g.h l rfl rfl ?_);rintro a5 rfl;refine aF 2 [(30,vB (((cX y1 (x1.toNat:Int)).getD 0)==6))] (aG i ?_ ?_)
 .intro A i;refine aT 2 [(37,vT p0),(38,vI b)] ?_;have⟨s2,d5,i⟩:=aW i;refine bB rfl (nY (d:=39) (t:=9) (x:=(.tmp 37)) (lo:=(some (.tmp 38))) (hi:=none) kr rfl (ev (vT p0)) kr (.inr ⟨_,_,rfl,(ev (vI b))⟩) (.inl ⟨rfl,rfl⟩) d5 (aK 40 i (qCo g) ?_));rintro y3 i _ w7 ⟨Z,rfl,a,g⟩;refine aF 1 [(7,vI y3)] (aE (aB 2 [(42,vB (decide (y3<0)))] (cC .normal i (fun H L' w'=>∃D,L'=[(0,vT p0),(2,vS p f.1 s),(5,.map o),(6,vI b),(7,vI H)]/\m.le D/\St D (dS o B v::kR p f.1 s 109 4::O) w'/\RepS C2 D p s f.1/\MapQ (fun n:Int=>Value.int .u8 n) (aV .i64) false D o B v y1) ?_ ?_)))
  .rintro H i _ U ⟨D,rfl,q,g,u,l⟩;refine aD (aB 4 [(6,vI (wr (b+H)))] (cD (vN rfl (bD (cK ?_)))));have hL:=F _ (sI i);exact xE (cE ⟨(f.1,wr (b+H)),p,s,D,hL,rfl,q,g.f1.f1,u,l⟩)
  intro H i U;refine aG i ?_ ?_
  .intro A i;refine aX (aA 5 [(7,vI (wr ((p0.size:Int)-b)))] (aS rfl ?_));cases i;exact xE (U _ _ ⟨Z,rfl,q.t a,g.f1.f1,u.mono a,l.mono a⟩)
  intro A i;refine aM ?_;cases i;exact xE (U _ _ ⟨Z,rfl,q.t a,g.f1.f1,u.mono a,l.mono a⟩)
 intro A i;refine aM (bI (aD (aT 3 [(51,vT p0),(52,vI b),(53,.map o)] (aK 54 i (qDm g l) ?_))));rintro a i _ w9 ⟨m9,rfl,D,g⟩;refine aA 4 [(55,.agg (V2 a.1)),(56,vI a.2.1),(57,vI a.2.2)] (cZ 8 109 (.agg (V3 0 eB 0 0)) g fun b3 a8 g=>(cA (.agg (V2 a.1)) g fun a9 g=>(aF 2 [(9,vI a.2.1),(10,vI a.2.2)] (aE (aB 2 [(59,vB (a.2.2 !=0))] (aG i ?_ ?_))))))
 .intro A i;refine aT 5 [(2,v6),(3,vI b),(4,vI a.2.2)] ?_;refine aS rfl ?_;have g:=g.f2.t;refine aD (aJ (aL (aZ ?_)));have ho:=E _ (sI i);subst ho;have i:=j1;refine aL (aZ (MU ?_));obtain rfl:=sI i;refine aO [2,3,4] [v6,vI b,vI a.2.2] ?_;have g:=(g.nilroom 109 4).front1;exact⟨none,0,m9,rfl,q.t D,g.t.f1.t,(RepS.nil _ _)⟩
 intro A i;refine aM (aD (aT 2 [(62,vI b),(63,vP b3 3)] (dR (V3 a.1.1 a.1.2.1 a.1.2.2.1 b) g fun b0 g=>(aQ (aX (aA 1 [(64,vS p f.1 s)] (bE 65 (.agg (V3 a.1.1 a.1.2.1 a.1.2.2.1 b)) g.h (eR 66 109 1 C2 [(a.1.1,a.1.2.1,a.1.2.2.1,b)] g fun b4 a6 b5 H g r6=>(iN 67 76 76 109 40 64 66 g.f3 (.inl kr) ((u.mono D).mono H) r6.src i fun l2 i U Z a4 b6 e9 g r7=>(aA 3 [(2,vS U l2 Z),(6,vI a.2.1)] (aS rfl ?_)))))))))));have g:=g.f1.t;refine bI ?_;have hL:=F _ (sI i);exact xE (cE ⟨(l2,a.2.1),U,Z,a4,hL,rfl,((q.t D).t H).t e9,g.f1.t.f1,r7,((l.mono D).mono H).mono e9⟩)
def oQ(N:Nat)(p0:bN):Option uU:=
 (idx p0.1 p0.2.1).bind fun x1=>some (p0,x1)
theorem rK{p0:bN}{r:uU}(g:St m (kB bp0 (Vd p0 a1 c1 a2 c2 a3 c3) 84::kR a3 p0.2.2.2 c3 61 5::O) w)(o:RepS C2 m a1 c1 p0.1)(u:RepS aH m a2 c2 p0.2.2.1)(v:RepS C3 m a3 c3 p0.2.2.2)(i:oQ N p0=some r):Calls prog 88 #[vP bp0 0] w fun e w'=>∃d k f l b c m',e= .returned (.agg (V2 r.2))/\m.le m'/\St m' (kB bp0 (Vd r.1 d k f l b c) 84::kR b r.1.2.2.2 c 61 5::O) w'/\P7 m' d k f l b c r.1:=by
 unfold oQ at i;have q:=m.le_refl;refine bF func88 rfl ntmps88 ?_;refine aC (cZ 2 109 (.agg (V3 0 eB 0 0)) g fun A D g=>(aQ (aE (eC [(11,fun w'=>Inv m w'/\Piece.holds m w' (kB bp0 (Vd p0 a1 c1 a2 c2 a3 c3) 84)/\True)] kr g fun E _ g=> ?_))));have a:=m.le_refl;refine⟨⟨.inr ⟨Inv.anti g.inv a,Piece.holds_anti g.t.h a,trivial⟩,trivial⟩,?_⟩;refine aR 0 3 (vP bp0 0) (.head _) (aR 1 4 (vP bp0 0) (.head _) (aR 2 5 (vP bp0 0) (.head _) (dM 76 5 3 6 0 (vS a1 p0.1 c1) (.head _) (fun _ h=>h.2.1) (aR 4 7 (vP bp0 0) (.head _) (aR 5 8 (vP bp0 0) (.head _) (aR 6 9 (vP bp0 1) (.head _) (dM 3 9 7 10 1 (vI p0.2.1) (.head _) (fun _ h=>h.2.1) ?_)))))));have⟨x1,p,i⟩:=aW i;refine iY (t:=76) (e:=109) (x:=(.tmp 6)) (y:=(.tmp 10)) 8 11 C2 kr rfl kr (.head _) (bK eT) (ev (vS a1 p0.1 c1)) (ev (vI p0.2.1)) kr o p ?_;rintro B s z ⟨_,_,rfl,rfl,⟨_,_,rfl,rfl,⟨_,_,rfl,rfl,rfl⟩⟩⟩ n;refine eP 109 11 9 12 s (.agg (V2 x1)) (.head _) (fun _ h=>h.1) n (cB 10 kr (uG 109 2 12 (.agg (V2 x1)) g fun F g=>(⟨⟨.inr ⟨Inv.anti g.inv a,Piece.holds_anti g.t.h a,trivial⟩,trivial⟩,?_⟩)));refine dU kr ?_;refine aD (aJ ?_);obtain rfl:=sI i;refine iB 2 109 [] [] g.h ?_;exact⟨a1,c1,a2,c2,a3,c3,m,rfl,q,g.t.f1.f1,o,u,v⟩
def sG(N:Nat)(p0:bN)(p1:Int)(p2:BA):Option (bN×Bool):=
 (oQ N p0).bind fun y1=>(if(y1.2.1==p1)=true then(some (y1.2.2.1.toList==p2.toList)) else(some false):Te).bind fun a=>some (y1.1,a)
theorem AP{p0:bN}{p1:Int}{p2:BA}{r:bN×Bool}(g:St m (kB bp0 (Vd p0 a1 c1 a2 c2 a3 c3) 84::kR a3 p0.2.2.2 c3 61 5::O) w)(G:RepS C2 m a1 c1 p0.1)(H:RepS aH m a2 c2 p0.2.2.1)(M:RepS C3 m a3 c3 p0.2.2.2)(i:sG N p0 p1 p2=some r):Calls prog 86 #[vP bp0 0,vI p1,vT p2] w fun e w'=>∃p u s v b c m',e= .returned (vB r.2)/\m.le m'/\St m' (kB bp0 (Vd r.1 p u s v b c) 84::kR b r.1.2.2.2 c 61 5::O) w'/\P7 m' p u s v b c r.1:=by
 unfold sG at i;have q:=m.le_refl;refine bF func86 rfl ntmps86 ?_;refine aB 1 [] (aC ?_);refine aA 1 [(8,vP bp0 0)] (aK 9 i (rK (p0:=p0) g.f1.f1 G H M) ?_);rintro y1 i _ R ⟨x,z,y,B,d,f,E,rfl,D,g,l,n,o⟩;refine cZ 7 109 (.agg (V3 0 eB 0 0)) g fun F S g=> ?_;refine cA (.agg (V2 y1.2)) g fun U g=> ?_;refine aQ (aC (cU 11 i (fun k L' w'=>∃a,L'=[(6,vB k)]/\m.le a/\St a (kB F (V2 y1.2) 109::kB bp0 (Vd y1.1 x z y B d f) 84::kR d y1.1.2.2.2 f 61 5::O) w'/\P7 a x z y B d f y1.1) ?_ ?_))
 .rintro k i _ V ⟨a,rfl,q,g,l,n,o⟩;refine aQ (aJ ?_);obtain rfl:=sI i;exact aO [6] [vB k] ⟨x,z,y,B,d,f,a,rfl,q,g.t.f1.f1,l,n,o⟩
 intro k i K;refine bL 1 11 3 10 0 (vI y1.2.1) g.h (aA 3 [(14,vB (y1.2.1==p1))] (bC 14 i ?_ ?_))
 .intro A i;refine bL 1 16 9 15 1 (vT y1.2.2.1) g.h (aA 4 [(6,vB (y1.2.2.1.toList==p2.toList))] ?_);cases i;exact aU _ kr (K _ _ ⟨E,rfl,q.t D,g.f2.f2.f2,l,n,o⟩)
 intro A i;refine aA 6 [(6,vB false)] ?_;cases i;exact aU _ kr (K _ _ ⟨E,rfl,q.t D,g.f2.f2.f2,l,n,o⟩)
def iK(N:Nat)(p0:Tm)(p1:Int):Option (Tl⊕Unit):=
 some (.inl (p0.2.2.2,p1))
theorem mZ{p0:Tm}{p1:Int}{r:Tl⊕Unit}(g:St m (O) w)(i:iK N p0 p1=some r):Calls prog 87 #[.agg (V2 p0),vI p1] w fun e w'=>(∃(z0:Tl),∃m',r= .inl z0/\e= .panicked [{v:= .iface 80 (.agg (Ve z0)),recovered:=false}]/\m.le m'/\St m' (O) w')\/(∃(f:Unit),r= .inr f/\∃m',e= .returned (.tuple #[])/\m.le m'/\St m' (O) w'):=by
 unfold iK at i;have q:=m.le_refl;refine bF func87 rfl ntmps87 ?_;refine aC (iE 2 109 (.agg (V2 p0)) g fun b d h c g a=>(aQ (aX (aA 1 [(4,vP b 3)] (bJ 5 (vI p0.2.2.2) g (a.drop 3) (aA 3 [(8,.iface 80 (.agg #[vI p0.2.2.2,vI p1]))] (bB rfl (qHx (x:=(.tmp 8)) kr (ev (.iface 80 (.agg #[vI p0.2.2.2,vI p1]))) ?_))))))));cases i;exact cT (.inl ⟨(p0.2.2.2,p1),d,rfl,rfl,q.t c,g⟩)
def xU(N:Nat)(p0:bN)(p1:BA):Option HV:=
 (sG N p0 1 p1).bind fun y1=>(if(!y1.2)=true then((oQ N y1.1).bind fun a=>(iK N a.2 9).bind fun b=>(match b with| .inl b=>some (.inr (.inl b))| .inr b=>some (.inl a.1))) else(some (.inl y1.1)):Option T1u).bind fun a=>(match a with| .inl a=>some (.inr (a.1,IntKind.wrap .i64 (a.2.1+1),a.2.2.1,a.2.2.2))| .inr z=>some z)
theorem LW{p0:bN}{p1:BA}{r:HV}(g:St m (kB bp0 (Vd p0 a1 c1 a2 c2 a3 c3) 84::kR a3 p0.2.2.2 c3 61 5::O) w)(r1:RepS C2 m a1 c1 p0.1)(r2:RepS aH m a2 c2 p0.2.2.1)(r3:RepS C3 m a3 c3 p0.2.2.2)(i:xU N p0 p1=some r):Calls prog 83 #[vP bp0 0,vT p1] w fun e w'=>(∃(z0:Tl),∃m',r= .inl z0/\e= .panicked [{v:= .iface 80 (.agg (Ve z0)),recovered:=false}]/\m.le m'/\St m' (O) w')\/(∃(u:bN),r= .inr u/\∃y B z D o p m',e= .returned (.tuple #[])/\m.le m'/\St m' (kB bp0 (Vd u y B z D o p) 84::kR o u.2.2.2 p 61 5::O) w'/\P7 m' y B z D o p u):=by
 unfold xU at i;have q:=m.le_refl;refine bF func83 rfl ntmps83 ?_;refine aE (aT 2 [(4,vP bp0 0),(5,vT p1)] (aK 6 i (AP (p0:=p0) g.f1.f1 r1 r2 r3) ?_));rintro y1 i _ w1 ⟨a4,c4,a5,c5,a6,c6,m1,rfl,e1,g,r4,r5,r6⟩;have q:=q.t e1;refine aF 1 [(7,vB (!y1.2))] ?_;have⟨V,i,U⟩:=aW i;refine cO .normal (fun L' w'=>∃(a:bN),∃d k f l b c n,(.inl a:T1u)=V/\L'=[(0,vP bp0 0)]/\m.le n/\St n (kB bp0 (Vd a d k f l b c) 84::kR b a.2.2.2 c 61 5::O) w'/\P7 n d k f l b c a) ?_ ?_
 .rintro _ F ⟨a,d,k,f,l,b,c,n,rfl,rfl,q,g,s,x,E⟩;have i:=U;refine aD (aX (aA 3 [(11,vP bp0 0),(13,vP bp0 1)] (bE 14 (vI a.2.1) g.h (aA 3 [(15,vI (wr (a.2.1+1))),(17,vP bp0 1)] (dR #[vS d a.1 k,vI (wr (a.2.1+1)),vS f a.2.2.1 l,vS b a.2.2.2 c] g fun G g=>(aS rfl ?_))))));cases i;exact nS [] [] rfl ResAll.nil (.inr ⟨_,rfl,d,k,f,l,b,c,n,rfl,q,g.f1.f1,s,x,E⟩)
 intro x;refine aG i ?_ ?_
 .intro A i;refine aX (aA 1 [(8,vP bp0 0)] (aK 9 i (rK (p0:=y1.1) g.f1.f1 r4 r5 r6) ?_));rintro y2 i _ w3 ⟨F,K,G,M,H,R,m3,rfl,S,g,Y,Z,b0⟩;refine cY 10 i (mZ (p0:=y2.2) g) ?_;rintro y3 i _ w4 (⟨z1,m5,rfl,rfl,e4,g⟩|⟨y4,rfl,m4,rfl,s,g⟩)
  .obtain rfl:=sI i;have i:=U;refine bW ?_;obtain rfl:=sI i;have g:=g.t.t;exact cT (.inl ⟨z1,m5,rfl,rfl,(q.t S).t e4,g⟩)
  refine aS rfl ?_;have E:=jG i;exact xE (x _ _ ⟨y2.1,F,K,G,M,H,R,m4,E,rfl,(q.t S).t s,g.f1.f1,Y.mono s,Z.mono s,b0.mono s⟩)
 intro A i;refine aM ?_;have E:=jG i;exact xE (x _ _ ⟨y1.1,a4,c4,a5,c5,a6,c6,m1,E,rfl,q,g.f1.f1,r4,r5,r6⟩)
def tO(N:Nat)(p0:bN)(p1:Int):Option zJ:=
 (oQ N p0).bind fun y1=>(if(y1.2.1 !=p1)=true then((iK N y1.2 9).bind fun a=>(match a with| .inl a=>some (.inr (.inl a))| .inr a=>some (.inl ()))) else(some (.inl ())):Option DH).bind fun a=>(match a with| .inl a=>(if(p1 !=5)=true then(some (IntKind.wrap .i64 (y1.1.2.1+1))) else(some y1.1.2.1):T8).bind fun o2=>some (.inr ((y1.1.1,o2,y1.1.2.2.1,y1.1.2.2.2),y1.2))| .inr z=>some z)
theorem EQ{p0:bN}{p1:Int}{r:zJ}(g:St m (kB bp0 (Vd p0 a1 c1 a2 c2 a3 c3) 84::kR a3 p0.2.2.2 c3 61 5::O) w)(r1:RepS C2 m a1 c1 p0.1)(r2:RepS aH m a2 c2 p0.2.2.1)(r3:RepS C3 m a3 c3 p0.2.2.2)(i:tO N p0 p1=some r):Calls prog 121 #[vP bp0 0,vI p1] w fun e w'=>(∃(z0:Tl),∃m',r= .inl z0/\e= .panicked [{v:= .iface 80 (.agg (Ve z0)),recovered:=false}]/\m.le m'/\St m' (O) w')\/(∃(y:uU),r= .inr y/\∃E G F H u x m',e= .returned (.agg (V2 y.2))/\m.le m'/\St m' (kB bp0 (Vd y.1 E G F H u x) 84::kR u y.1.2.2.2 x 61 5::O) w'/\P7 m' E G F H u x y.1):=by
 unfold tO at i;have q:=m.le_refl;refine bF func121 rfl ntmps121 ?_;refine aC (cZ 4 109 (.agg (V3 0 eB 0 0)) g fun z w1 g=>(aQ (aC (aA 1 [(6,vP bp0 0)] (aK 7 i (rK (p0:=p0) g.f2.f2 r1 r2 r3) ?_)))));rintro y1 i _ w2 ⟨k,n,l,o,a,b,Y,rfl,U,g,c,d,f⟩;have q:=q.t U;refine cZ 5 109 (.agg (V3 0 eB 0 0)) g fun B w3 g=> ?_;refine cA (.agg (V2 y1.2)) g fun w4 g=> ?_;refine aQ (aE (aC (bL 1 9 3 8 0 (vI y1.2.1) g.h (aF 2 [(11,vB (y1.2.1 !=p1))] ?_))));have⟨S,i,M⟩:=aW i;refine cO .normal (fun L' w'=>∃(R:Unit),∃p,(.inl R:DH)=S/\L'=[(0,vP bp0 0),(1,vI p1),(4,vP z 0),(5,vP B 0)]/\m.le p/\St p (kB B (V2 y1.2) 109::kB bp0 (Vd y1.1 k n l o a b) 84::kB z (V3 0 eB 0 0) 109::kR a y1.1.2.2.2 b 61 5::O) w'/\P7 p k n l o a b y1.1) ?_ ?_
 .rintro _ K ⟨R,p,rfl,rfl,q,g,c,d,f⟩;have i:=M;refine aD (aE (aB 2 [(15,vB (p1 !=5))] (cC .normal i (fun o2 L' w'=>∃s,L'=[(4,vP z 0),(5,vP B 0)]/\m.le s/\St s (kB B (V2 y1.2) 109::kB bp0 #[vS k y1.1.1 n,vI o2,vS l y1.1.2.2.1 o,vS a y1.1.2.2.2 b] 84::kB z (V3 0 eB 0 0) 109::kR a y1.1.2.2.2 b 61 5::O) w'/\P7 s k n l o a b y1.1) ?_ ?_)))
  .rintro o2 i _ V ⟨s,rfl,q,g,c,d,f⟩;refine aD (aC (bE 23 (.agg (V2 y1.2)) g.h (cA (.agg (V2 y1.2)) g.f2 fun D g=>(aQ (aJ ?_)))));cases i;refine iB 4 109 [] [] g.h ?_;exact .inr ⟨_,rfl,k,n,l,o,a,b,s,rfl,q,g.t.t.f1.f1,c,d,f⟩
  intro o2 i D;refine aG i ?_ ?_
  .intro A i;refine aX (aA 3 [(16,vP bp0 0),(18,vP bp0 1)] (bE 19 (vI y1.1.2.1) g.t.h (aA 3 [(20,vI (wr (y1.1.2.1+1))),(22,vP bp0 1)] (dR #[vS k y1.1.1 n,vI (wr (y1.1.2.1+1)),vS l y1.1.2.2.1 o,vS a y1.1.2.2.2 b] g.f1 fun V g=>(aS rfl ?_)))));cases i;exact xE (D _ _ ⟨p,rfl,q,g.f3.f3.f2.f3,c,d,f⟩)
  intro A i;refine aM ?_;cases i;exact xE (D _ _ ⟨p,rfl,q,g.f3.f3.f3.f3,c,d,f⟩)
 intro D;refine aG i ?_ ?_
 .intro A i;refine aX (bE 12 (.agg (V2 y1.2)) g.h (cY 13 i (mZ (p0:=y1.2) g) ?_));rintro y2 i _ w6 (⟨z1,m4,rfl,rfl,V,g⟩|⟨y3,rfl,Z,rfl,s,g⟩)
  .obtain rfl:=sI i;have i:=M;refine bW ?_;obtain rfl:=sI i;have g:=g.t.t.t.t;exact cT (.inl ⟨z1,m4,rfl,rfl,q.t V,g⟩)
  refine aS rfl ?_;have K:=jG i;exact xE (D _ _ ⟨(),Z,K,rfl,q.t s,g.f2.f3.f3.f3,c.mono s,d.mono s,f.mono s⟩)
 intro A i;refine aM ?_;have K:=jG i;exact xE (D _ _ ⟨(),Y,K,rfl,q,g.f2.f3.f3.f3,c,d,f⟩)
def tN(N:Nat)(p0:bN):Option zJ:=
 (tO N p0 1).bind fun y1=>(match y1 with| .inl a=>some (.inl a)| .inr a=>(xX N a.2.2.1).bind fun b=>(if b=true then((iK N a.2 9).bind fun b=>(match b with| .inl b=>some (.inr (.inl b))| .inr y5=>some (.inl ()))) else(some (.inl ())):Option DH).bind fun b=>(match b with| .inl b=>some (.inr (a.1,a.2))| .inr z=>some z))
theorem JA{p0:bN}{r:zJ}(g:St m (kB bp0 (Vd p0 a1 c1 a2 c2 a3 c3) 84::kR a3 p0.2.2.2 c3 61 5::O) w)(r1:RepS C2 m a1 c1 p0.1)(r2:RepS aH m a2 c2 p0.2.2.1)(r3:RepS C3 m a3 c3 p0.2.2.2)(i:tN N p0=some r):Calls prog 84 #[vP bp0 0] w fun e w'=>(∃(z0:Tl),∃m',r= .inl z0/\e= .panicked [{v:= .iface 80 (.agg (Ve z0)),recovered:=false}]/\m.le m'/\St m' (O) w')\/(∃(k:uU),r= .inr k/\∃y B z D d f m',e= .returned (.agg (V2 k.2))/\m.le m'/\St m' (kB bp0 (Vd k.1 y B z D d f) 84::kR d k.1.2.2.2 f 61 5::O) w'/\P7 m' y B z D d f k.1):=by
 unfold tN at i;have q:=m.le_refl;refine bF func84 rfl ntmps84 ?_;refine aC (cZ 2 109 (.agg (V3 0 eB 0 0)) g fun M w1 g=>(aQ (aC (aA 1 [(4,vP bp0 0)] (cY 5 i (EQ (p0:=p0) g.f2.f2 r1 r2 r3) ?_)))));rintro y1 i _ w2 (⟨z1,m2,rfl,rfl,Z,g⟩|⟨a,rfl,E,G,F,H,l,n,m1,rfl,Y,g,p,s,u⟩)
 .refine bW ?_;obtain rfl:=sI i;have g:=g.t;exact cT (.inl ⟨z1,m2,rfl,rfl,q.t Z,g⟩)
 refine cZ 3 109 (.agg (V3 0 eB 0 0)) g fun R w4 g=> ?_;refine cA (.agg (V2 a.2)) g fun w5 g=> ?_;refine aQ (aE (aC (bL 1 7 9 6 1 (vT a.2.2.1) g.h (aK 8 i (MC g) ?_))));rintro y3 i _ w6 ⟨m3,rfl,b,g⟩;have q:=(q.t Y).t b;refine aQ ?_;have⟨V,i,S⟩:=aW i;refine cO .normal (fun L' w'=>∃(U:Unit),∃c,(.inl U:DH)=V/\L'=[(2,vP M 0),(3,vP R 0)]/\m.le c/\St c (kB R (V2 a.2) 109::kB bp0 (Vd a.1 E G F H l n) 84::kB M (V3 0 eB 0 0) 109::kR l a.1.2.2.2 n 61 5::O) w'/\P7 c E G F H l n a.1) ?_ ?_
 .rintro _ x ⟨U,c,rfl,rfl,q,g,p,s,u⟩;have i:=S;refine aD (aC (bE 11 (.agg (V2 a.2)) g.h (cA (.agg (V2 a.2)) g.f2 fun o g=>(aQ (aJ ?_)))));cases i;refine iB 2 109 [] [] g.h ?_;exact .inr ⟨_,rfl,E,G,F,H,l,n,c,rfl,q,g.t.t.f1.f1,p,s,u⟩
 intro x;refine aG i ?_ ?_
 .intro A i;refine aX (bE 9 (.agg (V2 a.2)) g.h (cY 10 i (mZ (p0:=a.2) g) ?_));rintro y4 i _ w8 (⟨z2,m6,rfl,rfl,e5,g⟩|⟨y5,rfl,m5,rfl,o,g⟩)
  .obtain rfl:=sI i;have i:=S;refine bW ?_;obtain rfl:=sI i;have g:=g.t.t.t.t;exact cT (.inl ⟨z2,m6,rfl,rfl,q.t e5,g⟩)
  refine aS rfl ?_;have K:=jG i;exact xE (x _ _ ⟨(),m5,K,rfl,q.t o,g.f2.f3.f3.f3,(p.mono b).mono o,(s.mono b).mono o,(u.mono b).mono o⟩)
 intro A i;refine aM ?_;have K:=jG i;exact xE (x _ _ ⟨(),m3,K,rfl,q,g.f2.f3.f3.f3,p.mono b,s.mono b,u.mono b⟩)
def mY(N:Nat)(p0:bN)(p1:BA):Option HV:=
 (sG N p0 4 p1).bind fun y1=>(if(!y1.2)=true then((oQ N y1.1).bind fun a=>(iK N a.2 9).bind fun b=>(match b with| .inl b=>some (.inr (.inl b))| .inr b=>some (.inl a.1))) else(some (.inl y1.1)):Option T1u).bind fun a=>(match a with| .inl a=>some (.inr (a.1,IntKind.wrap .i64 (a.2.1+1),a.2.2.1,a.2.2.2))| .inr z=>some z)
theorem qS{p0:bN}{p1:BA}{r:HV}(g:St m (kB bp0 (Vd p0 a1 c1 a2 c2 a3 c3) 84::kR a3 p0.2.2.2 c3 61 5::O) w)(r1:RepS C2 m a1 c1 p0.1)(r2:RepS aH m a2 c2 p0.2.2.1)(r3:RepS C3 m a3 c3 p0.2.2.2)(i:mY N p0 p1=some r):Calls prog 85 #[vP bp0 0,vT p1] w fun e w'=>(∃(z0:Tl),∃m',r= .inl z0/\e= .panicked [{v:= .iface 80 (.agg (Ve z0)),recovered:=false}]/\m.le m'/\St m' (O) w')\/(∃(u:bN),r= .inr u/\∃y B z D o p m',e= .returned (.tuple #[])/\m.le m'/\St m' (kB bp0 (Vd u y B z D o p) 84::kR o u.2.2.2 p 61 5::O) w'/\P7 m' y B z D o p u):=by
 unfold mY at i;have q:=m.le_refl;refine bF func85 rfl ntmps85 ?_;refine aE (aT 2 [(4,vP bp0 0),(5,vT p1)] (aK 6 i (AP (p0:=p0) g.f1.f1 r1 r2 r3) ?_));rintro y1 i _ w1 ⟨a4,c4,a5,c5,a6,c6,m1,rfl,e1,g,r4,r5,r6⟩;have q:=q.t e1;refine aF 1 [(7,vB (!y1.2))] ?_;have⟨V,i,U⟩:=aW i;refine cO .normal (fun L' w'=>∃(a:bN),∃d k f l b c n,(.inl a:T1u)=V/\L'=[(0,vP bp0 0)]/\m.le n/\St n (kB bp0 (Vd a d k f l b c) 84::kR b a.2.2.2 c 61 5::O) w'/\P7 n d k f l b c a) ?_ ?_
 .rintro _ F ⟨a,d,k,f,l,b,c,n,rfl,rfl,q,g,s,x,E⟩;have i:=U;refine aD (aX (aA 3 [(11,vP bp0 0),(13,vP bp0 1)] (bE 14 (vI a.2.1) g.h (aA 3 [(15,vI (wr (a.2.1+1))),(17,vP bp0 1)] (dR #[vS d a.1 k,vI (wr (a.2.1+1)),vS f a.2.2.1 l,vS b a.2.2.2 c] g fun G g=>(aS rfl ?_))))));cases i;exact nS [] [] rfl ResAll.nil (.inr ⟨_,rfl,d,k,f,l,b,c,n,rfl,q,g.f1.f1,s,x,E⟩)
 intro x;refine aG i ?_ ?_
 .intro A i;refine aX (aA 1 [(8,vP bp0 0)] (aK 9 i (rK (p0:=y1.1) g.f1.f1 r4 r5 r6) ?_));rintro y2 i _ w3 ⟨F,K,G,M,H,R,m3,rfl,S,g,Y,Z,b0⟩;refine cY 10 i (mZ (p0:=y2.2) g) ?_;rintro y3 i _ w4 (⟨z1,m5,rfl,rfl,e4,g⟩|⟨y4,rfl,m4,rfl,s,g⟩)
  .obtain rfl:=sI i;have i:=U;refine bW ?_;obtain rfl:=sI i;have g:=g.t.t;exact cT (.inl ⟨z1,m5,rfl,rfl,(q.t S).t e4,g⟩)
  refine aS rfl ?_;have E:=jG i;exact xE (x _ _ ⟨y2.1,F,K,G,M,H,R,m4,E,rfl,(q.t S).t s,g.f1.f1,Y.mono s,Z.mono s,b0.mono s⟩)
 intro A i;refine aM ?_;have E:=jG i;exact xE (x _ _ ⟨y1.1,a4,c4,a5,c5,a6,c6,m1,E,rfl,q,g.f1.f1,r4,r5,r6⟩)
def tL(N:Nat)(p0:bN):Option zJ:=
 (tO N p0 3).bind fun y1=>(match y1 with| .inl a=>some (.inl a)| .inr a=>(tT N a.2.2.1).bind fun b=>(if(!b)=true then((iK N a.2 9).bind fun b=>(match b with| .inl b=>some (.inr (.inl b))| .inr y5=>some (.inl ()))) else(some (.inl ())):Option DH).bind fun b=>(match b with| .inl b=>some (.inr (a.1,a.2))| .inr z=>some z))
theorem IW{p0:bN}{r:zJ}(g:St m (kB bp0 (Vd p0 a1 c1 a2 c2 a3 c3) 84::kR a3 p0.2.2.2 c3 61 5::O) w)(r1:RepS C2 m a1 c1 p0.1)(r2:RepS aH m a2 c2 p0.2.2.1)(r3:RepS C3 m a3 c3 p0.2.2.2)(i:tL N p0=some r):Calls prog 124 #[vP bp0 0] w fun e w'=>(∃(z0:Tl),∃m',r= .inl z0/\e= .panicked [{v:= .iface 80 (.agg (Ve z0)),recovered:=false}]/\m.le m'/\St m' (O) w')\/(∃(k:uU),r= .inr k/\∃y B z D d f m',e= .returned (.agg (V2 k.2))/\m.le m'/\St m' (kB bp0 (Vd k.1 y B z D d f) 84::kR d k.1.2.2.2 f 61 5::O) w'/\P7 m' y B z D d f k.1):=by
 unfold tL at i;have q:=m.le_refl;refine bF func124 rfl ntmps124 ?_;refine aC (cZ 2 109 (.agg (V3 0 eB 0 0)) g fun M w1 g=>(aQ (aC (aA 1 [(4,vP bp0 0)] (cY 5 i (EQ (p0:=p0) g.f2.f2 r1 r2 r3) ?_)))));rintro y1 i _ w2 (⟨z1,m2,rfl,rfl,Z,g⟩|⟨a,rfl,E,G,F,H,l,n,m1,rfl,Y,g,p,s,u⟩)
 .refine bW ?_;obtain rfl:=sI i;have g:=g.t;exact cT (.inl ⟨z1,m2,rfl,rfl,q.t Z,g⟩)
 refine cZ 3 109 (.agg (V3 0 eB 0 0)) g fun R w4 g=> ?_;refine cA (.agg (V2 a.2)) g fun w5 g=> ?_;refine aQ (aE (aC (bL 1 7 9 6 1 (vT a.2.2.1) g.h (aK 8 i (JQ g) ?_))));rintro y3 i _ w6 ⟨m3,rfl,b,g⟩;have q:=(q.t Y).t b;refine aF 1 [(9,vB (!y3))] ?_;have⟨V,i,S⟩:=aW i;refine cO .normal (fun L' w'=>∃(U:Unit),∃c,(.inl U:DH)=V/\L'=[(2,vP M 0),(3,vP R 0)]/\m.le c/\St c (kB R (V2 a.2) 109::kB bp0 (Vd a.1 E G F H l n) 84::kB M (V3 0 eB 0 0) 109::kR l a.1.2.2.2 n 61 5::O) w'/\P7 c E G F H l n a.1) ?_ ?_
 .rintro _ x ⟨U,c,rfl,rfl,q,g,p,s,u⟩;have i:=S;refine aD (aC (bE 12 (.agg (V2 a.2)) g.h (cA (.agg (V2 a.2)) g.f2 fun o g=>(aQ (aJ ?_)))));cases i;refine iB 2 109 [] [] g.h ?_;exact .inr ⟨_,rfl,E,G,F,H,l,n,c,rfl,q,g.t.t.f1.f1,p,s,u⟩
 intro x;refine aG i ?_ ?_
 .intro A i;refine aX (bE 10 (.agg (V2 a.2)) g.h (cY 11 i (mZ (p0:=a.2) g) ?_));rintro y4 i _ w8 (⟨z2,m6,rfl,rfl,e5,g⟩|⟨y5,rfl,m5,rfl,o,g⟩)
  .obtain rfl:=sI i;have i:=S;refine bW ?_;obtain rfl:=sI i;have g:=g.t.t.t.t;exact cT (.inl ⟨z2,m6,rfl,rfl,q.t e5,g⟩)
  refine aS rfl ?_;have K:=jG i;exact xE (x _ _ ⟨(),m5,K,rfl,q.t o,g.f2.f3.f3.f3,(p.mono b).mono o,(s.mono b).mono o,(u.mono b).mono o⟩)
 intro A i;refine aM ?_;have K:=jG i;exact xE (x _ _ ⟨(),m3,K,rfl,q,g.f2.f3.f3.f3,p.mono b,s.mono b,u.mono b⟩)
def sF(N:Nat)(p0:bN)(p1:BA):Option (bN×Bool):=
 (sG N p0 4 p1).bind fun y1=>if(!y1.2)=true then(some (y1.1,false)) else(some ((y1.1.1,IntKind.wrap .i64 (y1.1.2.1+1),y1.1.2.2.1,y1.1.2.2.2),true))
theorem zY{p0:bN}{p1:BA}{r:bN×Bool}(g:St m (kB bp0 (Vd p0 a1 c1 a2 c2 a3 c3) 84::kR a3 p0.2.2.2 c3 61 5::O) w)(D:RepS C2 m a1 c1 p0.1)(E:RepS aH m a2 c2 p0.2.2.1)(F:RepS C3 m a3 c3 p0.2.2.2)(i:sF N p0 p1=some r):Calls prog 150 #[vP bp0 0,vT p1] w fun e w'=>∃c f d k a b m',e= .returned (vB r.2)/\m.le m'/\St m' (kB bp0 (Vd r.1 c f d k a b) 84::kR a r.1.2.2.2 b 61 5::O) w'/\P7 m' c f d k a b r.1:=by
 unfold sF at i;have q:=m.le_refl;refine bF func150 rfl ntmps150 ?_;refine aB 1 [] (aE ?_);refine aT 2 [(5,vP bp0 0),(6,vT p1)] ?_;refine aK 7 i (AP (p0:=p0) g.f1.f1 D E F) ?_;rintro y1 i _ G ⟨l,p,n,s,o,u,x,rfl,v,g,y,z,B⟩;refine aF 1 [(8,vB (!y1.2))] (aG i ?_ ?_)
 .intro A i;refine aB 1 [(4,vB false)] (aJ ?_);refine aL ?_;cases i;exact aO [4] [vB false] ⟨l,p,n,s,o,u,x,rfl,q.t v,g.f1.f1,y,z,B⟩
 intro A i;refine aM (aD (aT 3 [(9,vP bp0 0),(11,vP bp0 1)] (bE 12 (vI y1.1.2.1) g.h (aA 3 [(13,vI (wr (y1.1.2.1+1))),(15,vP bp0 1)] (dR #[vS l y1.1.1 p,vI (wr (y1.1.2.1+1)),vS n y1.1.2.2.1 s,vS o y1.1.2.2.2 u] g fun H g=>(aQ (aC (aF 1 [(4,vB true)] (aJ ?_)))))))));cases i;exact aO [4] [vB true] ⟨l,p,n,s,o,u,x,rfl,q.t v,g.f1.f1,y,z,B⟩
end
end Go.Proofs.YthiiggmmmoolbaaGreatDoor
