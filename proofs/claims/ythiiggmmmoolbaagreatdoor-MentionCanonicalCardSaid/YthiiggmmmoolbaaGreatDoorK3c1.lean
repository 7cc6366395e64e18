/- No condition but those of each theorem. -/
import Derived.Test.YthiiggmmmoolbaaGreatDoorProg
import Derived.WalkKit
import Derived.Deep.LoopGhost
import Derived.KernelRfl
import Derived.OrdersHeld
import Derived.OrdersIn
import Derived.LoopNIn
import Derived.Sort.LoopGhostIn
import Derived.Laws.AppendOwn
import Derived.RangeFuncLeaves
import Derived.RangeFuncRecord
import Derived.MapKept
import Derived.Maps.RangeRun
import Derived.ChangeKeysEq
import Derived.HandedShaped
import Derived.ChangeStays
import Derived.ChangeSame
import Derived.OpenShut
import Derived.WideShapes
import Derived.JoinedOf
import Derived.ReadAgain
import Derived.ChangeAt
import Derived.RowKit
import Derived.Lib.Overlaps
import Derived.Shelf.Sort.Plain
import Derived.Shelf.Slices.In.SortNone
import Derived.WalkSmall
import Derived.Recover
import Derived.Lib.Builder
import Derived.Lib.UnsafeStr
import Derived.Shelf.Strconv.Itoa3
import Derived.Room.Shelf.Join48
import Derived.Test.YthiiggmmmoolbaaGreatDoorK2c1
namespace Go.Proofs.YthiiggmmmoolbaaGreatDoor
section
open Go Go.Dc Go.Proofs.Tryz
set_option maxHeartbeats 4000000
set_option maxRecDepth 100000
variable {N c1 c2:Nat} {m:Mem} {O:List Piece} {w:World} {a1 a2:Option Addr}
def GO(N:Nat)(p0:BA)(p1:BA)(p2:Int)(b:Int)(a:JL):Option (JL⊕JL):=
 if(decide (a.2.1<(IntKind.wrap .i64 ((if(IntKind.wrap .i64 ((ByteArray.size p0:Int)+1))<b then(IntKind.wrap .i64 ((ByteArray.size p0:Int)+1)) else b)-1))))=true then((CY N a.1 p1).bind fun b=>if(decide (b<0))=true then(some (.inr a)) else((mY a.1 0 (IntKind.wrap .i64 (b+p2))).bind fun c=>(idx a.2.2 a.2.1).bind fun x1=>(mY a.1 (IntKind.wrap .i64 (b+(ByteArray.size p1:Int))) (ByteArray.size a.1:Int)).bind fun b=>some (.inl (b,IntKind.wrap .i64 (a.2.1+1),List.set a.2.2 (Int.toNat a.2.1) c)))) else(some (.inr a))
def KS(N:Nat)(p0:BA)(p1:BA)(p2:Int)(p3:Int):Ta:=
 if(p3==0)=true then(some ([]:T9)) else(if(p1.toList==(⟨#[]⟩:BA).toList)=true then none else((if(decide (p3<0))=true then((GY N p0 p1).bind fun y1=>some (IntKind.wrap .i64 (y1+1))) else(some p3):T5).bind fun a=>(sE 16 (⟨#[]⟩:BA) (if(IntKind.wrap .i64 ((ByteArray.size p0:Int)+1))<a then(IntKind.wrap .i64 ((ByteArray.size p0:Int)+1)) else a)).bind fun b=>(aJ (GO N p0 p1 p2 a) N (p0,0,b)).bind fun o2=>(idx o2.2.2 o2.2.1).bind fun a=>(tE (List.set o2.2.2 (Int.toNat o2.2.1) o2.1) 0 (IntKind.wrap .i64 (o2.2.1+1))).bind fun a=>some a))
theorem qHa{p0:BA}{p1:BA}{p2:Int}{p3:Int}{r:T9}(g:St m (O) w)(i:KS N p0 p1 p2 p3=some r):Calls prog 162 #[vT p0,vT p1,vI p2,vI p3] w fun e w'=>∃D E m',e= .returned (vS D r E)/\m.le m'/\St m' (O) w'/\RepS aH m' D E r:=by
 unfold KS at i;have q:=m.le_refl;refine bG func162 rfl ntmps162 ?_;refine aD 1 [] (aG ?_);refine aD 2 [(13,vB (p3==0))] (aI i ?_ ?_)
 .intro A i;refine aD 1 [(8,v1)] (aL ?_);refine aQ ?_;cases i;exact aO [8] [v1] ⟨none,0,m,rfl,q,g,(RepS.nil _ _)⟩
 intro A i;refine aM (aE (aG (aD 2 [(15,vB (p1.toList==eB.toList))] (aI i ?_ ?_))))
 .intro A i;cases i
 intro A i;refine aM (aE (aG (aD 2 [(20,vB (decide (p3<0)))] (cJ .normal i (fun a L' w'=>∃v,L'=[(0,vT p0),(1,vT p1),(2,vI p2),(3,vI a)]/\m.le v/\St v (O) w') ?_ ?_))))
 .rintro a i _ w1 ⟨v,rfl,q,g⟩;refine aE (aD 6 [(3,vI (if(wr ((p0.size:Int)+1))<a then(wr ((p0.size:Int)+1)) else a))] (aC (aA 1 [(30,vI (if(wr ((p0.size:Int)+1))<a then(wr ((p0.size:Int)+1)) else a))] ?_)));have⟨l1,H,i⟩:=aZ i
  refine bA rfl (OY (d:=31) (t:=26) (e:=9) (by_:=16) (x:=(.tmp 30)) (y:=(.tmp 30)) (fun x:BA=>Value.string x) kr rfl (ev (vI (if(wr ((p0.size:Int)+1))<a then(wr ((p0.size:Int)+1)) else a))) (ev (vI (if(wr ((p0.size:Int)+1))<a then(wr ((p0.size:Int)+1)) else a))) kr kr rfl g H fun h w3 R g=>(aF 1 [(9,.slice (aP h) (Int.toNat (if(wr ((p0.size:Int)+1))<a then(wr ((p0.size:Int)+1)) else a)) (Int.toNat (if(wr ((p0.size:Int)+1))<a then(wr ((p0.size:Int)+1)) else a)))] (aC (aF 3 [(3,vI (wr ((if(wr ((p0.size:Int)+1))<a then(wr ((p0.size:Int)+1)) else a)-1)))] (aC (aF 1 [(10,vI 0)] (aG (bD (cJ (.exit 0) i (fun k L' w'=>∃(o2:JL),∃G,o2=k/\L'=[(0,vT o2.1),(9,.slice (aP h) (Int.toNat (if(wr ((p0.size:Int)+1))<a then(wr ((p0.size:Int)+1)) else a)) (Int.toNat (if(wr ((p0.size:Int)+1))<a then(wr ((p0.size:Int)+1)) else a))),(10,vI o2.2.1)]/\m.le G/\St G (.blk h (.cells (lB (fun x:BA=>Value.string x) o2.2.2 []) 9 (0,0))::O) w'/\List.length o2.2.2=(Int.toNat (if(wr ((p0.size:Int)+1))<a then(wr ((p0.size:Int)+1)) else a))) ?_ ?_)))))))))
  .rintro k i _ S ⟨o2,G,rfl,rfl,q,g,l⟩;refine dW (aE (aS 3 [(58,.slice (aP h) (Int.toNat (if(wr ((p0.size:Int)+1))<a then(wr ((p0.size:Int)+1)) else a)) (Int.toNat (if(wr ((p0.size:Int)+1))<a then(wr ((p0.size:Int)+1)) else a))),(59,vI o2.2.1),(60,vT o2.1)] ?_));have⟨V,p,i⟩:=aZ i;refine bA rfl (rI (d:=61) (t:=26) (e:=9) (x:=(.tmp 58)) (y:=(.tmp 59)) kr rfl (ev (.slice (aP h) (Int.toNat (if(wr ((p0.size:Int)+1))<a then(wr ((p0.size:Int)+1)) else a)) (Int.toNat (if(wr ((p0.size:Int)+1))<a then(wr ((p0.size:Int)+1)) else a)))) (ev (vI o2.2.1)) kr l p (bA rfl (zP (f:=(fun x:BA=>Value.string x)) (u:=o2.1) (t:=9) (x:=(.tmp 61)) (y:=(.tmp 60)) kr (ev (.pointer (some ⟨h,Int.toNat o2.2.1,none⟩))) (ev (vT o2.1)) g p rfl kr fun U g=> ?_)));have b:List.length (List.set o2.2.2 (Int.toNat o2.2.1) o2.1)=(Int.toNat (if(wr ((p0.size:Int)+1))<a then(wr ((p0.size:Int)+1)) else a)):=xV l _ _;refine aN (aC (aA 3 [(62,.slice (aP h) (Int.toNat (if(wr ((p0.size:Int)+1))<a then(wr ((p0.size:Int)+1)) else a)) (Int.toNat (if(wr ((p0.size:Int)+1))<a then(wr ((p0.size:Int)+1)) else a))),(64,vI (wr (o2.2.1+1)))] ?_));obtain⟨F,B,g,K⟩:=St.freeze (c:=aH) g b (jP _) (qOb H) (qKi b (fC _)) rfl (fun _ _=>rfl)
   refine aY [(9,.slice (aP h) (List.length (List.set o2.2.2 (Int.toNat o2.2.1) o2.1)) (Int.toNat (if(wr ((p0.size:Int)+1))<a then(wr ((p0.size:Int)+1)) else a))),(10,vI o2.2.1),(62,.slice (aP h) (List.length (List.set o2.2.2 (Int.toNat o2.2.1) o2.1)) (Int.toNat (if(wr ((p0.size:Int)+1))<a then(wr ((p0.size:Int)+1)) else a))),(64,vI (wr (o2.2.1+1)))] (by(try simp only[vS,b]);kernel_rfl) ?_;have⟨s,z,i⟩:=aZ i;refine bA rfl (YO (d:=65) (t:=26) (e:=9) (x:=(.tmp 62)) (lo:=none) (hi:=(some (.tmp 64))) aH kr rfl (ev (.slice (aP h) (List.length (List.set o2.2.2 (Int.toNat o2.2.1) o2.1)) (Int.toNat (if(wr ((p0.size:Int)+1))<a then(wr ((p0.size:Int)+1)) else a)))) kr K (.inl ⟨rfl,rfl⟩) (.inr ⟨_,_,rfl,(ev (vI (wr (o2.2.1+1))))⟩) z ?_);intro n o M;refine aA 1 [(8,vS n s o)] (aU rfl ?_);have g:=g.t;refine aE (aL ?_);obtain rfl:=sI i;exact aO [8] [vS n s o] ⟨n,o,F,rfl,q.t B,g,M⟩
  intro k i l;refine cX _ kr (cW (fun s L' w'=>∃(b:JL),∃z,aJ (GO N p0 p1 p2 a) s b=some k/\L'=[(0,vT b.1),(1,vT p1),(2,vI p2),(3,vI (wr ((if(wr ((p0.size:Int)+1))<a then(wr ((p0.size:Int)+1)) else a)-1))),(9,.slice (aP h) (Int.toNat (if(wr ((p0.size:Int)+1))<a then(wr ((p0.size:Int)+1)) else a)) (Int.toNat (if(wr ((p0.size:Int)+1))<a then(wr ((p0.size:Int)+1)) else a))),(10,vI b.2.1)]/\m.le z/\St z (.blk h (.cells (lB (fun x:BA=>Value.string x) b.2.2 []) 9 (0,0))::O) w'/\List.length b.2.2=(Int.toNat (if(wr ((p0.size:Int)+1))<a then(wr ((p0.size:Int)+1)) else a))) N ⟨(p0,0,l1),v,i,rfl,q,g,R⟩ ?_);rintro s _ w5 ⟨b,z,hL,rfl,q,g,n⟩;rcases s with _|s
  .exact dV hL
  obtain⟨a3,i,F,p⟩:=dX hL;clear hL;unfold GO at i;refine aG (aD 3 [(36,vB (decide (b.2.1<(wr ((if(wr ((p0.size:Int)+1))<a then(wr ((p0.size:Int)+1)) else a)-1)))))] (aI i ?_ ?_))
  .intro A i;refine aM (aE (bD (aS 2 [(37,vT b.1),(38,vT p1)] (aK 39 i (UR g) ?_))));rintro o i _ w6 ⟨U,rfl,M,g⟩;refine aF 1 [(11,vI o)] (aG (aD 2 [(41,vB (decide (o<0)))] (aI i ?_ ?_)))
   .intro A i;refine cQ (bK (xM rfl ?_));have ho:=p _ (sI i);refine bK ?_;exact xE (l _ _ ⟨b,U,ho,rfl,q.t M,g,n⟩)
   intro A i;refine aM (aE (aS 6 [(42,.slice (aP h) (Int.toNat (if(wr ((p0.size:Int)+1))<a then(wr ((p0.size:Int)+1)) else a)) (Int.toNat (if(wr ((p0.size:Int)+1))<a then(wr ((p0.size:Int)+1)) else a))),(43,vI b.2.1),(44,vT b.1),(47,vI (wr (o+p2)))] ?_));have⟨B,Y,i⟩:=aZ i;refine bA rfl (qL (d:=48) (t:=9) (x:=(.tmp 44)) (lo:=none) (hi:=(some (.tmp 47))) kr rfl (ev (vT b.1)) kr (.inl ⟨rfl,rfl⟩) (.inr ⟨_,_,rfl,(ev (vI (wr (o+p2))))⟩) Y ?_);have⟨x1,K,i⟩:=aZ i;refine bA rfl (rI (d:=49) (t:=26) (e:=9) (x:=(.tmp 42)) (y:=(.tmp 43)) kr rfl (ev (.slice (aP h) (Int.toNat (if(wr ((p0.size:Int)+1))<a then(wr ((p0.size:Int)+1)) else a)) (Int.toNat (if(wr ((p0.size:Int)+1))<a then(wr ((p0.size:Int)+1)) else a)))) (ev (vI b.2.1)) kr n K (bA rfl (zP (f:=(fun x:BA=>Value.string x)) (u:=B) (t:=9) (x:=(.tmp 49)) (y:=(.tmp 48)) kr (ev (.pointer (some ⟨h,Int.toNat b.2.1,none⟩))) (ev (vT B)) g K rfl kr fun w7 g=> ?_)));have S:List.length (List.set b.2.2 (Int.toNat b.2.1) B)=(Int.toNat (if(wr ((p0.size:Int)+1))<a then(wr ((p0.size:Int)+1)) else a)):=xV n _ _;refine aN (aC (aA 5 [(50,vT b.1),(54,vI (wr (o+(p1.size:Int))))] ?_));have⟨V,Z,i⟩:=aZ i
   refine bA rfl (qL (d:=55) (t:=9) (x:=(.tmp 50)) (lo:=(some (.tmp 54))) (hi:=none) kr rfl (ev (vT b.1)) kr (.inr ⟨_,_,rfl,(ev (vI (wr (o+(p1.size:Int)))))⟩) (.inl ⟨rfl,rfl⟩) Z (aF 1 [(0,vT V)] (bC (aA 3 [(10,vI (wr (b.2.1+1)))] (aU rfl (bQ ?_))))));have hL:=F _ (sI i);exact xE (cT ⟨(V,wr (b.2.1+1),List.set b.2.2 (Int.toNat b.2.1) B),U,hL,rfl,q.t M,g,S⟩)
  intro A i;refine cQ (bK ?_);have ho:=p _ (sI i);refine bK ?_;exact xE (l _ _ ⟨b,z,ho,rfl,q,g,n⟩)
 intro a i b;refine aI i ?_ ?_
 .intro A i;refine bC (aA 2 [(21,vT p0),(22,vT p1)] (aK 23 i (qHf g) ?_));rintro y1 i _ l ⟨k,rfl,h,g⟩;refine aA 2 [(3,vI (wr (y1+1)))] (aU rfl ?_);cases i;exact xE (b _ _ ⟨k,rfl,q.t h,g⟩)
 intro A i;refine aM ?_;cases i;exact xE (b _ _ ⟨m,rfl,q,g⟩)
def GZ(N:Nat)(p0:BA)(p1:BA):Ta:=
 (KS N p0 p1 0 (-1)).bind fun y1=>some y1
theorem qHg{p0:BA}{p1:BA}{r:T9}(g:St m (O) w)(i:GZ N p0 p1=some r):Calls prog 153 #[vT p0,vT p1] w fun e w'=>∃a b m',e= .returned (vS a r b)/\m.le m'/\St m' (O) w'/\RepS aH m' a b r:=by
 unfold GZ at i;have q:=m.le_refl;refine bG func153 rfl ntmps153 ?_;refine aD 1 [] (aC ?_);refine aA 2 [(5,vT p0),(6,vT p1)] (aK 7 i (qHa g) ?_);rintro y1 i _ l ⟨c,d,h,rfl,f,g,k⟩;refine aF 1 [(4,vS c y1 d)] (aL ?_);obtain rfl:=sI i;exact aO [4] [vS c y1 d] ⟨c,d,h,rfl,q.t f,g,k⟩
def CV(N:Nat)(y1:T9)(b:oB)(a:Int):Td:=
 if(decide (a<(List.length y1:Int)))=true then((idx y1 a).bind fun x1=>(if(decide ((ByteArray.size x1:Int)<1))=true then(some true) else(if(decide ((ByteArray.size x1:Int)>24))=true then(some true) else((uP N x1 0 b ([(1:Int),2,3,4])).bind fun b=>some (b !=(ByteArray.size x1:Int)))):Te).bind fun b=>if b=true then(some (.inr (.inr (false)))) else(some (.inl (IntKind.wrap .i64 (a+1))))) else(some (.inr (.inl ())))
def vZ(N:Nat)(p0:BA):Te:=
 (GZ N p0 (⟨#[47]⟩:BA)).bind fun y1=>(if(decide ((ByteArray.size p0:Int)>80))=true then(some true) else(some (decide ((List.length y1:Int)>8))):Te).bind fun a=>if a=true then(some false) else((zR N).bind fun a=>(aJ (CV N y1 a) N 0).bind fun a=>(match a with| .inl o2=>some true| .inr (z)=>some z))
theorem KX{p0:BA}{r:Bool}(g:St m (O) w)(i:vZ N p0=some r):Calls prog 133 #[vT p0] w fun e w'=>∃m',e= .returned (vB r)/\m.le m'/\St m' (O) w':=by
 unfold vZ at i;have q:=m.le_refl;refine bG func133 rfl ntmps133 ?_;refine aD 1 [] (aC ?_);refine aA 1 [(7,vT p0)] (aK 8 i (qHg g) ?_);rintro y1 i _ w1 ⟨h,k,U,rfl,H,g,a⟩;refine aF 1 [(3,vS h y1 k)] (aG (aC ?_));have⟨o1,i,J⟩:=aZ i;refine wJ (j:=8) (fun L' w'=>∃u,L'=[(3,vS h y1 k),(16,vB o1)]/\m.le u/\St u (O) w'/\RepS aH u h k y1) ?_ ?_
 .have i:=J;rintro _ w2 ⟨u,rfl,q,g,a⟩;refine aN (aI i ?_ ?_)
  .intro A i;refine aD 1 [(2,vB false)] (aL ?_);refine aQ ?_;cases i;exact aO [2] [vB false] ⟨u,rfl,q,g⟩
  intro A i;refine aM (aE (aC (aK 17 i (ON g) ?_)));rintro D i _ w3 ⟨b,f,d,Y,rfl,M,g,c⟩;refine aF 1 [(4,.map b)] (aG (aD 3 [(18,vS h y1 k),(19,vI (y1.length:Int)),(20,vI 0)] (bD ?_)));have⟨x,i,S⟩:=aZ i;refine cZ (.exit 0) (fun L' w'=>∃(o2:Unit),∃v,(.inl o2)=x/\L'=[]/\m.le v/\St v (eH b f d::O) w'/\MapQ (fun n:Int=>Value.int .u8 n) (aT .i64) false v b f d D) ?_ ?_
  .rintro _ l ⟨o2,v,rfl,rfl,q,g,c⟩;have i:=S;refine dW (aE (aD 1 [(2,vB true)] (aL ?_)));cases i;exact aO [2] [vB true] ⟨v,rfl,q,g.t⟩
  intro y;refine cX _ kr (cW (fun B L' w'=>∃(p:Int),∃l,aJ (CV N y1 D) B p=some x/\L'=[(4,.map b),(18,vS h y1 k),(19,vI (y1.length:Int)),(20,vI p)]/\m.le l/\St l (eH b f d::O) w'/\RepS aH l h k y1/\MapQ (fun n:Int=>Value.int .u8 n) (aT .i64) false l b f d D) N ⟨0,Y,i,rfl,q.t M,g,a.mono M,c⟩ ?_);rintro B _ w5 ⟨p,l,hL,rfl,q,g,a,c⟩;rcases B with _|B
  .exact dV hL
  obtain⟨a4,i,F,s⟩:=dX hL;clear hL;unfold CV at i;refine aD 1 [(21,vB (decide (p<(y1.length:Int))))] (aG ?_);refine aI i ?_ ?_
  .intro A i;refine aM (aE (aG (bD (aC (iK 22 a i ?_)))));rintro x1 i b1 V a3 rfl R;refine iO 23 9 22 V (vT x1) g R (aF 1 [(6,vT x1)] (aC (eM 17 i (fun G L' w'=>∃o,L'=[(4,.map b),(18,vS h y1 k),(19,vI (y1.length:Int)),(20,vI p),(40,vB G)]/\m.le o/\St o (eH b f d::O) w'/\RepS aH o h k y1/\MapQ (fun n:Int=>Value.int .u8 n) (aT .i64) false o b f d D) ?_ ?_)))
   .rintro G i _ z ⟨o,rfl,q,g,a,c⟩;refine aN (aI i ?_ ?_)
    .intro A i;refine aD 1 [(2,vB false)] (aL ?_);refine bH (aQ ?_);have ho:=s _ (sI i);subst ho;have i:=S;refine aQ (bH (aQ ?_));cases i;exact aO [2] [vB false] ⟨o,rfl,q,g.t⟩
    intro A i;refine aM (bQ (aE (bC (aA 2 [(20,vI (wr (p+1)))] (aU rfl ?_)))));have hL:=F _ (sI i);exact xE (cT ⟨wr (p+1),o,hL,rfl,q,g,a,c⟩)
   intro G i K;refine aA 4 [(27,vB (decide ((x1.size:Int)<1)))] (bN 27 i ?_ ?_)
   .intro A i;refine aA 13 [(40,vB true)] ?_;cases i;exact aY _ kr (K _ _ ⟨l,rfl,q,g,a,c⟩)
   intro A i;refine aA 5 [(32,vB (decide ((x1.size:Int)>24)))] (bN 32 i ?_ ?_)
   .intro A i;refine aA 8 [(40,vB true)] ?_;cases i;exact aY _ kr (K _ _ ⟨l,rfl,q,g,a,c⟩)
   intro A i;refine aA 2 [(33,vT x1),(34,.map b)] (iN 35 3 4 (aT .i64) [(1:Int),2,3,4] g fun b2 m7 w7 z g r3=>(aK 36 i (GX g.f1 (c.mono z) r3) ?_));rintro y3 i _ w8 ⟨Z,rfl,E,g⟩;refine aA 4 [(40,vB (y3 !=(x1.size:Int)))] ?_;cases i;exact aY _ kr (K _ _ ⟨Z,rfl,(q.t z).t E,g.f1.t,(a.mono z).mono E,(c.mono z).mono E⟩)
  intro A i;refine cQ (bK ?_);have ho:=s _ (sI i);refine bK ?_;exact xE (y _ _ ⟨(),l,ho,rfl,q,g,c⟩)
 intro K;refine aA 4 [(12,vB (decide ((p0.size:Int)>80)))] (bN 12 i ?_ ?_)
 .intro A i;refine aA 4 [(16,vB true)] ?_;cases i;exact aY _ kr (K _ _ ⟨U,rfl,q.t H,g,a⟩)
 intro A i;refine aA 4 [(16,vB (decide ((y1.length:Int)>8)))] ?_;cases i;exact aY _ kr (K _ _ ⟨U,rfl,q.t H,g,a⟩)
def DD(N:Nat)(p0:Tq)(p1:Int):Te:=
 if(p0.1==1)=true then((if(p0.2.2.2.1.toList==(⟨#[]⟩:BA).toList)=true then(if(p0.2.2.1==0)=true then(if((List.length p0.2.2.2.2:Int)==0)=true then(if(decide (p0.2.1>=(-9007199254740992)))=true then(some (decide (p0.2.1<=9007199254740992))) else(some false)) else(some false)) else(some false)) else(some false):Te).bind fun a=>some a) else(if(p0.1==2)=true then((if(p0.2.2.2.1.toList==(⟨#[]⟩:BA).toList)=true then(if(p0.2.2.1==0)=true then(if((List.length p0.2.2.2.2:Int)==0)=true then(if(decide (p0.2.1>=0))=true then(some (decide (p0.2.1<p1))) else(some false)) else(some false)) else(some false)) else(some false):Te).bind fun o2=>some o2) else(if(p0.1==3)=true then((if(p0.2.1==0)=true then(if(p0.2.2.1==0)=true then((uN N p0.2.2.2.1).bind fun y1=>some y1) else(some false)) else(some false):Te).bind fun a=>some a) else(if(p0.1==4)=true then((if(p0.2.1==0)=true then(if(p0.2.2.2.1.toList==(⟨#[]⟩:BA).toList)=true then(if((List.length p0.2.2.2.2:Int)==2)=true then(if(decide (p0.2.2.1>=1))=true then(some (decide (p0.2.2.1<=7))) else(some false)) else(some false)) else(some false)) else(some false):Te).bind fun o4=>some o4) else(if(p0.1==5)=true then((if(p0.2.1==0)=true then(if(p0.2.2.2.1.toList==(⟨#[]⟩:BA).toList)=true then(if(p0.2.2.1==0)=true then(some ((List.length p0.2.2.2.2:Int)==3)) else(some false)) else(some false)) else(some false):Te).bind fun a=>some a) else(if(p0.1==6)=true then((if(p0.2.1==0)=true then(if(p0.2.2.1==0)=true then(if((List.length p0.2.2.2.2:Int)==1)=true then((vZ N p0.2.2.2.1).bind fun a=>some a) else(some false)) else(some false)) else(some false):Te).bind fun a=>some a) else((if(p0.1==7)=true then(some (p0.1==7)) else(some (p0.1==8)):Te).bind fun a=>if a=true then((if(p0.2.1==0)=true then(if(p0.2.2.1==0)=true then(if((List.length p0.2.2.2.2:Int)==0)=true then((vZ N p0.2.2.2.1).bind fun a=>some a) else(some false)) else(some false)) else(some false):Te).bind fun a=>some a) else(if(p0.1==9)=true then((if(p0.2.1==0)=true then(if(p0.2.2.1==0)=true then(if((List.length p0.2.2.2.2:Int)==0)=true then((zX N p0.2.2.2.1).bind fun a=>some a) else(some false)) else(some false)) else(some false):Te).bind fun a=>some a) else(if(p0.1==10)=true then((if(p0.2.2.2.1.toList==(⟨#[]⟩:BA).toList)=true then(if(p0.2.2.1==0)=true then(if((List.length p0.2.2.2.2:Int)==0)=true then(if(decide (p0.2.1>=0))=true then(some (decide (p0.2.1<64))) else(some false)) else(some false)) else(some false)) else(some false):Te).bind fun a=>some a) else(some false)))))))))
theorem qHx{p0:Tq}{p1:Int}{r:Bool}(g:St m (O) w)(s:RepS (aT .i64) m a1 c1 p0.2.2.2.2)(i:DD N p0 p1=some r):Calls prog 134 #[.agg (V8 p0 a1 c1),vI p1] w fun e w'=>∃m',e= .returned (vB r)/\m.le m'/\St m' (O) w':=by
 unfold DD at i;have q:=m.le_refl;refine bG func134 rfl ntmps134 ?_;refine aC (mJ 2 61 (.agg (V8 p0 a1 c1)) g fun d b B l g a=> ?_);have q:=q.t l;refine aF 1 [] (aG (iF [(8,fun w'=>Inv b w'/\True)] kr g fun D _ g=> ?_));have n:=b.le_refl;refine tA g n ?_;refine aR 0 9 (vP d 4) (.head _) (lU 22 9 1 10 4 (vS a1 p0.2.2.2.2 c1) (.head _) (fun _ h=>h.1) (a.drop 4) (aR 2 11 (vI (p0.2.2.2.2.length:Int)) (.head _) (aR 3 12 (vP d 1) (.head _) (lU 3 12 4 13 1 (vI p0.2.1) (.head _) (fun _ h=>h.1) (a.drop 1) (aR 5 14 (vB (p0.2.1==0)) (.head _) (aR 6 5 (vI (p0.2.2.2.2.length:Int)) (.head _) (aR 7 6 (vB (p0.2.1==0)) (.head _) (eW kr (aE (aG (iF [(8,fun w'=>Inv b w'/\True)] kr g fun E _ g=> ?_)))))))))));have o:=b.le_refl;refine tA g o ?_;refine aR 0 15 (vP d 3) (.head _) (lU 9 15 1 16 3 (vT p0.2.2.2.1) (.head _) (fun _ h=>h.1) (a.drop 3) (aR 2 17 (vB (p0.2.2.2.1.toList==eB.toList)) (.head _) (aR 3 18 (vP d 2) (.head _) (lU 3 18 4 19 2 (vI p0.2.2.1) (.head _) (fun _ h=>h.1) (a.drop 2) (aR 5 20 (vB (p0.2.2.1==0)) (.head _) (aR 6 7 (vB (p0.2.2.2.1.toList==eB.toList)) (.head _) (aR 7 8 (vB (p0.2.2.1==0)) (.head _) (eW kr (aE (aG (aS 1 [(21,vP d 0)] (cI 22 (vI p0.1) g a (aN (bD (aD 2 [(23,vB (p0.1==1))] (aI i ?_ ?_))))))))))))))))
 .intro A i;refine aC (eM 19 i (fun f L' w'=>∃c,L'=[(4,vB f)]/\m.le c/\St c (O) w') ?_ ?_)
  .rintro f i _ k ⟨c,rfl,q,g⟩;refine aN (aL (bH (aQ ?_)));obtain rfl:=sI i;exact aO [4] [vB f] ⟨c,rfl,q,g⟩
  intro f i K;refine aA 2 [(26,vB (p0.2.2.2.1.toList==eB.toList))] (bN 26 i ?_ ?_)
  .intro A i;refine aA 3 [(29,vB (p0.2.2.1==0))] (bN 29 i ?_ ?_)
   .intro A i;refine aA 4 [(33,vB ((p0.2.2.2.2.length:Int)==0))] (bN 33 i ?_ ?_)
    .intro A i;refine aA 1 [(34,vP d 1)] (cI 35 (vI p0.2.1) g (a.drop 1) (aA 3 [(38,vB (decide (p0.2.1>=(-9007199254740992))))] (bN 38 i ?_ ?_)))
     .intro A i;refine aA 1 [(39,vP d 1)] (cI 40 (vI p0.2.1) g (a.drop 1) (aA 3 [(4,vB (decide (p0.2.1<=9007199254740992)))] ?_));cases i;exact aY _ kr (K _ _ ⟨b,rfl,q,g⟩)
     intro A i;refine aA 5 [(4,vB false)] ?_;cases i;exact aY _ kr (K _ _ ⟨b,rfl,q,g⟩)
    intro A i;refine aA 10 [(4,vB false)] ?_;cases i;exact aY _ kr (K _ _ ⟨b,rfl,q,g⟩)
   intro A i;refine aA 14 [(4,vB false)] ?_;cases i;exact aY _ kr (K _ _ ⟨b,rfl,q,g⟩)
  intro A i;refine aA 17 [(4,vB false)] ?_;cases i;exact aY _ kr (K _ _ ⟨b,rfl,q,g⟩)
 intro A i;refine aD 2 [(43,vB (p0.1==2))] (aI i ?_ ?_)
 .intro A i;refine aC (eM 20 i (fun o2 L' w'=>∃c,L'=[(4,vB o2)]/\m.le c/\St c (O) w') ?_ ?_)
  .rintro o2 i _ f ⟨c,rfl,q,g⟩;refine aN (aL (bH (aQ ?_)));obtain rfl:=sI i;exact aO [4] [vB o2] ⟨c,rfl,q,g⟩
  intro o2 i K;refine aA 2 [(46,vB (p0.2.2.2.1.toList==eB.toList))] (bN 46 i ?_ ?_)
  .intro A i;refine aA 3 [(49,vB (p0.2.2.1==0))] (bN 49 i ?_ ?_)
   .intro A i;refine aA 4 [(53,vB ((p0.2.2.2.2.length:Int)==0))] (bN 53 i ?_ ?_)
    .intro A i;refine aA 1 [(54,vP d 1)] (cI 55 (vI p0.2.1) g (a.drop 1) (aA 3 [(58,vB (decide (p0.2.1>=0)))] (bN 58 i ?_ ?_)))
     .intro A i;refine aA 1 [(59,vP d 1)] (cI 60 (vI p0.2.1) g (a.drop 1) (aA 4 [(4,vB (decide (p0.2.1<p1)))] ?_));cases i;exact aY _ kr (K _ _ ⟨b,rfl,q,g⟩)
     intro A i;refine aA 6 [(4,vB false)] ?_;cases i;exact aY _ kr (K _ _ ⟨b,rfl,q,g⟩)
    intro A i;refine aA 11 [(4,vB false)] ?_;cases i;exact aY _ kr (K _ _ ⟨b,rfl,q,g⟩)
   intro A i;refine aA 15 [(4,vB false)] ?_;cases i;exact aY _ kr (K _ _ ⟨b,rfl,q,g⟩)
  intro A i;refine aA 18 [(4,vB false)] ?_;cases i;exact aY _ kr (K _ _ ⟨b,rfl,q,g⟩)
 intro A i;refine aD 2 [(64,vB (p0.1==3))] (aI i ?_ ?_)
 .intro A i;refine aC (eM 10 i (fun f L' w'=>∃c,L'=[(4,vB f)]/\m.le c/\St c (O) w') ?_ ?_)
  .rintro f i _ k ⟨c,rfl,q,g⟩;refine aN (aL (bH (aQ ?_)));obtain rfl:=sI i;exact aO [4] [vB f] ⟨c,rfl,q,g⟩
  intro f i K;refine aA 2 [(67,vB (p0.2.1==0))] (bN 67 i ?_ ?_)
  .intro A i;refine aA 3 [(70,vB (p0.2.2.1==0))] (bN 70 i ?_ ?_)
   .intro A i;refine aA 1 [(71,vP d 3)] (cI 72 (vT p0.2.2.2.1) g (a.drop 3) (aK 73 i (GW g) ?_));rintro y1 i _ u ⟨p,rfl,k,g⟩;refine aA 2 [(4,vB y1)] ?_;cases i;exact aY _ kr (K _ _ ⟨p,rfl,q.t k,g⟩)
   intro A i;refine aA 5 [(4,vB false)] ?_;cases i;exact aY _ kr (K _ _ ⟨b,rfl,q,g⟩)
  intro A i;refine aA 8 [(4,vB false)] ?_;cases i;exact aY _ kr (K _ _ ⟨b,rfl,q,g⟩)
 intro A i;refine aD 2 [(75,vB (p0.1==4))] (aI i ?_ ?_)
 .intro A i;refine aC (eM 19 i (fun o4 L' w'=>∃c,L'=[(4,vB o4)]/\m.le c/\St c (O) w') ?_ ?_)
  .rintro o4 i _ f ⟨c,rfl,q,g⟩;refine aN (aL (bH (aQ ?_)));obtain rfl:=sI i;exact aO [4] [vB o4] ⟨c,rfl,q,g⟩
  intro o4 i K;refine aA 2 [(78,vB (p0.2.1==0))] (bN 78 i ?_ ?_)
  .intro A i;refine aA 3 [(81,vB (p0.2.2.2.1.toList==eB.toList))] (bN 81 i ?_ ?_)
   .intro A i;refine aA 4 [(85,vB ((p0.2.2.2.2.length:Int)==2))] (bN 85 i ?_ ?_)
    .intro A i;refine aA 1 [(86,vP d 2)] (cI 87 (vI p0.2.2.1) g (a.drop 2) (aA 3 [(90,vB (decide (p0.2.2.1>=1)))] (bN 90 i ?_ ?_)))
     .intro A i;refine aA 1 [(91,vP d 2)] (cI 92 (vI p0.2.2.1) g (a.drop 2) (aA 3 [(4,vB (decide (p0.2.2.1<=7)))] ?_));cases i;exact aY _ kr (K _ _ ⟨b,rfl,q,g⟩)
     intro A i;refine aA 5 [(4,vB false)] ?_;cases i;exact aY _ kr (K _ _ ⟨b,rfl,q,g⟩)
    intro A i;refine aA 10 [(4,vB false)] ?_;cases i;exact aY _ kr (K _ _ ⟨b,rfl,q,g⟩)
   intro A i;refine aA 14 [(4,vB false)] ?_;cases i;exact aY _ kr (K _ _ ⟨b,rfl,q,g⟩)
  intro A i;refine aA 17 [(4,vB false)] ?_;cases i;exact aY _ kr (K _ _ ⟨b,rfl,q,g⟩)
 intro A i;refine aD 2 [(95,vB (p0.1==5))] (aI i ?_ ?_)
 .intro A i;refine aC (eM 12 i (fun f L' w'=>∃c,L'=[(4,vB f)]/\m.le c/\St c (O) w') ?_ ?_)
  .rintro f i _ k ⟨c,rfl,q,g⟩;refine aN (aL (bH (aQ ?_)));obtain rfl:=sI i;exact aO [4] [vB f] ⟨c,rfl,q,g⟩
  intro f i K;refine aA 2 [(98,vB (p0.2.1==0))] (bN 98 i ?_ ?_)
  .intro A i;refine aA 3 [(101,vB (p0.2.2.2.1.toList==eB.toList))] (bN 101 i ?_ ?_)
   .intro A i;refine aA 3 [(104,vB (p0.2.2.1==0))] (bN 104 i ?_ ?_)
    .intro A i;refine aA 4 [(4,vB ((p0.2.2.2.2.length:Int)==3))] ?_;cases i;exact aY _ kr (K _ _ ⟨b,rfl,q,g⟩)
    intro A i;refine aA 4 [(4,vB false)] ?_;cases i;exact aY _ kr (K _ _ ⟨b,rfl,q,g⟩)
   intro A i;refine aA 7 [(4,vB false)] ?_;cases i;exact aY _ kr (K _ _ ⟨b,rfl,q,g⟩)
  intro A i;refine aA 10 [(4,vB false)] ?_;cases i;exact aY _ kr (K _ _ ⟨b,rfl,q,g⟩)
 intro A i;refine aD 2 [(108,vB (p0.1==6))] (aI i ?_ ?_)
 .intro A i;refine aC (eM 14 i (fun f L' w'=>∃c,L'=[(4,vB f)]/\m.le c/\St c (O) w') ?_ ?_)
  .rintro f i _ k ⟨c,rfl,q,g⟩;refine aN (aL (bH (aQ ?_)));obtain rfl:=sI i;exact aO [4] [vB f] ⟨c,rfl,q,g⟩
  intro f i K;refine aA 2 [(111,vB (p0.2.1==0))] (bN 111 i ?_ ?_)
  .intro A i;refine aA 3 [(114,vB (p0.2.2.1==0))] (bN 114 i ?_ ?_)
   .intro A i;refine aA 4 [(118,vB ((p0.2.2.2.2.length:Int)==1))] (bN 118 i ?_ ?_)
    .intro A i;refine aA 1 [(119,vP d 3)] (cI 120 (vT p0.2.2.2.1) g (a.drop 3) (aK 121 i (KX g) ?_));rintro u i _ v ⟨p,rfl,k,g⟩;refine aA 2 [(4,vB u)] ?_;cases i;exact aY _ kr (K _ _ ⟨p,rfl,q.t k,g⟩)
    intro A i;refine aA 5 [(4,vB false)] ?_;cases i;exact aY _ kr (K _ _ ⟨b,rfl,q,g⟩)
   intro A i;refine aA 9 [(4,vB false)] ?_;cases i;exact aY _ kr (K _ _ ⟨b,rfl,q,g⟩)
  intro A i;refine aA 12 [(4,vB false)] ?_;cases i;exact aY _ kr (K _ _ ⟨b,rfl,q,g⟩)
 intro A i;refine aG (aD 2 [(123,vB (p0.1==7))] (cJ .normal i (fun p L' w'=>∃c,L'=[(2,vP d 0),(5,vI (p0.2.2.2.2.length:Int)),(6,vB (p0.2.1==0)),(7,vB (p0.2.2.2.1.toList==eB.toList)),(8,vB (p0.2.2.1==0)),(22,vI p0.1),(123,vB p)]/\m.le c/\St c (O) w'/\MRow c d 0 (V9 p0 a1 c1)/\RepS (aT .i64) c a1 c1 p0.2.2.2.2) ?_ ?_))
 .rintro p i _ y ⟨c,rfl,q,g,a,s⟩;refine aE (aI i ?_ ?_)
  .intro A i;refine aC (eM 14 i (fun k L' w'=>∃f,L'=[(4,vB k)]/\m.le f/\St f (O) w') ?_ ?_)
   .rintro k i _ u ⟨f,rfl,q,g⟩;refine aN (aL (bH (aQ ?_)));obtain rfl:=sI i;exact aO [4] [vB k] ⟨f,rfl,q,g⟩
   intro k i K;refine aA 2 [(127,vB (p0.2.1==0))] (bN 127 i ?_ ?_)
   .intro A i;refine aA 3 [(130,vB (p0.2.2.1==0))] (bN 130 i ?_ ?_)
    .intro A i;refine aA 4 [(134,vB ((p0.2.2.2.2.length:Int)==0))] (bN 134 i ?_ ?_)
     .intro A i;refine aA 1 [(135,vP d 3)] (cI 136 (vT p0.2.2.2.1) g (a.drop 3) (aK 137 i (KX g) ?_));rintro x i _ z ⟨u,rfl,v,g⟩;refine aA 2 [(4,vB x)] ?_;cases i;exact aY _ kr (K _ _ ⟨u,rfl,q.t v,g⟩)
     intro A i;refine aA 5 [(4,vB false)] ?_;cases i;exact aY _ kr (K _ _ ⟨c,rfl,q,g⟩)
    intro A i;refine aA 9 [(4,vB false)] ?_;cases i;exact aY _ kr (K _ _ ⟨c,rfl,q,g⟩)
   intro A i;refine aA 12 [(4,vB false)] ?_;cases i;exact aY _ kr (K _ _ ⟨c,rfl,q,g⟩)
  intro A i;refine aD 2 [(139,vB (p0.1==9))] (aI i ?_ ?_)
  .intro A i;refine aC (eM 14 i (fun k L' w'=>∃f,L'=[(4,vB k)]/\m.le f/\St f (O) w') ?_ ?_)
   .rintro k i _ u ⟨f,rfl,q,g⟩;refine aN (aL (bH (aQ ?_)));obtain rfl:=sI i;exact aO [4] [vB k] ⟨f,rfl,q,g⟩
   intro k i K;refine aA 2 [(142,vB (p0.2.1==0))] (bN 142 i ?_ ?_)
   .intro A i;refine aA 3 [(145,vB (p0.2.2.1==0))] (bN 145 i ?_ ?_)
    .intro A i;refine aA 4 [(149,vB ((p0.2.2.2.2.length:Int)==0))] (bN 149 i ?_ ?_)
     .intro A i;refine aA 1 [(150,vP d 3)] (cI 151 (vT p0.2.2.2.1) g (a.drop 3) (aK 152 i (OO g) ?_));rintro x i _ z ⟨u,rfl,v,g⟩;refine aA 2 [(4,vB x)] ?_;cases i;exact aY _ kr (K _ _ ⟨u,rfl,q.t v,g⟩)
     intro A i;refine aA 5 [(4,vB false)] ?_;cases i;exact aY _ kr (K _ _ ⟨c,rfl,q,g⟩)
    intro A i;refine aA 9 [(4,vB false)] ?_;cases i;exact aY _ kr (K _ _ ⟨c,rfl,q,g⟩)
   intro A i;refine aA 12 [(4,vB false)] ?_;cases i;exact aY _ kr (K _ _ ⟨c,rfl,q,g⟩)
  intro A i;refine aD 2 [(154,vB (p0.1==10))] (aI i ?_ ?_)
  .intro A i;refine aC (eM 19 i (fun k L' w'=>∃f,L'=[(4,vB k)]/\m.le f/\St f (O) w') ?_ ?_)
   .rintro k i _ u ⟨f,rfl,q,g⟩;refine aN (aL (bH (aQ ?_)));obtain rfl:=sI i;exact aO [4] [vB k] ⟨f,rfl,q,g⟩
   intro k i K;refine aA 2 [(157,vB (p0.2.2.2.1.toList==eB.toList))] (bN 157 i ?_ ?_)
   .intro A i;refine aA 3 [(160,vB (p0.2.2.1==0))] (bN 160 i ?_ ?_)
    .intro A i;refine aA 4 [(164,vB ((p0.2.2.2.2.length:Int)==0))] (bN 164 i ?_ ?_)
     .intro A i;refine aA 1 [(165,vP d 1)] (cI 166 (vI p0.2.1) g (a.drop 1) (aA 3 [(169,vB (decide (p0.2.1>=0)))] (bN 169 i ?_ ?_)))
      .intro A i;refine aA 1 [(170,vP d 1)] (cI 171 (vI p0.2.1) g (a.drop 1) (aA 3 [(4,vB (decide (p0.2.1<64)))] ?_));cases i;exact aY _ kr (K _ _ ⟨c,rfl,q,g⟩)
      intro A i;refine aA 5 [(4,vB false)] ?_;cases i;exact aY _ kr (K _ _ ⟨c,rfl,q,g⟩)
     intro A i;refine aA 10 [(4,vB false)] ?_;cases i;exact aY _ kr (K _ _ ⟨c,rfl,q,g⟩)
    intro A i;refine aA 14 [(4,vB false)] ?_;cases i;exact aY _ kr (K _ _ ⟨c,rfl,q,g⟩)
   intro A i;refine aA 17 [(4,vB false)] ?_;cases i;exact aY _ kr (K _ _ ⟨c,rfl,q,g⟩)
  intro A i;refine aM (bQ (aE (aD 1 [(4,vB false)] (aL ?_))));cases i;exact aO [4] [vB false] ⟨c,rfl,q,g⟩
 intro p i f;refine aI i ?_ ?_
 .intro A i;refine aM ?_;cases i;exact xE (f _ _ ⟨b,rfl,q,g,a,s.mono l⟩)
 intro A i;refine bC (aA 2 [(123,vB (p0.1==8))] (aU rfl ?_));cases i;exact xE (f _ _ ⟨b,rfl,q,g,a,s.mono l⟩)
def zF(N:Nat)(p0:Ty)(a:Int):Td:=
 if(decide (a<(List.length p0.2.2.1:Int)))=true then((idx p0.2.2.1 a).bind fun x1=>(if(p0.1 !=1)=true then(some true) else((uN N x1).bind fun b=>some (!b)):Te).bind fun o4=>if o4=true then(some (.inr (.inr (false)))) else(some (.inl (IntKind.wrap .i64 (a+1))))) else(some (.inr (.inl ())))
def CI(N:Nat)(b:rV)(c:Tq)(a:rV):Option (rV⊕T6⊕Bool):=
 if(decide (a.1>=0))=true then(((idx c.2.2.2.2 a.1).bind fun d=>(idx a.2 b.1).bind fun x5=>if(d !=(IntKind.wrap .i64 (x5-1)))=true then(some true) else((idx c.2.2.2.2 a.1).bind fun d=>some (decide (d<0))):Te).bind fun d=>if d=true then(some (.inr (.inr (false)))) else((idx c.2.2.2.2 a.1).bind fun c=>(idx a.2 c).bind fun c=>(idx a.2 b.1).bind fun d=>some (.inl (IntKind.wrap .i64 (a.1-1),List.set a.2 (Int.toNat b.1) c)))) else(some (.inr (.inl a.2)))
def xK(N:Nat)(p0:Ty)(a:rV):Option (rV⊕T6⊕Bool):=
 if(decide (a.1<(List.length p0.2.2.2:Int)))=true then((idx p0.2.2.2 a.1).bind fun b=>(DD N b (List.length p0.2.2.1:Int)).bind fun c=>if(!c)=true then(some (.inr (.inr (false)))) else((idx a.2 a.1).bind fun c=>(aJ (CI N a b) N (IntKind.wrap .i64 ((List.length b.2.2.2.2:Int)-1),List.set a.2 (Int.toNat a.1) a.1)).bind fun b=>(match b with| .inl b=>some (.inl (IntKind.wrap .i64 (a.1+1),b))| .inr (z)=>some (.inr (.inr (z)))))) else(some (.inr (.inl a.2)))
def CQ(N:Nat)(p0:Ty):Te:=
 ((if(p0.1==1)=true then(some (p0.1==1)) else(some (p0.1==2)):Te).bind fun o2=>if o2=true then((uN N p0.2.1).bind fun y1=>if(!y1)=true then(some (.inr false)) else(some (.inl ()))) else(if(p0.1==3)=true then((vZ N p0.2.1).bind fun a=>if(!a)=true then(some (.inr false)) else(some (.inl ()))) else(some (.inr false))):Option (Unit⊕Bool)).bind fun a=>(match a with| .inl a=>(aJ (zF N p0) N 0).bind fun a=>(match a with| .inl a=>(sE 8 0 (List.length p0.2.2.2:Int)).bind fun a=>(aJ (xK N p0) N (0,a)).bind fun a=>(match a with| .inl a=>(if(decide ((List.length p0.2.2.2:Int)>0))=true then((idx a (IntKind.wrap .i64 ((List.length p0.2.2.2:Int)-1))).bind fun a=>some (a==0)) else(some false):Te).bind fun a=>some a| .inr (z)=>some z)| .inr (z)=>some z)| .inr z=>some z)
theorem qHd{p0:Ty}{r:Bool}(g:St m (O) w)(l:RepS aH m a1 c1 p0.2.2.1)(n:RepS C3 m a2 c2 p0.2.2.2)(i:CQ N p0=some r):Calls prog 96 #[.agg (V7 p0 a1 c1 a2 c2)] w fun e w'=>∃m',e= .returned (vB r)/\m.le m'/\St m' (O) w':=by
 unfold CQ at i;have q:=m.le_refl;refine bG func96 rfl ntmps96 ?_;refine aC (mJ 1 43 (.agg (V7 p0 a1 c1 a2 c2)) g fun k m1 w1 V g a=>(aF 1 [] (aG (aS 1 [(9,vP k 0)] (cI 10 (vI p0.1) g a (aN ?_))))));have⟨d3,i,j1⟩:=aZ i;refine cZ .normal (fun L' w'=>∃(o1:Unit),∃Z,(.inl o1:Unit⊕Bool)=d3/\L'=[(1,vP k 0)]/\m.le Z/\St Z (O) w'/\MRow Z k 0 (Va p0 a1 c1 a2 c2)/\P2 Z a1 c1 a2 c2 p0.2.2) ?_ ?_
 .rintro _ w2 ⟨o1,Z,rfl,rfl,q,g,a,l,n⟩;have i:=j1;refine aE (aG (aS 1 [(24,vP k 2)] (cI 25 (vS a1 p0.2.2.1 c1) g (a.drop 2) (aF 2 [(26,vI (p0.2.2.1.length:Int)),(27,vI 0)] (bD ?_)))));have⟨a6,i,j3⟩:=aZ i;refine cZ (.exit 1) (fun L' w'=>∃(o3:Unit),∃m6,(.inl o3)=a6/\L'=[(1,vP k 0)]/\m.le m6/\St m6 (O) w'/\MRow m6 k 0 (Va p0 a1 c1 a2 c2)/\P2 m6 a1 c1 a2 c2 p0.2.2) ?_ ?_
  .rintro _ w6 ⟨o3,m6,rfl,rfl,q,g,a,l,n⟩;have i:=j3;refine dW (aE (aS 1 [(40,vP k 3)] (cI 41 (vS a2 p0.2.2.2 c2) g (a.drop 3) (aA 1 [(42,vI (p0.2.2.2.length:Int))] ?_))));have⟨l1,d5,i⟩:=aZ i;refine bA rfl (OY (d:=43) (t:=22) (e:=3) (by_:=8) (x:=(.tmp 42)) (y:=(.tmp 42)) (fun x:Int=>Value.int .i64 x) kr rfl (ev (vI (p0.2.2.2.length:Int))) (ev (vI (p0.2.2.2.length:Int))) kr kr rfl g d5 fun o e7 c8 g=>(aF 1 [(5,.slice (aP o) (Int.toNat (p0.2.2.2.length:Int)) (Int.toNat (p0.2.2.2.length:Int)))] (aG (aS 1 [(44,vP k 3)] (cI 45 (vS a2 p0.2.2.2 c2) g (a.drop 3) (aF 2 [(46,vI (p0.2.2.2.length:Int)),(47,vI 0)] (bD ?_)))))));have⟨a7,i,j5⟩:=aZ i;refine cZ (.exit 3) (fun L' w'=>∃(o5:T6),∃G,(.inl o5)=a7/\L'=[(1,vP k 0),(5,.slice (aP o) (Int.toNat (p0.2.2.2.length:Int)) (Int.toNat (p0.2.2.2.length:Int)))]/\m.le G/\St G (.blk o (.cells (lB (fun x:Int=>Value.int .i64 x) o5 []) 3 (0,0))::O) w'/\MRow G k 0 (Va p0 a1 c1 a2 c2)/\RepS aH G a1 c1 p0.2.2.1/\RepS C3 G a2 c2 p0.2.2.2/\List.length o5=(Int.toNat (p0.2.2.2.length:Int))) ?_ ?_
   .rintro _ B ⟨o5,G,rfl,rfl,q,g,a,l,n,c⟩;have i:=j5;refine dW (aE (aC (eM 15 i (fun s L' w'=>∃p,L'=[(2,vB s)]/\m.le p/\St p (.blk o (.cells (lB (fun x:Int=>Value.int .i64 x) o5 []) 3 (0,0))::O) w'/\List.length o5=(Int.toNat (p0.2.2.2.length:Int))) ?_ ?_)))
    .rintro s i _ v ⟨p,rfl,q,g,c⟩;refine aN (aL ?_);obtain rfl:=sI i;exact aO [2] [vB s] ⟨p,rfl,q,g.t⟩
    intro s i K;refine aA 1 [(101,vP k 3)] (cI 102 (vS a2 p0.2.2.2 c2) g (a.drop 3) (aA 3 [(105,vB (decide ((p0.2.2.2.length:Int)>0)))] (bN 105 i ?_ ?_)))
    .intro A i;refine aA 2 [(106,.slice (aP o) (Int.toNat (p0.2.2.2.length:Int)) (Int.toNat (p0.2.2.2.length:Int))),(107,vP k 3)] (cI 108 (vS a2 p0.2.2.2 c2) g (a.drop 3) (aA 2 [(110,vI (wr ((p0.2.2.2.length:Int)-1)))] ?_));have⟨z,v,i⟩:=aZ i;refine bA rfl (rI (d:=111) (t:=22) (e:=3) (x:=(.tmp 106)) (y:=(.tmp 110)) kr rfl (ev (.slice (aP o) (Int.toNat (p0.2.2.2.length:Int)) (Int.toNat (p0.2.2.2.length:Int)))) (ev (vI (wr ((p0.2.2.2.length:Int)-1)))) kr c v (bA rfl (zS (d:=112) (t:=3) (x:=(.tmp 111)) kr rfl (ev (.pointer (some ⟨o,Int.toNat (wr ((p0.2.2.2.length:Int)-1)),none⟩))) g.h v kr (aA 3 [(2,vB (z==0))] ?_))));cases i;exact aY _ kr (K _ _ ⟨G,rfl,q,g,c⟩)
    intro A i;refine aA 10 [(2,vB false)] ?_;cases i;exact aY _ kr (K _ _ ⟨G,rfl,q,g,c⟩)
   intro a9;refine cX _ kr (cW (fun k2 L' w'=>∃(c:rV),∃R,aJ (xK N p0) k2 c=some a7/\L'=[(1,vP k 0),(5,.slice (aP o) (Int.toNat (p0.2.2.2.length:Int)) (Int.toNat (p0.2.2.2.length:Int))),(45,vS a2 p0.2.2.2 c2),(46,vI (p0.2.2.2.length:Int)),(47,vI c.1)]/\m.le R/\St R (.blk o (.cells (lB (fun x:Int=>Value.int .i64 x) c.2 []) 3 (0,0))::O) w'/\MRow R k 0 (Va p0 a1 c1 a2 c2)/\RepS aH R a1 c1 p0.2.2.1/\RepS C3 R a2 c2 p0.2.2.2/\List.length c.2=(Int.toNat (p0.2.2.2.length:Int))) N ⟨(0,l1),m6,i,rfl,q,g,a,l,n,c8⟩ ?_);rintro k2 _ e8 ⟨c,R,hL,rfl,q,g,a,l,n,a5⟩;rcases k2 with _|k2
   .exact dV hL
   obtain⟨e0,i,c6,U⟩:=dX hL;clear hL;unfold xK at i;refine aD 1 [(48,vB (decide (c.1<(p0.2.2.2.length:Int))))] (aG ?_);refine aI i ?_ ?_
   .intro A i;refine aM (aE (aG (bD (aS 1 [(49,vI c.1)] (iK 50 n i ?_)))));rintro s i b4 f2 d4 ⟨_,_,rfl,rfl,⟨_,_,rfl,rfl,⟨_,_,rfl,rfl,⟨_,_,rfl,rfl,⟨z,B,rfl,M⟩⟩⟩⟩⟩ d1;refine iO 51 61 50 f2 (.agg (V8 s z B)) g d1 (eQ 7 61 (.agg #[vI 0,vI 0,vI 0,vT eB,v7]) g fun S e9 g=>(aA 1 [(6,vI c.1)] (cG (.agg (V8 s z B)) g fun f0 g=>(aN (aG (aC (bF 52 (.agg (V8 s z B)) g.h (aA 1 [(53,vP k 2)] (cI 54 (vS a1 p0.2.2.1 c1) g (a.drop 2) (aA 1 [(55,vI (p0.2.2.1.length:Int))] (aK 56 i (qHx (p0:=s) g M) ?_)))))))))));rintro y4 i _ f6 ⟨c5,rfl,Y,g⟩;refine aF 1 [(57,vB (!y4))] (aI i ?_ ?_)
    .intro A i;refine aD 1 [(2,vB false)] (aL ?_);refine aQ (bH (aQ ?_));have ho:=U _ (sI i);subst ho;have i:=j5;refine aQ (bH (aQ ?_));cases i;exact aO [2] [vB false] ⟨c5,rfl,q.t Y,g.t.t⟩
    intro A i;refine aM (aE (aS 3 [(58,.slice (aP o) (Int.toNat (p0.2.2.2.length:Int)) (Int.toNat (p0.2.2.2.length:Int))),(59,vI c.1),(60,vI c.1)] ?_));have⟨x3,d8,i⟩:=aZ i;refine bA rfl (rI (d:=61) (t:=22) (e:=3) (x:=(.tmp 58)) (y:=(.tmp 59)) kr rfl (ev (.slice (aP o) (Int.toNat (p0.2.2.2.length:Int)) (Int.toNat (p0.2.2.2.length:Int)))) (ev (vI c.1)) kr a5 d8 (bA rfl (zP (f:=(fun x:Int=>Value.int .i64 x)) (u:=c.1) (t:=3) (x:=(.tmp 61)) (y:=(.tmp 60)) kr (ev (.pointer (some ⟨o,Int.toNat c.1,none⟩))) (ev (vI c.1)) g.f1 d8 rfl kr fun f7 g=> ?_)));have c9:List.length (List.set c.2 (Int.toNat c.1) c.1)=(Int.toNat (p0.2.2.2.length:Int)):=xV a5 _ _;refine aN (aC (bW 1 63 22 62 4 (vS z s.2.2.2.2 B) g.t.h (aF 3 [(8,vI (wr ((s.2.2.2.2.length:Int)-1)))] (bD ?_))));have⟨a8,i,j6⟩:=aZ i;refine cZ (.exit 5) (fun L' w'=>∃(o6:T6),∃H,(.inl o6)=a8/\L'=[(1,vP k 0),(5,.slice (aP o) (Int.toNat (p0.2.2.2.length:Int)) (Int.toNat (p0.2.2.2.length:Int))),(45,vS a2 p0.2.2.2 c2),(46,vI (p0.2.2.2.length:Int)),(47,vI c.1)]/\m.le H/\St H (kB S (V8 s z B) 61:: .blk o (.cells (lB (fun x:Int=>Value.int .i64 x) o6 []) 3 (0,0))::O) w'/\MRow H k 0 (Va p0 a1 c1 a2 c2)/\RepS aH H a1 c1 p0.2.2.1/\RepS C3 H a2 c2 p0.2.2.2/\RepS (aT .i64) H z B s.2.2.2.2/\List.length o6=(Int.toNat (p0.2.2.2.length:Int))) ?_ ?_
    .rintro _ v ⟨o6,H,rfl,rfl,q,g,a,l,n,M,p⟩;have i:=j6;refine dW (bQ (aE (bC (aA 2 [(47,vI (wr (c.1+1)))] (aU rfl ?_)))));have hL:=c6 _ (sI i);exact xE (cT ⟨(wr (c.1+1),o6),H,hL,rfl,q,g.t,a,l,n,p⟩)
    intro b0;refine cX _ kr (cW (fun k3 L' w'=>∃(v:rV),∃p,aJ (CI N c s) k3 v=some a8/\L'=[(1,vP k 0),(5,.slice (aP o) (Int.toNat (p0.2.2.2.length:Int)) (Int.toNat (p0.2.2.2.length:Int))),(6,vI c.1),(7,vP S 0),(8,vI v.1),(45,vS a2 p0.2.2.2 c2),(46,vI (p0.2.2.2.length:Int)),(47,vI c.1)]/\m.le p/\St p (kB S (V8 s z B) 61:: .blk o (.cells (lB (fun x:Int=>Value.int .i64 x) v.2 []) 3 (0,0))::O) w'/\MRow p k 0 (Va p0 a1 c1 a2 c2)/\RepS aH p a1 c1 p0.2.2.1/\RepS C3 p a2 c2 p0.2.2.2/\RepS (aT .i64) p z B s.2.2.2.2/\List.length v.2=(Int.toNat (p0.2.2.2.length:Int))) N ⟨(wr ((s.2.2.2.2.length:Int)-1),List.set c.2 (Int.toNat c.1) c.1),c5,i,rfl,q.t Y,g.f1,a.mono Y,l.mono Y,n.mono Y,M.mono Y,c9⟩ ?_);rintro k3 _ f8 ⟨v,p,hL,rfl,q,g,a,l,n,M,F⟩;rcases k3 with _|k3
    .exact dV hL
    obtain⟨e6,i,c7,a4⟩:=dX hL;clear hL;unfold CI at i;refine aG (aD 2 [(67,vB (decide (v.1>=0)))] (aI i ?_ ?_))
    .intro A i;refine aM (aE (aG (bD (aG (aG (cJ .normal i (fun o7 L' w'=>∃D,L'=[(1,vP k 0),(5,.slice (aP o) (Int.toNat (p0.2.2.2.length:Int)) (Int.toNat (p0.2.2.2.length:Int))),(6,vI c.1),(7,vP S 0),(8,vI v.1),(45,vS a2 p0.2.2.2 c2),(46,vI (p0.2.2.2.length:Int)),(47,vI c.1),(88,vB o7)]/\m.le D/\St D (kB S (V8 s z B) 61:: .blk o (.cells (lB (fun x:Int=>Value.int .i64 x) v.2 []) 3 (0,0))::O) w'/\MRow D k 0 (Va p0 a1 c1 a2 c2)/\RepS aH D a1 c1 p0.2.2.1/\RepS C3 D a2 c2 p0.2.2.2/\RepS (aT .i64) D z B s.2.2.2.2/\List.length v.2=(Int.toNat (p0.2.2.2.length:Int))) ?_ ?_))))))
     .rintro o7 i _ d7 ⟨D,rfl,q,g,a,l,n,M,F⟩;refine aE (aI i ?_ ?_)
      .intro A i;refine aD 1 [(2,vB false)] (aL ?_);refine aQ (bH (aQ ?_));have ho:=a4 _ (sI i);subst ho;have i:=j6;refine aQ (bH (bH (aQ ?_)));have ho:=U _ (sI i);subst ho;have i:=j5;refine aQ (bH (aQ ?_));cases i;exact aO [2] [vB false] ⟨D,rfl,q,g.t.t⟩
      intro A i;refine aM (aE (bC (aA 4 [(89,.slice (aP o) (Int.toNat (p0.2.2.2.length:Int)) (Int.toNat (p0.2.2.2.length:Int))),(90,vI c.1),(91,.slice (aP o) (Int.toNat (p0.2.2.2.length:Int)) (Int.toNat (p0.2.2.2.length:Int))),(92,vP S 4)] (bF 93 (vS z s.2.2.2.2 B) g.h (aA 1 [(94,vI v.1)] (iK 95 M i ?_))))));rintro x7 i b8 f5 d6 rfl d2;refine iO 96 3 95 f5 (vI x7) g d2 ?_;have⟨E,b9,i⟩:=aZ i;refine bA rfl (rI (d:=97) (t:=22) (e:=3) (x:=(.tmp 91)) (y:=(.tmp 96)) kr rfl (ev (.slice (aP o) (Int.toNat (p0.2.2.2.length:Int)) (Int.toNat (p0.2.2.2.length:Int)))) (ev (vI x7)) kr F b9 (bA rfl (zS (d:=98) (t:=3) (x:=(.tmp 97)) kr rfl (ev (.pointer (some ⟨o,Int.toNat x7,none⟩))) g.t.h b9 kr ?_)));have⟨x9,c4,i⟩:=aZ i;refine bA rfl (rI (d:=99) (t:=22) (e:=3) (x:=(.tmp 89)) (y:=(.tmp 90)) kr rfl (ev (.slice (aP o) (Int.toNat (p0.2.2.2.length:Int)) (Int.toNat (p0.2.2.2.length:Int)))) (ev (vI c.1)) kr F c4 (bA rfl (zP (f:=(fun x:Int=>Value.int .i64 x)) (u:=E) (t:=3) (x:=(.tmp 99)) (y:=(.tmp 98)) kr (ev (.pointer (some ⟨o,Int.toNat c.1,none⟩))) (ev (vI E)) g.f1 c4 rfl kr fun f9 g=> ?_)));have d0:List.length (List.set v.2 (Int.toNat c.1) E)=(Int.toNat (p0.2.2.2.length:Int)):=xV F _ _;refine aU rfl (bQ (aE (bC (aA 3 [(8,vI (wr (v.1-1)))] (aU rfl ?_)))));have hL:=c7 _ (sI i)
      exact xE (cT ⟨(wr (v.1-1),List.set v.2 (Int.toNat c.1) E),D,hL,rfl,q,g.f1,a,l,n,M,d0⟩)
     intro o7 i K;refine iF [(19,fun w'=>Inv p w'/\Piece.holds p w' (kB S (V8 s z B) 61)/\True)] kr g fun f9 _ g=> ?_;have E:=p.le_refl;refine⟨⟨.inr ⟨Inv.anti g.inv E,Piece.holds_anti g.h E,trivial⟩,trivial⟩,?_⟩;refine aR 0 70 (vP S 4) (.head _) (eR 22 70 1 71 4 (vS z s.2.2.2.2 B) (.head _) (fun _ h=>h.2.1) (aR 2 72 (vI v.1) (.head _) ?_));have⟨x4,d9,i⟩:=aZ i;refine qA (t:=22) (e:=3) (x:=(.tmp 71)) (y:=(.tmp 72)) 3 73 (aT .i64) kr rfl kr (.head _) (bY (bY (eV (bY (bY (eV (eV (bY (bY (eV (bY mN))))))))))) (ev (vS z s.2.2.2.2 B)) (ev (vI v.1)) kr M d9 ?_;rintro b6 f3 d6 rfl d0;refine lU 3 73 4 74 f3 (vI x4) (.head _) (fun _ h=>h.1) d0 (aR 5 75 (.slice (aP o) (Int.toNat (p0.2.2.2.length:Int)) (Int.toNat (p0.2.2.2.length:Int))) (.head _) (aR 6 76 (vI c.1) (.head _) ?_));have⟨x5,b9,i⟩:=aZ i;refine cH 7 kr (rI (d:=77) (t:=22) (e:=3) (x:=(.tmp 75)) (y:=(.tmp 76)) kr rfl (ev (.slice (aP o) (Int.toNat (p0.2.2.2.length:Int)) (Int.toNat (p0.2.2.2.length:Int)))) (ev (vI c.1)) kr F b9 (⟨⟨.inr ⟨Inv.anti g.inv E,Piece.holds_anti g.h E,trivial⟩,trivial⟩,?_⟩));refine cH 8 kr (zS (d:=78) (t:=3) (x:=(.tmp 77)) kr rfl (ev (.pointer (some ⟨o,Int.toNat c.1,none⟩))) g.t.h b9 kr (⟨⟨.inr ⟨Inv.anti g.inv E,Piece.holds_anti g.h E,trivial⟩,trivial⟩,?_⟩))
     refine aR 9 79 (vI (wr (x5-1))) (.head _) (aR 10 80 (vB (x4 !=(wr (x5-1)))) (.head _) (aR 11 81 (vB (x4 !=(wr (x5-1)))) (.head _) ?_));rcases eO (x4 !=(wr (x5-1))) with A|A
     .rw[if_pos A] at i;refine xU (t:=81) (b:=true) (x4 !=(wr (x5-1))) kr A ?_;refine lQ 12 82 (.head _) (lQ 13 83 (.head _) (lQ 14 84 (.head _) (lQ 15 85 (.head _) (lQ 16 86 (.head _) (lQ 17 87 (.head _) (aR 18 88 (vB true) (.head _) ?_))))));cases i;exact eW kr (vA _ kr (K _ _ ⟨p,rfl,q,g.f1.f1,a,l,n,M,F⟩))
     rw[if_neg (not_true A)] at i;refine xU (t:=81) (b:=false) (x4 !=(wr (x5-1))) kr A ?_;refine aR 12 82 (vP S 4) (.head _) (eR 22 82 13 83 4 (vS z s.2.2.2.2 B) (.head _) (fun _ h=>h.2.1) (aR 14 84 (vI v.1) (.head _) ?_));have⟨x6,c4,i⟩:=aZ i;refine qA (t:=22) (e:=3) (x:=(.tmp 83)) (y:=(.tmp 84)) 15 85 (aT .i64) kr rfl kr (.head _) (bY (bY (eV (bY (bY (eV (eV (bY (bY (eV (bY mN))))))))))) (ev (vS z s.2.2.2.2 B)) (ev (vI v.1)) kr M c4 ?_;rintro b7 f4 d7 rfl d2;refine lU 3 85 16 86 f4 (vI x6) (.head _) (fun _ h=>h.1) d2 (aR 17 87 (vB (decide (x6<0))) (.head _) (aR 18 88 (vB (decide (x6<0))) (.head _) ?_));cases i;exact eW kr (vA _ kr (K _ _ ⟨p,rfl,q,g.f1.f1,a,l,n,M,F⟩))
    intro A i;refine cQ (bK ?_);have ho:=a4 _ (sI i);have g:=g.f1.f1;refine bK ?_;exact xE (b0 _ _ ⟨v.2,p,ho,rfl,q,g,a,l,n,M,F⟩)
   intro A i;refine cQ (bK ?_);have ho:=U _ (sI i);refine bK ?_;exact xE (a9 _ _ ⟨c.2,R,ho,rfl,q,g,a,l,n,a5⟩)
  intro v;refine cX _ kr (cW (fun B L' w'=>∃(p:Int),∃c,aJ (zF N p0) B p=some a6/\L'=[(1,vP k 0),(25,vS a1 p0.2.2.1 c1),(26,vI (p0.2.2.1.length:Int)),(27,vI p)]/\m.le c/\St c (O) w'/\MRow c k 0 (Va p0 a1 c1 a2 c2)/\P2 c a1 c1 a2 c2 p0.2.2) N ⟨0,Z,i,rfl,q,g,a,l,n⟩ ?_);rintro B _ U ⟨p,c,hL,rfl,q,g,a,l,n⟩;rcases B with _|B
  .exact dV hL
  obtain⟨R,i,D,s⟩:=dX hL;clear hL;unfold zF at i;refine aD 1 [(28,vB (decide (p<(p0.2.2.1.length:Int))))] (aG ?_);refine aI i ?_ ?_
  .intro A i;refine aM (aE (aG (bD (aC (iK 29 l i ?_)))));rintro x1 i S F M rfl E;refine iO 30 9 29 F (vT x1) g E (aF 1 [(4,vT x1)] (aC (eM 8 i (fun o4 L' w'=>∃o,L'=[(1,vP k 0),(25,vS a1 p0.2.2.1 c1),(26,vI (p0.2.2.1.length:Int)),(27,vI p),(38,vB o4)]/\m.le o/\St o (O) w'/\MRow o k 0 (Va p0 a1 c1 a2 c2)/\P2 o a1 c1 a2 c2 p0.2.2) ?_ ?_)))
   .rintro o4 i _ z ⟨o,rfl,q,g,a,l,n⟩;refine aN (aI i ?_ ?_)
    .intro A i;refine aD 1 [(2,vB false)] (aL ?_);refine bH (aQ ?_);have ho:=s _ (sI i);subst ho;have i:=j3;refine aQ (bH (aQ ?_));cases i;exact aO [2] [vB false] ⟨o,rfl,q,g⟩
    intro A i;refine aM (bQ (aE (bC (aA 2 [(27,vI (wr (p+1)))] (aU rfl ?_)))));have hL:=D _ (sI i);exact xE (cT ⟨wr (p+1),o,hL,rfl,q,g,a,l,n⟩)
   intro o4 i K;refine aA 1 [(31,vP k 0)] (cI 32 (vI p0.1) g a (aA 2 [(34,vB (p0.1 !=1))] (bN 34 i ?_ ?_)))
   .intro A i;refine aA 4 [(38,vB true)] ?_;cases i;exact aY _ kr (K _ _ ⟨c,rfl,q,g,a,l,n⟩)
   intro A i;refine aA 1 [(35,vT x1)] (aK 36 i (GW g) ?_);rintro H i _ Y ⟨G,rfl,z,g⟩;refine aA 2 [(38,vB (!H))] ?_;cases i;exact aY _ kr (K _ _ ⟨G,rfl,q.t z,g,a.mono z,l.mono z,n.mono z⟩)
  intro A i;refine cQ (bK ?_);have ho:=s _ (sI i);refine bK ?_;exact xE (v _ _ ⟨(),c,ho,rfl,q,g,a,l,n⟩)
 intro p;refine bD (aG (aD 2 [(11,vB (p0.1==1))] (cJ .normal i (fun o2 L' w'=>∃c,L'=[(1,vP k 0),(10,vI p0.1),(11,vB o2)]/\m.le c/\St c (O) w'/\MRow c k 0 (Va p0 a1 c1 a2 c2)/\P2 c a1 c1 a2 c2 p0.2.2) ?_ ?_)))
 .rintro o2 i _ B ⟨c,rfl,q,g,a,l,n⟩;refine aE (aI i ?_ ?_)
  .intro A i;refine aS 1 [(14,vP k 1)] ?_;refine cI 15 (vT p0.2.1) g (a.drop 1) ?_;refine aK 16 i (GW g) ?_;rintro y1 i _ z ⟨v,rfl,o,g⟩;refine aF 1 [(17,vB (!y1))] (aI i ?_ ?_)
   .intro A i;refine aD 1 [(2,vB false)] (aL ?_);refine bH ?_;cases i;have i:=j1;refine aQ ?_;cases i;exact aO [2] [vB false] ⟨v,rfl,q.t o,g⟩
   intro A i;refine aM (bQ ?_);have s:=jG i;exact xE (p _ _ ⟨(),v,s,rfl,q.t o,g,a.mono o,l.mono o,n.mono o⟩)
  intro A i;refine aD 2 [(18,vB (p0.1==3))] (aI i ?_ ?_)
  .intro A i;refine aS 1 [(20,vP k 1)] ?_;refine cI 21 (vT p0.2.1) g (a.drop 1) ?_;refine aK 22 i (KX g) ?_;rintro z i _ D ⟨v,rfl,o,g⟩;refine aF 1 [(23,vB (!z))] (aI i ?_ ?_)
   .intro A i;refine aD 1 [(2,vB false)] (aL ?_);refine bH ?_;cases i;have i:=j1;refine aQ ?_;cases i;exact aO [2] [vB false] ⟨v,rfl,q.t o,g⟩
   intro A i;refine aM (bQ ?_);have s:=jG i;exact xE (p _ _ ⟨(),v,s,rfl,q.t o,g,a.mono o,l.mono o,n.mono o⟩)
  intro A i;refine aD 1 [(2,vB false)] (aL ?_);refine bH ?_;cases i;have i:=j1;refine aQ ?_;cases i;exact aO [2] [vB false] ⟨c,rfl,q,g⟩
 intro o2 i o;refine aI i ?_ ?_
 .intro A i;refine aM ?_;cases i;exact xE (o _ _ ⟨m1,rfl,q.t V,g,a,l.mono V,n.mono V⟩)
 intro A i;refine bC (aA 2 [(11,vB (p0.1==2))] (aU rfl ?_));cases i;exact xE (o _ _ ⟨m1,rfl,q.t V,g,a,l.mono V,n.mono V⟩)
def CO(N:Nat)(p0:nD)(a:Int):Td:=
 if(decide (a<(List.length p0.2.1:Int)))=true then((idx p0.2.1 a).bind fun x1=>(uN N x1).bind fun b=>if(!b)=true then(some (.inr (.inr (false)))) else(some (.inl (IntKind.wrap .i64 (a+1))))) else(some (.inr (.inl ())))
def CP(N:Nat)(p0:nD)(a:Int):Td:=
 if(decide (a<(List.length p0.2.2:Int)))=true then((idx p0.2.2 a).bind fun b=>(CQ N b).bind fun b=>if(!b)=true then(some (.inr (.inr (false)))) else(some (.inl (IntKind.wrap .i64 (a+1))))) else(some (.inr (.inl ())))
def CX(N:Nat)(p0:nD):Te:=
 (uN N p0.1).bind fun y1=>if(!y1)=true then(some false) else((aJ (CO N p0) N 0).bind fun a=>(match a with| .inl a=>(aJ (CP N p0) N 0).bind fun a=>(match a with| .inl o2=>some true| .inr (z)=>some z)| .inr (z)=>some z))
theorem qHi{p0:nD}{r:Bool}(g:St m (O) w)(l:RepS aH m a1 c1 p0.2.1)(b:RepS C4 m a2 c2 p0.2.2)(i:CX N p0=some r):Calls prog 45 #[.agg (V6 p0 a1 c1 a2 c2)] w fun e w'=>∃m',e= .returned (vB r)/\m.le m'/\St m' (O) w':=by
 unfold CX at i;have q:=m.le_refl;refine bG func45 rfl ntmps45 ?_;refine aC (mJ 1 29 (.agg (V6 p0 a1 c1 a2 c2)) g fun c m1 w1 v g a=>(aF 1 [] (aG (aS 1 [(7,vP c 0)] (cI 8 (vT p0.1) g a (aK 9 i (GW g) ?_))))));rintro y1 i _ w2 ⟨S,rfl,d,g⟩;refine aF 1 [(10,vB (!y1))] (aI i ?_ ?_)
 .intro A i;refine aD 1 [(2,vB false)] (aL ?_);refine aQ ?_;cases i;exact aO [2] [vB false] ⟨S,rfl,(q.t v).t d,g⟩
 intro A i;refine aM (aE (aG (aS 1 [(11,vP c 1)] (cI 12 (vS a1 p0.2.1 c1) g ((a.mono d).drop 1) (aF 2 [(13,vI (p0.2.1.length:Int)),(14,vI 0)] (bD ?_))))));have⟨s,i,M⟩:=aZ i;refine cZ (.exit 0) (fun L' w'=>∃(V:Unit),∃f,(.inl V)=s/\L'=[(1,vP c 0)]/\m.le f/\St f (O) w'/\MRow f c 0 [vT p0.1,vS a1 p0.2.1 c1,vS a2 p0.2.2 c2]/\P5 f a1 c1 a2 c2 p0.2) ?_ ?_
 .rintro _ w3 ⟨V,f,rfl,rfl,q,g,a,l,b⟩;have i:=M;refine dW (aE (aG (aS 1 [(22,vP c 2)] (cI 23 (vS a2 p0.2.2 c2) g (a.drop 2) (aF 2 [(24,vI (p0.2.2.length:Int)),(25,vI 0)] (bD ?_))))));have⟨p,i,R⟩:=aZ i;refine cZ (.exit 2) (fun L' w'=>∃(o2:Unit),∃y,(.inl o2)=p/\L'=[]/\m.le y/\St y (O) w') ?_ ?_
  .rintro _ k ⟨o2,y,rfl,rfl,q,g⟩;have i:=R;refine dW (aE (aD 1 [(2,vB true)] (aL ?_)));cases i;exact aO [2] [vB true] ⟨y,rfl,q,g⟩
  intro u;refine cX _ kr (cW (fun x L' w'=>∃(k:Int),∃o,aJ (CP N p0) x k=some p/\L'=[(23,vS a2 p0.2.2 c2),(24,vI (p0.2.2.length:Int)),(25,vI k)]/\m.le o/\St o (O) w'/\RepS C4 o a2 c2 p0.2.2) N ⟨0,f,i,rfl,q,g,b⟩ ?_);rintro x _ w7 ⟨k,o,hL,rfl,q,g,b⟩;rcases x with _|x
  .exact dV hL
  obtain⟨a6,i,H,n⟩:=dX hL;clear hL;unfold CP at i;refine aD 1 [(26,vB (decide (k<(p0.2.2.length:Int))))] (aG ?_);refine aI i ?_ ?_
  .intro A i;refine aM (aE (aG (bD (aC (iK 27 b i ?_)))));rintro z i b3 Y a5 ⟨_,_,rfl,rfl,⟨_,_,rfl,rfl,⟨_,_,rfl,⟨B,E,rfl,Z⟩,⟨D,F,rfl,r4⟩⟩⟩⟩ K;refine iO 28 43 27 Y (.agg (V7 z B E D F)) g K (eQ 6 43 (.agg #[vI 0,vT eB,v7,v7]) g fun b4 w8 g=>(cG (.agg (V7 z B E D F)) g fun w9 g=>(aN (aC (bF 29 (.agg (V7 z B E D F)) g.h (aK 30 i (qHd (p0:=z) g Z r4) ?_))))));rintro y3 i _ a7 ⟨U,rfl,G,g⟩;refine aF 1 [(31,vB (!y3))] (aI i ?_ ?_)
   .intro A i;refine aD 1 [(2,vB false)] (aL ?_);refine bH (aQ ?_);have ho:=n _ (sI i);subst ho;have i:=R;refine aQ (bH (aQ ?_));cases i;exact aO [2] [vB false] ⟨U,rfl,q.t G,g.t⟩
   intro A i;refine aM (bQ (aE (bC (aA 2 [(25,vI (wr (k+1)))] (aU rfl ?_)))));have hL:=H _ (sI i);exact xE (cT ⟨wr (k+1),U,hL,rfl,q.t G,g.t,b.mono G⟩)
  intro A i;refine cQ (bK ?_);have ho:=n _ (sI i);refine bK ?_;exact xE (u _ _ ⟨(),o,ho,rfl,q,g⟩)
 intro u;refine cX _ kr (cW (fun x L' w'=>∃(n:Int),∃k,aJ (CO N p0) x n=some s/\L'=[(1,vP c 0),(12,vS a1 p0.2.1 c1),(13,vI (p0.2.1.length:Int)),(14,vI n)]/\m.le k/\St k (O) w'/\MRow k c 0 [vT p0.1,vS a1 p0.2.1 c1,vS a2 p0.2.2 c2]/\P5 k a1 c1 a2 c2 p0.2) N ⟨0,S,i,rfl,(q.t v).t d,g,a.mono d,(l.mono v).mono d,(b.mono v).mono d⟩ ?_);rintro x _ K ⟨n,k,hL,rfl,q,g,a,l,b⟩;rcases x with _|x
 .exact dV hL
 obtain⟨G,i,y,p⟩:=dX hL;clear hL;unfold CO at i;refine aD 1 [(15,vB (decide (n<(p0.2.1.length:Int))))] (aG ?_);refine aI i ?_ ?_
 .intro A i;refine aM (aE (aG (bD (aC (iK 16 l i ?_)))));rintro x1 i H D F rfl z;refine iO 17 9 16 D (vT x1) g z (aF 1 [(4,vT x1)] (aC (aA 1 [(18,vT x1)] (aK 19 i (GW g) ?_))));rintro E i _ R ⟨B,rfl,o,g⟩;refine aF 1 [(20,vB (!E))] (aI i ?_ ?_)
  .intro A i;refine aD 1 [(2,vB false)] (aL ?_);refine bH (aQ ?_);have ho:=p _ (sI i);subst ho;have i:=M;refine aQ (bH (aQ ?_));cases i;exact aO [2] [vB false] ⟨B,rfl,q.t o,g⟩
  intro A i;refine aM (bQ (aE (bC (aA 2 [(14,vI (wr (n+1)))] (aU rfl ?_)))));have hL:=y _ (sI i);exact xE (cT ⟨wr (n+1),B,hL,rfl,q.t o,g,a.mono o,l.mono o,b.mono o⟩)
 intro A i;refine cQ (bK ?_);have ho:=p _ (sI i);refine bK ?_;exact xE (u _ _ ⟨(),k,ho,rfl,q,g,a,l,b⟩)
def vM(N:Nat)(p0:T9)(p1:BA)(a:Int):Option (Int⊕Unit⊕Int):=
 if(decide (a<(List.length p0:Int)))=true then((idx p0 a).bind fun x1=>if(p1.toList==x1.toList)=true then(some (.inr (.inr (a)))) else(some (.inl (IntKind.wrap .i64 (a+1))))) else(some (.inr (.inl ())))
def yS(N:Nat)(p0:T9)(p1:BA):T5:=
 (aJ (vM N p0 p1) N 0).bind fun a=>(match a with| .inl a=>some (-1)| .inr (z)=>some z)
theorem UD{p0:T9}{p1:BA}{r:Int}(g:St m (O) w)(l:RepS aH m a1 c1 p0)(i:yS N p0 p1=some r):Calls prog 123 #[vS a1 p0 c1,vT p1] w fun e w'=>∃m',e= .returned (vI r)/\m.le m'/\St m' (O) w':=by
 unfold yS at i;have q:=m.le_refl;refine bG func123 rfl ntmps123 ?_;refine aD 1 [] (aG ?_);refine aD 3 [(7,vI (p0.length:Int)),(8,vI 0)] (bD ?_);have⟨d,i,p⟩:=aZ i;refine cZ (.exit 0) (fun L' w'=>∃(s:Unit),∃k,(.inl s)=d/\L'=[]/\m.le k/\St k (O) w') ?_ ?_
 .rintro _ a ⟨s,k,rfl,rfl,q,g⟩;have i:=p;refine dW (aE (aD 1 [(4,vI (-1))] (aL ?_)));cases i;exact aO [4] [vI (-1)] ⟨k,rfl,q,g⟩
 intro f;refine cX _ kr (cW (fun h L' w'=>∃(a:Int),∃b,aJ (vM N p0 p1) h a=some d/\L'=[(0,vS a1 p0 c1),(1,vT p1),(7,vI (p0.length:Int)),(8,vI a)]/\m.le b/\St b (O) w'/\RepS aH b a1 c1 p0) N ⟨0,m,i,rfl,q,g,l⟩ ?_);rintro h _ y ⟨a,b,hL,rfl,q,g,l⟩;rcases h with _|h
 .exact dV hL
 obtain⟨v,i,n,c⟩:=dX hL;clear hL;unfold vM at i;refine aD 1 [(9,vB (decide (a<(p0.length:Int))))] (aG ?_);refine aI i ?_ ?_
 .intro A i;refine aM (aE (aG (bD (aD 2 [(5,vI a)] (aC (aA 3 [(11,vT p1),(12,vS a1 p0 c1),(13,vI a)] (iK 14 l i ?_)))))));rintro x1 i x t u rfl o;refine iO 15 9 14 t (vT x1) g o (aF 1 [(16,vB (p1.toList==x1.toList))] (aI i ?_ ?_))
  .intro A i;refine aD 2 [(4,vI a)] (aL ?_);refine bH (aQ ?_);have ho:=c _ (sI i);subst ho;have i:=p;refine aQ (bH (aQ ?_));obtain rfl:=sI i;exact aO [4] [vI a] ⟨b,rfl,q,g⟩
  intro A i;refine aM (bQ (aE (bC (aA 2 [(8,vI (wr (a+1)))] (aU rfl ?_)))));have hL:=n _ (sI i);exact xE (cT ⟨wr (a+1),b,hL,rfl,q,g,l⟩)
 intro A i;refine cQ (bK ?_);have ho:=c _ (sI i);refine bK ?_;exact xE (f _ _ ⟨(),b,ho,rfl,q,g⟩)
def uF(N:Nat)(p0:T9)(p1:BA):Te:=
 (yS N p0 p1).bind fun y1=>some (decide (y1>=0))
theorem KB{p0:T9}{p1:BA}{r:Bool}(g:St m (O) w)(c:RepS aH m a1 c1 p0)(i:uF N p0 p1=some r):Calls prog 89 #[vS a1 p0 c1,vT p1] w fun e w'=>∃m',e= .returned (vB r)/\m.le m'/\St m' (O) w':=by
 unfold uF at i;have q:=m.le_refl;refine bG func89 rfl ntmps89 ?_;refine aD 1 [] (aC ?_);refine aA 2 [(5,vS a1 p0 c1),(6,vT p1)] (aK 7 i (UD g c) ?_);rintro y1 i _ d ⟨b,rfl,a,g⟩;refine aF 2 [(4,vB (decide (y1>=0)))] (aL ?_);obtain rfl:=sI i;exact aO [4] [vB (decide (y1>=0))] ⟨b,rfl,q.t a,g⟩
def BX(N:Nat)(p0:T9)(a:Int):Td:=
 if(decide (a<(List.length p0:Int)))=true then((idx p0 a).bind fun x1=>(tE p0 0 a).bind fun b=>(uF N b x1).bind fun y1=>if y1=true then(some (.inr (.inr (true)))) else(some (.inl (IntKind.wrap .i64 (a+1))))) else(some (.inr (.inl ())))
def CG(N:Nat)(p0:T9):Te:=
 (aJ (BX N p0) N 0).bind fun a=>(match a with| .inl a=>some false| .inr (z)=>some z)
theorem UK{p0:T9}{r:Bool}(g:St m (O) w)(h:RepS aH m a1 c1 p0)(i:CG N p0=some r):Calls prog 97 #[vS a1 p0 c1] w fun e w'=>∃m',e= .returned (vB r)/\m.le m'/\St m' (O) w':=by
 unfold CG at i;have q:=m.le_refl;refine bG func97 rfl ntmps97 ?_;refine aD 1 [] (aG ?_);refine aD 3 [(5,vS a1 p0 c1),(6,vI (p0.length:Int)),(7,vI 0)] (bD ?_);have⟨f,i,u⟩:=aZ i;refine cZ (.exit 0) (fun L' w'=>∃(y:Unit),∃n,(.inl y)=f/\L'=[]/\m.le n/\St n (O) w') ?_ ?_
 .rintro _ a ⟨y,n,rfl,rfl,q,g⟩;have i:=u;refine dW (aE (aD 1 [(2,vB false)] (aL ?_)));cases i;exact aO [2] [vB false] ⟨n,rfl,q,g⟩
 intro k;refine cX _ kr (cW (fun l L' w'=>∃(a:Int),∃c,aJ (BX N p0) l a=some f/\L'=[(0,vS a1 p0 c1),(5,vS a1 p0 c1),(6,vI (p0.length:Int)),(7,vI a)]/\m.le c/\St c (O) w'/\RepS aH c a1 c1 p0) N ⟨0,m,i,rfl,q,g,h⟩ ?_);rintro l _ R ⟨a,c,hL,rfl,q,g,h⟩;rcases l with _|l
 .exact dV hL
 obtain⟨F,i,p,b⟩:=dX hL;clear hL;unfold BX at i;refine aD 1 [(8,vB (decide (a<(p0.length:Int))))] (aG ?_);refine aI i ?_ ?_
 .intro A i;refine aM (aE (aG (bD (aS 1 [(9,vI a)] (iK 10 h i ?_)))));rintro x1 i H B E rfl s;refine iO 11 9 10 B (vT x1) g s (aF 2 [(3,vI a),(4,vT x1)] (aC (aA 2 [(12,vS a1 p0 c1),(13,vI a)] ?_)));have⟨M,z,i⟩:=aZ i;refine bA rfl (YO (d:=14) (t:=26) (e:=9) (x:=(.tmp 12)) (lo:=none) (hi:=(some (.tmp 13))) aH kr rfl (ev (vS a1 p0 c1)) kr h (.inl ⟨rfl,rfl⟩) (.inr ⟨_,_,rfl,(ev (vI a))⟩) z ?_);intro G K D;refine aA 1 [(15,vT x1)] (aK 16 i (KB g D) ?_);rintro y1 i _ S ⟨v,rfl,o,g⟩;refine aN (aI i ?_ ?_)
  .intro A i;refine aD 1 [(2,vB true)] (aL ?_);refine bH (aQ ?_);have ho:=b _ (sI i);subst ho;have i:=u;refine aQ (bH (aQ ?_));cases i;exact aO [2] [vB true] ⟨v,rfl,q.t o,g⟩
  intro A i;refine aM (bQ (aE (bC (aA 2 [(7,vI (wr (a+1)))] (aU rfl ?_)))));have hL:=p _ (sI i);exact xE (cT ⟨wr (a+1),v,hL,rfl,q.t o,g,h.mono o⟩)
 intro A i;refine cQ (bK ?_);have ho:=b _ (sI i);refine bK ?_;exact xE (k _ _ ⟨(),c,ho,rfl,q,g⟩)
def BL(N:Nat)(p0:nE)(p1:wW)(a:Int):Option (Int⊕Unit⊕Int):=
 if(decide (a<(List.length p0:Int)))=true then((idx p0 a).bind fun x1=>if((p1.1==x1.1)&&((p1.2.toList==x1.2.toList)&&true))=true then(some (.inr (.inr (a)))) else(some (.inl (IntKind.wrap .i64 (a+1))))) else(some (.inr (.inl ())))
def KA(N:Nat)(p0:nE)(p1:wW):T5:=
 (aJ (BL N p0 p1) N 0).bind fun a=>(match a with| .inl a=>some (-1)| .inr (z)=>some z)
theorem qFe{p0:nE}{p1:wW}{r:Int}(g:St m (O) w)(s:RepS C5 m a1 c1 p0)(i:KA N p0 p1=some r):Calls prog 154 #[vS a1 p0 c1,.agg (Vb p1)] w fun e w'=>∃m',e= .returned (vI r)/\m.le m'/\St m' (O) w':=by
 unfold KA at i;have q:=m.le_refl;refine bG func154 rfl ntmps154 ?_;refine aC (mJ 3 132 (.agg (Vb p1)) g fun v H S z g c=>(aF 1 [] (aG (aD 3 [(7,vI (p0.length:Int)),(8,vI 0)] (bD ?_)))));have⟨l,i,D⟩:=aZ i;refine cZ (.exit 0) (fun L' w'=>∃(E:Unit),∃p,(.inl E)=l/\L'=[]/\m.le p/\St p (O) w') ?_ ?_
 .rintro _ a ⟨E,p,rfl,rfl,q,g⟩;have i:=D;refine dW (aE (aD 1 [(4,vI (-1))] (aL ?_)));cases i;exact aO [4] [vI (-1)] ⟨p,rfl,q,g⟩
 intro n;refine cX _ kr (cW (fun o L' w'=>∃(a:Int),∃b,aJ (BL N p0 p1) o a=some l/\L'=[(0,vS a1 p0 c1),(3,vP v 0),(7,vI (p0.length:Int)),(8,vI a)]/\m.le b/\St b (O) w'/\RepS C5 b a1 c1 p0/\MRow b v 0 [vI p1.1,vT p1.2]) N ⟨0,H,i,rfl,q.t z,g,s.mono z,c⟩ ?_);rintro o _ U ⟨a,b,hL,rfl,q,g,s,c⟩;rcases o with _|o
 .exact dV hL
 obtain⟨M,i,u,f⟩:=dX hL;clear hL;unfold BL at i;refine aD 1 [(9,vB (decide (a<(p0.length:Int))))] (aG ?_);refine aI i ?_ ?_
 .intro A i;refine aM (aE (aG (bD (aD 2 [(5,vI a)] (aG (iF [(6,fun w'=>Inv b w'/\True)] kr g fun V _ g=> ?_))))));have k:=b.le_refl;refine tA g k ?_;refine lU 132 3 0 11 0 (.agg (Vb p1)) (.head _) (fun _ h=>h.1) c (aR 1 12 (vS a1 p0 c1) (.head _) (aR 2 13 (vI a) (.head _) ?_));have⟨x1,F,i⟩:=aZ i;refine qA (t:=129) (e:=132) (x:=(.tmp 12)) (y:=(.tmp 13)) 3 14 C5 kr rfl kr (.head _) (bY (eV (bY (bY (eV (bY mN)))))) (ev (vS a1 p0 c1)) (ev (vI a)) kr s F ?_;rintro R G K ⟨_,_,rfl,rfl,rfl⟩ B;refine lU 132 14 4 15 G (.agg (Vb x1)) (.head _) (fun _ h=>h.1) B (cH 5 kr (qMv (d:=16) (t:=132) (t2:=132) (x:=(.tmp 11)) (y:=(.tmp 15)) (xs:=(Vb p1)) (ys:=(Vb x1)) ((p1.1==x1.1)&&((p1.2.toList==x1.2.toList)&&true)) kr rfl (ev (.agg (Vb p1))) (ev (.agg (Vb x1))) kr kr kr (tA g k (eW kr (aE (aI i ?_ ?_))))))
  .intro A i;refine aD 2 [(4,vI a)] (aL ?_);refine bH (aQ ?_);have ho:=f _ (sI i);subst ho;have i:=D;refine aQ (bH (aQ ?_));obtain rfl:=sI i;exact aO [4] [vI a] ⟨b,rfl,q,g⟩
  intro A i;refine aM (bQ (aE (bC (aA 2 [(8,vI (wr (a+1)))] (aU rfl ?_)))));have hL:=u _ (sI i);exact xE (cT ⟨wr (a+1),b,hL,rfl,q,g,s,c⟩)
 intro A i;refine cQ (bK ?_);have ho:=f _ (sI i);refine bK ?_;exact xE (n _ _ ⟨(),b,ho,rfl,q,g⟩)
def FH(N:Nat)(p0:nE)(p1:wW):Te:=
 (KA N p0 p1).bind fun y1=>some (decide (y1>=0))
theorem qFd{p0:nE}{p1:wW}{r:Bool}(g:St m (O) w)(f:RepS C5 m a1 c1 p0)(i:FH N p0 p1=some r):Calls prog 135 #[vS a1 p0 c1,.agg (Vb p1)] w fun e w'=>∃m',e= .returned (vB r)/\m.le m'/\St m' (O) w':=by
 unfold FH at i;have q:=m.le_refl;refine bG func135 rfl ntmps135 ?_;refine aC (mJ 3 132 (.agg (Vb p1)) g fun h k l a g b=>(aF 1 [] (aC (aA 1 [(5,vS a1 p0 c1)] (cI 6 (.agg (Vb p1)) g b (aK 7 i (qFe (p1:=p1) g (f.mono a)) ?_))))));rintro y1 i _ n ⟨d,rfl,c,g⟩;refine aF 2 [(4,vB (decide (y1>=0)))] (aL ?_);obtain rfl:=sI i;exact aO [4] [vB (decide (y1>=0))] ⟨d,rfl,(q.t a).t c,g⟩
def BP(N:Nat)(p0:nE)(a:Int):Td:=
 if(decide (a<(List.length p0:Int)))=true then((idx p0 a).bind fun x1=>(tE p0 0 a).bind fun b=>(FH N b x1).bind fun y1=>if y1=true then(some (.inr (.inr (true)))) else(some (.inl (IntKind.wrap .i64 (a+1))))) else(some (.inr (.inl ())))
def FR(N:Nat)(p0:nE):Te:=
 (aJ (BP N p0) N 0).bind fun a=>(match a with| .inl a=>some false| .inr (z)=>some z)
theorem qFs{p0:nE}{r:Bool}(g:St m (O) w)(k:RepS C5 m a1 c1 p0)(i:FR N p0=some r):Calls prog 98 #[vS a1 p0 c1] w fun e w'=>∃m',e= .returned (vB r)/\m.le m'/\St m' (O) w':=by
 unfold FR at i;have q:=m.le_refl;refine bG func98 rfl ntmps98 ?_;refine aD 1 [] (aG ?_);refine aD 3 [(5,vS a1 p0 c1),(6,vI (p0.length:Int)),(7,vI 0)] (bD ?_);have⟨f,i,v⟩:=aZ i;refine cZ (.exit 0) (fun L' w'=>∃(z:Unit),∃p,(.inl z)=f/\L'=[]/\m.le p/\St p (O) w') ?_ ?_
 .rintro _ a ⟨z,p,rfl,rfl,q,g⟩;have i:=v;refine dW (aE (aD 1 [(2,vB false)] (aL ?_)));cases i;exact aO [2] [vB false] ⟨p,rfl,q,g⟩
 intro l;refine cX _ kr (cW (fun o L' w'=>∃(b:Int),∃c,aJ (BP N p0) o b=some f/\L'=[(0,vS a1 p0 c1),(5,vS a1 p0 c1),(6,vI (p0.length:Int)),(7,vI b)]/\m.le c/\St c (O) w'/\RepS C5 c a1 c1 p0) N ⟨0,m,i,rfl,q,g,k⟩ ?_);rintro o _ U ⟨b,c,hL,rfl,q,g,k⟩;rcases o with _|o
 .exact dV hL
 obtain⟨H,i,s,d⟩:=dX hL;clear hL;unfold BP at i;refine aD 1 [(8,vB (decide (b<(p0.length:Int))))] (aG ?_);refine aI i ?_ ?_
 .intro A i;refine aM (aE (aG (bD (aS 1 [(9,vI b)] (iK 10 k i ?_)))));rintro x1 i M E G ⟨_,_,rfl,rfl,rfl⟩ u;refine iO 11 132 10 E (.agg (Vb x1)) g u (eQ 4 132 (.agg #[vI 0,vT eB]) g fun B V g=>(aA 1 [(3,vI b)] (cG (.agg (Vb x1)) g fun Y g=>(aN (aG (iF [(5,fun w'=>Inv c w'/\Piece.holds c w' (kB B (Vb x1) 132)/\True)] kr g fun Z _ g=> ?_))))));have a:=c.le_refl;refine⟨⟨.inr ⟨Inv.anti g.inv a,Piece.holds_anti g.h a,trivial⟩,trivial⟩,?_⟩;refine aR 0 12 (vS a1 p0 c1) (.head _) (aR 1 13 (vI b) (.head _) ?_);have⟨S,D,i⟩:=aZ i;refine qOf (t:=129) (e:=132) (x:=(.tmp 12)) (lo:=none) (hi:=(some (.tmp 13))) 2 14 C5 kr rfl kr (.head _) (bY (eV (bY (bY (eV (bY mN)))))) (ev (vS a1 p0 c1)) kr k (.inl ⟨rfl,rfl⟩) (.inr ⟨_,_,rfl,(ev (vI b))⟩) D ?_;intro K R F;refine eR 132 4 3 15 0 (.agg (Vb x1)) (.head _) (fun _ h=>h.2.1) (cH 4 kr (mW 16 i (fun _ h=>qFd (p1:=x1) g F h) ?_));rintro y1 i _ w6 ⟨y,rfl,n,g⟩;refine⟨_,rfl,?_⟩;have a:=Mem.le_trans a n;refine⟨⟨.inr ⟨Inv.anti g.inv a,Piece.holds_anti g.h a,trivial⟩,trivial⟩,?_⟩;refine eW kr ?_;refine aE (aI i ?_ ?_)
  .intro A i;refine aD 1 [(2,vB true)] (aL ?_);refine bH (aQ ?_);have ho:=d _ (sI i);subst ho;have i:=v;refine aQ (bH (aQ ?_));cases i;exact aO [2] [vB true] ⟨y,rfl,q.t n,g.t⟩
  intro A i;refine aM (bQ (aE (bC (aA 2 [(7,vI (wr (b+1)))] (aU rfl ?_)))));have hL:=s _ (sI i);exact xE (cT ⟨wr (b+1),y,hL,rfl,q.t n,g.t,k.mono n⟩)
 intro A i;refine cQ (bK ?_);have ho:=d _ (sI i);refine bK ?_;exact xE (l _ _ ⟨(),c,ho,rfl,q,g⟩)
def zJ(N:Nat)(p0:nD)(a:nE×Int):Option (nE×Int⊕nE⊕Bool):=
 if(decide (a.2<(List.length p0.2.2:Int)))=true then((idx p0.2.2 a.2).bind fun x1=>(CG N x1.2.2.1).bind fun y1=>if y1=true then(some (.inr (.inr (true)))) else((cU 24 a.1 ([(x1.1,x1.2.1)])).bind fun b=>some (.inl (b,IntKind.wrap .i64 (a.2+1))))) else(some (.inr (.inl a.1)))
def DA(N:Nat)(p0:nD):Te:=
 (aJ (zJ N p0) N (([]:nE),0)).bind fun a=>(match a with| .inl a=>((uF N p0.2.1 p0.1).bind fun b=>if b=true then(some true) else((CG N p0.2.1).bind fun b=>if b=true then(some true) else((FR N a).bind fun a=>some a)):Te).bind fun o2=>some o2| .inr (z)=>some z)
theorem qHq{p0:nD}{r:Bool}(g:St m (O) w)(l:RepS aH m a1 c1 p0.2.1)(v:RepS C4 m a2 c2 p0.2.2)(i:DA N p0=some r):Calls prog 46 #[.agg (V6 p0 a1 c1 a2 c2)] w fun e w'=>∃m',e= .returned (vB r)/\m.le m'/\St m' (O) w':=by
 unfold DA at i;have q:=m.le_refl;refine bG func46 rfl ntmps46 ?_;refine aC (mJ 1 29 (.agg (V6 p0 a1 c1 a2 c2)) g fun c m1 w1 H g a=>(aF 1 [] (aC (aF 1 [(3,vS none ([]:nE) 0)] (aG (aS 1 [(6,vP c 2)] (cI 7 (vS a2 p0.2.2 c2) g (a.drop 2) (aF 2 [(8,vI (p0.2.2.length:Int)),(9,vI 0)] (bD ?_)))))))));have⟨z,i,Z⟩:=aZ i;refine cZ (.exit 0) (fun L' w'=>∃(k:nE),∃n p f,(.inl k)=z/\L'=[(1,vP c 0),(3,vS n k p)]/\m.le f/\St f (kR n k p 132 2::O) w'/\MRow f c 0 [vT p0.1,vS a1 p0.2.1 c1,vS a2 p0.2.2 c2]/\RepS aH f a1 c1 p0.2.1/\RepS C4 f a2 c2 p0.2.2/\RepS C5 f n p k) ?_ ?_
 .rintro _ S ⟨k,n,p,f,rfl,rfl,q,g,a,l,v,B⟩;have i:=Z;refine dW (aE (aC (eM 15 i (fun o2 L' w'=>∃d,L'=[(2,vB o2)]/\m.le d/\St d (kR n k p 132 2::O) w') ?_ ?_)))
  .rintro o2 i _ b ⟨d,rfl,q,g⟩;refine aN (aL ?_);obtain rfl:=sI i;exact aO [2] [vB o2] ⟨d,rfl,q,g.t⟩
  intro o2 i K;refine aA 1 [(25,vP c 1)] (cI 26 (vS a1 p0.2.1 c1) g (a.drop 1) (aA 1 [(27,vP c 0)] (cI 28 (vT p0.1) g a (aK 29 i (KB g l) ?_))));rintro D i _ G ⟨x,rfl,b,g⟩;have q:=q.t b;refine aA 1 [(30,vB D)] (bN 30 i ?_ ?_)
  .intro A i;refine aA 9 [(2,vB true)] ?_;cases i;exact aY _ kr (K _ _ ⟨x,rfl,q,g⟩)
  intro A i;refine aA 1 [(31,vP c 1)] (cI 32 (vS a1 p0.2.1 c1) g ((a.mono b).drop 1) (aK 33 i (UK g (l.mono b)) ?_));rintro E i _ M ⟨y,rfl,o,g⟩;refine aA 2 [(35,vB E)] (bN 35 i ?_ ?_)
  .intro A i;refine aA 4 [(2,vB true)] ?_;cases i;exact aY _ kr (K _ _ ⟨y,rfl,q.t o,g⟩)
  intro A i;refine aA 1 [(36,vS n k p)] (aK 37 i (qFs g ((B.mono b).mono o)) ?_);rintro F i _ R ⟨s,rfl,u,g⟩;refine aA 2 [(2,vB F)] ?_;cases i;exact aY _ kr (K _ _ ⟨s,rfl,(q.t o).t u,g⟩)
 intro B;refine cX _ kr (cW (fun E L' w'=>∃(b:nE×Int),∃o s d,aJ (zJ N p0) E b=some z/\L'=[(1,vP c 0),(3,vS o b.1 s),(7,vS a2 p0.2.2 c2),(8,vI (p0.2.2.length:Int)),(9,vI b.2)]/\m.le d/\St d (kR o b.1 s 132 2::O) w'/\MRow d c 0 [vT p0.1,vS a1 p0.2.1 c1,vS a2 p0.2.2 c2]/\RepS aH d a1 c1 p0.2.1/\RepS C4 d a2 c2 p0.2.2/\RepS C5 d o s b.1) N ⟨(([]:nE),0),none,0,m1,i,rfl,q.t H,(g.nilroom 132 2),a,l.mono H,v.mono H,(RepS.nil _ _)⟩ ?_);rintro E _ w3 ⟨b,o,s,d,hL,rfl,q,g,a,l,v,r4⟩;rcases E with _|E
 .exact dV hL
 obtain⟨a9,i,M,y⟩:=dX hL;clear hL;unfold zJ at i;refine aD 1 [(10,vB (decide (b.2<(p0.2.2.length:Int))))] (aG ?_);refine aI i ?_ ?_
 .intro A i;refine aM (aE (aG (bD (aC (iK 11 v i ?_)))));rintro x1 i b2 f1 a8 ⟨_,_,rfl,rfl,⟨_,_,rfl,rfl,⟨_,_,rfl,⟨F,G,rfl,r5⟩,⟨R,U,rfl,r6⟩⟩⟩⟩ Y;refine iO 12 43 11 f1 (.agg (V7 x1 F G R U)) g Y (eQ 5 43 (.agg #[vI 0,vT eB,v7,v7]) g fun b3 w4 g=>(cG (.agg (V7 x1 F G R U)) g fun w5 g=>(aN (aG (aC (bW 1 14 26 13 2 (vS F x1.2.2.1 G) g.h (aK 15 i (UK g r5) ?_)))))));rintro y1 i _ w6 ⟨m4,rfl,u,g⟩;refine aN (aI i ?_ ?_)
  .intro A i;refine aS 1 [(2,vB true)] ?_;refine aU rfl ?_;have g:=g.f1.t;refine aE (aL (aQ (bH (aQ ?_))));have ho:=y _ (sI i);subst ho;have i:=Z;refine aQ (bH (aQ ?_));cases i;exact aO [2] [vB true] ⟨m4,rfl,q.t u,g.t⟩
  intro A i;refine aM (aE (bC (aA 2 [(16,vS o b.1 s),(17,vP b3 0)] (bF 18 (vI x1.1) g.h (bW 1 20 9 19 1 (vT x1.2.1) g.h (aA 1 [(21,.agg #[vI x1.1,vT x1.2.1])] (iN 22 132 1 C5 [(x1.1,x1.2.1)] g fun b4 m5 w7 x g r7=>(lR 23 129 129 132 24 16 22 g.f2 (.inl kr) ((r4.mono u).mono x) r7.src i fun l1 i S V m6 w8 D g r8=>(aA 1 [(3,vS S l1 V)] (aU rfl ?_))))))))));have g:=g.f1.t;refine bQ (aE (bC (aA 2 [(9,vI (wr (b.2+1)))] (aU rfl ?_))));have hL:=M _ (sI i);exact xE (cT ⟨(l1,wr (b.2+1)),S,V,m6,hL,rfl,((q.t u).t x).t D,g.f1.t,((a.mono u).mono x).mono D,((l.mono u).mono x).mono D,((v.mono u).mono x).mono D,r8⟩)
 intro A i;refine cQ (bK ?_);have ho:=y _ (sI i);refine bK ?_;exact xE (B _ _ ⟨b.1,o,s,d,ho,rfl,q,g,a,l,v,r4⟩)
def CS(N:Nat)(x1:Ty)(d:rV)(x5:Tq)(a:rV):Option (rV⊕T6):=
 if(decide (a.1<(List.length x5.2.2.2.2:Int)))=true then(((idx x5.2.2.2.2 a.1).bind fun b=>(idx a.2 d.1).bind fun c=>(idx a.2 b).bind fun e=>(idx x1.2.2.2 d.1).bind fun d=>if(d.1 !=4)=true then((idx (List.set a.2 (Int.toNat b) c) b).bind fun d=>(idx (List.set a.2 (Int.toNat b) c) b).bind fun e=>some (List.set (List.set a.2 (Int.toNat b) c) (Int.toNat b) (IntKind.wrap .i64 (d+1)))) else(some (List.set a.2 (Int.toNat b) c)):Option T6).bind fun b=>some (.inl (IntKind.wrap .i64 (a.1+1),b))) else(some (.inr a.2))
def zL(N:Nat)(x1:Ty)(a:rV):Option (rV⊕T6⊕Bool):=
 if(decide (a.1>=0))=true then((idx a.2 a.1).bind fun b=>(if(b==0)=true then((idx a.2 a.1).bind fun b=>some (List.set a.2 (Int.toNat a.1) 1)) else(some a.2):Option T6).bind fun b=>(idx b a.1).bind fun c=>if(decide (c>32))=true then(some (.inr (.inr (true)))) else((idx x1.2.2.2 a.1).bind fun x5=>(aJ (CS N x1 a x5) N (0,b)).bind fun b=>some (.inl (IntKind.wrap .i64 (a.1-1),b)))) else(some (.inr (.inl a.2)))
def CU(N:Nat)(p0:nD)(b:Int):Td:=
 if(decide (b<(List.length p0.2.2:Int)))=true then((idx p0.2.2 b).bind fun x1=>(if(decide ((List.length x1.2.2.1:Int)>8))=true then(some true) else(some (decide ((List.length x1.2.2.2:Int)>256))):Te).bind fun a=>if a=true then(some (.inr (.inr (true)))) else((sE 8 0 (List.length x1.2.2.2:Int)).bind fun a=>(aJ (zL N x1) N (IntKind.wrap .i64 ((List.length x1.2.2.2:Int)-1),a)).bind fun a=>(match a with| .inl o4=>some (.inl (IntKind.wrap .i64 (b+1)))| .inr (z)=>some (.inr (.inr (z)))))) else(some (.inr (.inl ())))
def DC(N:Nat)(p0:nD):Te:=
 (if(decide ((List.length p0.2.1:Int)>8))=true then(some true) else(some (decide ((List.length p0.2.2:Int)>64))):Te).bind fun a=>if a=true then(some true) else((aJ (CU N p0) N 0).bind fun a=>(match a with| .inl o2=>some false| .inr (z)=>some z))
theorem qHv{p0:nD}{r:Bool}(g:St m (O) w)(r1:RepS aH m a1 c1 p0.2.1)(c:RepS C4 m a2 c2 p0.2.2)(i:DC N p0=some r):Calls prog 47 #[.agg (V6 p0 a1 c1 a2 c2)] w fun e w'=>∃m',e= .returned (vB r)/\m.le m'/\St m' (O) w':=by
 unfold DC at i;have q:=m.le_refl;refine bG func47 rfl ntmps47 ?_;refine aC (mJ 1 29 (.agg (V6 p0 a1 c1 a2 c2)) g fun b1 m1 w1 e1 g G=>(aF 1 [] (aG (aC ?_))));have⟨o1,i,J⟩:=aZ i;refine wJ (j:=10) (fun L' w'=>∃V,L'=[(1,vP b1 0),(18,vB o1)]/\m.le V/\St V (O) w'/\MRow V b1 0 [vT p0.1,vS a1 p0.2.1 c1,vS a2 p0.2.2 c2]/\P5 V a1 c1 a2 c2 p0.2) ?_ ?_
 .have i:=J;rintro _ w2 ⟨V,rfl,q,g,G,r1,c⟩;refine aN (aI i ?_ ?_)
  .intro A i;refine aD 1 [(2,vB true)] (aL ?_);refine aQ ?_;cases i;exact aO [2] [vB true] ⟨V,rfl,q,g⟩
  intro A i;refine aM (aE (aG (aS 1 [(19,vP b1 2)] (cI 20 (vS a2 p0.2.2 c2) g (G.drop 2) (aF 2 [(21,vI (p0.2.2.length:Int)),(22,vI 0)] (bD ?_))))));have⟨b8,i,j1⟩:=aZ i;refine cZ (.exit 0) (fun L' w'=>∃(o2:Unit),∃m3,(.inl o2)=b8/\L'=[]/\m.le m3/\St m3 (O) w') ?_ ?_
  .rintro _ a ⟨o2,m3,rfl,rfl,q,g⟩;have i:=j1;refine dW (aE (aD 1 [(2,vB false)] (aL ?_)));cases i;exact aO [2] [vB false] ⟨m3,rfl,q,g⟩
  intro c7;refine cX _ kr (cW (fun k1 L' w'=>∃(B:Int),∃Y,aJ (CU N p0) k1 B=some b8/\L'=[(20,vS a2 p0.2.2 c2),(21,vI (p0.2.2.length:Int)),(22,vI B)]/\m.le Y/\St Y (O) w'/\RepS C4 Y a2 c2 p0.2.2) N ⟨0,V,i,rfl,q,g,c⟩ ?_);rintro k1 _ w4 ⟨B,Y,hL,rfl,q,g,c⟩;rcases k1 with _|k1
  .exact dV hL
  obtain⟨f9,i,e2,U⟩:=dX hL;clear hL;unfold CU at i;refine aD 1 [(23,vB (decide (B<(p0.2.2.length:Int))))] (aG ?_);refine aI i ?_ ?_
  .intro A i;refine aM (aE (aG (bD (aC (iK 24 c i ?_)))));rintro x1 i b2 f1 f5 ⟨_,_,rfl,rfl,⟨_,_,rfl,rfl,⟨_,_,rfl,⟨p,s,rfl,o⟩,⟨k,l,rfl,n⟩⟩⟩⟩ e7;refine iO 25 43 24 f1 (.agg (V7 x1 p s k l)) g e7 (eQ 4 43 (.agg #[vI 0,vT eB,v7,v7]) g fun z w5 g=>(cG (.agg (V7 x1 p s k l)) g fun w6 g=>(aN (aG (aC (eM 10 i (fun o3 L' w'=>∃Z,L'=[(4,vP z 0),(20,vS a2 p0.2.2 c2),(21,vI (p0.2.2.length:Int)),(22,vI B),(35,vB o3)]/\m.le Z/\St Z (kB z (V7 x1 p s k l) 43::O) w'/\RepS C4 Z a2 c2 p0.2.2/\P2 Z p s k l x1.2.2) ?_ ?_))))))
   .rintro o3 i _ w7 ⟨Z,rfl,q,g,c,o,n⟩;refine aN (aI i ?_ ?_)
    .intro A i;refine aD 1 [(2,vB true)] (aL ?_);refine aQ (bH (aQ ?_));have ho:=U _ (sI i);subst ho;have i:=j1;refine aQ (bH (aQ ?_));cases i;exact aO [2] [vB true] ⟨Z,rfl,q,g.t⟩
    intro A i;refine aM (aE (aC (bW 1 37 41 36 3 (vS k x1.2.2.2 l) g.h (aA 1 [(38,vI (x1.2.2.2.length:Int))] ?_))));have⟨l1,d2,i⟩:=aZ i;refine bA rfl (OY (d:=39) (t:=22) (e:=3) (by_:=8) (x:=(.tmp 38)) (y:=(.tmp 38)) (fun x:Int=>Value.int .i64 x) kr rfl (ev (vI (x1.2.2.2.length:Int))) (ev (vI (x1.2.2.2.length:Int))) kr kr rfl g d2 fun a w8 e6 g=>(aF 1 [(5,.slice (aP a) (Int.toNat (x1.2.2.2.length:Int)) (Int.toNat (x1.2.2.2.length:Int)))] (aC (bW 1 41 41 40 3 (vS k x1.2.2.2 l) g.t.h (aF 3 [(6,vI (wr ((x1.2.2.2.length:Int)-1)))] (bD ?_))))));have⟨b9,i,j2⟩:=aZ i;refine cZ (.exit 2) (fun L' w'=>∃(o4:T6),∃m6,(.inl o4)=b9/\L'=[(20,vS a2 p0.2.2 c2),(21,vI (p0.2.2.length:Int)),(22,vI B)]/\m.le m6/\St m6 (kB z (V7 x1 p s k l) 43:: .blk a (.cells (lB (fun x:Int=>Value.int .i64 x) o4 []) 3 (0,0))::O) w'/\RepS C4 m6 a2 c2 p0.2.2/\RepS aH m6 p s x1.2.2.1/\RepS C3 m6 k l x1.2.2.2/\List.length o4=(Int.toNat (x1.2.2.2.length:Int))) ?_ ?_
    .rintro _ v ⟨o4,m6,rfl,rfl,q,g,c,o,n,b⟩;have i:=j2;refine dW (bQ (aE (bC (aA 2 [(22,vI (wr (B+1)))] (aU rfl ?_)))));have hL:=e2 _ (sI i);exact xE (cT ⟨wr (B+1),m6,hL,rfl,q,g.t.t,c⟩)
    intro c8;refine cX _ kr (cW (fun k2 L' w'=>∃(b:rV),∃H,aJ (zL N x1) k2 b=some b9/\L'=[(4,vP z 0),(5,.slice (aP a) (Int.toNat (x1.2.2.2.length:Int)) (Int.toNat (x1.2.2.2.length:Int))),(6,vI b.1),(20,vS a2 p0.2.2 c2),(21,vI (p0.2.2.length:Int)),(22,vI B)]/\m.le H/\St H (kB z (V7 x1 p s k l) 43:: .blk a (.cells (lB (fun x:Int=>Value.int .i64 x) b.2 []) 3 (0,0))::O) w'/\RepS C4 H a2 c2 p0.2.2/\RepS aH H p s x1.2.2.1/\RepS C3 H k l x1.2.2.2/\List.length b.2=(Int.toNat (x1.2.2.2.length:Int))) N ⟨(wr ((x1.2.2.2.length:Int)-1),l1),Z,i,rfl,q,g.f1,c,o,n,e6⟩ ?_);rintro k2 _ g2 ⟨b,H,hL,rfl,q,g,c,o,n,R⟩;rcases k2 with _|k2
    .exact dV hL
    obtain⟨g0,i,e3,b0⟩:=dX hL;clear hL;unfold zL at i;refine aG (aD 2 [(45,vB (decide (b.1>=0)))] (aI i ?_ ?_))
    .intro A i;refine aM (aE (aG (bD (aG (aS 2 [(48,.slice (aP a) (Int.toNat (x1.2.2.2.length:Int)) (Int.toNat (x1.2.2.2.length:Int))),(49,vI b.1)] ?_)))));have⟨x2,d3,i⟩:=aZ i;refine bA rfl (rI (d:=50) (t:=22) (e:=3) (x:=(.tmp 48)) (y:=(.tmp 49)) kr rfl (ev (.slice (aP a) (Int.toNat (x1.2.2.2.length:Int)) (Int.toNat (x1.2.2.2.length:Int)))) (ev (vI b.1)) kr R d3 (bA rfl (zS (d:=51) (t:=3) (x:=(.tmp 50)) kr rfl (ev (.pointer (some ⟨a,Int.toNat b.1,none⟩))) g.t.h d3 kr (aF 1 [(52,vB (x2==0))] (cJ .normal i (fun o5 L' w'=>∃S,L'=[(4,vP z 0),(5,.slice (aP a) (Int.toNat (x1.2.2.2.length:Int)) (Int.toNat (x1.2.2.2.length:Int))),(6,vI b.1),(20,vS a2 p0.2.2 c2),(21,vI (p0.2.2.length:Int)),(22,vI B)]/\m.le S/\St S (kB z (V7 x1 p s k l) 43:: .blk a (.cells (lB (fun x:Int=>Value.int .i64 x) o5 []) 3 (0,0))::O) w'/\RepS C4 S a2 c2 p0.2.2/\RepS aH S p s x1.2.2.1/\RepS C3 S k l x1.2.2.2/\List.length o5=(Int.toNat (x1.2.2.2.length:Int))) ?_ ?_)))))
     .rintro o5 i _ g3 ⟨S,rfl,q,g,c,o,n,d7⟩;refine aE (aG (aS 2 [(56,.slice (aP a) (Int.toNat (x1.2.2.2.length:Int)) (Int.toNat (x1.2.2.2.length:Int))),(57,vI b.1)] ?_));have⟨x4,d5,i⟩:=aZ i;refine bA rfl (rI (d:=58) (t:=22) (e:=3) (x:=(.tmp 56)) (y:=(.tmp 57)) kr rfl (ev (.slice (aP a) (Int.toNat (x1.2.2.2.length:Int)) (Int.toNat (x1.2.2.2.length:Int)))) (ev (vI b.1)) kr d7 d5 (bA rfl (zS (d:=59) (t:=3) (x:=(.tmp 58)) kr rfl (ev (.pointer (some ⟨a,Int.toNat b.1,none⟩))) g.t.h d5 kr (aF 1 [(60,vB (decide (x4>32)))] (aI i ?_ ?_)))))
      .intro A i;refine aD 1 [(2,vB true)] (aL ?_);refine aQ (bH (aQ ?_));have ho:=b0 _ (sI i);subst ho;have i:=j2;refine aQ (bH (bH (aQ ?_)));have ho:=U _ (sI i);subst ho;have i:=j1;refine aQ (bH (aQ ?_));cases i;exact aO [2] [vB true] ⟨S,rfl,q,g.t.t⟩
      intro A i;refine aM (aE (aC (bW 1 62 41 61 3 (vS k x1.2.2.2 l) g.h (aA 1 [(63,vI b.1)] (iK 64 n i ?_)))));rintro x5 i b5 f2 f6 ⟨_,_,rfl,rfl,⟨_,_,rfl,rfl,⟨_,_,rfl,rfl,⟨_,_,rfl,rfl,⟨a5,c5,rfl,r5⟩⟩⟩⟩⟩ e8;refine aA 1 [(65,.pointer (some ⟨b5,f2+4,none⟩))] (cI 66 (vS a5 x5.2.2.2.2 c5) g (e8.drop 4) (aF 2 [(67,vI (x5.2.2.2.2.length:Int)),(68,vI 0)] (bD (cJ (.exit 4) i (fun M L' w'=>∃(o6:T6),∃m9,o6=M/\L'=[(4,vP z 0),(5,.slice (aP a) (Int.toNat (x1.2.2.2.length:Int)) (Int.toNat (x1.2.2.2.length:Int))),(6,vI b.1),(20,vS a2 p0.2.2 c2),(21,vI (p0.2.2.length:Int)),(22,vI B)]/\m.le m9/\St m9 (kB z (V7 x1 p s k l) 43:: .blk a (.cells (lB (fun x:Int=>Value.int .i64 x) o6 []) 3 (0,0))::O) w'/\RepS C4 m9 a2 c2 p0.2.2/\RepS aH m9 p s x1.2.2.1/\RepS C3 m9 k l x1.2.2.2/\List.length o6=(Int.toNat (x1.2.2.2.length:Int))) ?_ ?_))))
      .rintro M i _ D ⟨o6,m9,rfl,rfl,q,g,c,o,n,v⟩;refine dW (bQ (aE (bC (aA 3 [(6,vI (wr (b.1-1)))] (aU rfl ?_)))));have hL:=e3 _ (sI i);exact xE (cT ⟨(wr (b.1-1),o6),m9,hL,rfl,q,g.f1.f1,c,o,n,v⟩)
      intro M i c9;refine cX _ kr (cW (fun k3 L' w'=>∃(F:rV),∃v,aJ (CS N x1 b x5) k3 F=some M/\L'=[(4,vP z 0),(5,.slice (aP a) (Int.toNat (x1.2.2.2.length:Int)) (Int.toNat (x1.2.2.2.length:Int))),(6,vI b.1),(20,vS a2 p0.2.2 c2),(21,vI (p0.2.2.length:Int)),(22,vI B),(66,vS a5 x5.2.2.2.2 c5),(67,vI (x5.2.2.2.2.length:Int)),(68,vI F.1)]/\m.le v/\St v (kB z (V7 x1 p s k l) 43:: .blk a (.cells (lB (fun x:Int=>Value.int .i64 x) F.2 []) 3 (0,0))::O) w'/\RepS C4 v a2 c2 p0.2.2/\RepS (aT .i64) v a5 c5 x5.2.2.2.2/\RepS aH v p s x1.2.2.1/\RepS C3 v k l x1.2.2.2/\List.length F.2=(Int.toNat (x1.2.2.2.length:Int))) N ⟨(0,o5),S,i,rfl,q,g.f1.f1,c,r5,o,n,d7⟩ ?_);rintro k3 _ g4 ⟨F,v,hL,rfl,q,g,c,r5,o,n,a7⟩;rcases k3 with _|k3
      .exact dV hL
      obtain⟨g1,i,e4,e0⟩:=dX hL;clear hL;unfold CS at i;refine aD 1 [(69,vB (decide (F.1<(x5.2.2.2.2.length:Int))))] (aG ?_);refine aI i ?_ ?_
      .intro A i;refine aM (aE (aG (cJ .normal i (fun o7 L' w'=>∃E,L'=[(4,vP z 0),(5,.slice (aP a) (Int.toNat (x1.2.2.2.length:Int)) (Int.toNat (x1.2.2.2.length:Int))),(6,vI b.1),(20,vS a2 p0.2.2 c2),(21,vI (p0.2.2.length:Int)),(22,vI B),(66,vS a5 x5.2.2.2.2 c5),(67,vI (x5.2.2.2.2.length:Int)),(68,vI F.1)]/\m.le E/\St E (kB z (V7 x1 p s k l) 43:: .blk a (.cells (lB (fun x:Int=>Value.int .i64 x) o7 []) 3 (0,0))::O) w'/\RepS C4 E a2 c2 p0.2.2/\RepS (aT .i64) E a5 c5 x5.2.2.2.2/\RepS aH E p s x1.2.2.1/\RepS C3 E k l x1.2.2.2/\List.length o7=(Int.toNat (x1.2.2.2.length:Int))) ?_ ?_)))
       .rintro o7 i _ a8 ⟨E,rfl,q,g,c,r5,o,n,D⟩;refine aE (bC (aA 2 [(68,vI (wr (F.1+1)))] (aU rfl ?_)));have hL:=e4 _ (sI i);exact xE (cT ⟨(wr (F.1+1),o7),E,hL,rfl,q,g.f1.f1,c,r5,o,n,D⟩)
       intro o7 i d0;refine bD (aC (iK 70 r5 i ?_));rintro D i b6 f3 f7 rfl e9;refine iO 71 3 70 f3 (vI D) g e9 (aF 1 [(8,vI D)] (aC (aA 4 [(72,.slice (aP a) (Int.toNat (x1.2.2.2.length:Int)) (Int.toNat (x1.2.2.2.length:Int))),(73,vI D),(74,.slice (aP a) (Int.toNat (x1.2.2.2.length:Int)) (Int.toNat (x1.2.2.2.length:Int))),(75,vI b.1)] ?_)));have⟨x7,d8,i⟩:=aZ i;refine bA rfl (rI (d:=76) (t:=22) (e:=3) (x:=(.tmp 74)) (y:=(.tmp 75)) kr rfl (ev (.slice (aP a) (Int.toNat (x1.2.2.2.length:Int)) (Int.toNat (x1.2.2.2.length:Int)))) (ev (vI b.1)) kr a7 d8 (bA rfl (zS (d:=77) (t:=3) (x:=(.tmp 76)) kr rfl (ev (.pointer (some ⟨a,Int.toNat b.1,none⟩))) g.t.h d8 kr ?_)));have⟨x8,d9,i⟩:=aZ i;refine bA rfl (rI (d:=78) (t:=22) (e:=3) (x:=(.tmp 72)) (y:=(.tmp 73)) kr rfl (ev (.slice (aP a) (Int.toNat (x1.2.2.2.length:Int)) (Int.toNat (x1.2.2.2.length:Int)))) (ev (vI D)) kr a7 d9 (bA rfl (zP (f:=(fun x:Int=>Value.int .i64 x)) (u:=x7) (t:=3) (x:=(.tmp 78)) (y:=(.tmp 77)) kr (ev (.pointer (some ⟨a,Int.toNat D,none⟩))) (ev (vI x7)) g.f1 d9 rfl kr fun g5 g=> ?_)));have a8:List.length (List.set F.2 (Int.toNat D) x7)=(Int.toNat (x1.2.2.2.length:Int)):=xV a7 _ _;refine aN (aC (bW 1 80 41 79 3 (vS k x1.2.2.2 l) g.t.h (aA 1 [(81,vI b.1)] (iK 82 n i ?_))))
       rintro x9 i b7 f4 f8 ⟨_,_,rfl,rfl,⟨_,_,rfl,rfl,⟨_,_,rfl,rfl,⟨_,_,rfl,rfl,⟨a6,c6,rfl,r6⟩⟩⟩⟩⟩ f0;refine aA 1 [(83,vP b7 f4)] (iO 84 3 83 f4 (vI x9.1) g f0 (aF 1 [(85,vB (x9.1 !=4))] (aI i ?_ ?_)))
       .intro A i;refine bC (aA 2 [(86,.slice (aP a) (Int.toNat (x1.2.2.2.length:Int)) (Int.toNat (x1.2.2.2.length:Int))),(87,vI D)] ?_);have⟨a9,d1,i⟩:=aZ i;refine bA rfl (rI (d:=88) (t:=22) (e:=3) (x:=(.tmp 86)) (y:=(.tmp 87)) kr rfl (ev (.slice (aP a) (Int.toNat (x1.2.2.2.length:Int)) (Int.toNat (x1.2.2.2.length:Int)))) (ev (vI D)) kr a8 d1 (bA rfl (zS (d:=89) (t:=3) (x:=(.tmp 88)) kr rfl (ev (.pointer (some ⟨a,Int.toNat D,none⟩))) g.h d1 kr (aA 1 [(90,vI (wr (a9+1)))] ?_))));have⟨g7,d6,i⟩:=aZ i;refine bA rfl (rI (d:=91) (t:=22) (e:=3) (x:=(.tmp 86)) (y:=(.tmp 87)) kr rfl (ev (.slice (aP a) (Int.toNat (x1.2.2.2.length:Int)) (Int.toNat (x1.2.2.2.length:Int)))) (ev (vI D)) kr a8 d6 (bA rfl (zP (f:=(fun x:Int=>Value.int .i64 x)) (u:=wr (a9+1)) (t:=3) (x:=(.tmp 91)) (y:=(.tmp 90)) kr (ev (.pointer (some ⟨a,Int.toNat D,none⟩))) (ev (vI (wr (a9+1)))) g d6 rfl kr fun g6 g=> ?_)));have e5:List.length (List.set (List.set F.2 (Int.toNat D) x7) (Int.toNat D) (wr (a9+1)))=(Int.toNat (x1.2.2.2.length:Int)):=xV a8 _ _;refine aU rfl (bQ ?_);cases i;exact xE (d0 _ _ ⟨v,rfl,q,g.f1,c,r5,o,n,e5⟩)
       intro A i;refine aM (bQ ?_);cases i;exact xE (d0 _ _ ⟨v,rfl,q,g.f1,c,r5,o,n,a8⟩)
      intro A i;refine cQ (bK ?_);have ho:=e0 _ (sI i);have g:=g.f1.f1;refine bK ?_;exact xE (c9 _ _ ⟨F.2,v,ho,rfl,q,g,c,o,n,a7⟩)
     intro o5 i v;refine aI i ?_ ?_
     .intro A i;refine bC (aA 2 [(53,.slice (aP a) (Int.toNat (x1.2.2.2.length:Int)) (Int.toNat (x1.2.2.2.length:Int))),(54,vI b.1)] ?_);have⟨M,D,i⟩:=aZ i;refine bA rfl (rI (d:=55) (t:=22) (e:=3) (x:=(.tmp 53)) (y:=(.tmp 54)) kr rfl (ev (.slice (aP a) (Int.toNat (x1.2.2.2.length:Int)) (Int.toNat (x1.2.2.2.length:Int)))) (ev (vI b.1)) kr R D (bA rfl (zP (f:=(fun x:Int=>Value.int .i64 x)) (u:=1) (t:=3) (x:=(.tmp 55)) (y:=(.const (vI 1))) kr (ev (.pointer (some ⟨a,Int.toNat b.1,none⟩))) (ev (vI 1)) g.f1 D rfl kr fun F g=> ?_)));have E:List.length (List.set b.2 (Int.toNat b.1) 1)=(Int.toNat (x1.2.2.2.length:Int)):=xV R _ _;refine aU rfl ?_;cases i;exact xE (v _ _ ⟨H,rfl,q,g.f1,c,o,n,E⟩)
     intro A i;refine aM ?_;cases i;exact xE (v _ _ ⟨H,rfl,q,g.f1.f1,c,o,n,R⟩)
    intro A i;refine cQ (bK ?_);have ho:=b0 _ (sI i);have g:=g.f1.f1;refine bK ?_;exact xE (c8 _ _ ⟨b.2,H,ho,rfl,q,g,c,o,n,R⟩)
   intro o3 i K;refine bW 1 27 26 26 2 (vS p x1.2.2.1 s) g.h (aA 3 [(30,vB (decide ((x1.2.2.1.length:Int)>8)))] (bN 30 i ?_ ?_))
   .intro A i;refine aA 5 [(35,vB true)] ?_;cases i;exact aY _ kr (K _ _ ⟨Y,rfl,q,g,c,o,n⟩)
   intro A i;refine bW 1 32 41 31 3 (vS k x1.2.2.2 l) g.h (aA 3 [(35,vB (decide ((x1.2.2.2.length:Int)>256)))] ?_);cases i;exact aY _ kr (K _ _ ⟨Y,rfl,q,g,c,o,n⟩)
  intro A i;refine cQ (bK ?_);have ho:=U _ (sI i);refine bK ?_;exact xE (c7 _ _ ⟨(),Y,ho,rfl,q,g⟩)
 intro K;refine aA 1 [(9,vP b1 1)] (cI 10 (vS a1 p0.2.1 c1) g (G.drop 1) (aA 3 [(13,vB (decide ((p0.2.1.length:Int)>8)))] (bN 13 i ?_ ?_)))
 .intro A i;refine aA 5 [(18,vB true)] ?_;cases i;exact aY _ kr (K _ _ ⟨m1,rfl,q.t e1,g,G,r1.mono e1,c.mono e1⟩)
 intro A i;refine aA 1 [(14,vP b1 2)] (cI 15 (vS a2 p0.2.2 c2) g (G.drop 2) (aA 3 [(18,vB (decide ((p0.2.2.length:Int)>64)))] ?_));cases i;exact aY _ kr (K _ _ ⟨m1,rfl,q.t e1,g,G,r1.mono e1,c.mono e1⟩)
def sQ(N:Nat)(p0:nD):T5:=
 (CX N p0).bind fun y1=>if(!y1)=true then(some 9) else((DA N p0).bind fun a=>if a=true then(some 10) else((DC N p0).bind fun a=>if a=true then(some 2) else(some 0)))
theorem UU{p0:nD}{r:Int}(g:St m (O) w)(c:RepS aH m a1 c1 p0.2.1)(d:RepS C4 m a2 c2 p0.2.2)(i:sQ N p0=some r):Calls prog 13 #[.agg (V6 p0 a1 c1 a2 c2)] w fun e w'=>∃m',e= .returned (vI r)/\m.le m'/\St m' (O) w':=by
 unfold sQ at i;have q:=m.le_refl;refine bG func13 rfl ntmps13 ?_;refine aC (mJ 1 29 (.agg (V6 p0 a1 c1 a2 c2)) g fun u v x f g b=> ?_);have c:=c.mono f;have d:=d.mono f;refine aF 1 [] (aG (bD (aC (cI 4 (.agg (V6 p0 a1 c1 a2 c2)) g b (aK 5 i (qHi (p0:=p0) g c d) ?_)))));rintro y1 i _ y ⟨n,rfl,a,g⟩;refine aF 2 [(3,vB (!y1))] (aI i ?_ ?_)
 .intro A i;refine aD 1 [(2,vI 9)] (aL ?_);refine bH (aQ ?_);cases i;exact aO [2] [vI 9] ⟨n,rfl,(q.t f).t a,g⟩
 intro A i;refine aC (cI 8 (.agg (V6 p0 a1 c1 a2 c2)) g (b.mono a) (aK 9 i (qHq (p0:=p0) g (c.mono a) (d.mono a)) ?_));rintro p i _ z ⟨o,rfl,h,g⟩;have q:=((q.t f).t a).t h;refine aF 1 [(7,vB p)] (aI i ?_ ?_)
 .intro A i;refine aD 1 [(2,vI 10)] (aL ?_);refine bH (aQ ?_);cases i;exact aO [2] [vI 10] ⟨o,rfl,q,g⟩
 intro A i;refine aC (cI 11 (.agg (V6 p0 a1 c1 a2 c2)) g ((b.mono a).mono h) (aK 12 i (qHv (p0:=p0) g ((c.mono a).mono h) ((d.mono a).mono h)) ?_));rintro s i _ B ⟨l,rfl,k,g⟩;refine aF 1 [(10,vB s)] (aI i ?_ ?_)
 .intro A i;refine aD 1 [(2,vI 2)] (aL ?_);refine bH (aQ ?_);cases i;exact aO [2] [vI 2] ⟨l,rfl,q.t k,g⟩
 intro A i;refine aM (bQ (aE (aD 1 [(2,vI 0)] (aL ?_))));cases i;exact aO [2] [vI 0] ⟨l,rfl,q.t k,g⟩
def zK(N:Nat)(p0:Int):T5:=
 (if(p0==6)=true then(some (p0==6)) else(some (p0==7)):Te).bind fun a=>if a=true then(some 1) else((if(p0==1)=true then(some (p0==1)) else(some (p0==2)):Te).bind fun o2=>if o2=true then(some 2) else(some 3))
theorem UQ{p0:Int}{r:Int}(g:St m (O) w)(i:zK N p0=some r):Calls prog 144 #[vI p0] w fun e w'=>∃m',e= .returned (vI r)/\m.le m'/\St m' (O) w':=by
 unfold zK at i;have q:=m.le_refl;refine bG func144 rfl ntmps144 ?_;refine aD 1 [] (aG ?_);refine aD 1 [(3,vI p0)] (bD ?_);refine aG (aD 2 [(4,vB (p0==6))] (cJ .normal i (fun d L' w'=>∃a,L'=[(3,vI p0),(4,vB d)]/\m.le a/\St a (O) w') ?_ ?_))
 .rintro d i _ f ⟨a,rfl,q,g⟩;refine aE (aI i ?_ ?_)
  .intro A i;refine aD 1 [(2,vI 1)] (aL ?_);refine bH (aQ ?_);cases i;exact aO [2] [vI 1] ⟨a,rfl,q,g⟩
  intro A i;refine aG (aD 2 [(7,vB (p0==1))] (cJ .normal i (fun o2 L' w'=>∃b,L'=[(7,vB o2)]/\m.le b/\St b (O) w') ?_ ?_))
  .rintro o2 i _ c ⟨b,rfl,q,g⟩;refine aE (aI i ?_ ?_)
   .intro A i;refine aD 1 [(2,vI 2)] (aL ?_);refine bH (aQ ?_);cases i;exact aO [2] [vI 2] ⟨b,rfl,q,g⟩
   intro A i;refine aM (bQ (aE (aD 1 [(2,vI 3)] (aL ?_))));cases i;exact aO [2] [vI 3] ⟨b,rfl,q,g⟩
  intro o2 i c;refine aI i ?_ ?_
  .intro A i;refine aM ?_;cases i;exact xE (c _ _ ⟨a,rfl,q,g⟩)
  intro A i;refine bC (aA 2 [(7,vB (p0==2))] (aU rfl ?_));cases i;exact xE (c _ _ ⟨a,rfl,q,g⟩)
 intro d i b;refine aI i ?_ ?_
 .intro A i;refine aM ?_;cases i;exact xE (b _ _ ⟨m,rfl,q,g⟩)
 intro A i;refine bC (aA 2 [(4,vB (p0==7))] (aU rfl ?_));cases i;exact xE (b _ _ ⟨m,rfl,q,g⟩)
def xL(N:Nat)(p0:Tq):T5:=
 if(p0.1==5)=true then(some 0) else(if(p0.1==4)=true then((zK N p0.2.2.1).bind fun y1=>some y1) else(some 4))
theorem UV{p0:Tq}{r:Int}(g:St m (O) w)(k:RepS (aT .i64) m a1 c1 p0.2.2.2.2)(i:xL N p0=some r):Calls prog 114 #[.agg (V8 p0 a1 c1)] w fun e w'=>∃m',e= .returned (vI r)/\m.le m'/\St m' (O) w':=by
 unfold xL at i;have q:=m.le_refl;refine bG func114 rfl ntmps114 ?_;refine aC (mJ 1 61 (.agg (V8 p0 a1 c1)) g fun b c l d g a=> ?_);have q:=q.t d;refine aF 1 [] (aG (aS 1 [(3,vP b 0)] (cI 4 (vI p0.1) g a (aN (bD (aD 2 [(5,vB (p0.1==5))] (aI i ?_ ?_)))))))
 .intro A i;refine aD 1 [(2,vI 0)] (aL ?_);refine bH (aQ ?_);cases i;exact aO [2] [vI 0] ⟨c,rfl,q,g⟩
 intro A i;refine aD 2 [(7,vB (p0.1==4))] (aI i ?_ ?_)
 .intro A i;refine aS 1 [(9,vP b 2)] ?_;refine cI 10 (vI p0.2.2.1) g (a.drop 2) ?_;refine aK 11 i (UQ g) ?_;rintro y1 i _ n ⟨h,rfl,f,g⟩;refine aF 1 [(2,vI y1)] (aL (bH (aQ ?_)));obtain rfl:=sI i;exact aO [2] [vI y1] ⟨h,rfl,q.t f,g⟩
 intro A i;refine aM (bQ (aE (aD 1 [(2,vI 4)] (aL ?_))));cases i;exact aO [2] [vI 4] ⟨c,rfl,q,g⟩
theorem bcc_true{b:Nat}{R:List Value}{e:Nat}(g:St m (.blk b (.cells ⟨vP b 0::R⟩ e (0,0))::O) w):
  Calls prog 76 #[vP b 0] w fun ex w'=>∃m':Mem,ex= .returned (.tuple #[])/\m.le m'/\St m' (.blk b (.cells ⟨vP b 0::R⟩ e (0,0))::O) w':=by
 have q:=m.le_refl;refine SA func76 rfl ntmps76 [(0,vP b 0)] kr rfl ?_;refine aC (tS 3 [(4,vP b 0)] kr kr (bA rfl (DB (d:=5) (t:=63) (x:=(.tmp 4)) (vP b 0) kr rfl (ev (vP b 0)) g.h kr (tS 1 [(6,vB false)] kr kr (IX rfl (tR false kr (fun h=>Bool.noConfusion h) fun _=>(aC (tS 3 [(16,vP b 0)] kr kr (bA rfl (DB (d:=17) (t:=63) (x:=(.tmp 16)) (vP b 0) kr rfl (ev (vP b 0)) g.h kr (tS 1 [(18,vP b 0)] kr kr (bA rfl (qJp (d:=19) (t:=63) (t2:=63) (r:=66) (x:=(.tmp 17)) (y:=(.tmp 18)) (a:=⟨b,0,none⟩) kr rfl (ev (vP b 0)) (ev (vP b 0)) kr kr (IX rfl (tR false kr (fun h=>Bool.noConfusion h) fun _=>(aM (pR [] [] rfl ResAll.nil ?_)))))))))))))))));exact⟨m,rfl,q,g⟩
theorem qLz{b:Nat}{R:List Value}{e:Nat}(hl:liesAt prog prog.depth e ((⟨.pointer none::R⟩:Array Value).size/prog.cellsOf e) 0 66 1=true)(g:St m (.blk b (.cells ⟨.pointer none::R⟩ e (0,0))::O) w):
  Calls prog 76 #[vP b 0] w fun ex w'=>∃m':Mem,ex= .returned (.tuple #[])/\m.le m'/\St m' (.blk b (.cells ⟨vP b 0::R⟩ e (0,0))::O) w':=by
 have q:=m.le_refl;refine SA func76 rfl ntmps76 [(0,vP b 0)] kr rfl ?_;refine aC (tS 3 [(4,vP b 0)] kr kr (bA rfl (DB (d:=5) (t:=63) (x:=(.tmp 4)) (.pointer none) kr rfl (ev (vP b 0)) g.h kr (tS 1 [(6,vB true)] kr kr (IX rfl (tR true kr (fun _=> ?_) (fun h=>Bool.noConfusion h)))))));refine bC (tS 2 [(7,vP b 0),(8,vP b 0)] kr kr (bA rfl (qIy (d:=9) (src:=63) (dst:=143) (t:=66) (x:=(.tmp 8)) kr rfl (ev (vP b 0)) g.h kr kr kr (by simp) (bA rfl (qIw (d:=10) (f:=113) (ts:= #[143]) (x:=(.tmp 9)) (v:=vP b 0) kr rfl (ev (vP b 0)) func113 kr kr (bA rfl (qHt (d:=11) (src:=143) (dst:=63) (u:=66) (x:=(.tmp 10)) kr rfl (ev (vP b 0)) g.h kr kr kr hl (tS 2 [(13,vP b 0)] kr kr (bA rfl (LN (t:=63) (x:=(.tmp 13)) (y:=(.tmp 11)) (v:=vP b 0) (c':=⟨vP b 0::R⟩) kr (ev (vP b 0)) (ev (vP b 0)) g kr kr ?_))))))))));clear g;intro a g;refine aU rfl (pR [] [] rfl ResAll.nil ?_);exact⟨m,rfl,q,g⟩
theorem oX{b:Nat}{c0:Option Addr}{R:List Value}{e:Nat}(A:(c0=none/\liesAt prog prog.depth e ((⟨.pointer none::R⟩:Array Value).size/prog.cellsOf e) 0 66 1=true)\/c0=some ⟨b,0,none⟩)(g:St m (.blk b (.cells ⟨.pointer c0::R⟩ e (0,0))::O) w):
  Calls prog 76 #[vP b 0] w fun ex w'=>∃m':Mem,ex= .returned (.tuple #[])/\m.le m'/\St m' (.blk b (.cells ⟨vP b 0::R⟩ e (0,0))::O) w':=by
 rcases A with ⟨rfl,hl⟩|rfl
 .exact qLz hl g
 exact bcc_true g
end
section
open Go Go.Dc Go.Proofs.Tryz
set_option maxHeartbeats 4000000
set_option maxRecDepth 100000
variable {N bp0 c1 c2 c3:Nat} {m:Mem} {O:List Piece} {w:World} {a1 a2 a3:Option Addr}
def strconv_Itoa(_:Nat)(p0:Int):Tf:=
 NJ p0
def qHr:Go.Shelf.Ren:=⟨fun|171=>116|243=>145|246=>159|283=>166|284=>167|285=>168|286=>169|129=>185|317=>187|318=>188|319=>189|320=>190|337=>201|338=>202|n=>n,fun|3=>3|9=>9|2=>2|4=>4|171=>174|0=>0|53=>155|37=>64|5=>5|173=>177|212=>194|51=>192|20=>20|213=>195|46=>173|232=>209|233=>210|n=>n,fun|17=>1|18=>2|19=>3|n=>n⟩
theorem qKz:Go.Proofs.LaysM.n171 prog qHr where
 mixed:=kr
 f129:=func185.trans (congrArg some kr)
 f171:=func116.trans (congrArg some kr)
 f243:=func145.trans (congrArg some kr)
 f246:=func159.trans (congrArg some kr)
 f283:=func166.trans (congrArg some kr)
 f284:=func167.trans (congrArg some kr)
 f285:=func168.trans (congrArg some kr)
 f286:=func169.trans (congrArg some kr)
 f317:=func187.trans (congrArg some kr)
 f318:=func188.trans (congrArg some kr)
 f319:=func189.trans (congrArg some kr)
 f320:=func190.trans (congrArg some kr)
 f337:=func201.trans (congrArg some kr)
 f338:=func202.trans (congrArg some kr)
 t0:=Tryz.underlying0
 a0:=Tryz.isAgg0
 z0:=Tryz.sizeOf0
 v0:=Tryz.zeroValue0
 t2:=Tryz.underlying2
 a2:=Tryz.isAgg2
 z2:=Tryz.sizeOf2
 v2:=Tryz.zeroValue2
 t3:=Tryz.underlying3
 a3:=Tryz.isAgg3
 z3:=Tryz.sizeOf3
 v3:=Tryz.zeroValue3
 t4:=Tryz.underlying4
 a4:=Tryz.isAgg4
 z4:=Tryz.sizeOf4
 v4:=Tryz.zeroValue4
 t5:=Tryz.underlying5
 a5:=Tryz.isAgg5
 z5:=Tryz.sizeOf5
 v5:=Tryz.zeroValue5
 t9:=Tryz.underlying9
 a9:=Tryz.isAgg9
 z9:=Tryz.sizeOf9
 v9:=Tryz.zeroValue9
 t20:=Tryz.underlying20
 a20:=Tryz.isAgg20
 z20:=Tryz.sizeOf20
 v20:=Tryz.zeroValue20
 t37:=Tryz.underlying64
 a37:=Tryz.isAgg64
 z37:=Tryz.sizeOf64
 v37:=Tryz.zeroValue64
 t46:=Tryz.underlying173
 a46:=Tryz.isAgg173
 z46:=Tryz.sizeOf173
 v46:=Tryz.zeroValue173
 t51:=Tryz.underlying192
 a51:=Tryz.isAgg192
 z51:=Tryz.sizeOf192
 v51:=Tryz.zeroValue192
 t53:=Tryz.underlying155
 a53:=Tryz.isAgg155
 z53:=Tryz.sizeOf155
 v53:=Tryz.zeroValue155
 t171:=Tryz.underlying174
 a171:=Tryz.isAgg174
 z171:=Tryz.sizeOf174
 v171:=Tryz.zeroValue174
 t173:=Tryz.underlying177
 a173:=Tryz.isAgg177
 z173:=Tryz.sizeOf177
 v173:=Tryz.zeroValue177
 t212:=Tryz.underlying194
 a212:=Tryz.isAgg194
 z212:=Tryz.sizeOf194
 v212:=Tryz.zeroValue194
 t213:=Tryz.underlying195
 a213:=Tryz.isAgg195
 z213:=Tryz.sizeOf195
 t232:=Tryz.underlying209
 a232:=Tryz.isAgg209
 z232:=Tryz.sizeOf209
 v232:=Tryz.zeroValue209
 t233:=Tryz.underlying210
 a233:=Tryz.isAgg210
 z233:=Tryz.sizeOf210
 v233:=Tryz.zeroValue210
 g17:=kr
 g18:=kr
 g19:=kr
 i0:=kr
 i2:=kr
 i3:=kr
 i4:=kr
 i5:=kr
 i9:=kr
 i20:=kr
 i37:=kr
 i46:=kr
 i51:=kr
 i53:=kr
 i171:=kr
 i173:=kr
 i212:=kr
 i232:=kr
 i233:=kr
 m17:=kr
 m18:=kr
 m19:=kr
theorem UZ{p0:Int}{r:BA}(g:St m (O) w)(i:strconv_Itoa N p0=some r):Calls prog 116 #[vI p0] w fun e w'=>∃m',e= .returned (vT r)/\m.le m'/\St m' (O) w':=qLa qKz kr g i
def CZ(N:Nat):Option (Option nE):=
 (lG (some []:Option nE) 1 (⟨#[43]⟩:BA)).bind fun a=>(lG a 2 (⟨#[45]⟩:BA)).bind fun a=>(lG a 3 (⟨#[42]⟩:BA)).bind fun a=>(lG a 4 (⟨#[47]⟩:BA)).bind fun a=>(lG a 5 (⟨#[37]⟩:BA)).bind fun a=>(lG a 6 (⟨#[60]⟩:BA)).bind fun a=>(lG a 7 (⟨#[61,61]⟩:BA)).bind fun a=>some a
theorem UX{r:Option nE}(g:St m (O) w)(i:CZ N=some r):Calls prog 117 #[] w fun e w'=>∃rq1 b f m',e= .returned (.map rq1)/\m.le m'/\St m' (eH rq1 b f::O) w'/\MapQ (fun n:Int=>Value.int .i64 n) aH false m' rq1 b f r:=by
 unfold CZ at i;have q:=m.le_refl;refine bG func117 rfl ntmps117 ?_;refine aD 1 [] (aC ?_);refine bA rfl (HE (d:=1) (t:=146) kr rfl g fun a w1 g=> ?_);have⟨b3,o,i⟩:=aZ i;refine bA rfl (oD (ek:=(fun n:Int=>Value.int .i64 n)) (c:=aH) (agg:=false) (k:=1) (yv:=bk) (cs:=[vT bk]) (z:=(vT eB)) (v:=(vT bk)) (kt:=3) (et:=9) (t:=146) (x:=(.tmp 1)) (y:=(.const (vI 1))) (u:=(.const (vT bk))) kr (ev (.map (some a))) (ev (vI 1)) (ev (vT bk)) kr (nA kr) g (MapQ.new (fun n:Int=>Value.int .i64 n) aH false _ _) rfl rfl o fun a6 U w2 g F=> ?_);have⟨b4,p,i⟩:=aZ i;refine bA rfl (oD (ek:=(fun n:Int=>Value.int .i64 n)) (c:=aH) (agg:=false) (k:=2) (yv:=bl) (cs:=[vT bl]) (z:=(vT eB)) (v:=(vT bl)) (kt:=3) (et:=9) (t:=146) (x:=(.tmp 1)) (y:=(.const (vI 2))) (u:=(.const (vT bl))) kr (ev (.map (some a))) (ev (vI 2)) (ev (vT bl)) kr (nA kr) g F rfl rfl p fun a7 V w3 g G=> ?_);have⟨b5,s,i⟩:=aZ i;refine bA rfl (oD (ek:=(fun n:Int=>Value.int .i64 n)) (c:=aH) (agg:=false) (k:=3) (yv:=bm) (cs:=[vT bm]) (z:=(vT eB)) (v:=(vT bm)) (kt:=3) (et:=9) (t:=146) (x:=(.tmp 1)) (y:=(.const (vI 3))) (u:=(.const (vT bm))) kr (ev (.map (some a))) (ev (vI 3)) (ev (vT bm)) kr (nA kr) g G rfl rfl s fun a8 Y w4 g H=> ?_);have⟨b6,A,i⟩:=aZ i
 refine bA rfl (oD (ek:=(fun n:Int=>Value.int .i64 n)) (c:=aH) (agg:=false) (k:=4) (yv:=bn) (cs:=[vT bn]) (z:=(vT eB)) (v:=(vT bn)) (kt:=3) (et:=9) (t:=146) (x:=(.tmp 1)) (y:=(.const (vI 4))) (u:=(.const (vT bn))) kr (ev (.map (some a))) (ev (vI 4)) (ev (vT bn)) kr (nA kr) g H rfl rfl A fun a9 Z w5 g K=> ?_);have⟨b7,B,i⟩:=aZ i;refine bA rfl (oD (ek:=(fun n:Int=>Value.int .i64 n)) (c:=aH) (agg:=false) (k:=5) (yv:=bo) (cs:=[vT bo]) (z:=(vT eB)) (v:=(vT bo)) (kt:=3) (et:=9) (t:=146) (x:=(.tmp 1)) (y:=(.const (vI 5))) (u:=(.const (vT bo))) kr (ev (.map (some a))) (ev (vI 5)) (ev (vT bo)) kr (nA kr) g K rfl rfl B fun b0 a4 w6 g M=> ?_);have⟨b8,D,i⟩:=aZ i;refine bA rfl (oD (ek:=(fun n:Int=>Value.int .i64 n)) (c:=aH) (agg:=false) (k:=6) (yv:=bp) (cs:=[vT bp]) (z:=(vT eB)) (v:=(vT bp)) (kt:=3) (et:=9) (t:=146) (x:=(.tmp 1)) (y:=(.const (vI 6))) (u:=(.const (vT bp))) kr (ev (.map (some a))) (ev (vI 6)) (ev (vT bp)) kr (nA kr) g M rfl rfl D fun b2 a5 w7 g R=> ?_);have⟨b9,E,i⟩:=aZ i
 refine bA rfl (oD (ek:=(fun n:Int=>Value.int .i64 n)) (c:=aH) (agg:=false) (k:=7) (yv:=bq) (cs:=[vT bq]) (z:=(vT eB)) (v:=(vT bq)) (kt:=3) (et:=9) (t:=146) (x:=(.tmp 1)) (y:=(.const (vI 7))) (u:=(.const (vT bq))) kr (ev (.map (some a))) (ev (vI 7)) (ev (vT bq)) kr (nA kr) g R rfl rfl E fun l h w8 g S=>(aF 2 [(0,.map (some a))] (aL ?_)));obtain rfl:=sI i;exact aO [0] [.map (some a)] ⟨(some a),l,h,m,rfl,q,g,S⟩
def KK(N:Nat)(R7:qH->(Int)->(Int)->(Int)->yP)(p3:Int)(x1:Tq)(a:EZ):Option (EZ⊕JS):=
 if(decide (a.1<(List.length ([(⟨#[105,102,32]⟩:BA),(⟨#[32,116,104,101,110,32]⟩:BA),(⟨#[32,101,108,115,101,32]⟩:BA)]):Int)))=true then((idx ([(⟨#[105,102,32]⟩:BA),(⟨#[32,116,104,101,110,32]⟩:BA),(⟨#[32,101,108,115,101,32]⟩:BA)]) a.1).bind fun x5=>(cU 1 a.2.2.1 x5.data.toList).bind fun b=>(idx x1.2.2.2.2 a.1).bind fun c=>(R7 ((true,b),a.2.2.2.1,a.2.2.2.2.1,a.2.2.2.2.2) c 0 (IntKind.wrap .i64 (p3+1))).bind fun b=>some (.inl (IntKind.wrap .i64 (a.1+1),b.1.1,b.1.2,b.2.1,b.2.2.1,b.2.2.2))) else(some (.inr a.2))
def CA(N:Nat)(R7:qH->(Int)->(Int)->(Int)->yP)(p3:Int)(x1:Tq)(a:EZ):Option (EZ⊕JS):=
 if(decide (a.1<(List.length x1.2.2.2.2:Int)))=true then((idx x1.2.2.2.2 a.1).bind fun c=>(if(decide (a.1>0))=true then((cU 1 a.2.2.1 ((⟨#[44,32]⟩:BA).data.toList)).bind fun b=>some (true,b)) else(some (a.2.1,a.2.2.1)):Option (Bool×rD)).bind fun o4=>(R7 (o4,a.2.2.2.1,a.2.2.2.2.1,a.2.2.2.2.2) c 0 (IntKind.wrap .i64 (p3+1))).bind fun b=>some (.inl (IntKind.wrap .i64 (a.1+1),b.1.1,b.1.2,b.2.1,b.2.2.1,b.2.2.2))) else(some (.inr a.2))
def zC(N:Nat)(R7:qH->(Int)->(Int)->(Int)->yP)(p0:qH)(p1:Int)(p2:Int)(p3:Int):yP:=
 (idx p0.2.1 p1).bind fun x1=>(xL N x1).bind fun y1=>if(decide (y1<p2))=true then((cU 1 p0.1.2 ([(40:UInt8)])).bind fun a=>(R7 ((true,a),p0.2.1,p0.2.2.1,p0.2.2.2) p1 0 (IntKind.wrap .i64 (p3+1))).bind fun a=>(cU 1 a.1.2 ([(41:UInt8)])).bind fun b=>some ((true,b),a.2.1,a.2.2.1,a.2.2.2)) else(if(x1.1==1)=true then((strconv_Itoa N x1.2.1).bind fun a=>(cU 1 p0.1.2 a.data.toList).bind fun a=>some ((true,a),p0.2.1,p0.2.2.1,if p3>p0.2.2.2 then p3 else p0.2.2.2)) else(if(x1.1==2)=true then((idx p0.2.2.1 x1.2.1).bind fun a=>(cU 1 p0.1.2 a.data.toList).bind fun a=>some ((true,a),p0.2.1,p0.2.2.1,if p3>p0.2.2.2 then p3 else p0.2.2.2)) else(if(x1.1==4)=true then((xL N x1).bind fun a=>(if(a==1)=true then(some (IntKind.wrap .i64 (a+1))) else(some a):T5).bind fun b=>(idx x1.2.2.2.2 0).bind fun c=>(R7 (p0.1,p0.2.1,p0.2.2.1,if p3>p0.2.2.2 then p3 else p0.2.2.2) c b p3).bind fun y5=>(CZ N).bind fun b=>(cA (⟨#[32]⟩:BA) ((cS b x1.2.2.1).getD (⟨#[]⟩:BA))).bind fun b=>(cA b (⟨#[32]⟩:BA)).bind fun b=>(cU 1 y5.1.2 b.data.toList).bind fun b=>(idx x1.2.2.2.2 1).bind fun c=>(R7 ((true,b),y5.2.1,y5.2.2.1,y5.2.2.2) c (IntKind.wrap .i64 (a+1)) p3).bind fun a=>some (a.1,a.2.1,a.2.2.1,a.2.2.2)) else(if(x1.1==5)=true then((aJ (KK N R7 p3 x1) N (0,p0.1.1,p0.1.2,p0.2.1,p0.2.2.1,if p3>p0.2.2.2 then p3 else p0.2.2.2)).bind fun o2=>some ((o2.1,o2.2.1),o2.2.2.1,o2.2.2.2.1,o2.2.2.2.2)) else(if(x1.1==3)=true then((cA x1.2.2.2.1 (⟨#[40]⟩:BA)).bind fun a=>(cU 1 p0.1.2 a.data.toList).bind fun a=>(aJ (CA N R7 p3 x1) N (0,true,a,p0.2.1,p0.2.2.1,if p3>p0.2.2.2 then p3 else p0.2.2.2)).bind fun a=>(cU 1 a.2.1 ([(41:UInt8)])).bind fun b=>some ((true,b),a.2.2.1,a.2.2.2.1,a.2.2.2.2)) else(if(x1.1==6)=true then((cA (⟨#[114,101,97,100,40,34]⟩:BA) x1.2.2.2.1).bind fun a=>(cA a (⟨#[34,44,32]⟩:BA)).bind fun a=>(cU 1 p0.1.2 a.data.toList).bind fun a=>(idx x1.2.2.2.2 0).bind fun b=>(R7 ((true,a),p0.2.1,p0.2.2.1,if p3>p0.2.2.2 then p3 else p0.2.2.2) b 0 (IntKind.wrap .i64 (p3+1))).bind fun a=>(cU 1 a.1.2 ([(41:UInt8)])).bind fun b=>some ((true,b),a.2.1,a.2.2.1,a.2.2.2)) else(if(x1.1==10)=true then((strconv_Itoa N x1.2.1).bind fun a=>(cA (⟨#[102,108,105,112,40]⟩:BA) a).bind fun a=>(cA a (⟨#[41]⟩:BA)).bind fun a=>(cU 1 p0.1.2 a.data.toList).bind fun a=>some ((true,a),p0.2.1,p0.2.2.1,if p3>p0.2.2.2 then p3 else p0.2.2.2)) else((lG (some []:Option nE) 7 (⟨#[115,105,122,101]⟩:BA)).bind fun a=>(lG a 8 (⟨#[104,97,115]⟩:BA)).bind fun a=>(lG a 9 (⟨#[101,110,118]⟩:BA)).bind fun a=>(cA ((cS a x1.1).getD (⟨#[]⟩:BA)) (⟨#[40,34]⟩:BA)).bind fun a=>(cA a x1.2.2.2.1).bind fun a=>(cA a (⟨#[34,41]⟩:BA)).bind fun a=>(cU 1 p0.1.2 a.data.toList).bind fun a=>some ((true,a),p0.2.1,p0.2.2.1,if p3>p0.2.2.2 then p3 else p0.2.2.2)))))))))
def xG(N:Nat):Nat->(qH->(Int)->(Int)->(Int)->yP)
 |0=>(fun _ _ _ _=>none)
 |D+1=>zC N (xG N D)
def OC(N:Nat)(p0:qH)(p1:Int)(p2:Int)(p3:Int):yP:=(xG N N) p0 p1 p2 p3
abbrev qGo(F:qH->(Int)->(Int)->(Int)->yP):Prop:=∀{m:Mem} {O:List Piece} {w:World} {p0:qH} {p1:Int} {p2:Int} {p3:Int} {a:Nat} {b:Option Addr} {c:Nat} {d:Option Addr} {h:Nat} {f:Option Addr} {k:Nat} {r:qH} (g:St m (kB a #[.pointer (cE p0.1.1 a),vS b p0.1.2 c,vS d p0.2.1 h,vS f p0.2.2.1 k,vI p0.2.2.2] 115::kR b p0.1.2 c 5 1::O) w) (l:RepS mM m b c p0.1.2) (b:RepS C3 m d h p0.2.1) (b:RepS aH m f k p0.2.2.1) (i:F p0 p1 p2 p3=some r),Calls prog 77 #[vP a 0,vI p1,vI p2,vI p3] w fun e w'=>∃b c d h f k m',e= .returned (.tuple #[])/\m.le m'/\St m' (kB a #[.pointer (cE r.1.1 a),vS b r.1.2 c,vS d r.2.1 h,vS f r.2.2.1 k,vI r.2.2.2] 115::kR b r.1.2 c 5 1::O) w'/\P6 m' b c d h f k r
theorem qGg{R7:qH->(Int)->(Int)->(Int)->yP}(a:qGo R7){p0:qH}{p1:Int}{p2:Int}{p3:Int}{r:qH}(g:St m (kB bp0 #[.pointer (cE p0.1.1 bp0),vS a1 p0.1.2 c1,vS a2 p0.2.1 c2,vS a3 p0.2.2.1 c3,vI p0.2.2.2] 115::kR a1 p0.1.2 c1 5 1::O) w)(G:RepS mM m a1 c1 p0.1.2)(E:RepS C3 m a2 c2 p0.2.1)(F:RepS aH m a3 c3 p0.2.2.1)(i:zC N R7 p0 p1 p2 p3=some r):Calls prog 77 #[vP bp0 0,vI p1,vI p2,vI p3] w fun e w'=>∃g4 g5 h2 h4 h3 h5 m',e= .returned (.tuple #[])/\m.le m'/\St m' (kB bp0 #[.pointer (cE r.1.1 bp0),vS g4 r.1.2 g5,vS h2 r.2.1 h4,vS h3 r.2.2.1 h5,vI r.2.2.2] 115::kR g4 r.1.2 g5 5 1::O) w'/\P6 m' g4 g5 h2 h4 h3 h5 r:=by
 unfold zC at i;have q:=m.le_refl;refine bG func77 rfl ntmps77 ?_;refine aC (bW 3 19 41 18 2 (vS a2 p0.2.1 c2) g.h (aA 1 [(20,vI p1)] (iK 21 E i ?_)));rintro x1 i b1 f1 n3 ⟨_,_,rfl,rfl,⟨_,_,rfl,rfl,⟨_,_,rfl,rfl,⟨_,_,rfl,rfl,⟨b,f,rfl,p⟩⟩⟩⟩⟩ k0;refine iO 22 61 21 f1 (.agg (V8 x1 b f)) g k0 (eQ 8 61 (.agg #[vI 0,vI 0,vI 0,vT eB,v7]) g fun o w1 g=>(cG (.agg (V8 x1 b f)) g fun w2 g=>(aN (aG (aC (bF 23 (.agg (V8 x1 b f)) g.h (aK 24 i (UV (p0:=x1) g p) ?_)))))));rintro y1 i _ w3 ⟨B,rfl,e1,g⟩;have q:=q.t e1;have p:=p.mono e1;have G:=G.mono e1;have E:=E.mono e1;have F:=F.mono e1;refine aF 2 [(26,vB (decide (y1<p2)))] (aI i ?_ ?_)
 .intro A i;refine aS 3 [(29,vP bp0 0)] ?_;refine bA rfl (eA 30 115 #[vP bp0 0,.int .u8 40] kr rfl (bG func115 rfl ntmps115 (aD 1 [] (aC (aA 1 [(5,vP bp0 0)] ?_)))));have g:=g.f1;refine bA rfl (eA 6 76 #[vP bp0 0] kr rfl ((oX (c0:=(cE p0.1.1 bp0)) (R:=[vS a1 p0.1.2 c1,vS a2 p0.2.1 c2,vS a3 p0.2.2.1 c3,vI p0.2.2.2]) (pC p0.1.1 bp0 kr) g).mono ?_));rintro _ w4 ⟨m2,rfl,U,g⟩;refine⟨_,rfl,?_⟩;have g:St m2 (kB bp0 #[.pointer (cE true bp0),vS a1 p0.1.2 c1,vS a2 p0.2.1 c2,vS a3 p0.2.2.1 c3,vI p0.2.2.2] 115::kB o (V8 x1 b f) 61::kR a1 p0.1.2 c1 5 1::O) w4:=g;refine aN (aC (aA 4 [(7,vP bp0 0),(10,vP bp0 1)] (bF 11 (vS a1 p0.1.2 c1) g.h (aA 1 [(12,.int .u8 40)] (bA rfl (rH (d:=13) (t:=64) (e:=5) (len:=1) (parts:= #[(0,(.tmp 12))]) mM (xs:=[(40:UInt8)]) [.int .u8 40] kr rfl (fun _=>rG kr _) rfl rfl g ⟨[.int .u8 40],_,rfl,rfl,rfl⟩ fun b3 m3 w5 V g r5=>(lR 14 64 64 5 1 11 13 g.f3 (.inl kr) ((G.mono U).mono V) r5.src i fun l1 i a5 c5 m4 w6 e4 g r6=>(aA 2 [(16,vP bp0 1)] (eJ #[.pointer (cE true bp0),vS a5 l1 c5,vS a2 p0.2.1 c2,vS a3 p0.2.2.1 c3,vI p0.2.2.2] g.f2 fun w7 g=>(aU rfl ?_))))))))));have g:=g.f2.t;refine aE (aD 1 [(4,.nilIface)] (aL (aO [4] [.nilIface] (⟨_,rfl,?_⟩))))
  refine aN (aC (aA 4 [(31,vP bp0 0),(32,vI p1),(34,vI (wr (p3+1)))] (aK 35 i (a (p0:=((true,l1),p0.2.1,p0.2.2.1,p0.2.2.2)) g.f1.f1 r6 (((E.mono U).mono V).mono e4) (((F.mono U).mono V).mono e4)) ?_)));rintro l i _ w8 ⟨s,K,D,M,H,S,m5,rfl,e5,g,r7,r8,r9⟩;refine aN (aC (aA 3 [(38,vP bp0 0)] (bA rfl (eA 39 115 #[vP bp0 0,.int .u8 41] kr rfl (bG func115 rfl ntmps115 (aD 1 [] (aC (aA 1 [(5,vP bp0 0)] (bA rfl (eA 6 76 #[vP bp0 0] kr rfl ((oX (c0:=(cE l.1.1 bp0)) (R:=[vS s l.1.2 K,vS D l.2.1 M,vS H l.2.2.1 S,vI l.2.2.2]) (pC l.1.1 bp0 kr) g).mono ?_)))))))))));rintro _ w9 ⟨m6,rfl,Y,g⟩;refine⟨_,rfl,?_⟩;have g:St m6 (kB bp0 #[.pointer (cE true bp0),vS s l.1.2 K,vS D l.2.1 M,vS H l.2.2.1 S,vI l.2.2.2] 115::kR s l.1.2 K 5 1::kB o (V8 x1 b f) 61::O) w9:=g
  refine aN (aC (aA 4 [(7,vP bp0 0),(10,vP bp0 1)] (bF 11 (vS s l.1.2 K) g.h (aA 1 [(12,.int .u8 41)] (bA rfl (rH (d:=13) (t:=64) (e:=5) (len:=1) (parts:= #[(0,(.tmp 12))]) mM (xs:=[(41:UInt8)]) [.int .u8 41] kr rfl (fun _=>rG kr _) rfl rfl g ⟨[.int .u8 41],_,rfl,rfl,rfl⟩ fun b4 m7 d1 Z g b0=>(lR 14 64 64 5 1 11 13 g.f2 (.inl kr) ((r7.mono Y).mono Z) b0.src i fun l2 i a9 c9 m8 d2 e8 g d0=>(aA 2 [(16,vP bp0 1)] (eJ #[.pointer (cE true bp0),vS a9 l2 c9,vS D l.2.1 M,vS H l.2.2.1 S,vI l.2.2.2] g.f2 fun d3 g=>(aU rfl ?_))))))))));have g:=g.f2.t;refine aE (aD 1 [(4,.nilIface)] (aL (aO [4] [.nilIface] (⟨_,rfl,?_⟩))));refine aN (aL (aQ ?_));cases i;exact AW [] [] rfl ResAll.nil ⟨a9,c9,D,M,H,S,m8,rfl,((((((q.t U).t V).t e4).t e5).t Y).t Z).t e8,g.f2.t.f1.f1,d0,((r8.mono Y).mono Z).mono e8,((r9.mono Y).mono Z).mono e8⟩
 intro A i;refine aM (aE (aS 4 [(40,vP bp0 0),(43,vP bp0 4)] (bF 44 (vI p0.2.2.2) g.t.h (aA 4 [(46,vI (if p3>p0.2.2.2 then p3 else p0.2.2.2)),(48,vP bp0 4)] (eJ #[.pointer (cE p0.1.1 bp0),vS a1 p0.1.2 c1,vS a2 p0.2.1 c2,vS a3 p0.2.2.1 c3,vI (if p3>p0.2.2.2 then p3 else p0.2.2.2)] g.f1 fun n6 g=>(aN (aC (bW 1 50 3 49 0 (vI x1.1) g.t.h (aN (bD (aD 2 [(66,vB (x1.1==1))] (aI i ?_ ?_))))))))))))
 .intro A i;refine iF [(7,fun w'=>Inv B w'/\Piece.holds B w' (kB o (V8 x1 b f) 61)/\True)] kr g fun b0 _ g=> ?_;have l:=B.le_refl;refine⟨⟨.inr ⟨Inv.anti g.inv l,Piece.holds_anti g.t.h l,trivial⟩,trivial⟩,?_⟩;refine aR 0 68 (vP bp0 0) (.head _) (aR 1 69 (vP bp0 0) (.head _) (aR 2 70 (vP bp0 0) (.head _) (aR 3 71 (vP o 1) (.head _) (eR 3 71 4 72 1 (vI x1.2.1) (.head _) (fun _ h=>h.2.1) (cH 5 kr (mW 73 i (fun _ h=>UZ g h) ?_))))));rintro K i _ d0 ⟨m9,rfl,H,g⟩;refine⟨_,rfl,?_⟩;have l:=Mem.le_trans l H;refine⟨⟨.inr ⟨Inv.anti g.inv l,Piece.holds_anti g.t.h l,trivial⟩,trivial⟩,?_⟩;refine cH 6 kr (eA 74 33 #[vP bp0 0,vT K] kr rfl (bG func33 rfl ntmps33 (aD 2 [] (aC (aA 1 [(6,vP bp0 0)] (bA rfl (eA 7 76 #[vP bp0 0] kr rfl ((oX (c0:=(cE p0.1.1 bp0)) (R:=[vS a1 p0.1.2 c1,vS a2 p0.2.1 c2,vS a3 p0.2.2.1 c3,vI (if p3>p0.2.2.2 then p3 else p0.2.2.2)]) (pC p0.1.1 bp0 kr) g).mono ?_))))))));rintro _ Z ⟨U,rfl,s,g⟩;refine⟨_,rfl,?_⟩;have l:=Mem.le_trans l s;have g:St U (kB bp0 #[.pointer (cE true bp0),vS a1 p0.1.2 c1,vS a2 p0.2.1 c2,vS a3 p0.2.2.1 c3,vI (if p3>p0.2.2.2 then p3 else p0.2.2.2)] 115::kB o (V8 x1 b f) 61::kR a1 p0.1.2 c1 5 1::O) Z:=g
  refine aN (aC (aA 4 [(8,vP bp0 0),(11,vP bp0 1)] (bF 12 (vS a1 p0.1.2 c1) g.h (aA 1 [(13,vT K)] (lR 14 64 9 5 1 12 13 g.f2 (.inr kr) ((G.mono H).mono s) (Gives.str _) i fun l3 i M S V d1 D g Y=> ?_)))));have l:=Mem.le_trans l D;refine aA 2 [(16,vP bp0 1)] (eJ #[.pointer (cE true bp0),vS M l3 S,vS a2 p0.2.1 c2,vS a3 p0.2.2.1 c3,vI (if p3>p0.2.2.2 then p3 else p0.2.2.2)] g.f1 fun d2 g=>(aN (aC (aF 4 [(4,vI (K.size:Int)),(5,.nilIface)] (aL (aO [4,5] [vI (K.size:Int),.nilIface] (⟨_,rfl,?_⟩)))))));refine⟨⟨.inr ⟨Inv.anti g.inv l,Piece.holds_anti g.t.t.h l,trivial⟩,trivial⟩,?_⟩;refine eW kr ?_;refine bQ ?_;cases i;exact pR [] [] rfl ResAll.nil ⟨M,S,a2,c2,a3,c3,V,rfl,((q.t H).t s).t D,g.f2.t.f1.f1,Y,((E.mono H).mono s).mono D,((F.mono H).mono s).mono D⟩
 intro A i;refine aD 2 [(75,vB (x1.1==2))] (aI i ?_ ?_)
 .intro A i;refine iF [(12,fun w'=>Inv B w'/\Piece.holds B w' (kB o (V8 x1 b f) 61)/\True),(11,fun w'=>Inv B w'/\Piece.holds B w' (kB bp0 #[.pointer (cE p0.1.1 bp0),vS a1 p0.1.2 c1,vS a2 p0.2.1 c2,vS a3 p0.2.2.1 c3,vI (if p3>p0.2.2.2 then p3 else p0.2.2.2)] 115)/\True)] kr g fun d0 _ g=> ?_;have l:=B.le_refl;refine⟨⟨.inr ⟨Inv.anti g.inv l,Piece.holds_anti g.t.h l,trivial⟩,⟨.inr ⟨Inv.anti g.inv l,Piece.holds_anti g.h l,trivial⟩,trivial⟩⟩,?_⟩;refine aR 0 77 (vP bp0 0) (.head _) (aR 1 78 (vP bp0 0) (.head _) (aR 2 79 (vP bp0 0) (.head _) (aR 3 80 (vP bp0 0) (.head _) (aR 4 81 (vP bp0 0) (.head _) (aR 5 82 (vP bp0 3) (.head _) (aR 7 84 (vP o 1) (.head _) (eR 3 84 8 85 1 (vI x1.2.1) (.head _) (fun _ h=>h.2.1) (cH 6 kr (qTz 83 26 82 3 (vS a3 p0.2.2.1 c3) g.h (⟨⟨.inr ⟨Inv.anti g.inv l,Piece.holds_anti g.t.h l,trivial⟩,⟨.inr ⟨Inv.anti g.inv l,Piece.holds_anti g.h l,trivial⟩,trivial⟩⟩,?_⟩))))))))));have⟨H,d8,i⟩:=aZ i;refine qA (t:=26) (e:=9) (x:=(.tmp 83)) (y:=(.tmp 85)) 9 86 aH kr rfl kr (.head _) (eV mN) (ev (vS a3 p0.2.2.1 c3)) (ev (vI x1.2.1)) kr F d8 ?_;rintro b5 f2 b0 rfl S
  refine lU 9 86 10 87 f2 (vT H) (.head _) (fun _ h=>h.1) S (cH 11 kr (eA 88 33 #[vP bp0 0,vT H] kr rfl (bG func33 rfl ntmps33 (aD 2 [] (aC (aA 1 [(6,vP bp0 0)] (bA rfl (eA 7 76 #[vP bp0 0] kr rfl ((oX (c0:=(cE p0.1.1 bp0)) (R:=[vS a1 p0.1.2 c1,vS a2 p0.2.1 c2,vS a3 p0.2.2.1 c3,vI (if p3>p0.2.2.2 then p3 else p0.2.2.2)]) (pC p0.1.1 bp0 kr) g).mono ?_)))))))));rintro _ Z ⟨U,rfl,s,g⟩;refine⟨_,rfl,?_⟩;have l:=Mem.le_trans l s;have g:St U (kB bp0 #[.pointer (cE true bp0),vS a1 p0.1.2 c1,vS a2 p0.2.1 c2,vS a3 p0.2.2.1 c3,vI (if p3>p0.2.2.2 then p3 else p0.2.2.2)] 115::kB o (V8 x1 b f) 61::kR a1 p0.1.2 c1 5 1::O) Z:=g;refine aN (aC (aA 4 [(8,vP bp0 0),(11,vP bp0 1)] (bF 12 (vS a1 p0.1.2 c1) g.h (aA 1 [(13,vT H)] (lR 14 64 9 5 1 12 13 g.f2 (.inr kr) (G.mono s) (Gives.str _) i fun l4 i K M V d1 D g Y=> ?_)))));have l:=Mem.le_trans l D;refine aA 2 [(16,vP bp0 1)] (eJ #[.pointer (cE true bp0),vS K l4 M,vS a2 p0.2.1 c2,vS a3 p0.2.2.1 c3,vI (if p3>p0.2.2.2 then p3 else p0.2.2.2)] g.f1 fun d2 g=>(aN (aC (aF 4 [(4,vI (H.size:Int)),(5,.nilIface)] (aL (aO [4,5] [vI (H.size:Int),.nilIface] (⟨_,rfl,?_⟩)))))));refine⟨⟨.inr ⟨Inv.anti g.inv l,Piece.holds_anti g.t.t.h l,trivial⟩,⟨.inl rfl,trivial⟩⟩,?_⟩;refine eW kr ?_;refine bQ ?_;cases i
  exact pR [] [] rfl ResAll.nil ⟨K,M,a2,c2,a3,c3,V,rfl,(q.t s).t D,g.f2.t.f1.f1,Y,(E.mono s).mono D,(F.mono s).mono D⟩
 intro A i;refine aD 2 [(89,vB (x1.1==4))] (aI i ?_ ?_)
 .intro A i;refine aC (bF 91 (.agg (V8 x1 b f)) g.t.h (aK 92 i (UV (p0:=x1) g p) ?_));rintro V i _ l0 ⟨d3,rfl,D,g⟩;have p:=p.mono D;have G:=G.mono D;have E:=E.mono D;have F:=F.mono D;refine aF 1 [(9,vI V)] (aC (aF 2 [(10,vI V)] (aG (aD 2 [(95,vB (V==1))] (cJ .normal i (fun o1 L' w'=>∃s,L'=[(0,vP bp0 0),(3,vI p3),(8,vP o 0),(9,vI V),(10,vI o1)]/\m.le s/\St s (kB bp0 #[.pointer (cE p0.1.1 bp0),vS a1 p0.1.2 c1,vS a2 p0.2.1 c2,vS a3 p0.2.2.1 c3,vI (if p3>p0.2.2.2 then p3 else p0.2.2.2)] 115::kB o (V8 x1 b f) 61::kR a1 p0.1.2 c1 5 1::O) w'/\RepS mM s a1 c1 p0.1.2/\RepS C3 s a2 c2 p0.2.1/\RepS aH s a3 c3 p0.2.2.1/\RepS (aT .i64) s b f x1.2.2.2.2) ?_ ?_)))))
  .rintro o1 i _ n0 ⟨s,rfl,q,g,G,E,F,p⟩;refine aE (aS 2 [(98,vP bp0 0),(99,vP o 4)] (bF 100 (vS b x1.2.2.2.2 f) g.t.h (iK 101 p i ?_)));rintro x3 i b6 f3 k5 rfl g3;refine iO 102 3 101 f3 (vI x3) g g3 (aA 2 [(103,vI o1),(104,vI p3)] (aK 105 i (a (p0:=(p0.1,p0.2.1,p0.2.2.1,if p3>p0.2.2.2 then p3 else p0.2.2.2)) g.f2.f1 G E F) ?_));rintro y5 i _ n1 ⟨S,U,Y,b0,Z,d0,d1,rfl,d2,g,g9,h0,h1⟩;refine aN (aG (iF [(10,fun w'=>Inv d1 w'/\Piece.holds d1 w' (kB o (V8 x1 b f) 61)/\True)] kr g fun n2 _ g=> ?_));have l:=d1.le_refl;refine⟨⟨.inr ⟨Inv.anti g.inv l,Piece.holds_anti g.t.t.h l,trivial⟩,trivial⟩,?_⟩;refine aR 0 106 (vP bp0 0) (.head _) (aR 1 107 (vP bp0 0) (.head _) (aR 2 108 (vP bp0 0) (.head _) (aR 4 110 (vP o 2) (.head _) (eR 3 110 5 111 2 (vI x1.2.2.1) (.head _) (fun _ h=>h.2.1) (cH 3 kr (mW 109 i (fun _ h=>UX g h) ?_))))));rintro y6 i _ n4 ⟨q1,g2,g0,k8,rfl,H,g,h6⟩;refine⟨_,rfl,?_⟩;have l:=Mem.le_trans l H;refine⟨⟨.inr ⟨Inv.anti g.inv l,Piece.holds_anti g.t.t.t.h l,trivial⟩,trivial⟩,?_⟩;refine cH 6 kr (zU (ek:=(fun n:Int=>Value.int .i64 n)) (c:=aH) (agg:=false) (k:=x1.2.2.1) (zx:=eB) (zcs:=[vT eB]) (z:=(vT eB)) (kt:=3) (et:=9) (d:=112) (t:=146) (x:=(.tmp 109)) (y:=(.tmp 111)) (ok:=false) kr rfl (ev (.map q1)) (ev (vI x1.2.2.1)) kr (nA kr) g.h h6 rfl rfl ?_);rintro k6 rfl
   refine⟨⟨.inr ⟨Inv.anti g.inv l,Piece.holds_anti g.t.t.t.h l,trivial⟩,trivial⟩,?_⟩;refine iY 9 9 ((.const (vT (⟨#[32]⟩:BA)))) 112 7 113 (.head _) i fun s1 i=> ?_;refine iY 9 9 113 ((.const (vT (⟨#[32]⟩:BA)))) 8 114 (.head _) i fun s2 i=> ?_;refine cH 9 kr (eA 115 33 #[vP bp0 0,vT s2] kr rfl (bG func33 rfl ntmps33 (aD 2 [] (aC (aA 1 [(6,vP bp0 0)] ?_)))));have g:=g.f1;refine bA rfl (eA 7 76 #[vP bp0 0] kr rfl ((oX (c0:=(cE y5.1.1 bp0)) (R:=[vS S y5.1.2 U,vS Y y5.2.1 b0,vS Z y5.2.2.1 d0,vI y5.2.2.2]) (pC y5.1.1 bp0 kr) g).mono ?_));rintro _ k4 ⟨g7,rfl,K,g⟩;refine⟨_,rfl,?_⟩;have l:=Mem.le_trans l K;have g:St g7 (kB bp0 #[.pointer (cE true bp0),vS S y5.1.2 U,vS Y y5.2.1 b0,vS Z y5.2.2.1 d0,vI y5.2.2.2] 115::eH q1 g2 g0::kR S y5.1.2 U 5 1::kB o (V8 x1 b f) 61::O) k4:=g;refine aN (aC (aA 4 [(8,vP bp0 0),(11,vP bp0 1)] (bF 12 (vS S y5.1.2 U) g.h (aA 1 [(13,vT s2)] (lR 14 64 9 5 1 12 13 g.f2 (.inr kr) ((g9.mono H).mono K) (Gives.str _) i fun l5 i d4 d9 k9 n5 M g h7=> ?_)))));have l:=Mem.le_trans l M;refine aA 2 [(16,vP bp0 1)] (eJ #[.pointer (cE true bp0),vS d4 l5 d9,vS Y y5.2.1 b0,vS Z y5.2.2.1 d0,vI y5.2.2.2] g.f1 fun n7 g=>(aN (aC (aF 4 [(4,vI (s2.size:Int)),(5,.nilIface)] (aL (aO [4,5] [vI (s2.size:Int),.nilIface] (⟨_,rfl,?_⟩)))))))
   refine⟨⟨.inr ⟨Inv.anti g.inv l,Piece.holds_anti g.t.t.t.h l,trivial⟩,trivial⟩,?_⟩;refine eW kr ?_;refine aE (bC (aA 2 [(116,vP bp0 0),(117,vP o 4)] (bF 118 (vS b x1.2.2.2.2 f) g.t.t.t.h (iK 119 ((((p.mono d2).mono H).mono K).mono M) i ?_))));rintro x4 i b7 f4 k7 rfl g6;refine iO 120 3 119 f4 (vI x4) g g6 (aA 3 [(122,vI (wr (V+1))),(123,vI p3)] (aK 124 i (a (p0:=((true,l5),y5.2.1,y5.2.2.1,y5.2.2.2)) g.f1.f1 h7 (((h0.mono H).mono K).mono M) (((h1.mono H).mono K).mono M)) ?_));rintro y7 i _ n8 ⟨d5,e0,d6,f0,d7,f9,g8,rfl,g1,g,h8,h9,k3⟩;refine aU rfl (bQ ?_);cases i;exact pR [] [] rfl ResAll.nil ⟨d5,e0,d6,f0,d7,f9,g8,rfl,((((q.t d2).t H).t K).t M).t g1,g.f2.t.f2.t.f1.f1,h8,h9,k3⟩
  intro o1 i l;refine aI i ?_ ?_
  .intro A i;refine bC (aA 3 [(10,vI (wr (V+1)))] (aU rfl ?_));cases i;exact xE (l _ _ ⟨d3,rfl,q.t D,g.f2.f2.f2,G,E,F,p⟩)
  intro A i;refine aM ?_;cases i;exact xE (l _ _ ⟨d3,rfl,q.t D,g.f2.f2.f2,G,E,F,p⟩)
 intro A i;refine aD 2 [(125,vB (x1.1==5))] (aI i ?_ ?_)
 .intro A i;refine aC (iN 127 9 3 aH [wU,wX,wV] g fun b8 h9 n5 d1 g d7=>(aF 2 [(128,vI (List.length ([wU,wX,wV]):Int)),(129,vI 0)] (bD (cJ (.exit 1) i (fun Z L' w'=>∃(o2:JS),∃b0 d0 d3 d5 d4 d6 K,o2=Z/\L'=[]/\m.le K/\St K (kB bp0 #[.pointer (cE o2.1 bp0),vS b0 o2.2.1 d0,vS d3 o2.2.2.1 d5,vS d4 o2.2.2.2.1 d6,vI o2.2.2.2.2] 115::kB o (V8 x1 b f) 61:: .room (aP b8) (List.length ([wU,wX,wV])) 3 9 1::kR b0 o2.2.1 d0 5 1::O) w'/\RepS mM K b0 d0 o2.2.1/\RepS C3 K d3 d5 o2.2.2.1/\RepS aH K d4 d6 o2.2.2.2.1/\RepS (aT .i64) K b f x1.2.2.2.2) ?_ ?_))))
  .rintro Z i _ H ⟨o2,b0,d0,d3,d5,d4,d6,K,rfl,rfl,q,g,l,s,D,p⟩;refine dW (bQ ?_);cases i;exact pR [] [] rfl ResAll.nil ⟨b0,d0,d3,d5,d4,d6,K,rfl,q,g.f1.t.f1.t.f1.f1,l,s,D⟩
  intro Z i e0;refine cX _ kr (cW (fun k1 L' w'=>∃(l:EZ),∃s D M U S V H,aJ (KK N R7 p3 x1) k1 l=some Z/\L'=[(0,vP bp0 0),(3,vI p3),(8,vP o 0),(127,.slice (aP b8) (List.length ([wU,wX,wV])) 3),(128,vI (List.length ([wU,wX,wV]):Int)),(129,vI l.1)]/\m.le H/\St H (kB bp0 #[.pointer (cE l.2.1 bp0),vS s l.2.2.1 D,vS M l.2.2.2.1 U,vS S l.2.2.2.2.1 V,vI l.2.2.2.2.2] 115::kB o (V8 x1 b f) 61:: .room (aP b8) (List.length ([wU,wX,wV])) 3 9 1::kR s l.2.2.1 D 5 1::O) w'/\RepS aH H (aP b8) 3 ([wU,wX,wV])/\RepS mM H s D l.2.2.1/\RepS C3 H M U l.2.2.2.1/\RepS aH H S V l.2.2.2.2.1/\RepS (aT .i64) H b f x1.2.2.2.2) N ⟨(0,p0.1.1,p0.1.2,p0.2.1,p0.2.2.1,if p3>p0.2.2.2 then p3 else p0.2.2.2),a1,c1,a2,c2,a3,c3,h9,i,rfl,q.t d1,g.f3.f1.f3.f3,d7,G.mono d1,E.mono d1,F.mono d1,p.mono d1⟩ ?_);rintro k1 _ n7 ⟨l,s,D,M,U,S,V,H,hL,rfl,q,g,d7,f0,f9,g0,p⟩;rcases k1 with _|k1
  .exact dV hL
  obtain⟨n4,i,g2,g1⟩:=dX hL;clear hL;unfold KK at i;refine aD 1 [(130,vB (decide (l.1<(List.length ([wU,wX,wV]):Int))))] (aG ?_);refine aI i ?_ ?_
  .intro A i;refine aM (aE (aG (bD (aS 1 [(131,vI l.1)] (iK 132 d7 i ?_)))));rintro x5 i b9 f5 n0 rfl h7;refine iO 133 9 132 f5 (vT x5) g h7 (aF 2 [(11,vI l.1),(12,vT x5)] (aC (aA 4 [(136,vP bp0 0),(137,vT x5)] (bA rfl (eA 138 33 #[vP bp0 0,vT x5] kr rfl (bG func33 rfl ntmps33 (aD 2 [] (aC (aA 1 [(6,vP bp0 0)] (bA rfl (eA 7 76 #[vP bp0 0] kr rfl ((oX (c0:=(cE l.2.1 bp0)) (R:=[vS s l.2.2.1 D,vS M l.2.2.2.1 U,vS S l.2.2.2.2.1 V,vI l.2.2.2.2.2]) (pC l.2.1 bp0 kr) g).mono ?_))))))))))));rintro _ k9 ⟨k3,rfl,Y,g⟩;refine⟨_,rfl,?_⟩;have g:St k3 (kB bp0 #[.pointer (cE true bp0),vS s l.2.2.1 D,vS M l.2.2.2.1 U,vS S l.2.2.2.2.1 V,vI l.2.2.2.2.2] 115::kB o (V8 x1 b f) 61:: .room (aP b8) (List.length ([wU,wX,wV])) 3 9 1::kR s l.2.2.1 D 5 1::O) k9:=g;refine aN (aC (aA 4 [(8,vP bp0 0),(11,vP bp0 1)] (bF 12 (vS s l.2.2.1 D) g.h (aA 1 [(13,vT x5)] (lR 14 64 9 5 1 12 13 g.f3 (.inr kr) (f0.mono Y) (Gives.str _) i fun l6 i g3 g9 n2 n8 d2 g k5=> ?_)))));have p:=(p.mono Y).mono d2;refine aA 2 [(16,vP bp0 1)] (eJ #[.pointer (cE true bp0),vS g3 l6 g9,vS M l.2.2.2.1 U,vS S l.2.2.2.2.1 V,vI l.2.2.2.2.2] g.f1 fun n9 g=>(aN (aC (aF 4 [(4,vI (x5.size:Int)),(5,.nilIface)] (aL (aO [4,5] [vI (x5.size:Int),.nilIface] (⟨_,rfl,?_⟩)))))))
   refine aN (bC (aA 2 [(139,vP bp0 0),(140,vP o 4)] (bF 141 (vS b x1.2.2.2.2 f) g.t.t.h (aA 1 [(142,vI l.1)] (iK 143 p i ?_)))));rintro x6 i l0 f6 n1 rfl h8;refine iO 144 3 143 f6 (vI x6) g h8 (aA 2 [(146,vI (wr (p3+1)))] (aK 147 i (a (p0:=((true,l6),l.2.2.2.1,l.2.2.2.2.1,l.2.2.2.2.2)) g.f1.f1 k5 ((f9.mono Y).mono d2) ((g0.mono Y).mono d2)) ?_));rintro y8 i _ o0 ⟨g6,h0,g7,h1,g8,h6,k4,rfl,d9,g,k6,k7,k8⟩;refine aU rfl (bQ (aE (bC (aA 2 [(129,vI (wr (l.1+1)))] (aU rfl ?_)))));have hL:=g2 _ (sI i);exact xE (cT ⟨(wr (l.1+1),y8.1.1,y8.1.2,y8.2.1,y8.2.2.1,y8.2.2.2),g6,h0,g7,h1,g8,h6,k4,hL,rfl,((q.t Y).t d2).t d9,g.f1.f3.f3.f3,((d7.mono Y).mono d2).mono d9,k6,k7,k8,p.mono d9⟩)
  intro A i;refine cQ (bK ?_);have ho:=g1 _ (sI i);have g:=g.f3.f3.f3.f3;refine bK ?_;exact xE (e0 _ _ ⟨l.2,s,D,M,U,S,V,H,ho,rfl,q,g,f0,f9,g0,p⟩)
 intro A i;refine aD 2 [(149,vB (x1.1==3))] (aI i ?_ ?_)
 .intro A i;refine aG (iF [(7,fun w'=>Inv B w'/\Piece.holds B w' (kB o (V8 x1 b f) 61)/\True)] kr g fun n7 _ g=> ?_);have D:=B.le_refl;refine⟨⟨.inr ⟨Inv.anti g.inv D,Piece.holds_anti g.t.h D,trivial⟩,trivial⟩,?_⟩;refine aR 0 151 (vP bp0 0) (.head _) (aR 1 152 (vP bp0 0) (.head _) (aR 2 153 (vP bp0 0) (.head _) (aR 3 154 (vP o 3) (.head _) (eR 9 154 4 155 3 (vT x1.2.2.2.1) (.head _) (fun _ h=>h.2.1) (iY 9 9 155 ((.const (vT bi))) 5 156 (.head _) i fun s4 i=>(cH 6 kr (eA 157 33 #[vP bp0 0,vT s4] kr rfl (bG func33 rfl ntmps33 (aD 2 [] (aC (aA 1 [(6,vP bp0 0)] (bA rfl (eA 7 76 #[vP bp0 0] kr rfl ((oX (c0:=(cE p0.1.1 bp0)) (R:=[vS a1 p0.1.2 c1,vS a2 p0.2.1 c2,vS a3 p0.2.2.1 c3,vI (if p3>p0.2.2.2 then p3 else p0.2.2.2)]) (pC p0.1.1 bp0 kr) g).mono ?_))))))))))))));rintro _ n1 ⟨k4,rfl,d6,g⟩;refine⟨_,rfl,?_⟩;have D:=Mem.le_trans D d6;have g:St k4 (kB bp0 #[.pointer (cE true bp0),vS a1 p0.1.2 c1,vS a2 p0.2.1 c2,vS a3 p0.2.2.1 c3,vI (if p3>p0.2.2.2 then p3 else p0.2.2.2)] 115::kB o (V8 x1 b f) 61::kR a1 p0.1.2 c1 5 1::O) n1:=g;refine aN (aC (aA 4 [(8,vP bp0 0),(11,vP bp0 1)] (bF 12 (vS a1 p0.1.2 c1) g.h (aA 1 [(13,vT s4)] (lR 14 64 9 5 1 12 13 g.f2 (.inr kr) (G.mono d6) (Gives.str _) i fun l7 i g8 h0 k5 n8 d9 g k7=> ?_)))));have D:=Mem.le_trans D d9
  refine aA 2 [(16,vP bp0 1)] (eJ #[.pointer (cE true bp0),vS g8 l7 h0,vS a2 p0.2.1 c2,vS a3 p0.2.2.1 c3,vI (if p3>p0.2.2.2 then p3 else p0.2.2.2)] g.f1 fun n9 g=>(aN (aC (aF 4 [(4,vI (s4.size:Int)),(5,.nilIface)] (aL (aO [4,5] [vI (s4.size:Int),.nilIface] (⟨_,rfl,?_⟩)))))));refine⟨⟨.inr ⟨Inv.anti g.inv D,Piece.holds_anti g.t.t.h D,trivial⟩,trivial⟩,?_⟩;refine eW kr ?_;refine aE (aG (aC (bW 1 159 22 158 4 (vS b x1.2.2.2.2 f) g.t.t.h (aF 2 [(160,vI (x1.2.2.2.2.length:Int)),(161,vI 0)] (bD (cJ (.exit 3) i (fun d7 L' w'=>∃(s:JS),∃Z b0 d0 d2 d1 d3 d4,s=d7/\L'=[(0,vP bp0 0)]/\m.le d4/\St d4 (kB bp0 #[.pointer (cE s.1 bp0),vS Z s.2.1 b0,vS d0 s.2.2.1 d2,vS d1 s.2.2.2.1 d3,vI s.2.2.2.2] 115::kB o (V8 x1 b f) 61::kR Z s.2.1 b0 5 1::O) w'/\RepS mM d4 Z b0 s.2.1/\RepS C3 d4 d0 d2 s.2.2.1/\RepS aH d4 d1 d3 s.2.2.2.1/\RepS (aT .i64) d4 b f x1.2.2.2.2) ?_ ?_))))))
  .rintro d7 i _ g3 ⟨s,Z,b0,d0,d2,d1,d3,d4,rfl,rfl,q,g,Y,d5,e0,p⟩;refine dW (aE (bC (aA 3 [(180,vP bp0 0)] (bA rfl (eA 181 115 #[vP bp0 0,.int .u8 41] kr rfl (bG func115 rfl ntmps115 (aD 1 [] (aC (aA 1 [(5,vP bp0 0)] (bA rfl (eA 6 76 #[vP bp0 0] kr rfl ((oX (c0:=(cE s.1 bp0)) (R:=[vS Z s.2.1 b0,vS d0 s.2.2.1 d2,vS d1 s.2.2.2.1 d3,vI s.2.2.2.2]) (pC s.1 bp0 kr) g).mono ?_))))))))))));rintro _ g0 ⟨U,rfl,l,g⟩;refine⟨_,rfl,?_⟩;have g:St U (kB bp0 #[.pointer (cE true bp0),vS Z s.2.1 b0,vS d0 s.2.2.1 d2,vS d1 s.2.2.2.1 d3,vI s.2.2.2.2] 115::kB o (V8 x1 b f) 61::kR Z s.2.1 b0 5 1::O) g0:=g;refine aN (aC (aA 4 [(7,vP bp0 0),(10,vP bp0 1)] (bF 11 (vS Z s.2.1 b0) g.h (aA 1 [(12,.int .u8 41)] (bA rfl (rH (d:=13) (t:=64) (e:=5) (len:=1) (parts:= #[(0,(.tmp 12))]) mM (xs:=[(41:UInt8)]) [.int .u8 41] kr rfl (fun _=>rG kr _) rfl rfl g ⟨[.int .u8 41],_,rfl,rfl,rfl⟩ fun g1 g2 g6 H g f0=>(lR 14 64 64 5 1 11 13 g.f3 (.inl kr) ((Y.mono l).mono H) f0.src i fun l9 i M S V g7 K g f9=>(aA 2 [(16,vP bp0 1)] (eJ #[.pointer (cE true bp0),vS M l9 S,vS d0 s.2.2.1 d2,vS d1 s.2.2.2.1 d3,vI s.2.2.2.2] g.f2 fun g9 g=>(aU rfl ?_))))))))));have g:=g.f2.t;refine aE (aD 1 [(4,.nilIface)] (aL (aO [4] [.nilIface] (⟨_,rfl,?_⟩))));refine aU rfl (bQ ?_);cases i
   exact pR [] [] rfl ResAll.nil ⟨M,S,d0,d2,d1,d3,V,rfl,((q.t l).t H).t K,g.f2.t.f1.f1,f9,((d5.mono l).mono H).mono K,((e0.mono l).mono H).mono K⟩
  intro d7 i g6;refine cX _ kr (cW (fun k2 L' w'=>∃(l:EZ),∃H K M U S V Y,aJ (CA N R7 p3 x1) k2 l=some d7/\L'=[(0,vP bp0 0),(3,vI p3),(159,vS b x1.2.2.2.2 f),(160,vI (x1.2.2.2.2.length:Int)),(161,vI l.1)]/\m.le Y/\St Y (kB bp0 #[.pointer (cE l.2.1 bp0),vS H l.2.2.1 K,vS M l.2.2.2.1 U,vS S l.2.2.2.2.1 V,vI l.2.2.2.2.2] 115::kB o (V8 x1 b f) 61::kR H l.2.2.1 K 5 1::O) w'/\RepS (aT .i64) Y b f x1.2.2.2.2/\RepS mM Y H K l.2.2.1/\RepS C3 Y M U l.2.2.2.1/\RepS aH Y S V l.2.2.2.2.1) N ⟨(0,true,l7,p0.2.1,p0.2.2.1,if p3>p0.2.2.2 then p3 else p0.2.2.2),g8,h0,a2,c2,a3,c3,k5,i,rfl,(q.t d6).t d9,g.f1.f2.f2,(p.mono d6).mono d9,k7,(E.mono d6).mono d9,(F.mono d6).mono d9⟩ ?_);rintro k2 _ o0 ⟨l,H,K,M,U,S,V,Y,hL,rfl,q,g,p,g3,f0,f9⟩;rcases k2 with _|k2
  .exact dV hL
  obtain⟨n5,i,h7,h6⟩:=dX hL;clear hL;unfold CA at i;refine aD 1 [(162,vB (decide (l.1<(x1.2.2.2.2.length:Int))))] (aG ?_);refine aI i ?_ ?_
  .intro A i;refine aM (aE (aG (bD (aS 1 [(163,vI l.1)] (iK 164 p i ?_)))));rintro x7 i n2 f7 n4 rfl k3;refine iO 165 3 164 f7 (vI x7) g k3 (aF 2 [(13,vI l.1),(14,vI x7)] (aG (aD 2 [(167,vB (decide (l.1>0)))] (cJ .normal i (fun o4 L' w'=>∃g0 g1 d5,L'=[(0,vP bp0 0),(3,vI p3),(14,vI x7),(159,vS b x1.2.2.2.2 f),(160,vI (x1.2.2.2.2.length:Int)),(161,vI l.1)]/\m.le d5/\St d5 (kB bp0 #[.pointer (cE o4.1 bp0),vS g0 o4.2 g1,vS M l.2.2.2.1 U,vS S l.2.2.2.2.1 V,vI l.2.2.2.2.2] 115::kB o (V8 x1 b f) 61::kR g0 o4.2 g1 5 1::O) w'/\RepS (aT .i64) d5 b f x1.2.2.2.2/\RepS mM d5 g0 g1 o4.2/\RepS C3 d5 M U l.2.2.2.1/\RepS aH d5 S V l.2.2.2.2.1) ?_ ?_))))
   .rintro o4 i _ o5 ⟨g0,g1,d5,rfl,q,g,p,k8,f0,f9⟩;refine aE (bC (aA 4 [(172,vP bp0 0),(173,vI x7),(175,vI (wr (p3+1)))] (aK 176 i (a (p0:=(o4,l.2.2.2.1,l.2.2.2.2.1,l.2.2.2.2.2)) g.f2.f1 k8 f0 f9) ?_)));rintro y9 i _ o6 ⟨g2,h1,g7,h8,g9,h9,k6,rfl,e0,g,k9,l0,n0⟩;refine aU rfl (bQ (aE (bC (aA 2 [(161,vI (wr (l.1+1)))] (aU rfl ?_)))));have hL:=h7 _ (sI i);exact xE (cT ⟨(wr (l.1+1),y9.1.1,y9.1.2,y9.2.1,y9.2.2.1,y9.2.2.2),g2,h1,g7,h8,g9,h9,k6,hL,rfl,q.t e0,g.f1.f2.f2,p.mono e0,k9,l0,n0⟩)
   intro o4 i g7;refine aI i ?_ ?_
   .intro A i;refine bC (aA 3 [(170,vP bp0 0)] (bA rfl (eA 171 33 #[vP bp0 0,vT b1l] kr rfl (bG func33 rfl ntmps33 (aD 2 [] (aC (aA 1 [(6,vP bp0 0)] (bA rfl (eA 7 76 #[vP bp0 0] kr rfl ((oX (c0:=(cE l.2.1 bp0)) (R:=[vS H l.2.2.1 K,vS M l.2.2.2.1 U,vS S l.2.2.2.2.1 V,vI l.2.2.2.2.2]) (pC l.2.1 bp0 kr) g).mono ?_))))))))));rintro _ k8 ⟨h8,rfl,e0,g⟩;refine⟨_,rfl,?_⟩;have g:St h8 (kB bp0 #[.pointer (cE true bp0),vS H l.2.2.1 K,vS M l.2.2.2.1 U,vS S l.2.2.2.2.1 V,vI l.2.2.2.2.2] 115::kB o (V8 x1 b f) 61::kR H l.2.2.1 K 5 1::O) k8:=g;refine aN (aC (aA 4 [(8,vP bp0 0),(11,vP bp0 1)] (bF 12 (vS H l.2.2.1 K) g.h (aA 1 [(13,vT b1l)] (lR 14 64 9 5 1 12 13 g.f2 (.inr kr) (g3.mono e0) (Gives.str _) i fun l8 i g9 h1 h9 k9 g2 g k6=>(aA 2 [(16,vP bp0 1)] (eJ #[.pointer (cE true bp0),vS g9 l8 h1,vS M l.2.2.2.1 U,vS S l.2.2.2.2.1 V,vI l.2.2.2.2.2] g.f1 fun l0 g=>(aN (aC (aF 4 [(4,vI (b1l.size:Int)),(5,.nilIface)] (aL (aO [4,5] [vI (b1l.size:Int),.nilIface] (⟨_,rfl,?_⟩)))))))))))));refine aU rfl ?_;cases i;exact xE (g7 _ _ ⟨g9,h1,h9,rfl,(q.t e0).t g2,g.f1.f2.f2,(p.mono e0).mono g2,k6,(f0.mono e0).mono g2,(f9.mono e0).mono g2⟩)
   intro A i;refine aM ?_;cases i;exact xE (g7 _ _ ⟨H,K,Y,rfl,q,g.f2.f2.f2,p,g3,f0,f9⟩)
  intro A i;refine cQ (bK ?_);have ho:=h6 _ (sI i);have g:=g.f2.f2.f2;refine bK ?_;exact xE (g6 _ _ ⟨l.2,H,K,M,U,S,V,Y,ho,rfl,q,g,g3,f0,f9,p⟩)
 intro A i;refine aD 2 [(182,vB (x1.1==6))] (aI i ?_ ?_)
 .intro A i;refine aG (iF [(8,fun w'=>Inv B w'/\Piece.holds B w' (kB o (V8 x1 b f) 61)/\True)] kr g fun k3 _ g=> ?_);have s:=B.le_refl;refine⟨⟨.inr ⟨Inv.anti g.inv s,Piece.holds_anti g.t.h s,trivial⟩,trivial⟩,?_⟩;refine aR 0 184 (vP bp0 0) (.head _) (aR 1 185 (vP bp0 0) (.head _) (aR 2 186 (vP bp0 0) (.head _) (aR 3 187 (vP o 3) (.head _) (eR 9 187 4 188 3 (vT x1.2.2.2.1) (.head _) (fun _ h=>h.2.1) (iY 9 9 ((.const (vT (⟨#[114,101,97,100,40,34]⟩:BA)))) 188 5 189 (.head _) i fun s6 i=>(iY 9 9 189 ((.const (vT (⟨#[34,44,32]⟩:BA)))) 6 190 (.head _) i fun s7 i=>(cH 7 kr (eA 191 33 #[vP bp0 0,vT s7] kr rfl (bG func33 rfl ntmps33 (aD 2 [] (aC (aA 1 [(6,vP bp0 0)] (bA rfl (eA 7 76 #[vP bp0 0] kr rfl ((oX (c0:=(cE p0.1.1 bp0)) (R:=[vS a1 p0.1.2 c1,vS a2 p0.2.1 c2,vS a3 p0.2.2.1 c3,vI (if p3>p0.2.2.2 then p3 else p0.2.2.2)]) (pC p0.1.1 bp0 kr) g).mono ?_)))))))))))))));rintro _ g8 ⟨e0,rfl,D,g⟩;refine⟨_,rfl,?_⟩;have s:=Mem.le_trans s D;have g:St e0 (kB bp0 #[.pointer (cE true bp0),vS a1 p0.1.2 c1,vS a2 p0.2.1 c2,vS a3 p0.2.2.1 c3,vI (if p3>p0.2.2.2 then p3 else p0.2.2.2)] 115::kB o (V8 x1 b f) 61::kR a1 p0.1.2 c1 5 1::O) g8:=g
  refine aN (aC (aA 4 [(8,vP bp0 0),(11,vP bp0 1)] (bF 12 (vS a1 p0.1.2 c1) g.h (aA 1 [(13,vT s7)] (lR 14 64 9 5 1 12 13 g.f2 (.inr kr) (G.mono D) (Gives.str _) i fun d3 i d4 d5 h7 k4 H g g0=> ?_)))));have s:=Mem.le_trans s H;refine aA 2 [(16,vP bp0 1)] (eJ #[.pointer (cE true bp0),vS d4 d3 d5,vS a2 p0.2.1 c2,vS a3 p0.2.2.1 c3,vI (if p3>p0.2.2.2 then p3 else p0.2.2.2)] g.f1 fun k5 g=>(aN (aC (aF 4 [(4,vI (s7.size:Int)),(5,.nilIface)] (aL (aO [4,5] [vI (s7.size:Int),.nilIface] (⟨_,rfl,?_⟩)))))));refine⟨⟨.inr ⟨Inv.anti g.inv s,Piece.holds_anti g.t.t.h s,trivial⟩,trivial⟩,?_⟩;refine eW kr ?_;refine aE (aS 2 [(192,vP bp0 0),(193,vP o 4)] (bF 194 (vS b x1.2.2.2.2 f) g.t.t.h (iK 195 ((p.mono D).mono H) i ?_)));rintro x8 i h0 f8 h6 rfl d7;refine iO 196 3 195 f8 (vI x8) g d7 (aA 2 [(198,vI (wr (p3+1)))] (aK 199 i (a (p0:=((true,d3),p0.2.1,p0.2.2.1,if p3>p0.2.2.2 then p3 else p0.2.2.2)) g.f1.f1 g0 ((E.mono D).mono H) ((F.mono D).mono H)) ?_));rintro l i _ k6 ⟨K,U,M,V,S,Y,h8,rfl,d6,g,g1,g2,g3⟩
  refine aN (bC (aA 3 [(202,vP bp0 0)] (bA rfl (eA 203 115 #[vP bp0 0,.int .u8 41] kr rfl (bG func115 rfl ntmps115 (aD 1 [] (aC (aA 1 [(5,vP bp0 0)] (bA rfl (eA 6 76 #[vP bp0 0] kr rfl ((oX (c0:=(cE l.1.1 bp0)) (R:=[vS K l.1.2 U,vS M l.2.1 V,vS S l.2.2.1 Y,vI l.2.2.2]) (pC l.1.1 bp0 kr) g).mono ?_)))))))))));rintro _ g9 ⟨f0,rfl,Z,g⟩;refine⟨_,rfl,?_⟩;have g:St f0 (kB bp0 #[.pointer (cE true bp0),vS K l.1.2 U,vS M l.2.1 V,vS S l.2.2.1 Y,vI l.2.2.2] 115::kR K l.1.2 U 5 1::kB o (V8 x1 b f) 61::O) g9:=g;refine aN (aC (aA 4 [(7,vP bp0 0),(10,vP bp0 1)] (bF 11 (vS K l.1.2 U) g.h (aA 1 [(12,.int .u8 41)] (bA rfl (rH (d:=13) (t:=64) (e:=5) (len:=1) (parts:= #[(0,(.tmp 12))]) mM (xs:=[(41:UInt8)]) [.int .u8 41] kr rfl (fun _=>rG kr _) rfl rfl g ⟨[.int .u8 41],_,rfl,rfl,rfl⟩ fun h1 h9 k7 b0 g g6=>(lR 14 64 64 5 1 11 13 g.f2 (.inl kr) ((g1.mono Z).mono b0) g6.src i fun d9 i d1 d2 f9 k8 d0 g g7=>(aA 2 [(16,vP bp0 1)] (eJ #[.pointer (cE true bp0),vS d1 d9 d2,vS M l.2.1 V,vS S l.2.2.1 Y,vI l.2.2.2] g.f2 fun k9 g=>(aU rfl ?_))))))))));have g:=g.f2.t;refine aE (aD 1 [(4,.nilIface)] (aL (aO [4] [.nilIface] (⟨_,rfl,?_⟩))));refine aU rfl (bQ ?_);cases i
  exact pR [] [] rfl ResAll.nil ⟨d1,d2,M,V,S,Y,f9,rfl,(((((q.t D).t H).t d6).t Z).t b0).t d0,g.f2.t.f1.f1,g7,((g2.mono Z).mono b0).mono d0,((g3.mono Z).mono b0).mono d0⟩
 intro A i;refine aD 2 [(204,vB (x1.1==10))] (aI i ?_ ?_)
 .intro A i;refine iF [(9,fun w'=>Inv B w'/\Piece.holds B w' (kB o (V8 x1 b f) 61)/\True)] kr g fun d1 _ g=> ?_;have l:=B.le_refl;refine⟨⟨.inr ⟨Inv.anti g.inv l,Piece.holds_anti g.t.h l,trivial⟩,trivial⟩,?_⟩;refine aR 0 206 (vP bp0 0) (.head _) (aR 1 207 (vP bp0 0) (.head _) (aR 2 208 (vP bp0 0) (.head _) (aR 3 209 (vP o 1) (.head _) (eR 3 209 4 210 1 (vI x1.2.1) (.head _) (fun _ h=>h.2.1) (cH 5 kr (mW 211 i (fun _ h=>UZ g h) ?_))))));rintro d5 i _ d2 ⟨d0,rfl,s,g⟩;refine⟨_,rfl,?_⟩;have l:=Mem.le_trans l s;refine⟨⟨.inr ⟨Inv.anti g.inv l,Piece.holds_anti g.t.h l,trivial⟩,trivial⟩,?_⟩;refine iY 9 9 ((.const (vT (⟨#[102,108,105,112,40]⟩:BA)))) 211 6 212 (.head _) i fun s8 i=> ?_;refine iY 9 9 212 ((.const (vT bj))) 7 213 (.head _) i fun K i=> ?_;refine cH 8 kr (eA 214 33 #[vP bp0 0,vT K] kr rfl (bG func33 rfl ntmps33 (aD 2 [] (aC (aA 1 [(6,vP bp0 0)] (bA rfl (eA 7 76 #[vP bp0 0] kr rfl ((oX (c0:=(cE p0.1.1 bp0)) (R:=[vS a1 p0.1.2 c1,vS a2 p0.2.1 c2,vS a3 p0.2.2.1 c3,vI (if p3>p0.2.2.2 then p3 else p0.2.2.2)]) (pC p0.1.1 bp0 kr) g).mono ?_))))))));rintro _ b0 ⟨V,rfl,D,g⟩;refine⟨_,rfl,?_⟩;have l:=Mem.le_trans l D
  have g:St V (kB bp0 #[.pointer (cE true bp0),vS a1 p0.1.2 c1,vS a2 p0.2.1 c2,vS a3 p0.2.2.1 c3,vI (if p3>p0.2.2.2 then p3 else p0.2.2.2)] 115::kB o (V8 x1 b f) 61::kR a1 p0.1.2 c1 5 1::O) b0:=g;refine aN (aC (aA 4 [(8,vP bp0 0),(11,vP bp0 1)] (bF 12 (vS a1 p0.1.2 c1) g.h (aA 1 [(13,vT K)] (lR 14 64 9 5 1 12 13 g.f2 (.inr kr) ((G.mono s).mono D) (Gives.str _) i fun U i M S Y d3 H g Z=> ?_)))));have l:=Mem.le_trans l H;refine aA 2 [(16,vP bp0 1)] (eJ #[.pointer (cE true bp0),vS M U S,vS a2 p0.2.1 c2,vS a3 p0.2.2.1 c3,vI (if p3>p0.2.2.2 then p3 else p0.2.2.2)] g.f1 fun d4 g=>(aN (aC (aF 4 [(4,vI (K.size:Int)),(5,.nilIface)] (aL (aO [4,5] [vI (K.size:Int),.nilIface] (⟨_,rfl,?_⟩)))))));refine⟨⟨.inr ⟨Inv.anti g.inv l,Piece.holds_anti g.t.t.h l,trivial⟩,trivial⟩,?_⟩;refine eW kr ?_;refine bQ ?_;cases i;exact pR [] [] rfl ResAll.nil ⟨M,S,a2,c2,a3,c3,Y,rfl,((q.t s).t D).t H,g.f2.t.f1.f1,Z,((E.mono s).mono D).mono H,((F.mono s).mono D).mono H⟩
 intro A i;refine aC (bA rfl (HE (d:=51) (t:=146) kr rfl g fun s g8 g=> ?_));have⟨g2,Y,i⟩:=aZ i;refine bA rfl (oD (ek:=(fun n:Int=>Value.int .i64 n)) (c:=aH) (agg:=false) (k:=7) (yv:=b18) (cs:=[vT b18]) (z:=(vT eB)) (v:=(vT b18)) (kt:=3) (et:=9) (t:=146) (x:=(.tmp 51)) (y:=(.const (vI 7))) (u:=(.const (vT b18))) kr (ev (.map (some s))) (ev (vI 7)) (ev (vT b18)) kr (nA kr) g (MapQ.new (fun n:Int=>Value.int .i64 n) aH false _ _) rfl rfl Y fun g0 f0 g9 g d4=> ?_);have⟨g3,Z,i⟩:=aZ i;refine bA rfl (oD (ek:=(fun n:Int=>Value.int .i64 n)) (c:=aH) (agg:=false) (k:=8) (yv:=b19) (cs:=[vT b19]) (z:=(vT eB)) (v:=(vT b19)) (kt:=3) (et:=9) (t:=146) (x:=(.tmp 51)) (y:=(.const (vI 8))) (u:=(.const (vT b19))) kr (ev (.map (some s))) (ev (vI 8)) (ev (vT b19)) kr (nA kr) g d4 rfl rfl Z fun g1 f9 h0 g d5=> ?_);have⟨U,b0,i⟩:=aZ i
 refine bA rfl (oD (ek:=(fun n:Int=>Value.int .i64 n)) (c:=aH) (agg:=false) (k:=9) (yv:=b1a) (cs:=[vT b1a]) (z:=(vT eB)) (v:=(vT b1a)) (kt:=3) (et:=9) (t:=146) (x:=(.tmp 51)) (y:=(.const (vI 9))) (u:=(.const (vT b1a))) kr (ev (.map (some s))) (ev (vI 9)) (ev (vT b1a)) kr (nA kr) g d5 rfl rfl b0 fun d0 V h1 g d6=>(aA 2 [(52,.map (some s)),(53,vP o 0)] (bF 54 (vI x1.1) g.t.t.h (bA rfl (zU (ek:=(fun n:Int=>Value.int .i64 n)) (c:=aH) (agg:=false) (k:=x1.1) (zx:=eB) (zcs:=[vT eB]) (z:=(vT eB)) (kt:=3) (et:=9) (d:=55) (t:=146) (x:=(.tmp 52)) (y:=(.tmp 54)) (ok:=false) kr rfl (ev (.map (some s))) (ev (vI x1.1)) kr (nA kr) g.h d6 rfl rfl ?_)))));rintro e0 rfl;refine aF 1 [(15,vT ((cS U x1.1).getD eB))] (iF [(10,fun w'=>Inv B w'/\Piece.holds B w' (kB o (V8 x1 b f) 61)/\True)] kr g fun h6 _ g=> ?_);have l:=B.le_refl;refine⟨⟨.inr ⟨Inv.anti g.inv l,Piece.holds_anti g.t.t.h l,trivial⟩,trivial⟩,?_⟩
 refine aR 0 56 (vP bp0 0) (.head _) (aR 1 57 (vP bp0 0) (.head _) (aR 2 58 (vP bp0 0) (.head _) (aR 3 59 (vT ((cS U x1.1).getD eB)) (.head _) (iY 9 9 59 ((.const (vT (⟨#[40,34]⟩:BA)))) 4 60 (.head _) i fun g6 i=>(aR 5 61 (vP o 3) (.head _) (eR 9 61 6 62 3 (vT x1.2.2.2.1) (.head _) (fun _ h=>h.2.1) (iY 9 9 60 62 7 63 (.head _) i fun g7 i=>(iY 9 9 63 ((.const (vT bh))) 8 64 (.head _) i fun K i=>(cH 9 kr (eA 65 33 #[vP bp0 0,vT K] kr rfl (bG func33 rfl ntmps33 (aD 2 [] (aC (aA 1 [(6,vP bp0 0)] ?_))))))))))))));have g:=g.f1;refine bA rfl (eA 7 76 #[vP bp0 0] kr rfl ((oX (c0:=(cE p0.1.1 bp0)) (R:=[vS a1 p0.1.2 c1,vS a2 p0.2.1 c2,vS a3 p0.2.2.1 c3,vI (if p3>p0.2.2.2 then p3 else p0.2.2.2)]) (pC p0.1.1 bp0 kr) g).mono ?_));rintro _ d9 ⟨d2,rfl,D,g⟩;refine⟨_,rfl,?_⟩;have l:=Mem.le_trans l D;have g:St d2 (kB bp0 #[.pointer (cE true bp0),vS a1 p0.1.2 c1,vS a2 p0.2.1 c2,vS a3 p0.2.2.1 c3,vI (if p3>p0.2.2.2 then p3 else p0.2.2.2)] 115::eH (some s) d0 V::kB o (V8 x1 b f) 61::kR a1 p0.1.2 c1 5 1::O) d9:=g;refine aN (aC (aA 4 [(8,vP bp0 0),(11,vP bp0 1)] (bF 12 (vS a1 p0.1.2 c1) g.h (aA 1 [(13,vT K)] (lR 14 64 9 5 1 12 13 g.f3 (.inr kr) (G.mono D) (Gives.str _) i fun d1 i M S d3 h7 H g d7=> ?_)))));have l:=Mem.le_trans l H
 refine aA 2 [(16,vP bp0 1)] (eJ #[.pointer (cE true bp0),vS M d1 S,vS a2 p0.2.1 c2,vS a3 p0.2.2.1 c3,vI (if p3>p0.2.2.2 then p3 else p0.2.2.2)] g.f1 fun h8 g=>(aN (aC (aF 4 [(4,vI (K.size:Int)),(5,.nilIface)] (aL (aO [4,5] [vI (K.size:Int),.nilIface] (⟨_,rfl,?_⟩)))))));refine⟨⟨.inr ⟨Inv.anti g.inv l,Piece.holds_anti g.t.t.t.h l,trivial⟩,trivial⟩,?_⟩;refine eW kr ?_;refine bQ ?_;cases i;exact pR [] [] rfl ResAll.nil ⟨M,S,a2,c2,a3,c3,d3,rfl,(q.t D).t H,g.f2.t.f2.t.f1.f1,d7,(E.mono D).mono H,(F.mono D).mono H⟩
theorem UG(N:Nat):∀D:Nat,(∀{m:Mem} {O:List Piece} {w:World} {p0:qH} {p1:Int} {p2:Int} {p3:Int} {a:Nat} {l:Option Addr} {n:Nat} {o:Option Addr} {q:Nat} {p:Option Addr} {s:Nat} {r:qH} (g:St m (kB a #[.pointer (cE p0.1.1 a),vS l p0.1.2 n,vS o p0.2.1 q,vS p p0.2.2.1 s,vI p0.2.2.2] 115::kR l p0.1.2 n 5 1::O) w) (t:RepS mM m l n p0.1.2) (u:RepS C3 m o q p0.2.1) (v:RepS aH m p s p0.2.2.1) (i:(xG N D) p0 p1 p2 p3=some r),Calls prog 77 #[vP a 0,vI p1,vI p2,vI p3] w fun e w'=>∃b c d h f k m',e= .returned (.tuple #[])/\m.le m'/\St m' (kB a #[.pointer (cE r.1.1 a),vS b r.1.2 c,vS d r.2.1 h,vS f r.2.2.1 k,vI r.2.2.2] 115::kR b r.1.2 c 5 1::O) w'/\P6 m' b c d h f k r)
 |0=>fun _ _ _ _ i=>(by cases i)
 |D+1=>fun g t u v i=>qGg (UG N D) g t u v i
theorem qGp{p0:qH}{p1:Int}{p2:Int}{p3:Int}{r:qH}(g:St m (kB bp0 #[.pointer (cE p0.1.1 bp0),vS a1 p0.1.2 c1,vS a2 p0.2.1 c2,vS a3 p0.2.2.1 c3,vI p0.2.2.2] 115::kR a1 p0.1.2 c1 5 1::O) w)(k:RepS mM m a1 c1 p0.1.2)(l:RepS C3 m a2 c2 p0.2.1)(n:RepS aH m a3 c3 p0.2.2.1)(i:OC N p0 p1 p2 p3=some r):Calls prog 77 #[vP bp0 0,vI p1,vI p2,vI p3] w fun e w'=>∃a b c f d h m',e= .returned (.tuple #[])/\m.le m'/\St m' (kB bp0 #[.pointer (cE r.1.1 bp0),vS a r.1.2 b,vS c r.2.1 f,vS d r.2.2.1 h,vI r.2.2.2] 115::kR a r.1.2 b 5 1::O) w'/\P6 m' a b c f d h r:=
 (UG N N) g k l n i
def zQ(N:Nat)(p0:Tr)(p1:T9):Option Tj:=
 (OC N ((false,([]:rD)),p0,p1,0) (IntKind.wrap .i64 ((List.length p0:Int)-1)) 0 1).bind fun y1=>(IZ y1.1.2).bind fun a=>some (iL y1.1.2,y1.2.2.2)
theorem qHo{p0:Tr}{p1:T9}{r:Tj}(g:St m (O) w)(B:RepS C3 m a1 c1 p0)(D:RepS aH m a2 c2 p1)(i:zQ N p0 p1=some r):Calls prog 34 #[vS a1 p0 c1,vS a2 p1 c2] w fun e w'=>∃m',e= .returned (.tuple #[vT r.1,vI r.2])/\m.le m'/\St m' (O) w':=by
 unfold zQ at i;have q:=m.le_refl;refine bG func34 rfl ntmps34 ?_;refine aD 2 [] (aC ?_);refine aA 3 [(9,.agg #[.pointer none,vc,vS a1 p0 c1,vS a2 p1 c2,vI 0])] (bA rfl (yA 10 115 9 (.agg #[.pointer none,vc,vS a1 p0 c1,vS a2 p1 c2,vI 0]) g fun a H g=>(aF 1 [(6,vP a 0)] (aC (aA 4 [(11,vP a 0),(14,vI (wr ((p0.length:Int)-1)))] ?_)))));have g:=(g.nilroom 5 1).front1;refine aK 15 i (qGp (p0:=((false,([]:rD)),p0,p1,0)) g (RepS.nil _ _) B D) ?_;rintro y1 i _ K ⟨k,l,o,s,p,u,f,rfl,A,g,v,E,F⟩;refine aN (aG (iF [(10,fun w'=>Inv f w'/\Piece.holds f w' (kB a #[.pointer (cE y1.1.1 a),vS k y1.1.2 l,vS o y1.2.1 s,vS p y1.2.2.1 u,vI y1.2.2.2] 115)/\True)] kr g fun M _ g=> ?_));have c:=f.le_refl;refine⟨⟨.inr ⟨Inv.anti g.inv c,Piece.holds_anti g.h c,trivial⟩,trivial⟩,?_⟩;refine aR 0 16 (vP a 0) (.head _) (aR 1 17 (vP a 0) (.head _) (aR 2 18 (vP a 0) (.head _) (aR 4 20 (vP a 0) (.head _) (aR 5 21 (vP a 0) (.head _) (aR 6 22 (vP a 4) (.head _) (eR 3 22 7 23 4 (vI y1.2.2.2) (.head _) (fun _ h=>h.2.1) (cH 3 kr (eA 19 37 #[vP a 0] kr rfl (bG func37 rfl ntmps37 (aD 1 [] (aG (iF [(12,fun w'=>Inv f w'/\Piece.holds f w' (kB a #[.pointer (cE y1.1.1 a),vS k y1.1.2 l,vS o y1.2.1 s,vS p y1.2.2.1 u,vI y1.2.2.2] 115)/\True)] kr g fun R _ g=> ?_))))))))))));have b:=f.le_refl
 refine⟨⟨.inr ⟨Inv.anti g.inv b,Piece.holds_anti g.h b,trivial⟩,trivial⟩,?_⟩;refine aR 0 3 (vP a 0) (.head _) (aR 1 4 (vP a 0) (.head _) (aR 2 5 (vP a 1) (.head _) (eR 64 5 3 6 1 (vS k y1.1.2 l) (.head _) (fun _ h=>h.2.1) (aR 5 8 (vP a 0) (.head _) (aR 6 9 (vP a 0) (.head _) (aR 7 10 (vP a 1) (.head _) (eR 64 10 8 11 1 (vS k y1.1.2 l) (.head _) (fun _ h=>h.2.1) (aR 9 12 (vI (y1.1.2.length:Int)) (.head _) ?_))))))));have⟨G,z,i⟩:=aZ i;have n:=qBu z;refine cH 4 kr (VI (d:=7) (t:=64) (x:=(.tmp 6)) kr rfl (ev (vS k y1.1.2 l)) v n (⟨⟨.inr ⟨Inv.anti g.inv b,Piece.holds_anti g.h b,trivial⟩,trivial⟩,?_⟩));refine cH 10 kr (US (d:=13) (pt:=118) (it:=3) (e:=5) (x:=(.tmp 7)) (y:=(.tmp 12)) kr rfl (ev (.pointer k)) (ev (vI (y1.1.2.length:Int))) g.f1 v n kr kr fun S g=>(⟨⟨.inr ⟨Inv.anti g.inv b,Piece.holds_anti g.h b,trivial⟩,trivial⟩,?_⟩));refine aR 11 2 (vT (iL y1.1.2)) (.head _) (eW kr (aE (aL (aO [2] [vT (iL y1.1.2)] (⟨_,rfl,?_⟩)))));refine⟨⟨.inr ⟨Inv.anti g.inv c,Piece.holds_anti g.h c,trivial⟩,trivial⟩,?_⟩;refine aR 8 4 (vT (iL y1.1.2)) (.head _) (aR 9 5 (vI y1.2.2.2) (.head _) (eW kr (aE (aL ?_))));obtain rfl:=sI i;exact aO [4,5] [vT (iL y1.1.2),vI y1.2.2.2] ⟨f,rfl,q.t A,g.t⟩
def zT(N:Nat)(p0:Tr)(p1:T9):Option Tj:=
 (sQ N ((⟨#[112]⟩:BA),([]:T9),[(1,(⟨#[102]⟩:BA),p1,p0)])).bind fun y1=>if(y1 !=0)=true then(some ((⟨#[]⟩:BA),y1)) else((zQ N p0 p1).bind fun a=>some (a.1,0))
theorem qHy{p0:Tr}{p1:T9}{r:Tj}(g:St m (O) w)(f:RepS C3 m a1 c1 p0)(h:RepS aH m a2 c2 p1)(i:zT N p0 p1=some r):Calls prog 17 #[vS a1 p0 c1,vS a2 p1 c2] w fun e w'=>∃m',e= .returned (.tuple #[vT r.1,vI r.2])/\m.le m'/\St m' (O) w':=by
 unfold zT at i;have q:=m.le_refl;refine bG func17 rfl ntmps17 ?_;refine aD 2 [] (aG ?_);refine aS 3 [(11,.agg #[vI 1,vT bg,vS a2 p1 c2,vS a1 p0 c1])] ?_;refine bA rfl (rH (d:=12) (t:=27) (e:=43) (len:=1) (parts:= #[(0,(.tmp 11))]) C4 (xs:=[(1,bg,p1,p0)]) [vI 1,vT bg,vS a2 p1 c2,vS a1 p0 c1] kr rfl (fun _=>rG kr _) rfl rfl g ⟨[vI 1,vT bg,vS a2 p1 c2,vS a1 p0 c1],_,rfl,⟨_,_,rfl,rfl,⟨_,_,rfl,rfl,⟨_,_,rfl,(xY h),(xY f)⟩⟩⟩,rfl⟩ fun k s u a g p=>(aA 1 [(13,.agg #[vT ba,v1,.slice (aP k) (List.length ([(1,bg,p1,p0)])) 1])] (aK 14 i (UU (p0:=(ba,([]:T9),[(1,bg,p1,p0)])) g (RepS.nil _ _) p) ?_)));rintro y1 i _ v ⟨n,rfl,b,g⟩;refine aA 1 [(6,vI y1)] (aU rfl ?_);have g:=g.t;refine aE (aD 2 [(16,vB (y1 !=0))] (aI i ?_ ?_))
 .intro A i;refine aD 3 [(4,vT eB),(5,vI y1)] (aL ?_);refine aQ ?_;obtain rfl:=sI i;exact aO [4,5] [vT eB,vI y1] ⟨n,rfl,(q.t a).t b,g⟩
 intro A i;refine aM (aE (aS 2 [(19,vS a1 p0 c1),(20,vS a2 p1 c2)] (aK 21 i (qHo g ((f.mono a).mono b) ((h.mono a).mono b)) ?_)));rintro c i _ x ⟨o,rfl,l,g⟩;refine aF 5 [(7,vT c.1)] (aC (aF 3 [(4,vT c.1),(5,vI 0)] (aL ?_)));cases i;exact aO [4,5] [vT c.1,vI 0] ⟨o,rfl,((q.t a).t b).t l,g⟩
def KV(N:Nat)(p0:T9)(p1:BA):Tf:=
 if((List.length p0:Int)==0)=true then(some (⟨#[]⟩:BA)) else(if((List.length p0:Int)==1)=true then((idx p0 0).bind fun x1=>some x1) else none)
def vX(N:Nat)(p0:T9)(p1:BA):Tf:=
 if 2<=List.length p0 then NM p0 p1 else KV N p0 p1
theorem qHh{p0:T9}{p1:BA}{r:BA}(g:St m (O) w)(c:RepS aH m a1 c1 p0)(i:KV N p0 p1=some r):Calls prog 35 #[vS a1 p0 c1,vT p1] w fun e w'=>∃m',e= .returned (vT r)/\m.le m'/\St m' (O) w':=by
 unfold KV at i;have q:=m.le_refl;refine bG func35 rfl ntmps35 ?_;refine aD 1 [] (aG ?_);refine aD 2 [(12,vI (p0.length:Int))] (bD ?_);refine aD 2 [(13,vB ((p0.length:Int)==0))] (aI i ?_ ?_)
 .intro A i;refine aD 1 [(4,vT eB)] (aL ?_);refine bH (aQ ?_);cases i;exact aO [4] [vT eB] ⟨m,rfl,q,g⟩
 intro A i;refine aD 2 [(15,vB ((p0.length:Int)==1))] (aI i ?_ ?_)
 .intro A i;refine aS 1 [(17,vS a1 p0 c1)] ?_;refine iK 18 c i ?_;rintro x1 i f b d rfl a;refine iO 19 9 18 b (vT x1) g a (aF 1 [(4,vT x1)] (aL (bH (aQ ?_))));obtain rfl:=sI i;exact aO [4] [vT x1] ⟨m,rfl,q,g⟩
 intro A i;cases i
def VF:Go.Shelf.Ren:=⟨fun|156=>35|165=>78|166=>33|169=>37|240=>76|241=>118|276=>113|277=>146|n=>n,fun|31=>26|9=>9|3=>3|4=>4|0=>0|20=>20|72=>66|76=>69|70=>63|37=>64|75=>68|127=>118|164=>143|5=>5|80=>75|n=>n,fun|n=>n⟩
theorem qNk:Go.Proofs.Lays.n156 prog VF where
 mixed:=kr
 f156:=func35.trans (congrArg some kr)
 f165:=func78.trans (congrArg some kr)
 f166:=func33.trans (congrArg some kr)
 f169:=func37.trans (congrArg some kr)
 f240:=func76.trans (congrArg some kr)
 f241:=func118.trans (congrArg some kr)
 f276:=func113.trans (congrArg some kr)
 f277:=func146.trans (congrArg some kr)
 t0:=Tryz.underlying0
 a0:=Tryz.isAgg0
 z0:=Tryz.sizeOf0
 v0:=Tryz.zeroValue0
 t3:=Tryz.underlying3
 a3:=Tryz.isAgg3
 z3:=Tryz.sizeOf3
 v3:=Tryz.zeroValue3
 t4:=Tryz.underlying4
 a4:=Tryz.isAgg4
 z4:=Tryz.sizeOf4
 v4:=Tryz.zeroValue4
 t9:=Tryz.underlying9
 a9:=Tryz.isAgg9
 z9:=Tryz.sizeOf9
 v9:=Tryz.zeroValue9
 t20:=Tryz.underlying20
 a20:=Tryz.isAgg20
 z20:=Tryz.sizeOf20
 v20:=Tryz.zeroValue20
 t31:=Tryz.underlying26
 a31:=Tryz.isAgg26
 z31:=Tryz.sizeOf26
 v31:=Tryz.zeroValue26
 t37:=Tryz.underlying64
 a37:=Tryz.isAgg64
 z37:=Tryz.sizeOf64
 v37:=Tryz.zeroValue64
 t70:=Tryz.underlying63
 a70:=Tryz.isAgg63
 z70:=Tryz.sizeOf63
 v70:=Tryz.zeroValue63
 t72:=Tryz.underlying66
 a72:=Tryz.isAgg66
 z72:=Tryz.sizeOf66
 v72:=Tryz.zeroValue66
 t75:=Tryz.underlying68
 a75:=Tryz.isAgg68
 z75:=Tryz.sizeOf68
 v75:=Tryz.zeroValue68
 t76:=Tryz.underlying69
 a76:=Tryz.isAgg69
 z76:=Tryz.sizeOf69
 v76:=Tryz.zeroValue69
 t127:=Tryz.underlying118
 a127:=Tryz.isAgg118
 z127:=Tryz.sizeOf118
 v127:=Tryz.zeroValue118
 t164:=Tryz.underlying143
 a164:=Tryz.isAgg143
 z164:=Tryz.sizeOf143
 v164:=Tryz.zeroValue143
theorem qQw:Go.Proofs.Builder.Extra prog VF where
 sizeBuilder:=kr
 liesBuilder:=kr
 t5:=Tryz.underlying5
 a5:=Tryz.isAgg5
 z5:=Tryz.sizeOf5
 v5:=Tryz.zeroValue5
 infoByte:=kr
 cellsByte:=kr
 sizeByte:=kr
 neB5:=by decide
theorem qHp{p0:T9}{p1:BA}{r:BA}(g:St m (O) w)(a:RepS aH m a1 c1 p0)(i:vX N p0 p1=some r):Calls prog 35 #[vS a1 p0 c1,vT p1] w fun e w'=>∃m',e= .returned (vT r)/\m.le m'/\St m' (O) w':=by
 unfold vX at i
 split at i
 .rename_i h2
  exact qLj qNk qQw g a h2 i
 exact qHh g a i
def zH(N:Nat)(p0:nD)(a:Int×rD):Option (Int×rD⊕rD):=
 if(decide (a.1<(List.length p0.2.1:Int)))=true then((idx p0.2.1 a.1).bind fun b=>(cA (⟨#[105,109,112,111,114,116,32]⟩:BA) b).bind fun b=>(cA b (⟨#[59,10]⟩:BA)).bind fun b=>(cU 1 a.2 b.data.toList).bind fun b=>some (.inl (IntKind.wrap .i64 (a.1+1),b))) else(some (.inr a.2))
def qM(N:Nat)(p0:nD)(p1:Int):Option Tj:=
 (sQ N p0).bind fun y1=>if(y1 !=0)=true then(some ((⟨#[]⟩:BA),y1)) else((if(decide (p1<0))=true then(some true) else(some (decide (p1>=(List.length p0.2.2:Int)))):Te).bind fun a=>if a=true then(some ((⟨#[]⟩:BA),3)) else((idx p0.2.2 p1).bind fun x1=>(zT N x1.2.2.2 x1.2.2.1).bind fun a=>if(a.2 !=0)=true then(some ((⟨#[]⟩:BA),a.2)) else((cA (⟨#[112,97,99,107,97,103,101,32]⟩:BA) p0.1).bind fun b=>(cA b (⟨#[59,10]⟩:BA)).bind fun b=>(cU 1 ([]:rD) b.data.toList).bind fun b=>(aJ (zH N p0) N (0,b)).bind fun o2=>(if(x1.1==1)=true then((cA (⟨#[102,117,110,99,32]⟩:BA) x1.2.1).bind fun b=>(cA b (⟨#[40]⟩:BA)).bind fun b=>(vX N x1.2.2.1 (⟨#[44,32]⟩:BA)).bind fun c=>(cA b c).bind fun b=>(cA b (⟨#[41,32,61,32]⟩:BA)).bind fun b=>(cU 1 o2 b.data.toList).bind fun b=>some b) else(if(x1.1==2)=true then((cA (⟨#[116,101,115,116,32]⟩:BA) x1.2.1).bind fun b=>(cA b (⟨#[32,61,32]⟩:BA)).bind fun b=>(cU 1 o2 b.data.toList).bind fun b=>some b) else((cA (⟨#[103,101,110,32,34]⟩:BA) x1.2.1).bind fun b=>(cA b (⟨#[34,32,61,32]⟩:BA)).bind fun b=>(cU 1 o2 b.data.toList).bind fun b=>some b)):Option rD).bind fun b=>(cA a.1 (⟨#[59,10]⟩:BA)).bind fun a=>(cU 1 b a.data.toList).bind fun a=>(IZ a).bind fun b=>some (iL a,0))))
theorem GV{p0:nD}{p1:Int}{r:Tj}(g:St m (O) w)(z:RepS aH m a1 c1 p0.2.1)(Z:RepS C4 m a2 c2 p0.2.2)(i:qM N p0 p1=some r):Calls prog 20 #[.agg (V6 p0 a1 c1 a2 c2),vI p1] w fun e w'=>∃m',e= .returned (.tuple #[vT r.1,vI r.2])/\m.le m'/\St m' (O) w':=by
 unfold qM at i;have q:=m.le_refl;refine bG func20 rfl ntmps20 ?_;refine aC (mJ 2 29 (.agg (V6 p0 a1 c1 a2 c2)) g fun b1 m1 w1 e1 g p=> ?_);have z:=z.mono e1;have Z:=Z.mono e1;refine aF 2 [] (aG (aC (cI 13 (.agg (V6 p0 a1 c1 a2 c2)) g p (aK 14 i (UU (p0:=p0) g z Z) ?_))));rintro y1 i _ w2 ⟨m2,rfl,e2,g⟩;have q:=(q.t e1).t e2;have p:=p.mono e2;refine aF 1 [(6,vI y1)] (aC (aF 2 [(16,vB (y1 !=0))] (aI i ?_ ?_)))
 .intro A i;refine aD 3 [(4,vT eB),(5,vI y1)] (aL ?_);refine aQ ?_;obtain rfl:=sI i;exact aO [4,5] [vT eB,vI y1] ⟨m2,rfl,q,g⟩
 intro A i;refine aM (aE (aG (aC (eM 9 i (fun o1 L' w'=>∃m3,L'=[(1,vI p1),(2,vP b1 0),(26,vB o1)]/\m.le m3/\St m3 (O) w'/\MRow m3 b1 0 [vT p0.1,vS a1 p0.2.1 c1,vS a2 p0.2.2 c2]/\P5 m3 a1 c1 a2 c2 p0.2) ?_ ?_))))
 .rintro o1 i _ w3 ⟨m3,rfl,q,g,p,z,Z⟩;refine aN (aI i ?_ ?_)
  .intro A i;refine aD 2 [(4,vT eB),(5,vI 3)] (aL ?_);refine aQ ?_;cases i;exact aO [4,5] [vT eB,vI 3] ⟨m3,rfl,q,g⟩
  intro A i;refine aM (aE (aS 1 [(27,vP b1 2)] (cI 28 (vS a2 p0.2.2 c2) g (p.drop 2) (aA 1 [(29,vI p1)] (iK 30 Z i ?_)))));rintro x1 i b2 f1 d5 ⟨_,_,rfl,rfl,⟨_,_,rfl,rfl,⟨_,_,rfl,⟨c,f,rfl,v⟩,⟨k,n,rfl,B⟩⟩⟩⟩ d2;refine iO 31 43 30 f1 (.agg (V7 x1 c f k n)) g d2 (eQ 7 43 (.agg #[vI 0,vT eB,v7,v7]) g fun s w4 g=>(cG (.agg (V7 x1 c f k n)) g fun w5 g=>(aN (aC (bW 1 34 41 33 3 (vS k x1.2.2.2 n) g.h (bW 1 36 26 35 2 (vS c x1.2.2.1 f) g.h (aK 37 i (qHy g B v) ?_)))))));rintro G i _ w6 ⟨m4,rfl,Y,g⟩;refine aF 5 [(8,vT G.1),(9,vI G.2)] (aG (aD 2 [(41,vB (G.2 !=0))] (aI i ?_ ?_)))
  .intro A i;refine aD 3 [(4,vT eB),(5,vI G.2)] (aL ?_);refine aQ ?_;cases i;exact aO [4,5] [vT eB,vI G.2] ⟨m4,rfl,q.t Y,g.t⟩
  intro A i;refine aM (aE (aC (eQ 10 66 (.agg #[.pointer none,v7]) g fun a w7 g=>(aN (aC (aA 1 [(43,vP b1 0)] (cI 44 (vT p0.1) g (p.mono Y) (iC 45 i fun s1 i=>(iC 46 i fun s2 i=>(bA rfl (eA 47 33 #[vP a 0,vT s2] kr rfl (bG func33 rfl ntmps33 (aD 2 [] (aC (aA 1 [(6,vP a 0)] (bA rfl (eA 7 76 #[vP a 0] kr rfl ((oX (c0:=(cE false a)) (R:=[vc]) (pC false a kr) g).mono ?_))))))))))))))))));rintro _ w8 ⟨m5,rfl,e4,g⟩;refine⟨_,rfl,?_⟩;have g:St m5 (kB a #[.pointer (cE true a),vc] 66::kB s (V7 x1 c f k n) 43::O) w8:=g;refine aN (aC (aA 4 [(8,vP a 0),(11,vP a 1)] (bF 12 (vc) g.h (aA 1 [(13,vT s2)] (lR 14 64 9 5 1 12 13 (g.nilroom 5 1) (.inr kr) (RepS.nil _ _) (Gives.str _) i fun l1 i a5 c5 m6 w9 e5 g r5=>(aA 2 [(16,vP a 1)] (eJ #[.pointer (cE true a),vS a5 l1 c5] g.f1 fun d6 g=>(aN (aC (aF 4 [(4,vI (s2.size:Int)),(5,.nilIface)] (aL (aO [4,5] [vI (s2.size:Int),.nilIface] (⟨_,rfl,?_⟩)))))))))))))
  refine aN (aG (aS 1 [(48,vP b1 1)] (cI 49 (vS a1 p0.2.1 c1) g ((((p.mono Y).mono e4).mono e5).drop 1) (aF 2 [(50,vI (p0.2.1.length:Int)),(51,vI 0)] (bD (cJ (.exit 0) i (fun F L' w'=>∃(o2:rD),∃l o V,o2=F/\L'=[(7,vP s 0),(8,vT G.1),(10,vP a 0)]/\m.le V/\St V (kB a #[.pointer (cE true a),vS l o2 o] 66::kB s (V7 x1 c f k n) 43::kR l o2 o 5 1::O) w'/\RepS mM V l o o2/\P2 V c f k n x1.2.2) ?_ ?_))))))
  .rintro F i _ d7 ⟨o2,l,o,V,rfl,rfl,q,g,r6,v,B⟩;refine dW (aE (aG (aC (bW 1 61 3 60 0 (vI x1.1) g.t.h (aN (cJ .normal i (fun E L' w'=>∃H S U,L'=[(8,vT G.1),(10,vP a 0)]/\m.le U/\St U (kB a #[.pointer (cE true a),vS H E S] 66::kB s (V7 x1 c f k n) 43::kR H E S 5 1::O) w'/\RepS mM U H S E/\P2 U c f k n x1.2.2) ?_ ?_))))))
   .rintro E i _ d8 ⟨H,S,U,rfl,q,g,r9,v,B⟩;refine aE (aS 1 [(86,vT G.1)] (iC 87 i fun b6 i=>(bA rfl (eA 88 33 #[vP a 0,vT b6] kr rfl (bG func33 rfl ntmps33 (aD 2 [] (aC (aA 1 [(6,vP a 0)] (bA rfl (eA 7 76 #[vP a 0] kr rfl ((oX (c0:=(cE true a)) (R:=[vS H E S]) (pC true a kr) g).mono ?_)))))))))));rintro _ d4 ⟨d3,rfl,b8,g⟩;refine⟨_,rfl,?_⟩;have g:St d3 (kB a #[.pointer (cE true a),vS H E S] 66::kB s (V7 x1 c f k n) 43::kR H E S 5 1::O) d4:=g;refine aN (aC (aA 4 [(8,vP a 0),(11,vP a 1)] (bF 12 (vS H E S) g.h (aA 1 [(13,vT b6)] (lR 14 64 9 5 1 12 13 g.f2 (.inr kr) (r9.mono b8) (Gives.str _) i fun u i D M b0 d9 d1 g b9=>(aA 2 [(16,vP a 1)] (eJ #[.pointer (cE true a),vS D u M] g.f1 fun e0 g=>(aN (aC (aF 4 [(4,vI (b6.size:Int)),(5,.nilIface)] (aL (aO [4,5] [vI (b6.size:Int),.nilIface] (⟨_,rfl,?_⟩)))))))))))));refine aN (aC (bA rfl (eA 89 37 #[vP a 0] kr rfl (bG func37 rfl ntmps37 (aD 1 [] (aG (iF [(12,fun w'=>Inv b0 w'/\Piece.holds b0 w' (kB a #[.pointer (cE true a),vS D u M] 66)/\True)] kr g fun f0 _ g=> ?_)))))));have b:=b0.le_refl;refine⟨⟨.inr ⟨Inv.anti g.inv b,Piece.holds_anti g.h b,trivial⟩,trivial⟩,?_⟩
    refine aR 0 3 (vP a 0) (.head _) (aR 1 4 (vP a 0) (.head _) (aR 2 5 (vP a 1) (.head _) (eR 64 5 3 6 1 (vS D u M) (.head _) (fun _ h=>h.2.1) (aR 5 8 (vP a 0) (.head _) (aR 6 9 (vP a 0) (.head _) (aR 7 10 (vP a 1) (.head _) (eR 64 10 8 11 1 (vS D u M) (.head _) (fun _ h=>h.2.1) (aR 9 12 (vI (u.length:Int)) (.head _) ?_))))))));have⟨u3,d0,i⟩:=aZ i;have b7:=qBu d0;refine cH 4 kr (VI (d:=7) (t:=64) (x:=(.tmp 6)) kr rfl (ev (vS D u M)) b9 b7 (⟨⟨.inr ⟨Inv.anti g.inv b,Piece.holds_anti g.h b,trivial⟩,trivial⟩,?_⟩));refine cH 10 kr (US (d:=13) (pt:=118) (it:=3) (e:=5) (x:=(.tmp 7)) (y:=(.tmp 12)) kr rfl (ev (.pointer D)) (ev (vI (u.length:Int))) g.f1 b9 b7 kr kr fun f3 g=>(⟨⟨.inr ⟨Inv.anti g.inv b,Piece.holds_anti g.h b,trivial⟩,trivial⟩,?_⟩));refine aR 11 2 (vT (iL u)) (.head _) (eW kr (aE (aL (aO [2] [vT (iL u)] (⟨_,rfl,?_⟩)))));refine aF 2 [(4,vT (iL u)),(5,vI 0)] (aL ?_);obtain rfl:=sI i;exact aO [4,5] [vT (iL u),vI 0] ⟨b0,rfl,(q.t b8).t d1,g.t.t⟩
   intro E i D;refine bD (aD 2 [(67,vB (x1.1==1))] (aI i ?_ ?_))
   .intro A i;refine iF [(10,fun w'=>Inv V w'/\Piece.holds V w' (kB s (V7 x1 c f k n) 43)/\True)] kr g fun d3 _ g=> ?_;have b:=V.le_refl;refine⟨⟨.inr ⟨Inv.anti g.inv b,Piece.holds_anti g.t.h b,trivial⟩,trivial⟩,?_⟩;refine aR 0 69 (vP s 1) (.head _) (eR 9 69 1 70 1 (vT x1.2.1) (.head _) (fun _ h=>h.2.1) (iY 9 9 ((.const (vT (⟨#[102,117,110,99,32]⟩:BA)))) 70 2 71 (.head _) i fun s6 i=>(iY 9 9 71 ((.const (vT bi))) 3 72 (.head _) i fun s7 i=>(aR 4 73 (vP s 2) (.head _) (eR 26 73 5 74 2 (vS c x1.2.2.1 f) (.head _) (fun _ h=>h.2.1) (cH 6 kr (mW 75 i (fun _ h=>qHp g v h) ?_)))))));rintro y3 i _ d4 ⟨d1,rfl,M,g⟩;refine⟨_,rfl,?_⟩;have b:=Mem.le_trans b M;refine⟨⟨.inr ⟨Inv.anti g.inv b,Piece.holds_anti g.t.h b,trivial⟩,trivial⟩,?_⟩;refine iY 9 9 72 75 7 76 (.head _) i fun s8 i=> ?_;refine iY 9 9 76 ((.const (vT (⟨#[41,32,61,32]⟩:BA)))) 8 77 (.head _) i fun s9 i=> ?_;refine cH 9 kr (eA 78 33 #[vP a 0,vT s9] kr rfl (bG func33 rfl ntmps33 (aD 2 [] (aC (aA 1 [(6,vP a 0)] (bA rfl (eA 7 76 #[vP a 0] kr rfl ((oX (c0:=(cE true a)) (R:=[vS l o2 o]) (pC true a kr) g).mono ?_))))))));rintro _ d0 ⟨b7,rfl,e9,g⟩;refine⟨_,rfl,?_⟩;have b:=Mem.le_trans b e9;have g:St b7 (kB a #[.pointer (cE true a),vS l o2 o] 66::kB s (V7 x1 c f k n) 43::kR l o2 o 5 1::O) d0:=g
    refine aN (aC (aA 4 [(8,vP a 0),(11,vP a 1)] (bF 12 (vS l o2 o) g.h (aA 1 [(13,vT s9)] (lR 14 64 9 5 1 12 13 g.f2 (.inr kr) ((r6.mono M).mono e9) (Gives.str _) i fun l3 i b0 b6 b8 d8 u g b9=> ?_)))));have b:=Mem.le_trans b u;refine aA 2 [(16,vP a 1)] (eJ #[.pointer (cE true a),vS b0 l3 b6] g.f1 fun d9 g=>(aN (aC (aF 4 [(4,vI (s9.size:Int)),(5,.nilIface)] (aL (aO [4,5] [vI (s9.size:Int),.nilIface] (⟨_,rfl,?_⟩)))))));refine⟨⟨.inr ⟨Inv.anti g.inv b,Piece.holds_anti g.t.t.h b,trivial⟩,trivial⟩,?_⟩;refine eW kr ?_;refine bQ ?_;cases i;exact xE (D _ _ ⟨b0,b6,b8,rfl,((q.t M).t e9).t u,g.f1.f2.f2,b9,((v.mono M).mono e9).mono u,((B.mono M).mono e9).mono u⟩)
   intro A i;refine aD 2 [(79,vB (x1.1==2))] (aI i ?_ ?_)
   .intro A i;refine bC (bW 1 82 9 81 1 (vT x1.2.1) g.t.h (iC 83 i fun d1 i=>(iC 84 i fun u i=>(bA rfl (eA 85 33 #[vP a 0,vT u] kr rfl (bG func33 rfl ntmps33 (aD 2 [] (aC (aA 1 [(6,vP a 0)] (bA rfl (eA 7 76 #[vP a 0] kr rfl ((oX (c0:=(cE true a)) (R:=[vS l o2 o]) (pC true a kr) g).mono ?_))))))))))));rintro _ d0 ⟨b7,rfl,b,g⟩;refine⟨_,rfl,?_⟩;have g:St b7 (kB a #[.pointer (cE true a),vS l o2 o] 66::kB s (V7 x1 c f k n) 43::kR l o2 o 5 1::O) d0:=g;refine aN (aC (aA 4 [(8,vP a 0),(11,vP a 1)] (bF 12 (vS l o2 o) g.h (aA 1 [(13,vT u)] (lR 14 64 9 5 1 12 13 g.f2 (.inr kr) (r6.mono b) (Gives.str _) i fun l4 i b0 b6 b8 d3 M g b9=>(aA 2 [(16,vP a 1)] (eJ #[.pointer (cE true a),vS b0 l4 b6] g.f1 fun d4 g=>(aN (aC (aF 4 [(4,vI (u.size:Int)),(5,.nilIface)] (aL (aO [4,5] [vI (u.size:Int),.nilIface] (⟨_,rfl,?_⟩)))))))))))));refine aU rfl (bQ ?_);cases i;exact xE (D _ _ ⟨b0,b6,b8,rfl,(q.t b).t M,g.f1.f2.f2,b9,(v.mono b).mono M,(B.mono b).mono M⟩)
   intro A i;refine bC (bW 1 63 9 62 1 (vT x1.2.1) g.t.h (iC 64 i fun d1 i=>(iC 65 i fun u i=>(bA rfl (eA 66 33 #[vP a 0,vT u] kr rfl (bG func33 rfl ntmps33 (aD 2 [] (aC (aA 1 [(6,vP a 0)] (bA rfl (eA 7 76 #[vP a 0] kr rfl ((oX (c0:=(cE true a)) (R:=[vS l o2 o]) (pC true a kr) g).mono ?_))))))))))));rintro _ d0 ⟨b7,rfl,b,g⟩;refine⟨_,rfl,?_⟩;have g:St b7 (kB a #[.pointer (cE true a),vS l o2 o] 66::kB s (V7 x1 c f k n) 43::kR l o2 o 5 1::O) d0:=g;refine aN (aC (aA 4 [(8,vP a 0),(11,vP a 1)] (bF 12 (vS l o2 o) g.h (aA 1 [(13,vT u)] (lR 14 64 9 5 1 12 13 g.f2 (.inr kr) (r6.mono b) (Gives.str _) i fun l5 i b0 b6 b8 d3 M g b9=>(aA 2 [(16,vP a 1)] (eJ #[.pointer (cE true a),vS b0 l5 b6] g.f1 fun d4 g=>(aN (aC (aF 4 [(4,vI (u.size:Int)),(5,.nilIface)] (aL (aO [4,5] [vI (u.size:Int),.nilIface] (⟨_,rfl,?_⟩)))))))))))));refine aU rfl (bQ ?_);cases i;exact xE (D _ _ ⟨b0,b6,b8,rfl,(q.t b).t M,g.f1.f2.f2,b9,(v.mono b).mono M,(B.mono b).mono M⟩)
  intro F i M;refine cX _ kr (cW (fun U L' w'=>∃(b:Int×rD),∃u D E,aJ (zH N p0) U b=some F/\L'=[(7,vP s 0),(8,vT G.1),(10,vP a 0),(49,vS a1 p0.2.1 c1),(50,vI (p0.2.1.length:Int)),(51,vI b.1)]/\m.le E/\St E (kB a #[.pointer (cE true a),vS u b.2 D] 66::kB s (V7 x1 c f k n) 43::kR u b.2 D 5 1::O) w'/\RepS aH E a1 c1 p0.2.1/\RepS mM E u D b.2/\P2 E c f k n x1.2.2) N ⟨(0,l1),a5,c5,m6,i,rfl,((q.t Y).t e4).t e5,g.f1.f2.f2,((z.mono Y).mono e4).mono e5,r5,((v.mono Y).mono e4).mono e5,((B.mono Y).mono e4).mono e5⟩ ?_);rintro U _ d3 ⟨b,u,D,E,hL,rfl,q,g,z,r7,v,B⟩;rcases U with _|U
  .exact dV hL
  obtain⟨d1,i,b6,b0⟩:=dX hL;clear hL;unfold zH at i;refine aD 1 [(52,vB (decide (b.1<(p0.2.1.length:Int))))] (aG ?_);refine aI i ?_ ?_
  .intro A i;refine aM (aE (aG (bD (aC (iK 53 z i ?_)))));rintro x2 i b5 f2 d0 rfl b7;refine iO 54 9 53 f2 (vT x2) g b7 (aF 1 [(12,vT x2)] (bC (aA 1 [(55,vT x2)] (iC 56 i fun s4 i=>(iC 57 i fun s5 i=>(bA rfl (eA 58 33 #[vP a 0,vT s5] kr rfl (bG func33 rfl ntmps33 (aD 2 [] (aC (aA 1 [(6,vP a 0)] (bA rfl (eA 7 76 #[vP a 0] kr rfl ((oX (c0:=(cE true a)) (R:=[vS u b.2 D]) (pC true a kr) g).mono ?_))))))))))))));rintro _ b9 ⟨m9,rfl,H,g⟩;refine⟨_,rfl,?_⟩;have g:St m9 (kB a #[.pointer (cE true a),vS u b.2 D] 66::kB s (V7 x1 c f k n) 43::kR u b.2 D 5 1::O) b9:=g;refine aN (aC (aA 4 [(8,vP a 0),(11,vP a 1)] (bF 12 (vS u b.2 D) g.h (aA 1 [(13,vT s5)] (lR 14 64 9 5 1 12 13 g.f2 (.inr kr) (r7.mono H) (Gives.str _) i fun l2 i a8 c8 b8 d4 S g r8=>(aA 2 [(16,vP a 1)] (eJ #[.pointer (cE true a),vS a8 l2 c8] g.f1 fun d7 g=>(aN (aC (aF 4 [(4,vI (s5.size:Int)),(5,.nilIface)] (aL (aO [4,5] [vI (s5.size:Int),.nilIface] (⟨_,rfl,?_⟩)))))))))))));refine aU rfl (bQ (aE (bC (aA 2 [(51,vI (wr (b.1+1)))] (aU rfl ?_)))));have hL:=b6 _ (sI i);exact xE (cT ⟨(wr (b.1+1),l2),a8,c8,b8,hL,rfl,(q.t H).t S,g.f1.f2.f2,(z.mono H).mono S,r8,(v.mono H).mono S,(B.mono H).mono S⟩)
  intro A i;refine cQ (bK ?_);have ho:=b0 _ (sI i);have g:=g.f2.f2.f2;refine bK ?_;exact xE (M _ _ ⟨b.2,u,D,E,ho,rfl,q,g,r7,v,B⟩)
 intro o1 i K;refine aA 3 [(20,vB (decide (p1<0)))] (bN 20 i ?_ ?_)
 .intro A i;refine aA 6 [(26,vB true)] ?_;cases i;exact aY _ kr (K _ _ ⟨m2,rfl,q,g,p,z.mono e2,Z.mono e2⟩)
 intro A i;refine aA 2 [(21,vI p1),(22,vP b1 2)] (cI 23 (vS a2 p0.2.2 c2) g (p.drop 2) (aA 3 [(26,vB (decide (p1>=(p0.2.2.length:Int))))] ?_));cases i;exact aY _ kr (K _ _ ⟨m2,rfl,q,g,p,z.mono e2,Z.mono e2⟩)
def NU(N:Nat)(p0:T6)(p1:Int)(a:Int):Option (Int⊕Unit⊕Int):=
 if(decide (a<(List.length p0:Int)))=true then((idx p0 a).bind fun x1=>if(p1==x1)=true then(some (.inr (.inr (a)))) else(some (.inl (IntKind.wrap .i64 (a+1))))) else(some (.inr (.inl ())))
def OB(N:Nat)(p0:T6)(p1:Int):T5:=
 (aJ (NU N p0 p1) N 0).bind fun a=>(match a with| .inl a=>some (-1)| .inr (z)=>some z)
theorem qGf{p0:T6}{p1:Int}{r:Int}(g:St m (O) w)(l:RepS (aT .i64) m a1 c1 p0)(i:OB N p0 p1=some r):Calls prog 157 #[vS a1 p0 c1,vI p1] w fun e w'=>∃m',e= .returned (vI r)/\m.le m'/\St m' (O) w':=by
 unfold OB at i;have q:=m.le_refl;refine bG func157 rfl ntmps157 ?_;refine aD 1 [] (aG ?_);refine aD 3 [(7,vI (p0.length:Int)),(8,vI 0)] (bD ?_);have⟨d,i,p⟩:=aZ i;refine cZ (.exit 0) (fun L' w'=>∃(s:Unit),∃k,(.inl s)=d/\L'=[]/\m.le k/\St k (O) w') ?_ ?_
 .rintro _ a ⟨s,k,rfl,rfl,q,g⟩;have i:=p;refine dW (aE (aD 1 [(4,vI (-1))] (aL ?_)));cases i;exact aO [4] [vI (-1)] ⟨k,rfl,q,g⟩
 intro f;refine cX _ kr (cW (fun h L' w'=>∃(a:Int),∃b,aJ (NU N p0 p1) h a=some d/\L'=[(0,vS a1 p0 c1),(1,vI p1),(7,vI (p0.length:Int)),(8,vI a)]/\m.le b/\St b (O) w'/\RepS (aT .i64) b a1 c1 p0) N ⟨0,m,i,rfl,q,g,l⟩ ?_);rintro h _ y ⟨a,b,hL,rfl,q,g,l⟩;rcases h with _|h
 .exact dV hL
 obtain⟨v,i,n,c⟩:=dX hL;clear hL;unfold NU at i;refine aD 1 [(9,vB (decide (a<(p0.length:Int))))] (aG ?_);refine aI i ?_ ?_
 .intro A i;refine aM (aE (aG (bD (aD 2 [(5,vI a)] (aC (aA 3 [(11,vI p1),(12,vS a1 p0 c1),(13,vI a)] (iK 14 l i ?_)))))));rintro x1 i x t u rfl o;refine iO 15 3 14 t (vI x1) g o (aF 1 [(16,vB (p1==x1))] (aI i ?_ ?_))
  .intro A i;refine aD 2 [(4,vI a)] (aL ?_);refine bH (aQ ?_);have ho:=c _ (sI i);subst ho;have i:=p;refine aQ (bH (aQ ?_));obtain rfl:=sI i;exact aO [4] [vI a] ⟨b,rfl,q,g⟩
  intro A i;refine aM (bQ (aE (bC (aA 2 [(8,vI (wr (a+1)))] (aU rfl ?_)))));have hL:=n _ (sI i);exact xE (cT ⟨wr (a+1),b,hL,rfl,q,g,l⟩)
 intro A i;refine cQ (bK ?_);have ho:=c _ (sI i);refine bK ?_;exact xE (f _ _ ⟨(),b,ho,rfl,q,g⟩)
def NT(N:Nat)(p0:T6)(p1:Int):Te:=
 (OB N p0 p1).bind fun y1=>some (decide (y1>=0))
theorem qFv{p0:T6}{p1:Int}{r:Bool}(g:St m (O) w)(c:RepS (aT .i64) m a1 c1 p0)(i:NT N p0 p1=some r):Calls prog 140 #[vS a1 p0 c1,vI p1] w fun e w'=>∃m',e= .returned (vB r)/\m.le m'/\St m' (O) w':=by
 unfold NT at i;have q:=m.le_refl;refine bG func140 rfl ntmps140 ?_;refine aD 1 [] (aC ?_);refine aA 2 [(5,vS a1 p0 c1),(6,vI p1)] (aK 7 i (qGf g c) ?_);rintro y1 i _ d ⟨b,rfl,a,g⟩;refine aF 2 [(4,vB (decide (y1>=0)))] (aL ?_);obtain rfl:=sI i;exact aO [4] [vB (decide (y1>=0))] ⟨b,rfl,q.t a,g⟩
end
section
open Go Go.Dc Go.Proofs.Tryz
set_option maxHeartbeats 4000000
set_option maxRecDepth 100000
variable {N c1 c2 c3 bp0:Nat} {m:Mem} {O:List Piece} {w:World} {a1 a2 a3:Option Addr}
def qHw:Go.Shelf.Ren:=⟨fun|190=>155|125=>164|258=>163|128=>184|129=>185|302=>175|303=>176|304=>177|305=>178|306=>179|307=>180|308=>181|309=>182|310=>183|333=>195|329=>196|330=>197|334=>198|335=>199|336=>200|344=>207|n=>n,fun|31=>26|9=>9|3=>3|46=>173|0=>0|51=>192|53=>155|4=>4|183=>185|182=>184|131=>189|5=>5|218=>200|222=>204|228=>206|229=>207|n=>n,fun|n=>n⟩
theorem qLf:Go.Proofs.Lays.n190 prog qHw where
 mixed:=kr
 f125:=func164.trans (congrArg some kr)
 f128:=func184.trans (congrArg some kr)
 f129:=func185.trans (congrArg some kr)
 f190:=func155.trans (congrArg some kr)
 f258:=func163.trans (congrArg some kr)
 f302:=func175.trans (congrArg some kr)
 f303:=func176.trans (congrArg some kr)
 f304:=func177.trans (congrArg some kr)
 f305:=func178.trans (congrArg some kr)
 f306:=func179.trans (congrArg some kr)
 f307:=func180.trans (congrArg some kr)
 f308:=func181.trans (congrArg some kr)
 f309:=func182.trans (congrArg some kr)
 f310:=func183.trans (congrArg some kr)
 f329:=func196.trans (congrArg some kr)
 f330:=func197.trans (congrArg some kr)
 f333:=func195.trans (congrArg some kr)
 f334:=func198.trans (congrArg some kr)
 f335:=func199.trans (congrArg some kr)
 f336:=func200.trans (congrArg some kr)
 f344:=func207.trans (congrArg some kr)
 t0:=Tryz.underlying0
 a0:=Tryz.isAgg0
 z0:=Tryz.sizeOf0
 v0:=Tryz.zeroValue0
 t3:=Tryz.underlying3
 a3:=Tryz.isAgg3
 z3:=Tryz.sizeOf3
 v3:=Tryz.zeroValue3
 t4:=Tryz.underlying4
 a4:=Tryz.isAgg4
 z4:=Tryz.sizeOf4
 v4:=Tryz.zeroValue4
 t5:=Tryz.underlying5
 a5:=Tryz.isAgg5
 z5:=Tryz.sizeOf5
 v5:=Tryz.zeroValue5
 t9:=Tryz.underlying9
 a9:=Tryz.isAgg9
 z9:=Tryz.sizeOf9
 v9:=Tryz.zeroValue9
 t31:=Tryz.underlying26
 a31:=Tryz.isAgg26
 z31:=Tryz.sizeOf26
 v31:=Tryz.zeroValue26
 t46:=Tryz.underlying173
 a46:=Tryz.isAgg173
 z46:=Tryz.sizeOf173
 v46:=Tryz.zeroValue173
 t51:=Tryz.underlying192
 a51:=Tryz.isAgg192
 z51:=Tryz.sizeOf192
 v51:=Tryz.zeroValue192
 t53:=Tryz.underlying155
 a53:=Tryz.isAgg155
 z53:=Tryz.sizeOf155
 v53:=Tryz.zeroValue155
 t131:=Tryz.underlying189
 a131:=Tryz.isAgg189
 z131:=Tryz.sizeOf189
 v131:=Tryz.zeroValue189
 t182:=Tryz.underlying184
 a182:=Tryz.isAgg184
 z182:=Tryz.sizeOf184
 v182:=Tryz.zeroValue184
 t183:=Tryz.underlying185
 a183:=Tryz.isAgg185
 z183:=Tryz.sizeOf185
 v183:=Tryz.zeroValue185
 t218:=Tryz.underlying200
 a218:=Tryz.isAgg200
 z218:=Tryz.sizeOf200
 v218:=Tryz.zeroValue200
 t222:=Tryz.underlying204
 a222:=Tryz.isAgg204
 z222:=Tryz.sizeOf204
 v222:=Tryz.zeroValue204
 t228:=Tryz.underlying206
 a228:=Tryz.isAgg206
 z228:=Tryz.sizeOf206
 v228:=Tryz.zeroValue206
 t229:=Tryz.underlying207
 a229:=Tryz.isAgg207
 z229:=Tryz.sizeOf207
 v229:=Tryz.zeroValue207
def FI(_:Nat)(l:T9):Ta:=if l.length<4611686018427387904 then some (yH l) else none
theorem qFg{l r:T9}(h:FI N l=some r):r.length=l.length:=by
 unfold FI at h
 split at h
 .simp only[jM] at h;subst h;exact YY l
 cases h
theorem qFi{a:Option Addr}{nn cc:Nat}{T:List Value}{l r:T9}{e:TypeId}(g:St m (lY a (cB (fun x:BA=>([vT x]:List Value)) l T) e::O) w)(hs:OAS a nn cc 1 T)(hn:List.length l=nn)(h:FI N l=some r):
  Calls prog 155 #[.slice a nn cc] w fun e' w'=>e'= .returned (.tuple #[])/\St m (lY a (cB (fun x:BA=>([vT x]:List Value)) r T) e::O) w':=by
 unfold FI at h
 split at h
 .rename_i hlen
  simp only[jM] at h;subst h;subst hn;exact qKj qLf g hs hlen
 cases h
def OJ(N:Nat)(p0:Ty)(p1:T6)(a:JI):Option (JI⊕T9):=
 if(decide (a.2<(List.length p0.2.2.2:Int)))=true then(((idx p0.2.2.2 a.2).bind fun x1=>(NT N p1 x1.1).bind fun y1=>if y1=true then((cU 16 a.1 ([x1.2.2.2.1])).bind fun b=>some b) else(some a.1):Ta).bind fun b=>some (.inl (b,IntKind.wrap .i64 (a.2+1)))) else(some (.inr a.1))
def OF(N:Nat)(c:T9)(b:Int)(a:Int×BI):Option (Int×BI⊕BI):=
 if(decide (a.2.1<((Int.toNat (List.length c:Int)-Int.toNat b:Nat):Int)))=true then(((idx (List.drop (Int.toNat b) (List.take (Int.toNat (List.length c:Int)) a.2.2)) a.2.1).bind fun d=>(idx (List.drop (Int.toNat b) (List.take (Int.toNat (List.length c:Int)) a.2.2)) (IntKind.wrap .i64 (a.2.1-1))).bind fun x5=>if(!(d.toList==x5.toList))=true then((idx (List.drop (Int.toNat b) (List.take (Int.toNat (List.length c:Int)) a.2.2)) a.2.1).bind fun b=>(idx a.2.2 a.1).bind fun c=>some (IntKind.wrap .i64 (a.1+1),List.set a.2.2 (Int.toNat a.1) b)) else(some (a.1,a.2.2)):Option BI).bind fun b=>some (.inl (b.1,IntKind.wrap .i64 (a.2.1+1),b.2))) else(some (.inr (a.1,a.2.2)))
def OH(N:Nat)(o2:T9)(a:T9)(b:Int):Option (Int⊕Unit⊕T9):=
 if(decide (b<((List.length o2):Int)))=true then((idx a b).bind fun c=>(idx a (IntKind.wrap .i64 (b-1))).bind fun d=>if(c.toList==d.toList)=true then((BC a b (List.length a:Int)).bind fun c=>(aJ (OF N a b) N (b,1,a)).bind fun a=>(BC a.2 a.1 (List.length a.2:Int)).bind fun c=>(IS a.2 a.1 (⟨#[]⟩:BA)).bind fun c=>(BC c 0 a.1).bind fun d=>some (.inr (.inr (List.take (Int.toNat a.1) c)))) else(some (.inl (IntKind.wrap .i64 (b+1))))) else(some (.inr (.inl ())))
def KY(N:Nat)(p0:Ty)(p1:T6):Ta:=
 ((aJ (OJ N p0 p1) N (([]:T9),0)).bind fun o2=>(FI N o2).bind fun b=>(if(decide (((List.length o2):Int)<2))=true then(some b) else((aJ (OH N o2 b) N 1).bind fun a=>(match a with| .inl a=>some b| .inr (z)=>some z)):Ta).bind fun o4=>some o4:Ta).bind fun a=>some a
theorem UT{p0:Ty}{p1:T6}{r:T9}(g:St m (O) w)(F:RepS aH m a1 c1 p0.2.2.1)(E:RepS C3 m a2 c2 p0.2.2.2)(D:RepS (aT .i64) m a3 c3 p1)(i:KY N p0 p1=some r):Calls prog 105 #[.agg (V7 p0 a1 c1 a2 c2),vS a3 p1 c3] w fun e w'=>∃f0 f2 m',e= .returned (vS f0 r f2)/\m.le m'/\St m' (kR f0 r f2 9 1::O) w'/\RepS aH m' f0 f2 r:=by
 unfold KY at i;have q:=m.le_refl;refine bG func105 rfl ntmps105 ?_;refine aC (mJ 2 43 (.agg (V7 p0 a1 c1 a2 c2)) g fun b1 m1 w1 e1 g p=>(bA rfl (yA 3 22 1 (vS a3 p1 c3) g fun S w2 g=>(aF 1 [] (aC (aA 1 [(5,vP b1 3)] (cI 6 (vS a2 p0.2.2.2 c2) g (p.drop 3) (aA 1 [(7,.func (.func 139) #[] #[vP S 0])] ?_))))))));have⟨o1,i,j1⟩:=aZ i;refine bA rfl (eA 8 138 #[vS a2 p0.2.2.2 c2,.func (.func 139) #[] #[vP S 0]] kr rfl (LM (fun v' w'=>∃a4 c4 m3,v'=(vS a4 o1 c4)/\m.le m3/\St m3 (kB S #[vS a3 p1 c3] 22::kR a4 o1 c4 9 1::O) w'/\RepS aH m3 a4 c4 o1/\MRow m3 b1 0 (Va p0 a1 c1 a2 c2)/\RepS aH m3 a1 c1 p0.2.2.1/\RepS C3 m3 a2 c2 p0.2.2.2/\RepS (aT .i64) m3 a3 c3 p1) ?_ ?_))
 .have i:=j1;rintro _ b ⟨a4,c4,m3,rfl,q,g,a,p,F,E,D⟩;refine⟨_,rfl,?_⟩;refine aF 1 [(4,vS a4 o1 c4)] (aL ?_);obtain rfl:=sI i;exact aO [4] [vS a4 o1 c4] ⟨a4,c4,m3,rfl,q,g.t,a⟩
 refine bG func138 rfl ntmps138 ?_;refine aD 1 [] (aC ?_);refine aF 1 [(5,v1)] (aG (aD 3 [(10,vS a2 p0.2.2.2 c2),(11,vI (p0.2.2.2.length:Int)),(12,vI 0)] (bD ?_)));have g:=qPh (f:=(fun x:BA=>([vT x]:List Value))) (g.nilroom 9 1);refine cJ (.exit 0) i (fun d0 L' w'=>∃(o2:T9),∃a b T1 m4,o2=d0/\L'=[(5,vS a o2 b)]/\m.le m4/\St m4 (kB S #[vS a3 p1 c3] 22::lY a (cB (fun x:BA=>([vT x]:List Value)) o2 T1) 9::O) w'/\MRow m4 b1 0 (Va p0 a1 c1 a2 c2)/\RepS aH m4 a1 c1 p0.2.2.1/\RepS C3 m4 a2 c2 p0.2.2.2/\RepS (aT .i64) m4 a3 c3 p1/\OAS a o2.length b 1 T1) ?_ ?_
 .rintro d0 i _ w4 ⟨o2,a,b,T1,m4,rfl,rfl,q,g,p,F,E,D,B⟩;refine dW (aE (aS 1 [(28,vS a o2 b)] ?_));have⟨H,d4,i⟩:=aZ i;have g:=g.f1;refine bA rfl (eA 29 155 #[vS a o2 b] kr rfl ((qFi g B rfl d4).mono ?_));rintro _ g8 ⟨rfl,g⟩;refine⟨_,rfl,?_⟩;have G:=((qFg d4).trans rfl);refine aN (aC (aA 1 [(30,vS a o2 b)] ?_));have⟨o4,i,j4⟩:=aZ i;refine bA rfl (eA 31 156 #[vS a o2 b] kr rfl (LM (fun v' w'=>∃Z b0 V,v'=(vS Z o4 b0)/\m.le V/\St V (kB S #[vS a3 p1 c3] 22::kR Z o4 b0 9 1::O) w'/\RepS aH V Z b0 o4/\MRow V b1 0 (Va p0 a1 c1 a2 c2)/\RepS aH V a1 c1 p0.2.2.1/\RepS C3 V a2 c2 p0.2.2.2/\RepS (aT .i64) V a3 c3 p1) ?_ ?_))
  .have i:=j4;rintro _ s ⟨Z,b0,V,rfl,q,g,n,p,F,E,D⟩;refine⟨_,rfl,?_⟩;refine aF 1 [(4,vS Z o4 b0)] (aL ?_);obtain rfl:=sI i;exact aO [4] [vS Z o4 b0] ⟨_,rfl,⟨Z,b0,V,rfl,q,g.f1.f1,n,p,F,E,D⟩⟩
  refine bG func156 rfl ntmps156 ?_;refine aD 1 [] (aG ?_);refine aD 3 [(8,vB (decide ((o2.length:Int)<2)))] (aI i ?_ ?_)
  .intro A i;refine aD 2 [(2,vS a o2 b)] (aL ?_);refine aQ ?_;obtain rfl:=sI i;obtain⟨s,n,g,K⟩:=St.freezeM (c:=aH) (f:=(fun x:BA=>([vT x]:List Value))) g B G (fun _=>rfl) (fun _ x=>rfl);refine vA [(2,vS a H b)] (by(try simp only[vS,G]);kernel_rfl) ?_;exact aO [2] [vS a H b] ⟨_,rfl,⟨a,b,s,rfl,q.t n,g.f1,K,p.mono n,F.mono n,E.mono n,D.mono n⟩⟩
  intro A i;refine aM (aE (aG (aD 1 [(3,vI 1)] (bD ?_))));have⟨e6,i,j5⟩:=aZ i;refine cZ (.exit 0) (fun L' w'=>∃(o5:Unit),∃b7,(.inl o5)=e6/\L'=[(0,vS a o2 b)]/\m.le b7/\St b7 (kB S #[vS a3 p1 c3] 22::lY a (cB (fun x:BA=>([vT x]:List Value)) H T1) 9::O) w'/\MRow b7 b1 0 (Va p0 a1 c1 a2 c2)/\RepS aH b7 a1 c1 p0.2.2.1/\RepS C3 b7 a2 c2 p0.2.2.2/\RepS (aT .i64) b7 a3 c3 p1/\List.length H=o2.length) ?_ ?_
  .rintro _ M ⟨o5,b7,rfl,rfl,q,g,p,F,E,D,G⟩;have i:=j5;refine dW (aE (aD 2 [(2,vS a o2 b)] (aL ?_)));obtain rfl:=sI i;have g:=g.f1;obtain⟨s,n,g,K⟩:=St.freezeM (c:=aH) (f:=(fun x:BA=>([vT x]:List Value))) g B G (fun _=>rfl) (fun _ x=>rfl);refine vA [(2,vS a H b)] (by(try simp only[vS,G]);kernel_rfl) ?_;exact aO [2] [vS a H b] ⟨_,rfl,⟨a,b,s,rfl,q.t n,g.f1,K,p.mono n,F.mono n,E.mono n,D.mono n⟩⟩
  intro f4;refine cX _ kr (cW (fun k2 L' w'=>∃(n:Int),∃M,aJ (OH N o2 H) k2 n=some e6/\L'=[(0,vS a o2 b),(3,vI n)]/\m.le M/\St M (kB S #[vS a3 p1 c3] 22::lY a (cB (fun x:BA=>([vT x]:List Value)) H T1) 9::O) w'/\MRow M b1 0 (Va p0 a1 c1 a2 c2)/\RepS aH M a1 c1 p0.2.2.1/\RepS C3 M a2 c2 p0.2.2.2/\RepS (aT .i64) M a3 c3 p1/\List.length H=o2.length) N ⟨1,m4,i,rfl,q,g.f1,p,F,E,D,G⟩ ?_);rintro k2 _ g9 ⟨n,M,hL,rfl,q,g,p,F,E,D,G⟩;rcases k2 with _|k2
  .exact dV hL
  obtain⟨g6,i,g1,d2⟩:=dX hL;clear hL;unfold OH at i;refine aG (aD 4 [(13,vB (decide (n<(o2.length:Int))))] (aI i ?_ ?_))
  .intro A i;refine aM (aE (aG (bD (aG (iF [(10,fun w'=>Inv M w'/\Piece.holds M w' (lY a (cB (fun x:BA=>([vT x]:List Value)) H T1) 9)/\True)] kr g fun h0 _ g=> ?_)))));have e0:=M.le_refl;refine⟨⟨.inr ⟨Inv.anti g.inv e0,qAe g.t.h e0,trivial⟩,trivial⟩,?_⟩;refine aR 0 16 (vS a o2 b) (.head _) (aR 1 17 (vI n) (.head _) ?_);have⟨x2,d5,i⟩:=aZ i;refine VS (t:=26) (e:=9) (x:=(.tmp 16)) (y:=(.tmp 17)) (k:=1) 2 18 kr rfl kr (.head _) (bY (eV (bY (bY (eV (bY mN)))))) (ev (vS a o2 b)) (ev (vI n)) kr B G d5 ?_;refine LB (t:=9) (x:=(.tmp 18)) (o:=0) (f:=(fun x:BA=>([vT x]:List Value))) (z:=x2) (v:=vT x2) 3 19 (fun _=>rfl) (Int.toNat n*1) rfl kr rfl kr (.head _) (bY (eV (bY (bY (eV (bY mN)))))) (fun _ h=>h.2.1) (ev (.pointer (some ⟨ab a,Int.toNat n*1,none⟩))) B G d5 kr ?_;refine aR 4 20 (vS a o2 b) (.head _) (aR 5 21 (vI n) (.head _) (aR 6 22 (vI (wr (n-1))) (.head _) ?_));have⟨x3,d6,i⟩:=aZ i;refine VS (t:=26) (e:=9) (x:=(.tmp 20)) (y:=(.tmp 22)) (k:=1) 7 23 kr rfl kr (.head _) (bY (eV (bY (bY (eV (bY mN)))))) (ev (vS a o2 b)) (ev (vI (wr (n-1)))) kr B G d6 ?_
   refine LB (t:=9) (x:=(.tmp 23)) (o:=0) (f:=(fun x:BA=>([vT x]:List Value))) (z:=x3) (v:=vT x3) 8 24 (fun _=>rfl) (Int.toNat (wr (n-1))*1) rfl kr rfl kr (.head _) (bY (eV (bY (bY (eV (bY mN)))))) (fun _ h=>h.2.1) (ev (.pointer (some ⟨ab a,Int.toNat (wr (n-1))*1,none⟩))) B G d6 kr ?_;refine aR 9 25 (vB (x2.toList==x3.toList)) (.head _) (eW kr (aE (aI i ?_ ?_)))
   .intro A i;refine aS 2 [(26,vS a o2 b),(27,vI n)] ?_;have⟨u6,d7,i⟩:=aZ i;refine bA rfl (PW (d:=28) (t:=26) (e:=9) (k:=1) (x:=(.tmp 26)) (lo:=(some (.tmp 27))) (hi:=none) (li:=n) (hix:=(H.length:Int)) kr rfl (ev (vS a o2 b)) kr (.inr ⟨_,_,rfl,(ev (vI n))⟩) (.inl ⟨rfl,congrArg Nat.cast G⟩) B G d7 ?_);have b9:=TP d7 G;refine aF 1 [(4,.slice (mT a b (Int.toNat n) 1) (Int.toNat (H.length:Int)-Int.toNat n) (b-Int.toNat n))] (aG (aD 1 [(5,vI 1)] (bD (cJ (.exit 2) i (fun d1 L' w'=>∃(K:BI),∃b8,K=d1/\L'=[(0,vS a o2 b),(3,vI K.1)]/\m.le b8/\St b8 (kB S #[vS a3 p1 c3] 22::lY a (cB (fun x:BA=>([vT x]:List Value)) K.2 T1) 9::O) w'/\MRow b8 b1 0 (Va p0 a1 c1 a2 c2)/\RepS aH b8 a1 c1 p0.2.2.1/\RepS C3 b8 a2 c2 p0.2.2.2/\RepS (aT .i64) b8 a3 c3 p1/\List.length K.2=o2.length) ?_ ?_))))
    .rintro d1 i _ g3 ⟨K,b8,rfl,rfl,q,g,p,F,E,D,s⟩;refine dW (aE (aS 2 [(54,vS a o2 b),(55,vI K.1)] ?_));have⟨u9,Y,i⟩:=aZ i;refine bA rfl (PW (d:=56) (t:=26) (e:=9) (k:=1) (x:=(.tmp 54)) (lo:=(some (.tmp 55))) (hi:=none) (li:=K.1) (hix:=(K.2.length:Int)) kr rfl (ev (vS a o2 b)) kr (.inr ⟨_,_,rfl,(ev (vI K.1))⟩) (.inl ⟨rfl,congrArg Nat.cast s⟩) B s Y ?_);have g0:=TP Y s;have g:=g.f1;have⟨l2,e2,i⟩:=aZ i;refine bA rfl (qKq (t:=26) (e:=9) (k:=1) (x:=(.tmp 56)) (f:=(fun x:BA=>([vT x]:List Value))) (l:=K.2) (lo:=K.1) (z:=vT eB) (z0:=eB) (fun _=>rfl) (fun _ _ hv=>by simp only[jT,gB,dE] at hv;rcases hv with rfl<;>rfl) kr (ev (.slice (mT a b (Int.toNat K.1) 1) (Int.toNat (K.2.length:Int)-Int.toNat K.1) (b-Int.toNat K.1))) rfl kr kr rfl g B s e2 fun g4 g=> ?_);have R:=((qLm e2).trans s);refine aN (aC (aA 2 [(57,vS a o2 b),(58,vI K.1)] ?_));have⟨g2,f5,i⟩:=aZ i;refine bA rfl (PW (d:=59) (t:=26) (e:=9) (k:=1) (x:=(.tmp 57)) (lo:=none) (hi:=(some (.tmp 58))) (li:=0) (hix:=K.1) kr rfl (ev (vS a o2 b)) kr (.inl ⟨rfl,rfl⟩) (.inr ⟨_,_,rfl,(ev (vI K.1))⟩) B R f5 ?_);have f6:=TP f5 R;refine aF 1 [(2,.slice (mT a b (Int.toNat 0) 1) (Int.toNat K.1-Int.toNat 0) (b-Int.toNat 0))] (aL (bH (aQ ?_)));have ho:=d2 _ (sI i);subst ho
     have i:=j5;refine aQ (bH (aQ ?_));obtain rfl:=sI i;have f7:=qUt (k:=1) (l:=l2) B R f6;obtain⟨f8,U,g,f9⟩:=St.freezeView (c:=aH) (f:=(fun x:BA=>([vT x]:List Value))) (hi:=K.1) g B R (fun _=>rfl) (fun _ x=>rfl) f6;refine vA [(2,.slice a (List.length (List.take (Int.toNat K.1) l2)) b)] (by(try simp only[vS,f7]);kernel_rfl) ?_;exact aO [2] [.slice a (List.length (List.take (Int.toNat K.1) l2)) b] ⟨_,rfl,⟨a,b,f8,rfl,q.t U,g.f1,f9,p.mono U,F.mono U,E.mono U,D.mono U⟩⟩
    intro d1 i f5;refine cX _ kr (cW (fun k3 L' w'=>∃(s:Int×BI),∃R,aJ (OF N H n) k3 s=some d1/\L'=[(0,vS a o2 b),(3,vI s.1),(4,.slice (mT a b (Int.toNat n) 1) (Int.toNat (H.length:Int)-Int.toNat n) (b-Int.toNat n)),(5,vI s.2.1)]/\m.le R/\St R (kB S #[vS a3 p1 c3] 22::lY a (cB (fun x:BA=>([vT x]:List Value)) s.2.2 T1) 9::O) w'/\MRow R b1 0 (Va p0 a1 c1 a2 c2)/\RepS aH R a1 c1 p0.2.2.1/\RepS C3 R a2 c2 p0.2.2.2/\RepS (aT .i64) R a3 c3 p1/\List.length s.2.2=o2.length) N ⟨(n,1,H),M,i,rfl,q,g.f1.f1,p,F,E,D,G⟩ ?_);rintro k3 _ h1 ⟨s,R,hL,rfl,q,g,p,F,E,D,U⟩;rcases k3 with _|k3
    .exact dV hL
    obtain⟨g7,i,g2,g0⟩:=dX hL;clear hL;unfold OF at i;refine aG (aD 4 [(32,vB (decide (s.2.1<((Int.toNat (H.length:Int)-Int.toNat n:Nat):Int))))] (aI i ?_ ?_))
    .intro A i;refine aM (aE (aG (cJ .normal i (fun o7 L' w'=>∃Y,L'=[(0,vS a o2 b),(3,vI o7.1),(4,.slice (mT a b (Int.toNat n) 1) (Int.toNat (H.length:Int)-Int.toNat n) (b-Int.toNat n)),(5,vI s.2.1)]/\m.le Y/\St Y (kB S #[vS a3 p1 c3] 22::lY a (cB (fun x:BA=>([vT x]:List Value)) o7.2 T1) 9::O) w'/\MRow Y b1 0 (Va p0 a1 c1 a2 c2)/\RepS aH Y a1 c1 p0.2.2.1/\RepS C3 Y a2 c2 p0.2.2.2/\RepS (aT .i64) Y a3 c3 p1/\List.length o7.2=o2.length) ?_ ?_)))
     .rintro o7 i _ f6 ⟨Y,rfl,q,g,p,F,E,D,e2⟩;refine aE (bC (aA 3 [(5,vI (wr (s.2.1+1)))] (aU rfl ?_)));have hL:=g2 _ (sI i);exact xE (cT ⟨(o7.1,wr (s.2.1+1),o7.2),Y,hL,rfl,q,g.f1.f1,p,F,E,D,e2⟩)
     intro o7 i f6;refine bD (aG (iF [(10,fun w'=>Inv R w'/\Piece.holds R w' (lY a (cB (fun x:BA=>([vT x]:List Value)) s.2.2 T1) 9)/\True)] kr g fun h2 _ g=> ?_));have e2:=R.le_refl;refine⟨⟨.inr ⟨Inv.anti g.inv e2,qAe g.t.h e2,trivial⟩,trivial⟩,?_⟩;refine aR 0 35 (.slice (mT a b (Int.toNat n) 1) (Int.toNat (H.length:Int)-Int.toNat n) (b-Int.toNat n)) (.head _) (aR 1 36 (vI s.2.1) (.head _) ?_);have⟨x4,d8,i⟩:=aZ i;refine VJ (t:=26) (e:=9) (k:=1) (x:=(.tmp 35)) (y:=(.tmp 36)) (lo:=n) (hi:=(H.length:Int)) (ix:=s.2.1) 2 37 kr rfl kr (.head _) (bY (eV (bY (bY (eV (bY (eV (bY (bY (eV (bY mN))))))))))) (ev (.slice (mT a b (Int.toNat n) 1) (Int.toNat (H.length:Int)-Int.toNat n) (b-Int.toNat n))) (ev (vI s.2.1)) kr B U b9 d8 ?_;have d9:=(LR b9.1 d8).1;refine LB (t:=9) (x:=(.tmp 37)) (o:=0) (f:=(fun x:BA=>([vT x]:List Value))) (z:=x4) (v:=vT x4) 3 38 (fun _=>rfl) (Int.toNat (n+s.2.1)*1) rfl kr rfl kr (.head _) (bY (eV (bY (bY (eV (bY (eV (bY (bY (eV (bY mN))))))))))) (fun _ h=>h.2.1) (ev (.pointer (some ⟨ab a,Int.toNat (n+s.2.1)*1,none⟩))) B U d9 kr ?_
     refine aR 4 39 (.slice (mT a b (Int.toNat n) 1) (Int.toNat (H.length:Int)-Int.toNat n) (b-Int.toNat n)) (.head _) (aR 5 40 (vI s.2.1) (.head _) (aR 6 41 (vI (wr (s.2.1-1))) (.head _) ?_));have⟨x5,f7,i⟩:=aZ i;refine VJ (t:=26) (e:=9) (k:=1) (x:=(.tmp 39)) (y:=(.tmp 41)) (lo:=n) (hi:=(H.length:Int)) (ix:=wr (s.2.1-1)) 7 42 kr rfl kr (.head _) (bY (eV (bY (bY (eV (bY (eV (bY (bY (eV (bY mN))))))))))) (ev (.slice (mT a b (Int.toNat n) 1) (Int.toNat (H.length:Int)-Int.toNat n) (b-Int.toNat n))) (ev (vI (wr (s.2.1-1)))) kr B U b9 f7 ?_;have g3:=(LR b9.1 f7).1;refine LB (t:=9) (x:=(.tmp 42)) (o:=0) (f:=(fun x:BA=>([vT x]:List Value))) (z:=x5) (v:=vT x5) 8 43 (fun _=>rfl) (Int.toNat (n+(wr (s.2.1-1)))*1) rfl kr rfl kr (.head _) (bY (eV (bY (bY (eV (bY (eV (bY (bY (eV (bY mN))))))))))) (fun _ h=>h.2.1) (ev (.pointer (some ⟨ab a,Int.toNat (n+(wr (s.2.1-1)))*1,none⟩))) B U g3 kr ?_;refine aR 9 44 (vB (!(x4.toList==x5.toList))) (.head _) (eW kr (aE (aI i ?_ ?_)))
     .intro A i;refine aS 4 [(45,vS a o2 b),(46,vI s.1),(47,.slice (mT a b (Int.toNat n) 1) (Int.toNat (H.length:Int)-Int.toNat n) (b-Int.toNat n)),(48,vI s.2.1)] ?_;have⟨x6,f8,i⟩:=aZ i;refine bA rfl (qId (d:=49) (t:=26) (e:=9) (k:=1) (x:=(.tmp 47)) (y:=(.tmp 48)) (lo:=n) (hi:=(H.length:Int)) (ix:=s.2.1) kr rfl (ev (.slice (mT a b (Int.toNat n) 1) (Int.toNat (H.length:Int)-Int.toNat n) (b-Int.toNat n))) (ev (vI s.2.1)) kr B U b9 f8 ?_);have g4:=(LR b9.1 f8).1;refine bA rfl (qIz (d:=50) (t:=9) (x:=(.tmp 49)) (o:=0) (f:=(fun x:BA=>([vT x]:List Value))) (z:=x6) (v:=vT x6) (fun _=>rfl) (Int.toNat (n+s.2.1)*1) rfl kr rfl (ev (.pointer (some ⟨ab a,Int.toNat (n+s.2.1)*1,none⟩))) g.t.h B U g4 kr ?_);have⟨x7,f9,i⟩:=aZ i;refine bA rfl (qIf (d:=51) (t:=26) (e:=9) (x:=(.tmp 45)) (y:=(.tmp 46)) (k:=1) kr rfl (ev (vS a o2 b)) (ev (vI s.1)) kr B U f9 (bA rfl (qIm (t:=9) (x:=(.tmp 51)) (y:=(.tmp 50)) (o:=0) (f:=(fun x:BA=>([vT x]:List Value))) (z:=x7) (u:=x6) (v:=vT x6) (fun _=>rfl) (Int.toNat s.1*1) rfl kr (ev (.pointer (some ⟨ab a,Int.toNat s.1*1,none⟩))) (ev (vT x6)) g.f1 B U f9 kr rfl fun h3 g=> ?_)));have g5:List.length (List.set s.2.2 (Int.toNat s.1) x6)=o2.length:=xV U _ _;refine aN (bC (aA 3 [(3,vI (wr (s.1+1)))] (aU rfl (bQ ?_))))
      cases i;exact xE (f6 _ _ ⟨R,rfl,q,g.f1,p,F,E,D,g5⟩)
     intro A i;refine aM (bQ ?_);cases i;exact xE (f6 _ _ ⟨R,rfl,q,g.f1.f1,p,F,E,D,U⟩)
    intro A i;refine cQ (bK ?_);have ho:=g0 _ (sI i);have g:=g.f1.f1;refine bK ?_;exact xE (f5 _ _ ⟨(s.1,s.2.2),R,ho,rfl,q,g,p,F,E,D,U⟩)
   intro A i;refine aM (bQ (aE (bC (aA 3 [(3,vI (wr (n+1)))] (aU rfl ?_)))));have hL:=g1 _ (sI i);exact xE (cT ⟨wr (n+1),M,hL,rfl,q,g.f1.f1,p,F,E,D,G⟩)
  intro A i;refine cQ (bK ?_);have ho:=d2 _ (sI i);have g:=g.f1.f1;refine bK ?_;exact xE (f4 _ _ ⟨(),M,ho,rfl,q,g,p,F,E,D,G⟩)
 intro d0 i b7;refine cX _ kr (cW (fun k1 L' w'=>∃(n:JI),∃H R T2 K,aJ (OJ N p0 p1) k1 n=some d0/\L'=[(1,.func (.func 139) #[] #[vP S 0]),(5,vS H n.1 R),(10,vS a2 p0.2.2.2 c2),(11,vI (p0.2.2.2.length:Int)),(12,vI n.2)]/\m.le K/\St K (kB S #[vS a3 p1 c3] 22::lY H (cB (fun x:BA=>([vT x]:List Value)) n.1 T2) 9::O) w'/\RepS C3 K a2 c2 p0.2.2.2/\MRow K b1 0 (Va p0 a1 c1 a2 c2)/\RepS aH K a1 c1 p0.2.2.1/\RepS (aT .i64) K a3 c3 p1/\OAS H n.1.length R 1 T2) N ⟨(([]:T9),0),none,0,[],m1,i,rfl,q.t e1,g.f1,E.mono e1,p,F.mono e1,D.mono e1,(OAS.nil 1)⟩ ?_);rintro k1 _ w5 ⟨n,H,R,T2,K,hL,rfl,q,g,E,p,F,D,b0⟩;rcases k1 with _|k1
 .exact dV hL
 obtain⟨f4,i,d2,d1⟩:=dX hL;clear hL;unfold OJ at i;refine aD 1 [(13,vB (decide (n.2<(p0.2.2.2.length:Int))))] (aG ?_);refine aI i ?_ ?_
 .intro A i;refine aM (aE (aG (cJ .normal i (fun U L' w'=>∃V c7 T3 M,L'=[(1,.func (.func 139) #[] #[vP S 0]),(5,vS V U c7),(10,vS a2 p0.2.2.2 c2),(11,vI (p0.2.2.2.length:Int)),(12,vI n.2)]/\m.le M/\St M (kB S #[vS a3 p1 c3] 22::lY V (cB (fun x:BA=>([vT x]:List Value)) U T3) 9::O) w'/\RepS C3 M a2 c2 p0.2.2.2/\MRow M b1 0 (Va p0 a1 c1 a2 c2)/\RepS aH M a1 c1 p0.2.2.1/\RepS (aT .i64) M a3 c3 p1/\OAS V U.length c7 1 T3) ?_ ?_)))
  .rintro U i _ B ⟨V,c7,T3,M,rfl,q,g,E,p,F,D,s⟩;refine aE (bC (aA 2 [(12,vI (wr (n.2+1)))] (aU rfl ?_)));have hL:=d2 _ (sI i);exact xE (cT ⟨(U,wr (n.2+1)),V,c7,T3,M,hL,rfl,q,g.f1.f1,E,p,F,D,s⟩)
  intro U i b8;refine bD (aC (iK 14 E i ?_));rintro x1 i b3 f1 e6 ⟨_,_,rfl,rfl,⟨_,_,rfl,rfl,⟨_,_,rfl,rfl,⟨_,_,rfl,rfl,⟨Y,Z,rfl,r5⟩⟩⟩⟩⟩ e0;refine iO 15 61 14 f1 (.agg (V8 x1 Y Z)) g e0 (eQ 7 61 (.agg #[vI 0,vI 0,vI 0,vT eB,v7]) g fun b4 w7 g=>(cG (.agg (V8 x1 Y Z)) g fun w8 g=>(aN (aC (aA 1 [(17,.func (.func 139) #[] #[vP S 0])] (bF 18 (.agg (V8 x1 Y Z)) g.h (bA rfl (eA 19 139 #[.agg (V8 x1 Y Z),vP S 0] kr rfl (bG func139 rfl ntmps139 (aC (mJ 2 61 (.agg (V8 x1 Y Z)) g fun b5 m7 w9 G g b9=> ?_)))))))))));have D:=D.mono G;refine aF 2 [] (aG (iF [(8,fun w'=>Inv m7 w'/\Piece.holds m7 w' (kB S #[vS a3 p1 c3] 22)/\True)] kr g fun f5 _ g=> ?_));have s:=m7.le_refl;refine⟨⟨.inr ⟨Inv.anti g.inv s,Piece.holds_anti g.t.h s,trivial⟩,trivial⟩,?_⟩;refine aR 0 5 (vP b5 3) (.head _) (lU 9 5 1 6 3 (vT x1.2.2.2.1) (.head _) (fun _ h=>h.1) (b9.drop 3) (eR 22 1 2 7 0 (vS a3 p1 c3) (.head _) (fun _ h=>h.2.1) (aR 3 8 (vP b5 0) (.head _) (lU 3 8 4 9 0 (vI x1.1) (.head _) (fun _ h=>h.1) b9 (cH 5 kr (mW 10 i (fun _ h=>qFv g D h) ?_))))));rintro y1 i _ f6 ⟨m8,rfl,B,g⟩;refine⟨_,rfl,?_⟩;have s:=Mem.le_trans s B;refine⟨⟨.inr ⟨Inv.anti g.inv s,Piece.holds_anti g.t.h s,trivial⟩,trivial⟩,?_⟩
  refine aR 6 3 (vT x1.2.2.2.1) (.head _) (aR 7 4 (vB y1) (.head _) (eW kr (aE (aL (aO [3,4] [vT x1.2.2.2.1,vB y1] (⟨_,rfl,?_⟩))))));refine aF 5 [(8,vT x1.2.2.2.1),(9,vB y1)] (aC (aF 1 [(22,vB y1)] (aI i ?_ ?_)))
  .intro A i;refine bC (aA 2 [(23,vS H n.1 R),(24,vT x1.2.2.2.1)] (iN 25 9 1 aH [x1.2.2.2.1] g fun b6 m9 f7 e5 g r6=> ?_));have g:=g.f3;have⟨l1,d3,i⟩:=aZ i;refine bA rfl (qJs (d:=26) (t:=26) (u:=26) (e:=9) (by_:=16) (x:=(.tmp 23)) (y:=(.tmp 25)) (c:=aH) (f:=(fun x:BA=>([vT x]:List Value))) (l:=n.1) (fun _ _ _ h=>by obtain rfl:=h;rfl) (fun _=>rfl) kr rfl (ev (vS H n.1 R)) (ev (vS (aP b6) ([x1.2.2.2.1]) 1)) g b0 rfl kr (.inl kr) r6.src d3 fun a9 c9 T4 f8 e2 g=>(aA 1 [(5,vS a9 l1 c9)] (aU rfl ?_)));have g:=g.f1.t;refine bQ ?_;cases i;exact xE (b8 _ _ ⟨a9,c9,T4,m9,rfl,((q.t G).t B).t e5,g.f1.t.f1,((E.mono G).mono B).mono e5,((p.mono G).mono B).mono e5,((F.mono G).mono B).mono e5,(D.mono B).mono e5,e2⟩)
  intro A i;refine aM (bQ ?_);cases i;exact xE (b8 _ _ ⟨H,R,T2,m8,rfl,(q.t G).t B,g.t.f1.f1,(E.mono G).mono B,(p.mono G).mono B,(F.mono G).mono B,D.mono B,b0⟩)
 intro A i;refine cQ (bK ?_);have ho:=d1 _ (sI i);have g:=g.f1.f1;refine bK ?_;exact xE (b7 _ _ ⟨n.1,H,R,T2,K,ho,rfl,q,g,p,F,E,D,b0⟩)
def KT(N:Nat)(p0:Ty):Ta:=
 (KY N p0 ([(3:Int)])).bind fun y1=>some y1
theorem qHj{p0:Ty}{r:T9}(g:St m (O) w)(o:RepS aH m a1 c1 p0.2.2.1)(p:RepS C3 m a2 c2 p0.2.2.2)(i:KT N p0=some r):Calls prog 65 #[.agg (V7 p0 a1 c1 a2 c2)] w fun e w'=>∃a b m',e= .returned (vS a r b)/\m.le m'/\St m' (kR a r b 9 1::O) w'/\RepS aH m' a b r:=by
 unfold KT at i;have q:=m.le_refl;refine bG func65 rfl ntmps65 ?_;refine aC (mJ 1 43 (.agg (V7 p0 a1 c1 a2 c2)) g fun v y A f g k=>(aF 1 [] (aC (cI 3 (.agg (V7 p0 a1 c1 a2 c2)) g k (iN 4 3 1 (aT .i64) [(3:Int)] g fun x z B h g s=>(aK 5 i (UT (p0:=p0) g ((o.mono f).mono h) ((p.mono f).mono h) s) ?_))))));rintro y1 i _ D ⟨c,d,n,rfl,l,g,u⟩;refine aA 1 [(2,vS c y1 d)] (aU rfl ?_);have g:=g.f1.t;refine aE (aL ?_);obtain rfl:=sI i;exact aO [2] [vS c y1 d] ⟨c,d,n,rfl,((q.t f).t h).t l,g,u⟩
def KU(N:Nat)(p0:Ty):Ta:=
 (KY N p0 ([(6:Int),7,8])).bind fun y1=>some y1
theorem qHk{p0:Ty}{r:T9}(g:St m (O) w)(o:RepS aH m a1 c1 p0.2.2.1)(p:RepS C3 m a2 c2 p0.2.2.2)(i:KU N p0=some r):Calls prog 66 #[.agg (V7 p0 a1 c1 a2 c2)] w fun e w'=>∃a b m',e= .returned (vS a r b)/\m.le m'/\St m' (kR a r b 9 1::O) w'/\RepS aH m' a b r:=by
 unfold KU at i;have q:=m.le_refl;refine bG func66 rfl ntmps66 ?_;refine aC (mJ 1 43 (.agg (V7 p0 a1 c1 a2 c2)) g fun v y A f g k=>(aF 1 [] (aC (cI 3 (.agg (V7 p0 a1 c1 a2 c2)) g k (iN 4 3 3 (aT .i64) [(6:Int),7,8] g fun x z B h g s=>(aK 5 i (UT (p0:=p0) g ((o.mono f).mono h) ((p.mono f).mono h) s) ?_))))));rintro y1 i _ D ⟨c,d,n,rfl,l,g,u⟩;refine aA 1 [(2,vS c y1 d)] (aU rfl ?_);have g:=g.f1.t;refine aE (aL ?_);obtain rfl:=sI i;exact aO [2] [vS c y1 d] ⟨c,d,n,rfl,((q.t f).t h).t l,g,u⟩
def OK(N:Nat)(p0:Tq):Te:=
 some (p0.1==10)
theorem qHc{p0:Tq}{r:Bool}(g:St m (O) w)(f:RepS (aT .i64) m a1 c1 p0.2.2.2.2)(i:OK N p0=some r):Calls prog 107 #[.agg (V8 p0 a1 c1)] w fun e w'=>∃m',e= .returned (vB r)/\m.le m'/\St m' (O) w':=by
 unfold OK at i;have q:=m.le_refl;refine bG func107 rfl ntmps107 ?_;refine aC (mJ 1 61 (.agg (V8 p0 a1 c1)) g fun b d h c g a=>(aF 1 [] (aC (aA 1 [(3,vP b 0)] (cI 4 (vI p0.1) g a (aF 2 [(2,vB (p0.1==10))] (aL ?_)))))));cases i;exact aO [2] [vB (p0.1==10)] ⟨d,rfl,q.t c,g⟩
def OI(N:Nat)(p0:Ty)(a:Int):Option (Int⊕Unit⊕Int):=
 if(decide (a<(List.length p0.2.2.2:Int)))=true then((idx p0.2.2.2 a).bind fun x1=>(OK N x1).bind fun y1=>if y1=true then(some (.inr (.inr (a)))) else(some (.inl (IntKind.wrap .i64 (a+1))))) else(some (.inr (.inl ())))
def KW(N:Nat)(p0:Ty):Te:=
 ((aJ (OI N p0) N 0).bind fun a=>(match a with| .inl o2=>some (-1)| .inr (z)=>some z):T5).bind fun a=>some (decide (a>=0))
theorem qHe{p0:Ty}{r:Bool}(g:St m (O) w)(f:RepS aH m a1 c1 p0.2.2.1)(c:RepS C3 m a2 c2 p0.2.2.2)(i:KW N p0=some r):Calls prog 67 #[.agg (V7 p0 a1 c1 a2 c2)] w fun e w'=>∃m',e= .returned (vB r)/\m.le m'/\St m' (O) w':=by
 unfold KW at i;have q:=m.le_refl;refine bG func67 rfl ntmps67 ?_;refine aC (mJ 1 43 (.agg (V7 p0 a1 c1 a2 c2)) g fun u K V x g a=>(aF 1 [] (aC (aA 1 [(3,vP u 3)] (cI 4 (vS a2 p0.2.2.2 c2) g (a.drop 3) (bA rfl (eA 5 106 #[vS a2 p0.2.2.2 c2,.func (.func 107) #[] #[]] kr rfl (bG func106 rfl ntmps106 (aD 1 [] (aC (aA 2 [(5,vS a2 p0.2.2.2 c2),(6,.func (.func 107) #[] #[])] ?_)))))))))));have⟨o,i,H⟩:=aZ i;refine bA rfl (eA 7 141 #[vS a2 p0.2.2.2 c2,.func (.func 107) #[] #[]] kr rfl (LM (fun v' w'=>∃k,v'=(vI o)/\m.le k/\St k (O) w'/\MRow k u 0 (Va p0 a1 c1 a2 c2)/\P2 k a1 c1 a2 c2 p0.2.2) ?_ ?_))
 .have i:=H;rintro _ b ⟨k,rfl,q,g,a,f,c⟩;refine⟨_,rfl,?_⟩;refine aF 2 [(4,vB (decide (o>=0)))] (aL (aO [4] [vB (decide (o>=0))] (⟨_,rfl,?_⟩)));refine aF 1 [(2,vB (decide (o>=0)))] (aL ?_);obtain rfl:=sI i;exact aO [2] [vB (decide (o>=0))] ⟨k,rfl,q,g⟩
 refine bG func141 rfl ntmps141 ?_;refine aD 1 [] (aG ?_);refine aD 3 [(7,vI (p0.2.2.2.length:Int)),(8,vI 0)] (bD ?_);have⟨p,i,B⟩:=aZ i;refine cZ (.exit 0) (fun L' w'=>∃(o2:Unit),∃l,(.inl o2)=p/\L'=[]/\m.le l/\St l (O) w'/\MRow l u 0 (Va p0 a1 c1 a2 c2)/\P2 l a1 c1 a2 c2 p0.2.2) ?_ ?_
 .rintro _ b ⟨o2,l,rfl,rfl,q,g,a,f,c⟩;have i:=B;refine dW (aE (aD 1 [(4,vI (-1))] (aL ?_)));cases i;exact aO [4] [vI (-1)] ⟨_,rfl,⟨l,rfl,q,g,a,f,c⟩⟩
 intro s;refine cX _ kr (cW (fun v L' w'=>∃(b:Int),∃h,aJ (OI N p0) v b=some p/\L'=[(0,vS a2 p0.2.2.2 c2),(1,.func (.func 107) #[] #[]),(7,vI (p0.2.2.2.length:Int)),(8,vI b)]/\m.le h/\St h (O) w'/\RepS C3 h a2 c2 p0.2.2.2/\MRow h u 0 (Va p0 a1 c1 a2 c2)/\RepS aH h a1 c1 p0.2.2.1) N ⟨0,K,i,rfl,q.t x,g,c.mono x,a,f.mono x⟩ ?_);rintro v _ Y ⟨b,h,hL,rfl,q,g,c,a,f⟩;rcases v with _|v
 .exact dV hL
 obtain⟨S,i,y,n⟩:=dX hL;clear hL;unfold OI at i;refine aD 1 [(9,vB (decide (b<(p0.2.2.2.length:Int))))] (aG ?_);refine aI i ?_ ?_
 .intro A i;refine aM (aE (aG (bD (aD 2 [(5,vI b)] (aC (aA 3 [(11,.func (.func 107) #[] #[]),(12,vS a2 p0.2.2.2 c2),(13,vI b)] (iK 14 c i ?_)))))));rintro x1 i U G R ⟨_,_,rfl,rfl,⟨_,_,rfl,rfl,⟨_,_,rfl,rfl,⟨_,_,rfl,rfl,⟨E,F,rfl,M⟩⟩⟩⟩⟩ z;refine iO 15 61 14 G (.agg (V8 x1 E F)) g z (aK 16 i (qHc (p0:=x1) g M) ?_);rintro y1 i _ Z ⟨D,rfl,d,g⟩;refine aN (aI i ?_ ?_)
  .intro A i;refine aD 2 [(4,vI b)] (aL ?_);refine bH (aQ ?_);have ho:=n _ (sI i);subst ho;have i:=B;refine aQ (bH (aQ ?_));obtain rfl:=sI i;exact aO [4] [vI b] ⟨_,rfl,⟨D,rfl,q.t d,g,a.mono d,f.mono d,c.mono d⟩⟩
  intro A i;refine aM (bQ (aE (bC (aA 2 [(8,vI (wr (b+1)))] (aU rfl ?_)))));have hL:=y _ (sI i);exact xE (cT ⟨wr (b+1),D,hL,rfl,q.t d,g,c.mono d,a.mono d,f.mono d⟩)
 intro A i;refine cQ (bK ?_);have ho:=n _ (sI i);refine bK ?_;exact xE (s _ _ ⟨(),h,ho,rfl,q,g,a,f,c⟩)
def CF(N:Nat):Te:=
 (xH N (⟨#[112,97,99,107,97,103,101,32,112,59,32,105,109,112,111,114,116,32,113,59,32,116,101,115,116,32,116,32,61,32,102,40,114,101,97,100,40,34,97,46,100,97,116,34,44,32,102,108,105,112,40,48,41,41,41,59]⟩:BA)).bind fun y1=>if((List.length y1.1.2.2:Int) !=1)=true then(some false) else((qM N y1.1 0).bind fun a=>(idx y1.1.2.2 0).bind fun x1=>(idx y1.1.2.2 0).bind fun c=>(KT N x1).bind fun b=>(KU N c).bind fun c=>(if(a.2==0)=true then(if(a.1.toList==(⟨#[112,97,99,107,97,103,101,32,112,59,10,105,109,112,111,114,116,32,113,59,10,116,101,115,116,32,116,32,61,32,102,40,114,101,97,100,40,34,97,46,100,97,116,34,44,32,102,108,105,112,40,48,41,41,41,59,10]⟩:BA).toList)=true then(if((List.length b:Int)==1)=true then((idx b 0).bind fun a=>if(a.toList==(⟨#[102]⟩:BA).toList)=true then(if((List.length c:Int)==1)=true then((idx c 0).bind fun a=>if(a.toList==(⟨#[97,46,100,97,116]⟩:BA).toList)=true then((idx y1.1.2.2 0).bind fun x5=>(KW N x5).bind fun y5=>some y5) else(some false)) else(some false)) else(some false)) else(some false)) else(some false)) else(some false):Te).bind fun a=>some a)
theorem UH{r:Bool}(g:St m (O) w)(i:CF N=some r):Calls prog 23 #[] w fun e w'=>∃m',e= .returned (vB r)/\m.le m'/\St m' (O) w':=by
 unfold CF at i;have q:=m.le_refl;refine bG func23 rfl ntmps23 ?_;refine aD 1 [] (aC ?_);refine aK 9 i (NX g) ?_;rintro y1 i _ w1 ⟨k,l,c,d,m1,rfl,Y,g,f,b⟩;refine aA 4 [(10,.agg (V6 y1.1 k l c d)),(11,vI y1.2.1),(12,vI y1.2.2)] (eQ 1 29 (.agg #[vT eB,v7,v7]) g fun u w2 g=>(cG (.agg (V6 y1.1 k l c d)) g fun w3 g=>(aF 2 [] (aG (aC (bW 1 14 27 13 2 (vS c y1.1.2.2 d) g.h (aF 2 [(16,vB ((y1.1.2.2.length:Int) !=1))] (aI i ?_ ?_))))))))
 .intro A i;refine aD 1 [(0,vB false)] (aL ?_);refine aQ ?_;cases i;exact aO [0] [vB false] ⟨m1,rfl,q.t Y,g.t.t.t⟩
 intro A i;refine aM (aE (aC (bF 18 (.agg (V6 y1.1 k l c d)) g.h (aK 19 i (GV (p0:=y1.1) g f b) ?_))));rintro z i _ w4 ⟨S,rfl,M,g⟩;have b:=b.mono M;refine aF 5 [(4,vT z.1),(5,vI z.2)] (aG (iF [(12,fun w'=>Inv S w'/\Piece.holds S w' (kB u (V6 y1.1 k l c d) 29)/\True)] kr g fun w5 _ g=> ?_));have a:=S.le_refl;refine⟨⟨.inr ⟨Inv.anti g.inv a,Piece.holds_anti g.h a,trivial⟩,trivial⟩,?_⟩;refine aR 0 22 (vP u 2) (.head _) (eR 27 22 1 23 2 (vS c y1.1.2.2 d) (.head _) (fun _ h=>h.2.1) ?_);have⟨x1,d3,i⟩:=aZ i;refine qA (t:=27) (e:=43) (x:=(.tmp 23)) (y:=(.const (vI 0))) 2 24 C4 kr rfl kr (.head _) (bY mN) (ev (vS c y1.1.2.2 d)) (ev (vI 0)) kr b d3 ?_;rintro b2 f1 d1 ⟨_,_,rfl,rfl,⟨_,_,rfl,rfl,⟨_,_,rfl,⟨a3,c3,rfl,r3⟩,⟨a4,c4,rfl,r4⟩⟩⟩⟩ Z;refine lU 43 24 3 25 f1 (.agg (V7 x1 a3 c3 a4 c4)) (.head _) (fun _ h=>h.1) Z (aR 5 27 (vP u 2) (.head _) (eR 27 27 6 28 2 (vS c y1.1.2.2 d) (.head _) (fun _ h=>h.2.1) ?_));have⟨x2,d4,i⟩:=aZ i;refine qA (t:=27) (e:=43) (x:=(.tmp 28)) (y:=(.const (vI 0))) 7 29 C4 kr rfl kr (.head _) (bY mN) (ev (vS c y1.1.2.2 d)) (ev (vI 0)) kr b d4 ?_;rintro b3 f2 d2 ⟨_,_,rfl,rfl,⟨_,_,rfl,rfl,⟨_,_,rfl,⟨a5,c5,rfl,r5⟩,⟨a6,c6,rfl,r6⟩⟩⟩⟩ b0
 refine lU 43 29 8 30 f2 (.agg (V7 x2 a5 c5 a6 c6)) (.head _) (fun _ h=>h.1) b0 (cH 4 kr (mW 26 i (fun _ h=>qHj (p0:=x1) g r3 r4 h) ?_));rintro B i _ w6 ⟨E,G,m3,rfl,n,g,r7⟩;refine⟨_,rfl,?_⟩;have a:=Mem.le_trans a n;refine⟨⟨.inr ⟨Inv.anti g.inv a,Piece.holds_anti g.t.h a,trivial⟩,trivial⟩,?_⟩;refine cH 9 kr (mW 31 i (fun _ h=>qHk (p0:=x2) g (r5.mono n) (r6.mono n) h) ?_);rintro D i _ w7 ⟨F,H,o,rfl,p,g,r8⟩;refine⟨_,rfl,?_⟩;have q:=(((q.t Y).t M).t n).t p;have b:=(b.mono n).mono p;have f:=((f.mono M).mono n).mono p;have a:=Mem.le_trans a p;refine⟨⟨.inr ⟨Inv.anti g.inv a,Piece.holds_anti g.t.t.h a,trivial⟩,trivial⟩,?_⟩;refine aR 10 6 (vS E B G) (.head _) (aR 11 7 (vS F D H) (.head _) (eW kr (aE (aC (eM 36 i (fun v L' w'=>∃s,L'=[(0,vB v)]/\m.le s/\St s (kB u (V6 y1.1 k l c d) 29::kR F D H 9 1::kR E B G 9 1::kR k y1.1.2.1 l 9 1::kR c y1.1.2.2 d 43 4::O) w'/\P5 s k l c d y1.1.2) ?_ ?_)))))
 .rintro v i _ R ⟨s,rfl,q,g,f,b⟩;refine aN (aL ?_);obtain rfl:=sI i;exact aO [0] [vB v] ⟨s,rfl,q,g.t.t.t.t.t⟩
 intro v i K;refine aA 3 [(34,vB (z.2==0))] (bN 34 i ?_ ?_)
 .intro A i;refine aA 4 [(38,vB (z.1.toList==(⟨#[112,97,99,107,97,103,101,32,112,59,10,105,109,112,111,114,116,32,113,59,10,116,101,115,116,32,116,32,61,32,102,40,114,101,97,100,40,34,97,46,100,97,116,34,44,32,102,108,105,112,40,48,41,41,41,59,10]⟩:BA).toList))] (bN 38 i ?_ ?_)
  .intro A i;refine aA 5 [(43,vB ((B.length:Int)==1))] (bN 43 i ?_ ?_)
   .intro A i;refine aA 1 [(44,vS E B G)] (iK 45 (r7.mono p) i ?_);rintro x3 i b4 f3 d5 rfl b7;refine iO 46 9 45 f3 (vT x3) g b7 (aA 3 [(49,vB (x3.toList==bg.toList))] (bN 49 i ?_ ?_))
    .intro A i;refine aA 5 [(54,vB ((D.length:Int)==1))] (bN 54 i ?_ ?_)
     .intro A i;refine aA 1 [(55,vS F D H)] (iK 56 r8 i ?_);rintro x4 i b5 f4 d6 rfl b8;refine iO 57 9 56 f4 (vT x4) g b8 (aA 3 [(60,vB (x4.toList==bb.toList))] (bN 60 i ?_ ?_))
      .intro A i;refine bW 1 62 27 61 2 (vS c y1.1.2.2 d) g.t.t.h (iK 63 b i ?_);rintro x5 i b6 f5 d7 ⟨_,_,rfl,rfl,⟨_,_,rfl,rfl,⟨_,_,rfl,⟨a9,c9,rfl,r9⟩,⟨U,V,rfl,d0⟩⟩⟩⟩ b9;refine iO 64 43 63 f5 (.agg (V7 x5 a9 c9 U V)) g b9 (aK 65 i (qHe (p0:=x5) g r9 d0) ?_);rintro y5 i _ w9 ⟨m6,rfl,R,g⟩;refine aA 2 [(0,vB y5)] ?_;cases i;exact aY _ kr (K _ _ ⟨m6,rfl,q.t R,g.f4.f4.f3.f3.f4,f.mono R,b.mono R⟩)
      intro A i;refine aA 7 [(0,vB false)] ?_;cases i;exact aY _ kr (K _ _ ⟨o,rfl,q,g.f4.f4.f3.f3.f4,f,b⟩)
     intro A i;refine aA 13 [(0,vB false)] ?_;cases i;exact aY _ kr (K _ _ ⟨o,rfl,q,g.f4.f4.f3.f3.f4,f,b⟩)
    intro A i;refine aA 18 [(0,vB false)] ?_;cases i;exact aY _ kr (K _ _ ⟨o,rfl,q,g.f4.f4.f3.f3.f4,f,b⟩)
   intro A i;refine aA 24 [(0,vB false)] ?_;cases i;exact aY _ kr (K _ _ ⟨o,rfl,q,g.f4.f4.f3.f3.f4,f,b⟩)
  intro A i;refine aA 29 [(0,vB false)] ?_;cases i;exact aY _ kr (K _ _ ⟨o,rfl,q,g.f4.f4.f3.f3.f4,f,b⟩)
 intro A i;refine aA 33 [(0,vB false)] ?_;cases i;exact aY _ kr (K _ _ ⟨o,rfl,q,g.f4.f4.f3.f3.f4,f,b⟩)
def KR(N:Nat)(p0:BA)(p1:Int):T5:=
 (BN N p0 p1).bind fun y1=>some y1
theorem qGx{p0:BA}{p1:Int}{r:Int}(g:St m (O) w)(i:KR N p0 p1=some r):Calls prog 81 #[vT p0,.int .u8 p1] w fun e w'=>∃m',e= .returned (vI r)/\m.le m'/\St m' (O) w':=by
 unfold KR at i;have q:=m.le_refl;refine bG func81 rfl ntmps81 ?_;refine aD 1 [] (aC ?_);refine aA 2 [(5,vT p0),(6,.int .u8 p1)] (aK 7 i (UC g) ?_);rintro y1 i _ c ⟨b,rfl,a,g⟩;refine aF 1 [(4,vI y1)] (aL ?_);obtain rfl:=sI i;exact aO [4] [vI y1] ⟨b,rfl,q.t a,g⟩
def KD(N:Nat)(p0:BA)(p1:BA):Te:=
 (if(decide ((ByteArray.size p0:Int)>=(ByteArray.size p1:Int)))=true then((mY p0 0 (ByteArray.size p1:Int)).bind fun a=>some (a.toList==p1.toList)) else(some false):Te).bind fun a=>some a
theorem qFh{p0:BA}{p1:BA}{r:Bool}(g:St m (O) w)(i:KD N p0 p1=some r):Calls prog 148 #[vT p0,vT p1] w fun e w'=>∃m',e= .returned (vB r)/\m.le m'/\St m' (O) w':=by
 unfold KD at i;have q:=m.le_refl;refine bG func148 rfl ntmps148 ?_;refine aD 1 [] (aC ?_);refine eM 14 i (fun b L' w'=>∃a,L'=[(4,vB b)]/\m.le a/\St a (O) w') ?_ ?_
 .rintro b i _ c ⟨a,rfl,q,g⟩;refine aN (aL ?_);obtain rfl:=sI i;exact aO [4] [vB b] ⟨a,rfl,q,g⟩
 intro b i K;refine aA 6 [(10,vB (decide ((p0.size:Int)>=(p1.size:Int))))] (bN 10 i ?_ ?_)
 .intro A i;refine aA 3 [(11,vT p0),(13,vI (p1.size:Int))] ?_;have⟨f,c,i⟩:=aZ i;refine bA rfl (qL (d:=14) (t:=9) (x:=(.tmp 11)) (lo:=none) (hi:=(some (.tmp 13))) kr rfl (ev (vT p0)) kr (.inl ⟨rfl,rfl⟩) (.inr ⟨_,_,rfl,(ev (vI (p1.size:Int)))⟩) c (aA 4 [(4,vB (f.toList==p1.toList))] ?_));cases i;exact aY _ kr (K _ _ ⟨m,rfl,q,g⟩)
 intro A i;refine aA 8 [(4,vB false)] ?_;cases i;exact aY _ kr (K _ _ ⟨m,rfl,q,g⟩)
def GU(N:Nat)(p0:BA)(p1:BA):Te:=
 (KD N p0 p1).bind fun y1=>some y1
theorem qGy{p0:BA}{p1:BA}{r:Bool}(g:St m (O) w)(i:GU N p0 p1=some r):Calls prog 120 #[vT p0,vT p1] w fun e w'=>∃m',e= .returned (vB r)/\m.le m'/\St m' (O) w':=by
 unfold GU at i;have q:=m.le_refl;refine bG func120 rfl ntmps120 ?_;refine aD 1 [] (aC ?_);refine aA 2 [(5,vT p0),(6,vT p1)] (aK 7 i (qFh g) ?_);rintro y1 i _ c ⟨b,rfl,a,g⟩;refine aF 1 [(4,vB y1)] (aL ?_);obtain rfl:=sI i;exact aO [4] [vB y1] ⟨b,rfl,q.t a,g⟩
def zM(N:Nat)(b:rD)(a:Tk):Option (Tk⊕Int):=
 if(decide (a.2<(List.length b:Int)))=true then((idx b a.2).bind fun b=>some (.inl (if 9007199254740993<(IntKind.wrap .i64 ((IntKind.wrap .i64 (10*a.1))+(IntKind.wrap .i64 (IntKind.wrap .u8 ((b.toNat:Int)-48))))) then 9007199254740993 else(IntKind.wrap .i64 ((IntKind.wrap .i64 (10*a.1))+(IntKind.wrap .i64 (IntKind.wrap .u8 ((b.toNat:Int)-48))))),IntKind.wrap .i64 (a.2+1)))) else(some (.inr a.1))
def vV(N:Nat)(p0:BA)(p1:Int)(a:Int):Option (Int⊕Unit⊕Tm):=
 (if(decide (a<(ByteArray.size p0:Int)))=true then((eU p0 a).bind fun b=>if(decide ((b.toNat:Int)>=32))=true then((eU p0 a).bind fun b=>some (decide ((b.toNat:Int)<=126))) else(some false)) else(some false):Te).bind fun b=>if b=true then((eU p0 a).bind fun x5=>if((x5.toNat:Int)==34)=true then((mY p0 (IntKind.wrap .i64 (p1+1)) a).bind fun b=>some (.inr (.inr (((3,b,0,0),IntKind.wrap .i64 (a+1),0))))) else(some (.inl (IntKind.wrap .i64 (a+1))))) else(some (.inr (.inl ())))
def HD(N:Nat)(p0:BA)(p1:Int)(p2:oB):Option Tm:=
 (eU p0 p1).bind fun x1=>if(((cS p2 (x1.toNat:Int)).getD 0)==1)=true then((uP N p0 p1 p2 ([(1:Int),2,3])).bind fun y1=>if(decide ((IntKind.wrap .i64 (y1-p1))>24))=true then(some ((0,(⟨#[]⟩:BA),0,0),0,2)) else((mY p0 p1 y1).bind fun a=>some ((1,a,0,0),y1,0))) else(if(((cS p2 (x1.toNat:Int)).getD 0)==2)=true then((uP N p0 p1 p2 ([(2:Int)])).bind fun b=>(mY p0 p1 b).bind fun a=>(bytesOf a).bind fun a=>(aJ (zM N a) N (0,0)).bind fun a=>if(decide (a>9007199254740992))=true then(some ((0,(⟨#[]⟩:BA),0,0),0,3)) else(some ((2,(⟨#[]⟩:BA),a,0),b,0))) else(if(((cS p2 (x1.toNat:Int)).getD 0)==7)=true then((aJ (vV N p0 p1) N (IntKind.wrap .i64 (p1+1))).bind fun a=>(match a with| .inl o2=>some ((0,(⟨#[]⟩:BA),0,0),0,9)| .inr (z)=>some z)) else(if(((cS p2 (x1.toNat:Int)).getD 0)==8)=true then((mY p0 p1 (ByteArray.size p0:Int)).bind fun a=>(GU N a (⟨#[61,61]⟩:BA)).bind fun a=>(if a=true then(some (IntKind.wrap .i64 ((IntKind.wrap .i64 (p1+1))+1))) else(some (IntKind.wrap .i64 (p1+1))):T5).bind fun o4=>(mY p0 p1 o4).bind fun a=>some ((4,a,0,0),o4,0)) else(some ((0,(⟨#[]⟩:BA),0,0),0,9)))))
theorem qHu{p0:BA}{p1:Int}{p2:oB}{f:Option Nat}{b:Array MapEntry}{a:Nat}{r:Tm}(g:St m (eH f b a::O) w)(l:MapQ (fun n:Int=>Value.int .u8 n) (aT .i64) false m f b a p2)(i:HD N p0 p1 p2=some r):Calls prog 82 #[vT p0,vI p1,.map f] w fun e w'=>∃m',e= .returned (.tuple #[.agg (V2 r.1),vI r.2.1,vI r.2.2])/\m.le m'/\St m' (eH f b a::O) w':=by
 unfold HD at i;have q:=m.le_refl;refine bG func82 rfl ntmps82 ?_;refine aC (eQ 6 109 (.agg (V3 0 eB 0 0)) g fun p w1 g=>(aF 2 [] (aG (aS 3 [(16,.map f),(17,vT p0),(18,vI p1)] (lC 19 i fun x1 i=>(bA rfl (zU (ek:=(fun n:Int=>Value.int .u8 n)) (c:=(aT .i64)) (agg:=false) (k:=(x1.toNat:Int)) (zx:=0) (zcs:=[vI 0]) (z:=(vI 0)) (kt:=5) (et:=3) (d:=20) (t:=119) (x:=(.tmp 16)) (y:=(.tmp 19)) (ok:=false) kr rfl (ev (.map f)) (ev (.int .u8 (x1.toNat:Int))) kr (nA kr) g.t.h l rfl rfl ?_)))))));rintro a5 rfl;refine aN (bD (aD 2 [(21,vB (((cS p2 (x1.toNat:Int)).getD 0)==1))] (aI i ?_ ?_)))
 .intro A i;refine aS 3 [(23,vT p0),(24,vI p1),(25,.map f)] ?_;refine iN 26 3 3 (aT .i64) [(1:Int),2,3] g fun E F G o g D=> ?_;refine aK 27 i (GX g.f2 (l.mono o) D) ?_;rintro y1 i _ H ⟨u,rfl,s,g⟩;refine aA 1 [(9,vI y1)] (aU rfl ?_);have g:=g.f1.t;refine aE (aG (aD 4 [(31,vB (decide ((wr (y1-p1))>24)))] (aI i ?_ ?_)))
  .intro A i;refine aS 1 [(32,.agg (V3 0 eB 0 0))] ?_;refine cG (.agg (V3 0 eB 0 0)) g.f1 fun v g=> ?_;refine aF 2 [(7,vI 0),(8,vI 2)] (aL (aQ (bH (aQ ?_))));cases i;refine lP 6 109 [7,8] [vI 0,vI 2] g.h ?_;exact⟨u,rfl,(q.t o).t s,g.t⟩
  intro A i;refine aM (aE (aS 3 [(33,vT p0),(34,vI p1),(35,vI y1)] ?_));have⟨v,B,i⟩:=aZ i;refine bA rfl (qL (d:=36) (t:=9) (x:=(.tmp 33)) (lo:=(some (.tmp 34))) (hi:=(some (.tmp 35))) kr rfl (ev (vT p0)) kr (.inr ⟨_,_,rfl,(ev (vI p1))⟩) (.inr ⟨_,_,rfl,(ev (vI y1))⟩) B (aA 2 [(37,.agg (V3 1 v 0 0)),(38,vI y1)] (cG (.agg (V3 1 v 0 0)) g.f1 fun M g=>(aF 2 [(7,vI y1),(8,vI 0)] (aL (bH (aQ ?_)))))));obtain rfl:=sI i;refine lP 6 109 [7,8] [vI y1,vI 0] g.h ?_;exact⟨u,rfl,(q.t o).t s,g.t⟩
 intro A i;refine aD 2 [(39,vB (((cS p2 (x1.toNat:Int)).getD 0)==2))] (aI i ?_ ?_)
 .intro A i;refine aS 3 [(41,vT p0),(42,vI p1),(43,.map f)] ?_;refine iN 44 3 1 (aT .i64) [(2:Int)] g fun b3 m3 w6 R g r3=> ?_;refine aK 45 i (GX g.f2 (l.mono R) r3) ?_;rintro u i _ w7 ⟨m4,rfl,Z,g⟩;refine aA 1 [(10,vI u)] (aU rfl ?_);have g:=g.f1.t;refine aE (aD 1 [(11,vI 0)] (aG (aS 3 [(46,vT p0),(47,vI p1),(48,vI u)] ?_)));have⟨s2,d5,i⟩:=aZ i;refine bA rfl (qL (d:=49) (t:=9) (x:=(.tmp 46)) (lo:=(some (.tmp 47))) (hi:=(some (.tmp 48))) kr rfl (ev (vT p0)) kr (.inr ⟨_,_,rfl,(ev (vI p1))⟩) (.inr ⟨_,_,rfl,(ev (vI u))⟩) d5 ?_);have⟨B,d6,i⟩:=aZ i;refine bA rfl (VQ (d:=50) (t1:=9) (t2:=64) (e:=5) (x:=(.tmp 49)) kr rfl (ev (vT s2)) kr kr g d6 fun V Y m5 w8 e5 g M=>(aF 2 [(51,vI (B.length:Int)),(52,vI 0)] (bD (cJ (.exit 1) i (fun s L' w'=>∃(E:Int),∃D,E=s/\L'=[(6,vP p 0),(10,vI u),(11,vI E)]/\m.le D/\St D (kB p (V3 0 eB 0 0) 109::eH f b a::O) w'/\MapQ (fun n:Int=>Value.int .u8 n) (aT .i64) false D f b a p2) ?_ ?_))))
  .rintro s i _ v ⟨E,D,rfl,rfl,q,g,l⟩;refine dW (aE (aG (aD 2 [(65,vB (decide (E>9007199254740992)))] (aI i ?_ ?_))))
   .intro A i;refine aS 1 [(66,.agg (V3 0 eB 0 0))] ?_;refine cG (.agg (V3 0 eB 0 0)) g fun o g=> ?_;refine aF 2 [(7,vI 0),(8,vI 3)] (aL (aQ (bH (aQ ?_))));cases i;refine lP 6 109 [7,8] [vI 0,vI 3] g.h ?_;exact⟨D,rfl,q,g.t⟩
   intro A i;refine aM (aE (aS 3 [(68,.agg (V3 2 eB E 0)),(69,vI u)] (cG (.agg (V3 2 eB E 0)) g fun o g=>(aF 2 [(7,vI u),(8,vI 0)] (aL (bH (aQ ?_)))))));obtain rfl:=sI i;refine lP 6 109 [7,8] [vI u,vI 0] g.h ?_;exact⟨D,rfl,q,g.t⟩
  intro s i G;refine cX _ kr (cW (fun H L' w'=>∃(o:Tk),∃v,aJ (zM N B) H o=some s/\L'=[(6,vP p 0),(10,vI u),(11,vI o.1),(50,vS (aP V) B Y),(51,vI (B.length:Int)),(52,vI o.2)]/\m.le v/\St v (kB p (V3 0 eB 0 0) 109::eH f b a::O) w'/\RepS mM v (aP V) Y B/\MapQ (fun n:Int=>Value.int .u8 n) (aT .i64) false v f b a p2) N ⟨(0,0),m5,i,rfl,((q.t R).t Z).t e5,g.f1,M,((l.mono R).mono Z).mono e5⟩ ?_);rintro H _ a8 ⟨o,v,hL,rfl,q,g,M,l⟩;rcases H with _|H
  .exact dV hL
  obtain⟨a7,i,U,S⟩:=dX hL;clear hL;unfold zM at i;refine aD 1 [(53,vB (decide (o.2<(B.length:Int))))] (aG ?_);refine aI i ?_ ?_
  .intro A i;refine aM (aE (aG (bD (aC (iK 54 M i ?_)))));rintro F i b5 f1 a6 rfl a4;refine iO 55 5 54 f1 (.int .u8 (F.toNat:Int)) g a4 (aF 1 [(13,.int .u8 (F.toNat:Int))] (bC (aA 8 [(11,vI (if 9007199254740993<(wr ((wr (10*o.1))+(wr (IntKind.wrap .u8 ((F.toNat:Int)-48))))) then 9007199254740993 else(wr ((wr (10*o.1))+(wr (IntKind.wrap .u8 ((F.toNat:Int)-48)))))))] (aU rfl (bQ (aE (bC (aA 2 [(52,vI (wr (o.2+1)))] (aU rfl ?_)))))))));have hL:=U _ (sI i);exact xE (cT ⟨(if 9007199254740993<(wr ((wr (10*o.1))+(wr (IntKind.wrap .u8 ((F.toNat:Int)-48))))) then 9007199254740993 else(wr ((wr (10*o.1))+(wr (IntKind.wrap .u8 ((F.toNat:Int)-48))))),wr (o.2+1)),v,hL,rfl,q,g.f1.f1,M,l⟩)
  intro A i;refine cQ (bK ?_);have ho:=S _ (sI i);have g:=g.f1.f1;refine bK ?_;exact xE (G _ _ ⟨o.1,v,ho,rfl,q,g,l⟩)
 intro A i;refine aD 2 [(70,vB (((cS p2 (x1.toNat:Int)).getD 0)==7))] (aI i ?_ ?_)
 .intro A i;refine aG (aD 3 [(14,vI (wr (p1+1)))] (bD ?_));have⟨D,i,R⟩:=aZ i;refine cZ (.exit 3) (fun L' w'=>∃(o2:Unit),∃B,(.inl o2)=D/\L'=[(6,vP p 0)]/\m.le B/\St B (kB p (V3 0 eB 0 0) 109::eH f b a::O) w'/\MapQ (fun n:Int=>Value.int .u8 n) (aT .i64) false B f b a p2) ?_ ?_
  .rintro _ o ⟨o2,B,rfl,rfl,q,g,l⟩;have i:=R;refine dW (aE (aS 1 [(104,.agg (V3 0 eB 0 0))] (cG (.agg (V3 0 eB 0 0)) g fun s g=>(aF 2 [(7,vI 0),(8,vI 9)] (aL (bH (aQ ?_)))))));cases i;refine lP 6 109 [7,8] [vI 0,vI 9] g.h ?_;exact⟨B,rfl,q,g.t⟩
  intro E;refine cX _ kr (cW (fun F L' w'=>∃(o:Int),∃u,aJ (vV N p0 p1) F o=some D/\L'=[(0,vT p0),(1,vI p1),(6,vP p 0),(14,vI o)]/\m.le u/\St u (kB p (V3 0 eB 0 0) 109::eH f b a::O) w'/\MapQ (fun n:Int=>Value.int .u8 n) (aT .i64) false u f b a p2) N ⟨wr (p1+1),m,i,rfl,q,g.f1.f1,l⟩ ?_);rintro F _ V ⟨o,u,hL,rfl,q,g,l⟩;rcases F with _|F
  .exact dV hL
  obtain⟨U,i,G,v⟩:=dX hL;clear hL;unfold vV at i;refine aG (aC (eM 16 i (fun H L' w'=>∃s,L'=[(0,vT p0),(1,vI p1),(6,vP p 0),(14,vI o),(89,vB H)]/\m.le s/\St s (kB p (V3 0 eB 0 0) 109::eH f b a::O) w'/\MapQ (fun n:Int=>Value.int .u8 n) (aT .i64) false s f b a p2) ?_ ?_))
  .rintro H i _ Y ⟨s,rfl,q,g,l⟩;refine aN (aI i ?_ ?_)
   .intro A i;refine aM (aE (aG (bD (aS 2 [(92,vT p0),(93,vI o)] (lC 94 i fun x5 i=>(aF 1 [(95,vB ((x5.toNat:Int)==34))] (aI i ?_ ?_)))))))
    .intro A i;refine aS 4 [(96,vT p0),(98,vI (wr (p1+1))),(99,vI o)] ?_;have⟨S,M,i⟩:=aZ i;refine bA rfl (qL (d:=100) (t:=9) (x:=(.tmp 96)) (lo:=(some (.tmp 98))) (hi:=(some (.tmp 99))) kr rfl (ev (vT p0)) kr (.inr ⟨_,_,rfl,(ev (vI (wr (p1+1))))⟩) (.inr ⟨_,_,rfl,(ev (vI o))⟩) M (aA 3 [(101,.agg (V3 3 S 0 0)),(103,vI (wr (o+1)))] (cG (.agg (V3 3 S 0 0)) g fun Z g=>(aF 2 [(7,vI (wr (o+1))),(8,vI 0)] (aL (bH (aQ ?_)))))));have ho:=v _ (sI i);subst ho;have i:=R;refine aQ (bH (aQ (bH (aQ ?_))));obtain rfl:=sI i;refine lP 6 109 [7,8] [vI (wr (o+1)),vI 0] g.h ?_;exact⟨s,rfl,q,g.t⟩
    intro A i;refine aM (bQ (aE (bC (aA 3 [(14,vI (wr (o+1)))] (aU rfl ?_)))));have hL:=G _ (sI i);exact xE (cT ⟨wr (o+1),s,hL,rfl,q,g.f1.f1,l⟩)
   intro A i;refine cQ (bK ?_);have ho:=v _ (sI i);have g:=g.f1.f1;refine bK ?_;exact xE (E _ _ ⟨(),s,ho,rfl,q,g,l⟩)
  intro H i K;refine aA 5 [(78,vB (decide (o<(p0.size:Int))))] (bN 78 i ?_ ?_)
  .intro A i;refine aA 2 [(79,vT p0),(80,vI o)] (lC 81 i fun M i=>(aA 3 [(84,vB (decide ((M.toNat:Int)>=32)))] (bN 84 i ?_ ?_)))
   .intro A i;refine aA 2 [(85,vT p0),(86,vI o)] (lC 87 i fun S i=>(aA 2 [(89,vB (decide ((S.toNat:Int)<=126)))] ?_));cases i;exact aY _ kr (K _ _ ⟨u,rfl,q,g.f1.f1,l⟩)
   intro A i;refine aA 5 [(89,vB false)] ?_;cases i;exact aY _ kr (K _ _ ⟨u,rfl,q,g.f1.f1,l⟩)
  intro A i;refine aA 11 [(89,vB false)] ?_;cases i;exact aY _ kr (K _ _ ⟨u,rfl,q,g.f1.f1,l⟩)
 intro A i;refine aD 2 [(105,vB (((cS p2 (x1.toNat:Int)).getD 0)==8))] (aI i ?_ ?_)
 .intro A i;refine aD 3 [(15,vI (wr (p1+1)))] (aG ?_);refine aS 2 [(109,vT p0),(110,vI p1)] ?_;have⟨H,B,i⟩:=aZ i;refine bA rfl (qL (d:=111) (t:=9) (x:=(.tmp 109)) (lo:=(some (.tmp 110))) (hi:=none) kr rfl (ev (vT p0)) kr (.inr ⟨_,_,rfl,(ev (vI p1))⟩) (.inl ⟨rfl,rfl⟩) B (aK 112 i (qGy g) ?_));rintro M i _ E ⟨v,rfl,s,g⟩;refine aN (cJ .normal i (fun o4 L' w'=>∃o,L'=[(0,vT p0),(1,vI p1),(6,vP p 0),(15,vI o4)]/\m.le o/\St o (kB p (V3 0 eB 0 0) 109::eH f b a::O) w'/\MapQ (fun n:Int=>Value.int .u8 n) (aT .i64) false o f b a p2) ?_ ?_)
  .rintro o4 i _ F ⟨o,rfl,q,g,l⟩;refine aE (aS 3 [(115,vT p0),(116,vI p1),(117,vI o4)] ?_);have⟨D,u,i⟩:=aZ i;refine bA rfl (qL (d:=118) (t:=9) (x:=(.tmp 115)) (lo:=(some (.tmp 116))) (hi:=(some (.tmp 117))) kr rfl (ev (vT p0)) kr (.inr ⟨_,_,rfl,(ev (vI p1))⟩) (.inr ⟨_,_,rfl,(ev (vI o4))⟩) u (aA 2 [(119,.agg (V3 4 D 0 0)),(120,vI o4)] (cG (.agg (V3 4 D 0 0)) g fun G g=>(aF 2 [(7,vI o4),(8,vI 0)] (aL (bH (aQ ?_)))))));obtain rfl:=sI i;refine lP 6 109 [7,8] [vI o4,vI 0] g.h ?_;exact⟨o,rfl,q,g.t⟩
  intro o4 i u;refine aI i ?_ ?_
  .intro A i;refine bC (aA 3 [(15,vI (wr ((wr (p1+1))+1)))] (aU rfl ?_));cases i;exact xE (u _ _ ⟨v,rfl,q.t s,g.f1.f1,l.mono s⟩)
  intro A i;refine aM ?_;cases i;exact xE (u _ _ ⟨v,rfl,q.t s,g.f1.f1,l.mono s⟩)
 intro A i;refine aM (bQ (aE (aS 1 [(121,.agg (V3 0 eB 0 0))] (cG (.agg (V3 0 eB 0 0)) g fun o g=>(aF 2 [(7,vI 0),(8,vI 9)] (aL ?_))))));cases i;refine lP 6 109 [7,8] [vI 0,vI 9] g.h ?_;exact⟨m,rfl,q,g.t⟩
def CR(N:Nat)(p0:BA)(y1:oB)(c:To):Option (To⊕Tp):=
 (uP N p0 c.2 y1 ([(5:Int)])).bind fun a=>if(a==(ByteArray.size p0:Int))=true then((cU 40 c.1 ([(5,(⟨#[]⟩:BA),0,a)])).bind fun b=>some (.inr (b,0,0))) else((eU p0 a).bind fun x1=>if(((cS y1 (x1.toNat:Int)).getD 0)==6)=true then((mY p0 a (ByteArray.size p0:Int)).bind fun b=>(KR N b 10).bind fun b=>(if(decide (b<0))=true then(some (IntKind.wrap .i64 ((ByteArray.size p0:Int)-a))) else(some b):T5).bind fun b=>some (.inl (c.1,IntKind.wrap .i64 (a+b)))) else((HD N p0 a y1).bind fun b=>if(b.2.2 !=0)=true then(some (.inr (([]:Tn),a,b.2.2))) else((cU 40 c.1 ([(b.1.1,b.1.2.1,b.1.2.2.1,a)])).bind fun a=>some (.inl (a,b.2.1)))))
def HB(N:Nat)(p0:BA):Option Tp:=
 if(decide ((ByteArray.size p0:Int)>16384))=true then(some (([]:Tn),0,2)) else((zR N).bind fun y1=>(aJ (CR N p0 y1) N (([]:Tn),0)).bind fun z=>some z)
theorem qHl{p0:BA}{r:Tp}(g:St m (O) w)(i:HB N p0=some r):Calls prog 38 #[vT p0] w fun e w'=>∃K M m',e= .returned (.tuple #[vS K r.1 M,vI r.2.1,vI r.2.2])/\m.le m'/\St m' (kR K r.1 M 109 4::O) w'/\RepS C2 m' K M r.1:=by
 unfold HB at i;have q:=m.le_refl;refine bG func38 rfl ntmps38 ?_;refine aD 3 [(2,v6)] (qQg ?_);refine aG (aD 3 [(13,vB (decide ((p0.size:Int)>16384)))] (aI i ?_ ?_))
 .intro A i;refine aD 3 [(2,v6),(3,vI 0),(4,vI 2)] (aL ?_);refine aQ (OX ?_);cases i;exact aO [2,3,4] [v6,vI 0,vI 2] ⟨none,0,m,rfl,q,(g.nilroom 109 4),(RepS.nil _ _)⟩
 intro A i;refine aM (aE (aC (aK 14 i (ON g) ?_)));rintro y1 i _ w1 ⟨o,B,v,m1,rfl,e1,g,l⟩;refine aF 1 [(5,.map o)] (aC (aF 1 [(6,vI 0)] (aG (qRa (aE (bD ?_))))));have⟨Y,i,j1⟩:=aZ i;have g:=(g.nilroom 109 4).front1;refine cX _ kr (cW (fun S L' w'=>∃(f:To),∃p s G,aJ (CR N p0 y1) S f=some Y/\L'=[(0,vT p0),(2,vS p f.1 s),(5,.map o),(6,vI f.2)]/\m.le G/\St G (eH o B v::kR p f.1 s 109 4::O) w'/\RepS C2 G p s f.1/\MapQ (fun n:Int=>Value.int .u8 n) (aT .i64) false G o B v y1) N ⟨(([]:Tn),0),none,0,m1,i,rfl,q.t e1,g,(RepS.nil _ _),l⟩ ?_);rintro S _ w2 ⟨f,p,s,G,hL,rfl,q,g,u,l⟩;rcases S with _|S
 .exact dV hL
 obtain⟨a7,i,F,E⟩:=dX hL;clear hL;unfold CR at i;refine bD (aS 3 [(15,vT p0),(16,vI f.2),(17,.map o)] (iN 18 3 1 (aT .i64) [(5:Int)] g fun b1 m3 w3 R g r3=>(aK 19 i (GX g.f1 (l.mono R) r3) ?_)));rintro b i _ w4 ⟨m4,rfl,V,g⟩;have q:=(q.t R).t V;have u:=(u.mono R).mono V;have l:=(l.mono R).mono V;refine aA 1 [(6,vI b)] (aU rfl ?_);have g:=g.f1.t;refine aE (aG (bD (aD 5 [(20,vB (b==(p0.size:Int)))] (aI i ?_ ?_))))
 .intro A i;refine aS 3 [(25,vS p f.1 s),(27,.agg (V3 5 eB 0 b))] ?_;refine iN 28 109 1 C2 [(5,eB,0,b)] g fun b2 m5 w5 H g r4=> ?_;refine lR 29 76 76 109 40 25 28 g.f2 (.inl kr) (u.mono H) r4.src i fun U i a D m6 w6 Z g r5=> ?_;refine aA 3 [(2,vS a U D),(3,vI 0),(4,vI 0)] (aU rfl ?_);have g:=g.f1.t;refine aE (aL (bH (aQ (bH ?_))));have ho:=E _ (sI i);subst ho;have i:=j1;refine aQ (bH (OX ?_));obtain rfl:=sI i;exact aO [2,3,4] [vS a U D,vI 0,vI 0] ⟨a,D,m6,rfl,(q.t H).t Z,g.f1.t,r5⟩
 intro A i;refine aS 3 [(31,.map o),(32,vT p0),(33,vI b)] ?_;refine lC 34 i fun x1 i=> ?_;refine bA rfl (zU (ek:=(fun n:Int=>Value.int .u8 n)) (c:=(aT .i64)) (agg:=false) (k:=(x1.toNat:Int)) (zx:=0) (zcs:=[vI 0]) (z:=(vI 0)) (kt:=5) (et:=3) (d:=35) (t:=119) (x:=(.tmp 31)) (y:=(.tmp 34)) (ok:=false) kr rfl (ev (.map o)) (ev (.int .u8 (x1.toNat:Int))) kr (nA kr) g.h l rfl rfl ?_);rintro a5 rfl;refine aF 2 [(30,vB (((cS y1 (x1.toNat:Int)).getD 0)==6))] (aI i ?_ ?_)
 .intro A i;refine aS 2 [(37,vT p0),(38,vI b)] ?_;have⟨s2,d5,i⟩:=aZ i;refine bA rfl (qL (d:=39) (t:=9) (x:=(.tmp 37)) (lo:=(some (.tmp 38))) (hi:=none) kr rfl (ev (vT p0)) kr (.inr ⟨_,_,rfl,(ev (vI b))⟩) (.inl ⟨rfl,rfl⟩) d5 (aK 40 i (qGx g) ?_));rintro y3 i _ w7 ⟨Z,rfl,a,g⟩;refine aF 1 [(7,vI y3)] (aG (aD 2 [(42,vB (decide (y3<0)))] (cJ .normal i (fun H L' w'=>∃D,L'=[(0,vT p0),(2,vS p f.1 s),(5,.map o),(6,vI b),(7,vI H)]/\m.le D/\St D (eH o B v::kR p f.1 s 109 4::O) w'/\RepS C2 D p s f.1/\MapQ (fun n:Int=>Value.int .u8 n) (aT .i64) false D o B v y1) ?_ ?_)))
  .rintro H i _ U ⟨D,rfl,q,g,u,l⟩;refine aE (aD 4 [(6,vI (wr (b+H)))] (cQ (xM rfl (bK (dW ?_)))));have hL:=F _ (sI i);exact xE (cT ⟨(f.1,wr (b+H)),p,s,D,hL,rfl,q,g.f1.f1,u,l⟩)
  intro H i U;refine aI i ?_ ?_
  .intro A i;refine bC (aA 5 [(7,vI (wr ((p0.size:Int)-b)))] (aU rfl ?_));cases i;exact xE (U _ _ ⟨Z,rfl,q.t a,g.f1.f1,u.mono a,l.mono a⟩)
  intro A i;refine aM ?_;cases i;exact xE (U _ _ ⟨Z,rfl,q.t a,g.f1.f1,u.mono a,l.mono a⟩)
 intro A i;refine aM (bQ (aE (aS 3 [(51,vT p0),(52,vI b),(53,.map o)] (aK 54 i (qHu g l) ?_))));rintro a i _ w9 ⟨m9,rfl,D,g⟩;refine aA 4 [(55,.agg (V2 a.1)),(56,vI a.2.1),(57,vI a.2.2)] (eQ 8 109 (.agg (V3 0 eB 0 0)) g fun b3 a8 g=>(cG (.agg (V2 a.1)) g fun a9 g=>(aF 2 [(9,vI a.2.1),(10,vI a.2.2)] (aG (aD 2 [(59,vB (a.2.2 !=0))] (aI i ?_ ?_))))))
 .intro A i;refine aS 5 [(2,v6),(3,vI b),(4,vI a.2.2)] ?_;refine aU rfl ?_;have g:=g.f2.t;refine aE (aL (aQ (bH ?_)));have ho:=E _ (sI i);subst ho;have i:=j1;refine aQ (bH (OX ?_));obtain rfl:=sI i;refine aO [2,3,4] [v6,vI b,vI a.2.2] ?_;have g:=(g.nilroom 109 4).front1;exact⟨none,0,m9,rfl,q.t D,g.t.f1.t,(RepS.nil _ _)⟩
 intro A i;refine aM (aE (aS 2 [(62,vI b),(63,vP b3 3)] (eJ (V3 a.1.1 a.1.2.1 a.1.2.2.1 b) g fun b0 g=>(aN (bC (aA 1 [(64,vS p f.1 s)] (bF 65 (.agg (V3 a.1.1 a.1.2.1 a.1.2.2.1 b)) g.h (iN 66 109 1 C2 [(a.1.1,a.1.2.1,a.1.2.2.1,b)] g fun b4 a6 b5 H g r6=>(lR 67 76 76 109 40 64 66 g.f3 (.inl kr) ((u.mono D).mono H) r6.src i fun l2 i U Z a4 b6 e9 g r7=>(aA 3 [(2,vS U l2 Z),(6,vI a.2.1)] (aU rfl ?_)))))))))));have g:=g.f1.t;refine bQ ?_;have hL:=F _ (sI i);exact xE (cT ⟨(l2,a.2.1),U,Z,a4,hL,rfl,((q.t D).t H).t e9,g.f1.t.f1,r7,((l.mono D).mono H).mono e9⟩)
def qT(N:Nat)(p0:bI):Option wY:=
 (idx p0.1 p0.2.1).bind fun x1=>some (p0,x1)
theorem tN{p0:bI}{r:wY}(g:St m (kB bp0 (Vc p0 a1 c1 a2 c2 a3 c3) 84::kR a3 p0.2.2.2 c3 61 5::O) w)(o:RepS C2 m a1 c1 p0.1)(u:RepS aH m a2 c2 p0.2.2.1)(v:RepS C3 m a3 c3 p0.2.2.2)(i:qT N p0=some r):Calls prog 88 #[vP bp0 0] w fun e w'=>∃d k f l b c m',e= .returned (.agg (V2 r.2))/\m.le m'/\St m' (kB bp0 (Vc r.1 d k f l b c) 84::kR b r.1.2.2.2 c 61 5::O) w'/\P7 m' d k f l b c r.1:=by
 unfold qT at i;have q:=m.le_refl;refine bG func88 rfl ntmps88 ?_;refine aC (eQ 2 109 (.agg (V3 0 eB 0 0)) g fun A D g=>(aN (aG (iF [(11,fun w'=>Inv m w'/\Piece.holds m w' (kB bp0 (Vc p0 a1 c1 a2 c2 a3 c3) 84)/\True)] kr g fun E _ g=> ?_))));have a:=m.le_refl;refine⟨⟨.inr ⟨Inv.anti g.inv a,Piece.holds_anti g.t.h a,trivial⟩,trivial⟩,?_⟩;refine aR 0 3 (vP bp0 0) (.head _) (aR 1 4 (vP bp0 0) (.head _) (aR 2 5 (vP bp0 0) (.head _) (eR 76 5 3 6 0 (vS a1 p0.1 c1) (.head _) (fun _ h=>h.2.1) (aR 4 7 (vP bp0 0) (.head _) (aR 5 8 (vP bp0 0) (.head _) (aR 6 9 (vP bp0 1) (.head _) (eR 3 9 7 10 1 (vI p0.2.1) (.head _) (fun _ h=>h.2.1) ?_)))))));have⟨x1,p,i⟩:=aZ i;refine qA (t:=76) (e:=109) (x:=(.tmp 6)) (y:=(.tmp 10)) 8 11 C2 kr rfl kr (.head _) (bY mN) (ev (vS a1 p0.1 c1)) (ev (vI p0.2.1)) kr o p ?_;rintro B s z ⟨_,_,rfl,rfl,⟨_,_,rfl,rfl,⟨_,_,rfl,rfl,rfl⟩⟩⟩ n;refine lU 109 11 9 12 s (.agg (V2 x1)) (.head _) (fun _ h=>h.1) n (cH 10 kr (wG 109 2 12 (.agg (V2 x1)) g fun F g=>(⟨⟨.inr ⟨Inv.anti g.inv a,Piece.holds_anti g.t.h a,trivial⟩,trivial⟩,?_⟩)));refine eW kr ?_;refine aE (aL ?_);obtain rfl:=sI i;refine lP 2 109 [] [] g.h ?_;exact⟨a1,c1,a2,c2,a3,c3,m,rfl,q,g.t.f1.f1,o,u,v⟩
def uL(N:Nat)(p0:bI)(p1:Int)(p2:BA):Option (bI×Bool):=
 (qT N p0).bind fun y1=>(if(y1.2.1==p1)=true then(some (y1.2.2.1.toList==p2.toList)) else(some false):Te).bind fun a=>some (y1.1,a)
theorem CE{p0:bI}{p1:Int}{p2:BA}{r:bI×Bool}(g:St m (kB bp0 (Vc p0 a1 c1 a2 c2 a3 c3) 84::kR a3 p0.2.2.2 c3 61 5::O) w)(G:RepS C2 m a1 c1 p0.1)(H:RepS aH m a2 c2 p0.2.2.1)(M:RepS C3 m a3 c3 p0.2.2.2)(i:uL N p0 p1 p2=some r):Calls prog 86 #[vP bp0 0,vI p1,vT p2] w fun e w'=>∃p u s v b c m',e= .returned (vB r.2)/\m.le m'/\St m' (kB bp0 (Vc r.1 p u s v b c) 84::kR b r.1.2.2.2 c 61 5::O) w'/\P7 m' p u s v b c r.1:=by
 unfold uL at i;have q:=m.le_refl;refine bG func86 rfl ntmps86 ?_;refine aD 1 [] (aC ?_);refine aA 1 [(8,vP bp0 0)] (aK 9 i (tN (p0:=p0) g.f1.f1 G H M) ?_);rintro y1 i _ R ⟨x,z,y,B,d,f,E,rfl,D,g,l,n,o⟩;refine eQ 7 109 (.agg (V3 0 eB 0 0)) g fun F S g=> ?_;refine cG (.agg (V2 y1.2)) g fun U g=> ?_;refine aN (aC (eM 11 i (fun k L' w'=>∃a,L'=[(6,vB k)]/\m.le a/\St a (kB F (V2 y1.2) 109::kB bp0 (Vc y1.1 x z y B d f) 84::kR d y1.1.2.2.2 f 61 5::O) w'/\P7 a x z y B d f y1.1) ?_ ?_))
 .rintro k i _ V ⟨a,rfl,q,g,l,n,o⟩;refine aN (aL ?_);obtain rfl:=sI i;exact aO [6] [vB k] ⟨x,z,y,B,d,f,a,rfl,q,g.t.f1.f1,l,n,o⟩
 intro k i K;refine bW 1 11 3 10 0 (vI y1.2.1) g.h (aA 3 [(14,vB (y1.2.1==p1))] (bN 14 i ?_ ?_))
 .intro A i;refine bW 1 16 9 15 1 (vT y1.2.2.1) g.h (aA 4 [(6,vB (y1.2.2.1.toList==p2.toList))] ?_);cases i;exact aY _ kr (K _ _ ⟨E,rfl,q.t D,g.f2.f2.f2,l,n,o⟩)
 intro A i;refine aA 6 [(6,vB false)] ?_;cases i;exact aY _ kr (K _ _ ⟨E,rfl,q.t D,g.f2.f2.f2,l,n,o⟩)
def lJ(N:Nat)(p0:Tl)(p1:Int):Option (Tk⊕Unit):=
 some (.inl (p0.2.2.2,p1))
theorem oZ{p0:Tl}{p1:Int}{r:Tk⊕Unit}(g:St m (O) w)(i:lJ N p0 p1=some r):Calls prog 87 #[.agg (V2 p0),vI p1] w fun e w'=>(∃(z0:Tk),∃m',r= .inl z0/\e= .panicked [{v:= .iface 80 (.agg (Vd z0)),recovered:=false}]/\m.le m'/\St m' (O) w')\/(∃(f:Unit),r= .inr f/\∃m',e= .returned (.tuple #[])/\m.le m'/\St m' (O) w'):=by
 unfold lJ at i;have q:=m.le_refl;refine bG func87 rfl ntmps87 ?_;refine aC (mJ 2 109 (.agg (V2 p0)) g fun b d h c g a=>(aN (bC (aA 1 [(4,vP b 3)] (cI 5 (vI p0.2.2.2) g (a.drop 3) (aA 3 [(8,.iface 80 (.agg #[vI p0.2.2.2,vI p1]))] (bA rfl (qNb (x:=(.tmp 8)) kr (ev (.iface 80 (.agg #[vI p0.2.2.2,vI p1]))) ?_))))))));cases i;exact cP (.inl ⟨(p0.2.2.2,p1),d,rfl,rfl,q.t c,g⟩)
def zE(N:Nat)(p0:bI)(p1:BA):Option JU:=
 (uL N p0 1 p1).bind fun y1=>(if(!y1.2)=true then((qT N y1.1).bind fun a=>(lJ N a.2 9).bind fun b=>(match b with| .inl b=>some (.inr (.inl b))| .inr b=>some (.inl a.1))) else(some (.inl y1.1)):Option T1r).bind fun a=>(match a with| .inl a=>some (.inr (a.1,IntKind.wrap .i64 (a.2.1+1),a.2.2.1,a.2.2.2))| .inr z=>some z)
theorem NY{p0:bI}{p1:BA}{r:JU}(g:St m (kB bp0 (Vc p0 a1 c1 a2 c2 a3 c3) 84::kR a3 p0.2.2.2 c3 61 5::O) w)(r1:RepS C2 m a1 c1 p0.1)(r2:RepS aH m a2 c2 p0.2.2.1)(r3:RepS C3 m a3 c3 p0.2.2.2)(i:zE N p0 p1=some r):Calls prog 83 #[vP bp0 0,vT p1] w fun e w'=>(∃(z0:Tk),∃m',r= .inl z0/\e= .panicked [{v:= .iface 80 (.agg (Vd z0)),recovered:=false}]/\m.le m'/\St m' (O) w')\/(∃(u:bI),r= .inr u/\∃y B z D o p m',e= .returned (.tuple #[])/\m.le m'/\St m' (kB bp0 (Vc u y B z D o p) 84::kR o u.2.2.2 p 61 5::O) w'/\P7 m' y B z D o p u):=by
 unfold zE at i;have q:=m.le_refl;refine bG func83 rfl ntmps83 ?_;refine aG (aS 2 [(4,vP bp0 0),(5,vT p1)] (aK 6 i (CE (p0:=p0) g.f1.f1 r1 r2 r3) ?_));rintro y1 i _ w1 ⟨a4,c4,a5,c5,a6,c6,m1,rfl,e1,g,r4,r5,r6⟩;have q:=q.t e1;refine aF 1 [(7,vB (!y1.2))] ?_;have⟨V,i,U⟩:=aZ i;refine cZ .normal (fun L' w'=>∃(a:bI),∃d k f l b c n,(.inl a:T1r)=V/\L'=[(0,vP bp0 0)]/\m.le n/\St n (kB bp0 (Vc a d k f l b c) 84::kR b a.2.2.2 c 61 5::O) w'/\P7 n d k f l b c a) ?_ ?_
 .rintro _ F ⟨a,d,k,f,l,b,c,n,rfl,rfl,q,g,s,x,E⟩;have i:=U;refine aE (bC (aA 3 [(11,vP bp0 0),(13,vP bp0 1)] (bF 14 (vI a.2.1) g.h (aA 3 [(15,vI (wr (a.2.1+1))),(17,vP bp0 1)] (eJ #[vS d a.1 k,vI (wr (a.2.1+1)),vS f a.2.2.1 l,vS b a.2.2.2 c] g fun G g=>(aU rfl ?_))))));cases i;exact pR [] [] rfl ResAll.nil (.inr ⟨_,rfl,d,k,f,l,b,c,n,rfl,q,g.f1.f1,s,x,E⟩)
 intro x;refine aI i ?_ ?_
 .intro A i;refine bC (aA 1 [(8,vP bp0 0)] (aK 9 i (tN (p0:=y1.1) g.f1.f1 r4 r5 r6) ?_));rintro y2 i _ w3 ⟨F,K,G,M,H,R,m3,rfl,S,g,Y,Z,b0⟩;refine cY 10 i (oZ (p0:=y2.2) g) ?_;rintro y3 i _ w4 (⟨z1,m5,rfl,rfl,e4,g⟩|⟨y4,rfl,m4,rfl,s,g⟩)
  .obtain rfl:=sI i;have i:=U;refine bU ?_;obtain rfl:=sI i;have g:=g.t.t;exact cP (.inl ⟨z1,m5,rfl,rfl,(q.t S).t e4,g⟩)
  refine aU rfl ?_;have E:=jG i;exact xE (x _ _ ⟨y2.1,F,K,G,M,H,R,m4,E,rfl,(q.t S).t s,g.f1.f1,Y.mono s,Z.mono s,b0.mono s⟩)
 intro A i;refine aM ?_;have E:=jG i;exact xE (x _ _ ⟨y1.1,a4,c4,a5,c5,a6,c6,m1,E,rfl,q,g.f1.f1,r4,r5,r6⟩)
def vR(N:Nat)(p0:bI)(p1:Int):Option BK:=
 (qT N p0).bind fun y1=>(if(y1.2.1 !=p1)=true then((lJ N y1.2 9).bind fun a=>(match a with| .inl a=>some (.inr (.inl a))| .inr a=>some (.inl ()))) else(some (.inl ())):Option FE).bind fun a=>(match a with| .inl a=>(if(p1 !=5)=true then(some (IntKind.wrap .i64 (y1.1.2.1+1))) else(some y1.1.2.1):T5).bind fun o2=>some (.inr ((y1.1.1,o2,y1.1.2.2.1,y1.1.2.2.2),y1.2))| .inr z=>some z)
theorem GG{p0:bI}{p1:Int}{r:BK}(g:St m (kB bp0 (Vc p0 a1 c1 a2 c2 a3 c3) 84::kR a3 p0.2.2.2 c3 61 5::O) w)(r1:RepS C2 m a1 c1 p0.1)(r2:RepS aH m a2 c2 p0.2.2.1)(r3:RepS C3 m a3 c3 p0.2.2.2)(i:vR N p0 p1=some r):Calls prog 121 #[vP bp0 0,vI p1] w fun e w'=>(∃(z0:Tk),∃m',r= .inl z0/\e= .panicked [{v:= .iface 80 (.agg (Vd z0)),recovered:=false}]/\m.le m'/\St m' (O) w')\/(∃(y:wY),r= .inr y/\∃E G F H u x m',e= .returned (.agg (V2 y.2))/\m.le m'/\St m' (kB bp0 (Vc y.1 E G F H u x) 84::kR u y.1.2.2.2 x 61 5::O) w'/\P7 m' E G F H u x y.1):=by
 unfold vR at i;have q:=m.le_refl;refine bG func121 rfl ntmps121 ?_;refine aC (eQ 4 109 (.agg (V3 0 eB 0 0)) g fun z w1 g=>(aN (aC (aA 1 [(6,vP bp0 0)] (aK 7 i (tN (p0:=p0) g.f2.f2 r1 r2 r3) ?_)))));rintro y1 i _ w2 ⟨k,n,l,o,a,b,Y,rfl,U,g,c,d,f⟩;have q:=q.t U;refine eQ 5 109 (.agg (V3 0 eB 0 0)) g fun B w3 g=> ?_;refine cG (.agg (V2 y1.2)) g fun w4 g=> ?_;refine aN (aG (aC (bW 1 9 3 8 0 (vI y1.2.1) g.h (aF 2 [(11,vB (y1.2.1 !=p1))] ?_))));have⟨S,i,M⟩:=aZ i;refine cZ .normal (fun L' w'=>∃(R:Unit),∃p,(.inl R:FE)=S/\L'=[(0,vP bp0 0),(1,vI p1),(4,vP z 0),(5,vP B 0)]/\m.le p/\St p (kB B (V2 y1.2) 109::kB bp0 (Vc y1.1 k n l o a b) 84::kB z (V3 0 eB 0 0) 109::kR a y1.1.2.2.2 b 61 5::O) w'/\P7 p k n l o a b y1.1) ?_ ?_
 .rintro _ K ⟨R,p,rfl,rfl,q,g,c,d,f⟩;have i:=M;refine aE (aG (aD 2 [(15,vB (p1 !=5))] (cJ .normal i (fun o2 L' w'=>∃s,L'=[(4,vP z 0),(5,vP B 0)]/\m.le s/\St s (kB B (V2 y1.2) 109::kB bp0 #[vS k y1.1.1 n,vI o2,vS l y1.1.2.2.1 o,vS a y1.1.2.2.2 b] 84::kB z (V3 0 eB 0 0) 109::kR a y1.1.2.2.2 b 61 5::O) w'/\P7 s k n l o a b y1.1) ?_ ?_)))
  .rintro o2 i _ V ⟨s,rfl,q,g,c,d,f⟩;refine aE (aC (bF 23 (.agg (V2 y1.2)) g.h (cG (.agg (V2 y1.2)) g.f2 fun D g=>(aN (aL ?_)))));cases i;refine lP 4 109 [] [] g.h ?_;exact .inr ⟨_,rfl,k,n,l,o,a,b,s,rfl,q,g.t.t.f1.f1,c,d,f⟩
  intro o2 i D;refine aI i ?_ ?_
  .intro A i;refine bC (aA 3 [(16,vP bp0 0),(18,vP bp0 1)] (bF 19 (vI y1.1.2.1) g.t.h (aA 3 [(20,vI (wr (y1.1.2.1+1))),(22,vP bp0 1)] (eJ #[vS k y1.1.1 n,vI (wr (y1.1.2.1+1)),vS l y1.1.2.2.1 o,vS a y1.1.2.2.2 b] g.f1 fun V g=>(aU rfl ?_)))));cases i;exact xE (D _ _ ⟨p,rfl,q,g.f3.f3.f2.f3,c,d,f⟩)
  intro A i;refine aM ?_;cases i;exact xE (D _ _ ⟨p,rfl,q,g.f3.f3.f3.f3,c,d,f⟩)
 intro D;refine aI i ?_ ?_
 .intro A i;refine bC (bF 12 (.agg (V2 y1.2)) g.h (cY 13 i (oZ (p0:=y1.2) g) ?_));rintro y2 i _ w6 (⟨z1,m4,rfl,rfl,V,g⟩|⟨y3,rfl,Z,rfl,s,g⟩)
  .obtain rfl:=sI i;have i:=M;refine bU ?_;obtain rfl:=sI i;have g:=g.t.t.t.t;exact cP (.inl ⟨z1,m4,rfl,rfl,q.t V,g⟩)
  refine aU rfl ?_;have K:=jG i;exact xE (D _ _ ⟨(),Z,K,rfl,q.t s,g.f2.f3.f3.f3,c.mono s,d.mono s,f.mono s⟩)
 intro A i;refine aM ?_;have K:=jG i;exact xE (D _ _ ⟨(),Y,K,rfl,q,g.f2.f3.f3.f3,c,d,f⟩)
def vU(N:Nat)(p0:bI):Option BK:=
 (vR N p0 1).bind fun y1=>(match y1 with| .inl a=>some (.inl a)| .inr a=>(zI N a.2.2.1).bind fun b=>(if b=true then((lJ N a.2 9).bind fun b=>(match b with| .inl b=>some (.inr (.inl b))| .inr y5=>some (.inl ()))) else(some (.inl ())):Option FE).bind fun b=>(match b with| .inl b=>some (.inr (a.1,a.2))| .inr z=>some z))
theorem KM{p0:bI}{r:BK}(g:St m (kB bp0 (Vc p0 a1 c1 a2 c2 a3 c3) 84::kR a3 p0.2.2.2 c3 61 5::O) w)(r1:RepS C2 m a1 c1 p0.1)(r2:RepS aH m a2 c2 p0.2.2.1)(r3:RepS C3 m a3 c3 p0.2.2.2)(i:vU N p0=some r):Calls prog 84 #[vP bp0 0] w fun e w'=>(∃(z0:Tk),∃m',r= .inl z0/\e= .panicked [{v:= .iface 80 (.agg (Vd z0)),recovered:=false}]/\m.le m'/\St m' (O) w')\/(∃(k:wY),r= .inr k/\∃y B z D d f m',e= .returned (.agg (V2 k.2))/\m.le m'/\St m' (kB bp0 (Vc k.1 y B z D d f) 84::kR d k.1.2.2.2 f 61 5::O) w'/\P7 m' y B z D d f k.1):=by
 unfold vU at i;have q:=m.le_refl;refine bG func84 rfl ntmps84 ?_;refine aC (eQ 2 109 (.agg (V3 0 eB 0 0)) g fun M w1 g=>(aN (aC (aA 1 [(4,vP bp0 0)] (cY 5 i (GG (p0:=p0) g.f2.f2 r1 r2 r3) ?_)))));rintro y1 i _ w2 (⟨z1,m2,rfl,rfl,Z,g⟩|⟨a,rfl,E,G,F,H,l,n,m1,rfl,Y,g,p,s,u⟩)
 .refine bU ?_;obtain rfl:=sI i;have g:=g.t;exact cP (.inl ⟨z1,m2,rfl,rfl,q.t Z,g⟩)
 refine eQ 3 109 (.agg (V3 0 eB 0 0)) g fun R w4 g=> ?_;refine cG (.agg (V2 a.2)) g fun w5 g=> ?_;refine aN (aG (aC (bW 1 7 9 6 1 (vT a.2.2.1) g.h (aK 8 i (OE g) ?_))));rintro y3 i _ w6 ⟨m3,rfl,b,g⟩;have q:=(q.t Y).t b;refine aN ?_;have⟨V,i,S⟩:=aZ i;refine cZ .normal (fun L' w'=>∃(U:Unit),∃c,(.inl U:FE)=V/\L'=[(2,vP M 0),(3,vP R 0)]/\m.le c/\St c (kB R (V2 a.2) 109::kB bp0 (Vc a.1 E G F H l n) 84::kB M (V3 0 eB 0 0) 109::kR l a.1.2.2.2 n 61 5::O) w'/\P7 c E G F H l n a.1) ?_ ?_
 .rintro _ x ⟨U,c,rfl,rfl,q,g,p,s,u⟩;have i:=S;refine aE (aC (bF 11 (.agg (V2 a.2)) g.h (cG (.agg (V2 a.2)) g.f2 fun o g=>(aN (aL ?_)))));cases i;refine lP 2 109 [] [] g.h ?_;exact .inr ⟨_,rfl,E,G,F,H,l,n,c,rfl,q,g.t.t.f1.f1,p,s,u⟩
 intro x;refine aI i ?_ ?_
 .intro A i;refine bC (bF 9 (.agg (V2 a.2)) g.h (cY 10 i (oZ (p0:=a.2) g) ?_));rintro y4 i _ w8 (⟨z2,m6,rfl,rfl,e5,g⟩|⟨y5,rfl,m5,rfl,o,g⟩)
  .obtain rfl:=sI i;have i:=S;refine bU ?_;obtain rfl:=sI i;have g:=g.t.t.t.t;exact cP (.inl ⟨z2,m6,rfl,rfl,q.t e5,g⟩)
  refine aU rfl ?_;have K:=jG i;exact xE (x _ _ ⟨(),m5,K,rfl,q.t o,g.f2.f3.f3.f3,(p.mono b).mono o,(s.mono b).mono o,(u.mono b).mono o⟩)
 intro A i;refine aM ?_;have K:=jG i;exact xE (x _ _ ⟨(),m3,K,rfl,q,g.f2.f3.f3.f3,p.mono b,s.mono b,u.mono b⟩)
def oY(N:Nat)(p0:bI)(p1:BA):Option JU:=
 (uL N p0 4 p1).bind fun y1=>(if(!y1.2)=true then((qT N y1.1).bind fun a=>(lJ N a.2 9).bind fun b=>(match b with| .inl b=>some (.inr (.inl b))| .inr b=>some (.inl a.1))) else(some (.inl y1.1)):Option T1r).bind fun a=>(match a with| .inl a=>some (.inr (a.1,IntKind.wrap .i64 (a.2.1+1),a.2.2.1,a.2.2.2))| .inr z=>some z)
theorem sO{p0:bI}{p1:BA}{r:JU}(g:St m (kB bp0 (Vc p0 a1 c1 a2 c2 a3 c3) 84::kR a3 p0.2.2.2 c3 61 5::O) w)(r1:RepS C2 m a1 c1 p0.1)(r2:RepS aH m a2 c2 p0.2.2.1)(r3:RepS C3 m a3 c3 p0.2.2.2)(i:oY N p0 p1=some r):Calls prog 85 #[vP bp0 0,vT p1] w fun e w'=>(∃(z0:Tk),∃m',r= .inl z0/\e= .panicked [{v:= .iface 80 (.agg (Vd z0)),recovered:=false}]/\m.le m'/\St m' (O) w')\/(∃(u:bI),r= .inr u/\∃y B z D o p m',e= .returned (.tuple #[])/\m.le m'/\St m' (kB bp0 (Vc u y B z D o p) 84::kR o u.2.2.2 p 61 5::O) w'/\P7 m' y B z D o p u):=by
 unfold oY at i;have q:=m.le_refl;refine bG func85 rfl ntmps85 ?_;refine aG (aS 2 [(4,vP bp0 0),(5,vT p1)] (aK 6 i (CE (p0:=p0) g.f1.f1 r1 r2 r3) ?_));rintro y1 i _ w1 ⟨a4,c4,a5,c5,a6,c6,m1,rfl,e1,g,r4,r5,r6⟩;have q:=q.t e1;refine aF 1 [(7,vB (!y1.2))] ?_;have⟨V,i,U⟩:=aZ i;refine cZ .normal (fun L' w'=>∃(a:bI),∃d k f l b c n,(.inl a:T1r)=V/\L'=[(0,vP bp0 0)]/\m.le n/\St n (kB bp0 (Vc a d k f l b c) 84::kR b a.2.2.2 c 61 5::O) w'/\P7 n d k f l b c a) ?_ ?_
 .rintro _ F ⟨a,d,k,f,l,b,c,n,rfl,rfl,q,g,s,x,E⟩;have i:=U;refine aE (bC (aA 3 [(11,vP bp0 0),(13,vP bp0 1)] (bF 14 (vI a.2.1) g.h (aA 3 [(15,vI (wr (a.2.1+1))),(17,vP bp0 1)] (eJ #[vS d a.1 k,vI (wr (a.2.1+1)),vS f a.2.2.1 l,vS b a.2.2.2 c] g fun G g=>(aU rfl ?_))))));cases i;exact pR [] [] rfl ResAll.nil (.inr ⟨_,rfl,d,k,f,l,b,c,n,rfl,q,g.f1.f1,s,x,E⟩)
 intro x;refine aI i ?_ ?_
 .intro A i;refine bC (aA 1 [(8,vP bp0 0)] (aK 9 i (tN (p0:=y1.1) g.f1.f1 r4 r5 r6) ?_));rintro y2 i _ w3 ⟨F,K,G,M,H,R,m3,rfl,S,g,Y,Z,b0⟩;refine cY 10 i (oZ (p0:=y2.2) g) ?_;rintro y3 i _ w4 (⟨z1,m5,rfl,rfl,e4,g⟩|⟨y4,rfl,m4,rfl,s,g⟩)
  .obtain rfl:=sI i;have i:=U;refine bU ?_;obtain rfl:=sI i;have g:=g.t.t;exact cP (.inl ⟨z1,m5,rfl,rfl,(q.t S).t e4,g⟩)
  refine aU rfl ?_;have E:=jG i;exact xE (x _ _ ⟨y2.1,F,K,G,M,H,R,m4,E,rfl,(q.t S).t s,g.f1.f1,Y.mono s,Z.mono s,b0.mono s⟩)
 intro A i;refine aM ?_;have E:=jG i;exact xE (x _ _ ⟨y1.1,a4,c4,a5,c5,a6,c6,m1,E,rfl,q,g.f1.f1,r4,r5,r6⟩)
def vQ(N:Nat)(p0:bI):Option BK:=
 (vR N p0 3).bind fun y1=>(match y1 with| .inl a=>some (.inl a)| .inr a=>(vZ N a.2.2.1).bind fun b=>(if(!b)=true then((lJ N a.2 9).bind fun b=>(match b with| .inl b=>some (.inr (.inl b))| .inr y5=>some (.inl ()))) else(some (.inl ())):Option FE).bind fun b=>(match b with| .inl b=>some (.inr (a.1,a.2))| .inr z=>some z))
theorem KL{p0:bI}{r:BK}(g:St m (kB bp0 (Vc p0 a1 c1 a2 c2 a3 c3) 84::kR a3 p0.2.2.2 c3 61 5::O) w)(r1:RepS C2 m a1 c1 p0.1)(r2:RepS aH m a2 c2 p0.2.2.1)(r3:RepS C3 m a3 c3 p0.2.2.2)(i:vQ N p0=some r):Calls prog 124 #[vP bp0 0] w fun e w'=>(∃(z0:Tk),∃m',r= .inl z0/\e= .panicked [{v:= .iface 80 (.agg (Vd z0)),recovered:=false}]/\m.le m'/\St m' (O) w')\/(∃(k:wY),r= .inr k/\∃y B z D d f m',e= .returned (.agg (V2 k.2))/\m.le m'/\St m' (kB bp0 (Vc k.1 y B z D d f) 84::kR d k.1.2.2.2 f 61 5::O) w'/\P7 m' y B z D d f k.1):=by
 unfold vQ at i;have q:=m.le_refl;refine bG func124 rfl ntmps124 ?_;refine aC (eQ 2 109 (.agg (V3 0 eB 0 0)) g fun M w1 g=>(aN (aC (aA 1 [(4,vP bp0 0)] (cY 5 i (GG (p0:=p0) g.f2.f2 r1 r2 r3) ?_)))));rintro y1 i _ w2 (⟨z1,m2,rfl,rfl,Z,g⟩|⟨a,rfl,E,G,F,H,l,n,m1,rfl,Y,g,p,s,u⟩)
 .refine bU ?_;obtain rfl:=sI i;have g:=g.t;exact cP (.inl ⟨z1,m2,rfl,rfl,q.t Z,g⟩)
 refine eQ 3 109 (.agg (V3 0 eB 0 0)) g fun R w4 g=> ?_;refine cG (.agg (V2 a.2)) g fun w5 g=> ?_;refine aN (aG (aC (bW 1 7 9 6 1 (vT a.2.2.1) g.h (aK 8 i (KX g) ?_))));rintro y3 i _ w6 ⟨m3,rfl,b,g⟩;have q:=(q.t Y).t b;refine aF 1 [(9,vB (!y3))] ?_;have⟨V,i,S⟩:=aZ i;refine cZ .normal (fun L' w'=>∃(U:Unit),∃c,(.inl U:FE)=V/\L'=[(2,vP M 0),(3,vP R 0)]/\m.le c/\St c (kB R (V2 a.2) 109::kB bp0 (Vc a.1 E G F H l n) 84::kB M (V3 0 eB 0 0) 109::kR l a.1.2.2.2 n 61 5::O) w'/\P7 c E G F H l n a.1) ?_ ?_
 .rintro _ x ⟨U,c,rfl,rfl,q,g,p,s,u⟩;have i:=S;refine aE (aC (bF 12 (.agg (V2 a.2)) g.h (cG (.agg (V2 a.2)) g.f2 fun o g=>(aN (aL ?_)))));cases i;refine lP 2 109 [] [] g.h ?_;exact .inr ⟨_,rfl,E,G,F,H,l,n,c,rfl,q,g.t.t.f1.f1,p,s,u⟩
 intro x;refine aI i ?_ ?_
 .intro A i;refine bC (bF 10 (.agg (V2 a.2)) g.h (cY 11 i (oZ (p0:=a.2) g) ?_));rintro y4 i _ w8 (⟨z2,m6,rfl,rfl,e5,g⟩|⟨y5,rfl,m5,rfl,o,g⟩)
  .obtain rfl:=sI i;have i:=S;refine bU ?_;obtain rfl:=sI i;have g:=g.t.t.t.t;exact cP (.inl ⟨z2,m6,rfl,rfl,q.t e5,g⟩)
  refine aU rfl ?_;have K:=jG i;exact xE (x _ _ ⟨(),m5,K,rfl,q.t o,g.f2.f3.f3.f3,(p.mono b).mono o,(s.mono b).mono o,(u.mono b).mono o⟩)
 intro A i;refine aM ?_;have K:=jG i;exact xE (x _ _ ⟨(),m3,K,rfl,q,g.f2.f3.f3.f3,p.mono b,s.mono b,u.mono b⟩)
def uK(N:Nat)(p0:bI)(p1:BA):Option (bI×Bool):=
 (uL N p0 4 p1).bind fun y1=>if(!y1.2)=true then(some (y1.1,false)) else(some ((y1.1.1,IntKind.wrap .i64 (y1.1.2.1+1),y1.1.2.2.1,y1.1.2.2.2),true))
theorem BT{p0:bI}{p1:BA}{r:bI×Bool}(g:St m (kB bp0 (Vc p0 a1 c1 a2 c2 a3 c3) 84::kR a3 p0.2.2.2 c3 61 5::O) w)(D:RepS C2 m a1 c1 p0.1)(E:RepS aH m a2 c2 p0.2.2.1)(F:RepS C3 m a3 c3 p0.2.2.2)(i:uK N p0 p1=some r):Calls prog 150 #[vP bp0 0,vT p1] w fun e w'=>∃c f d k a b m',e= .returned (vB r.2)/\m.le m'/\St m' (kB bp0 (Vc r.1 c f d k a b) 84::kR a r.1.2.2.2 b 61 5::O) w'/\P7 m' c f d k a b r.1:=by
 unfold uK at i;have q:=m.le_refl;refine bG func150 rfl ntmps150 ?_;refine aD 1 [] (aG ?_);refine aS 2 [(5,vP bp0 0),(6,vT p1)] ?_;refine aK 7 i (CE (p0:=p0) g.f1.f1 D E F) ?_;rintro y1 i _ G ⟨l,p,n,s,o,u,x,rfl,v,g,y,z,B⟩;refine aF 1 [(8,vB (!y1.2))] (aI i ?_ ?_)
 .intro A i;refine aD 1 [(4,vB false)] (aL ?_);refine aQ ?_;cases i;exact aO [4] [vB false] ⟨l,p,n,s,o,u,x,rfl,q.t v,g.f1.f1,y,z,B⟩
 intro A i;refine aM (aE (aS 3 [(9,vP bp0 0),(11,vP bp0 1)] (bF 12 (vI y1.1.2.1) g.h (aA 3 [(13,vI (wr (y1.1.2.1+1))),(15,vP bp0 1)] (eJ #[vS l y1.1.1 p,vI (wr (y1.1.2.1+1)),vS n y1.1.2.2.1 s,vS o y1.1.2.2.2 u] g fun H g=>(aN (aC (aF 1 [(4,vB true)] (aL ?_)))))))));cases i;exact aO [4] [vB true] ⟨l,p,n,s,o,u,x,rfl,q.t v,g.f1.f1,y,z,B⟩
end
section
open Go Go.Dc Go.Proofs.Tryz
set_option maxHeartbeats 4000000
set_option maxRecDepth 100000
variable {N bp0 c1 c2 c3 c4:Nat} {m:Mem} {O:List Piece} {w:World} {a1 a2 a3 a4:Option Addr}
def FL(N:Nat)(a:vG):Option (vG⊕vG⊕T1v):=
 (vU N a.2).bind fun b=>(match b with| .inl b=>some (.inr (.inr (.inl b)))| .inr y5=>(if((List.length a.1:Int)==8)=true then((lJ N y5.2 2).bind fun b=>(match b with| .inl b=>some (.inr (.inr (.inr (.inl b))))| .inr b=>some (.inl ()))) else(some (.inl ())):Option T1w).bind fun b=>(match b with| .inl o2=>(uF N a.1 y5.2.2.1).bind fun b=>(if b=true then((lJ N y5.2 10).bind fun b=>(match b with| .inl b=>some (.inr (.inr (.inr (.inl b))))| .inr b=>some (.inl ()))) else(some (.inl ())):Option T1w).bind fun b=>(match b with| .inl b=>(cU 16 a.1 ([y5.2.2.1])).bind fun b=>(uK N y5.1 (⟨#[44]⟩:BA)).bind fun a=>if(!a.2)=true then(some (.inr (.inl (b,a.1.1,a.1.2.1,a.1.2.2.1,a.1.2.2.2)))) else(some (.inl (b,a.1.1,a.1.2.1,a.1.2.2.1,a.1.2.2.2)))| .inr z=>some z)| .inr z=>some z))
def BS(N:Nat)(p0:bI):Option T1v:=
 (oY N p0 (⟨#[40]⟩:BA)).bind fun y1=>(match y1 with| .inl a=>some (.inl a)| .inr a=>(uK N a (⟨#[41]⟩:BA)).bind fun a=>if a.2=true then(some (.inr (a.1,([]:T9)))) else((aJ (FL N) N (([]:T9),a.1.1,a.1.2.1,a.1.2.2.1,a.1.2.2.2)).bind fun a=>(match a with| .inl a=>(oY N a.2 (⟨#[41]⟩:BA)).bind fun b=>(match b with| .inl b=>some (.inl b)| .inr b=>some (.inr (b,a.1)))| .inr (z)=>some z)))
theorem qFr{p0:bI}{r:T1v}(g:St m (kB bp0 (Vc p0 a1 c1 a2 c2 a3 c3) 84::kR a3 p0.2.2.2 c3 61 5::O) w)(r1:RepS C2 m a1 c1 p0.1)(r2:RepS aH m a2 c2 p0.2.2.1)(r3:RepS C3 m a3 c3 p0.2.2.2)(i:BS N p0=some r):Calls prog 127 #[vP bp0 0] w fun e w'=>(∃(z0:Tk),∃m',r= .inl z0/\e= .panicked [{v:= .iface 80 (.agg (Vd z0)),recovered:=false}]/\m.le m'/\St m' (O) w')\/(∃(D:bI×T9),r= .inr D/\∃g3 g5 g4 g6 d4 d6 d5 d7 m',e= .returned (vS d5 D.2 d7)/\m.le m'/\St m' (kR d5 D.2 d7 9 1::kB bp0 (Vc D.1 g3 g5 g4 g6 d4 d6) 84::kR d4 D.1.2.2.2 d6 61 5::O) w'/\RepS C2 m' g3 g5 D.1.1/\RepS aH m' g4 g6 D.1.2.2.1/\RepS C3 m' d4 d6 D.1.2.2.2/\RepS aH m' d5 d7 D.2):=by
 unfold BS at i;have q:=m.le_refl;refine bG func127 rfl ntmps127 ?_;refine aD 1 [] (aC ?_);refine aF 1 [(3,v1)] (aC (aA 1 [(5,vP bp0 0)] (cY 6 i (sO (p0:=p0) g.f1.f1 r1 r2 r3) ?_)));rintro y1 i _ w1 (⟨z1,m2,rfl,rfl,e2,g⟩|⟨y2,rfl,a4,c4,a5,c5,a6,c6,m1,rfl,e1,g,r4,r5,r6⟩)
 .refine bU ?_;obtain rfl:=sI i;exact cP (.inl ⟨z1,m2,rfl,rfl,q.t e2,g⟩)
 refine aN (aG (aS 1 [(7,vP bp0 0)] (aK 8 i (BT (p0:=y2) g.f1.f1 r4 r5 r6) ?_)));rintro y3 i _ w3 ⟨a7,c7,a8,c8,a9,c9,m3,rfl,e3,g,r7,r8,r9⟩;refine aN (aI i ?_ ?_)
 .intro A i;refine aD 1 [(2,v1)] (aL ?_);refine aQ ?_;cases i;refine aO [2] [v1] ?_;have g:=(g.nilroom 9 1).front2.front2.front2;exact .inr ⟨_,rfl,a7,c7,a8,c8,a9,c9,none,0,m3,rfl,(q.t e1).t e3,g,r7,r8,r9,(RepS.nil _ _)⟩
 intro A i;refine aM (aE (aG (bD ?_)));have⟨d3,i,j1⟩:=aZ i;refine cZ (.exit 0) (fun L' w'=>∃(f:vG),∃l n b3 b8 b4 b9 K U G,(.inl f)=d3/\L'=[(0,vP bp0 0),(3,vS l f.1 n)]/\m.le G/\St G (kB bp0 (Vc f.2 b3 b8 b4 b9 K U) 84::kR l f.1 n 9 1::kR K f.2.2.2.2 U 61 5::O) w'/\RepS aH G l n f.1/\RepS C2 G b3 b8 f.2.1/\RepS aH G b4 b9 f.2.2.2.1/\RepS C3 G K U f.2.2.2.2) ?_ ?_
 .rintro _ Z ⟨f,l,n,b3,b8,b4,b9,K,U,G,rfl,rfl,q,g,y,z,B,E⟩;have i:=j1;refine dW (aE (aS 1 [(30,vP bp0 0)] (cY 31 i (sO (p0:=f.2) g.f2.f1 z B E) ?_)));rintro V i _ S (⟨R,x,rfl,rfl,s,g⟩|⟨Y,rfl,b,k,c,o,d,p,u,rfl,a,g,F,H,M⟩)
  .refine bU ?_;obtain rfl:=sI i;have g:=g.t;exact cP (.inl ⟨R,x,rfl,rfl,q.t s,g⟩)
  refine aN (aC (aF 2 [(2,vS l f.1 n)] (aL ?_)));cases i;exact aO [2] [vS l f.1 n] (.inr ⟨_,rfl,b,k,c,o,d,p,l,n,u,rfl,q.t a,g.f1.f1.f2,F,H,M,y.mono a⟩)
 intro d8;have g:=(g.nilroom 9 1).front2.front1.front2;refine cX _ kr (cW (fun k1 L' w'=>∃(a:vG),∃b c b5 d0 b6 d1 M V H,aJ (FL N) k1 a=some d3/\L'=[(0,vP bp0 0),(3,vS b a.1 c)]/\m.le H/\St H (kB bp0 (Vc a.2 b5 d0 b6 d1 M V) 84::kR b a.1 c 9 1::kR M a.2.2.2.2 V 61 5::O) w'/\RepS aH H b c a.1/\RepS C2 H b5 d0 a.2.1/\RepS aH H b6 d1 a.2.2.2.1/\RepS C3 H M V a.2.2.2.2) N ⟨(([]:T9),y3.1.1,y3.1.2.1,y3.1.2.2.1,y3.1.2.2.2),none,0,a7,c7,a8,c8,a9,c9,m3,i,rfl,(q.t e1).t e3,g,(RepS.nil _ _),r7,r8,r9⟩ ?_);rintro k1 _ w5 ⟨a,b,c,b5,d0,b6,d1,M,V,H,hL,rfl,q,g,k,h1,h2,h3⟩;rcases k1 with _|k1
 .exact dV hL
 obtain⟨h7,i,g7,B⟩:=dX hL;clear hL;unfold FL at i;refine bD (aS 1 [(9,vP bp0 0)] (cY 10 i (KM (p0:=a.2) g.f2.f1 h1 h2 h3) ?_));rintro y4 i _ w6 (⟨z2,m7,rfl,rfl,e5,g⟩|⟨y5,rfl,R,Y,S,Z,u,x,m6,rfl,e4,g,o,p,s⟩)
 .refine bU ?_;refine iV ?_;have ho:=B _ (sI i);subst ho;have i:=j1;refine bU ?_;refine iV ?_;refine bU ?_;obtain rfl:=sI i;have g:=g.t;exact cP (.inl ⟨z2,m7,rfl,rfl,q.t e5,g⟩)
 have q:=q.t e4;refine eQ 4 109 (.agg (V3 0 eB 0 0)) g fun b1 w8 g=> ?_;refine cG (.agg (V2 y5.2)) g fun w9 g=> ?_;refine aN (aG (aD 3 [(13,vB ((a.1.length:Int)==8))] ?_));have⟨g9,i,j2⟩:=aZ i;refine cZ .normal (fun L' w'=>∃(o2:Unit),∃m8,(.inl o2:T1w)=g9/\L'=[(0,vP bp0 0),(3,vS b a.1 c),(4,vP b1 0)]/\m.le m8/\St m8 (kB b1 (V2 y5.2) 109::kB bp0 (Vc y5.1 R Y S Z u x) 84::kR u y5.1.2.2.2 x 61 5::kR b a.1 c 9 1::O) w'/\RepS aH m8 b c a.1/\P7 m8 R Y S Z u x y5.1) ?_ ?_
 .rintro _ h8 ⟨o2,m8,rfl,rfl,q,g,k,o,p,s⟩;have i:=j2;refine aE (aG (aS 2 [(16,vS b a.1 c),(17,vP b1 1)] (bF 18 (vT y5.2.2.1) g.h (aK 19 i (KB g k) ?_))));rintro y8 i _ h9 ⟨g8,rfl,z,g⟩;have q:=q.t z;refine aN ?_;have⟨h0,i,j3⟩:=aZ i;refine cZ .normal (fun L' w'=>∃(o3:Unit),∃F,(.inl o3:T1w)=h0/\L'=[(0,vP bp0 0),(3,vS b a.1 c),(4,vP b1 0)]/\m.le F/\St F (kB b1 (V2 y5.2) 109::kB bp0 (Vc y5.1 R Y S Z u x) 84::kR u y5.1.2.2.2 x 61 5::kR b a.1 c 9 1::O) w'/\RepS aH F b c a.1/\P7 F R Y S Z u x y5.1) ?_ ?_
  .rintro _ k0 ⟨o3,F,rfl,rfl,q,g,k,o,p,s⟩;have i:=j3;refine aE (aS 2 [(22,vS b a.1 c),(23,vP b1 1)] (bF 24 (vT y5.2.2.1) g.h (iN 25 9 1 aH [y5.2.2.1] g fun b2 h5 k2 y g h4=>(lR 26 26 26 9 16 22 25 g.f4 (.inl kr) (k.mono y) h4.src i fun l1 i b7 d2 h6 k3 E g f9=>(aA 1 [(3,vS b7 l1 d2)] (aU rfl ?_))))));have g:=g.f1.t;refine aE (aS 1 [(27,vP bp0 0)] (aK 28 i (BT (p0:=y5.1) g.f3.f3 ((o.mono y).mono E) ((p.mono y).mono E) ((s.mono y).mono E)) ?_));rintro d i _ k4 ⟨d9,f5,e0,f6,f0,f7,f8,rfl,b0,g,g0,g1,g2⟩;refine aF 1 [(29,vB (!d.2))] (aI i ?_ ?_)
   .intro A i;refine cQ (xM rfl ?_);have ho:=B _ (sI i);have g:=g.f3.t.f1.f2.f2;refine bK ?_;exact xE (d8 _ _ ⟨(l1,d.1.1,d.1.2.1,d.1.2.2.1,d.1.2.2.2),b7,d2,d9,f5,e0,f6,f0,f7,f8,ho,rfl,((q.t y).t E).t b0,g,f9.mono b0,g0,g1,g2⟩)
   intro A i;refine aM (bQ ?_);have hL:=g7 _ (sI i);exact xE (cT ⟨(l1,d.1.1,d.1.2.1,d.1.2.2.1,d.1.2.2.2),b7,d2,d9,f5,e0,f6,f0,f7,f8,hL,rfl,((q.t y).t E).t b0,g.f3.t.f1.f2.f2,f9.mono b0,g0,g1,g2⟩)
  intro y;refine aI i ?_ ?_
  .intro A i;refine bC (bF 20 (.agg (V2 y5.2)) g.h (cY 21 i (oZ (p0:=y5.2) g) ?_));rintro y9 i _ d9 (⟨z4,d2,rfl,rfl,b0,g⟩|⟨e0,rfl,b7,rfl,d,g⟩)
   .obtain rfl:=sI i;have i:=j3;refine bU ?_;refine iV ?_;have ho:=B _ (sI i);subst ho;have i:=j1;refine bU ?_;refine iV ?_;refine bU ?_;obtain rfl:=sI i;have g:=g.t.t.t.t;exact cP (.inl ⟨z4,d2,rfl,rfl,q.t b0,g⟩)
   refine aU rfl ?_;have E:=jG i;exact xE (y _ _ ⟨(),b7,E,rfl,q.t d,g.f3.f3.f3.f3,(k.mono z).mono d,(o.mono z).mono d,(p.mono z).mono d,(s.mono z).mono d⟩)
  intro A i;refine aM ?_;have E:=jG i;exact xE (y _ _ ⟨(),g8,E,rfl,q,g.f3.f3.f3.f3,k.mono z,o.mono z,p.mono z,s.mono z⟩)
 intro y;refine aI i ?_ ?_
 .intro A i;refine bC (bF 14 (.agg (V2 y5.2)) g.h (cY 15 i (oZ (p0:=y5.2) g) ?_));rintro y6 i _ b0 (⟨z3,E,rfl,rfl,F,g⟩|⟨y7,rfl,m9,rfl,d,g⟩)
  .obtain rfl:=sI i;have i:=j2;refine bU ?_;refine iV ?_;have ho:=B _ (sI i);subst ho;have i:=j1;refine bU ?_;refine iV ?_;refine bU ?_;obtain rfl:=sI i;have g:=g.t.t.t.t;exact cP (.inl ⟨z3,E,rfl,rfl,q.t F,g⟩)
  refine aU rfl ?_;have z:=jG i;exact xE (y _ _ ⟨(),m9,z,rfl,q.t d,g.f3.f3.f3.f3,(k.mono e4).mono d,o.mono d,p.mono d,s.mono d⟩)
 intro A i;refine aM ?_;have z:=jG i;exact xE (y _ _ ⟨(),m6,z,rfl,q,g.f3.f3.f3.f3,k.mono e4,o,p,s⟩)
def sP(N:Nat)(p0:bI)(p1:Tl)(p2:Tq):eP:=
 (if((List.length p0.2.2.2:Int)==256)=true then((lJ N p1 2).bind fun y1=>(match y1 with| .inl a=>some (.inr (.inl a))| .inr a=>some (.inl ()))) else(some (.inl ())):Option yO).bind fun a=>(match a with| .inl a=>(cU 64 p0.2.2.2 ([p2])).bind fun a=>some (.inr ((p0.1,p0.2.1,p0.2.2.1,a),IntKind.wrap .i64 ((List.length a:Int)-1)))| .inr z=>some z)
theorem yX{p0:bI}{p1:Tl}{p2:Tq}{r:oU}(g:St m (kB bp0 (Vc p0 a1 c1 a2 c2 a3 c3) 84::kR a3 p0.2.2.2 c3 61 5::O) w)(z:RepS C2 m a1 c1 p0.1)(B:RepS aH m a2 c2 p0.2.2.1)(D:RepS C3 m a3 c3 p0.2.2.2)(E:RepS (aT .i64) m a4 c4 p2.2.2.2.2)(i:sP N p0 p1 p2=some r):Calls prog 152 #[vP bp0 0,.agg (V2 p1),.agg (V8 p2 a4 c4)] w fun e w'=>(∃(z0:Tk),∃m',r= .inl z0/\e= .panicked [{v:= .iface 80 (.agg (Vd z0)),recovered:=false}]/\m.le m'/\St m' (O) w')\/(∃(s:pI),r= .inr s/\∃F H G K o p m',e= .returned (vI s.2)/\m.le m'/\St m' (kB bp0 (Vc s.1 F H G K o p) 84::kR o s.1.2.2.2 p 61 5::O) w'/\P7 m' F H G K o p s.1):=by
 unfold sP at i;have q:=m.le_refl;refine bG func152 rfl ntmps152 ?_;refine aC (mJ 4 109 (.agg (V2 p1)) g fun b1 m1 w1 f g R=>(mJ 5 61 (.agg (V8 p2 a4 c4)) g fun M Y w2 b g k=> ?_));have q:=(q.t f).t b;refine aF 1 [] (aG (aC (bW 3 10 41 9 3 (vS a3 p0.2.2.2 c3) g.h (aF 2 [(12,vB ((p0.2.2.2.length:Int)==256))] ?_))));have⟨V,i,S⟩:=aZ i;refine cZ .normal (fun L' w'=>∃(U:Unit),∃c,(.inl U:yO)=V/\L'=[(0,vP bp0 0),(5,vP M 0)]/\m.le c/\St c (kB bp0 (Vc p0 a1 c1 a2 c2 a3 c3) 84::kR a3 p0.2.2.2 c3 61 5::O) w'/\MRow c M 0 (V9 p2 a4 c4)/\RepS (aT .i64) c a4 c4 p2.2.2.2.2/\P7 c a1 c1 a2 c2 a3 c3 p0) ?_ ?_
 .rintro _ w3 ⟨U,c,rfl,rfl,q,g,k,E,z,B,D⟩;have i:=S;refine aE (aG (iF [(11,fun w'=>Inv c w'/\True),(10,fun w'=>Inv c w'/\Piece.holds c w' (kB bp0 (Vc p0 a1 c1 a2 c2 a3 c3) 84)/\True)] kr g fun w6 _ g=> ?_));have a:=c.le_refl;refine⟨⟨iA g a,⟨.inr ⟨Inv.anti g.inv a,Piece.holds_anti g.h a,trivial⟩,trivial⟩⟩,?_⟩;refine aR 0 15 (vP bp0 0) (.head _) (aR 1 16 (vP bp0 0) (.head _) (aR 2 17 (vP bp0 0) (.head _) (aR 3 18 (vP bp0 3) (.head _) (eR 41 18 4 19 3 (vS a3 p0.2.2.2 c3) (.tail _ (.head _)) (fun _ h=>h.2.1) (lU 61 5 5 20 0 (.agg (V8 p2 a4 c4)) (.head _) (fun _ h=>h.1) k (cH 6 kr (rH (d:=21) (t:=41) (e:=61) (len:=1) (parts:= #[(0,(.tmp 20))]) C3 (xs:=[p2]) (V9 p2 a4 c4) kr rfl (fun _=>rG kr _) rfl rfl g ⟨(V9 p2 a4 c4),_,rfl,⟨_,_,rfl,rfl,⟨_,_,rfl,rfl,⟨_,_,rfl,rfl,⟨_,_,rfl,rfl,(xY E)⟩⟩⟩⟩,rfl⟩ fun b3 m6 w7 l g r5=> ?_)))))));have a:=Mem.le_trans a l;refine⟨⟨iA g a,⟨.inr ⟨Inv.anti g.inv a,Piece.holds_anti g.t.h a,trivial⟩,trivial⟩⟩,?_⟩;refine cH 7 kr (DT 22 41 41 61 64 19 21 g.f2 (.inl kr) (D.mono l) r5.src i fun n i u x Z w8 y g r6=> ?_);have a:=Mem.le_trans a y;refine⟨⟨iA g a,⟨.inr ⟨Inv.anti g.inv a,Piece.holds_anti g.t.t.h a,trivial⟩,trivial⟩⟩,?_⟩
  refine aR 8 23 (vP bp0 0) (.head _) (aR 9 24 (vP bp0 3) (.head _) (cH 10 kr (IM 41 24 22 3 (vS u n x) #[vS a1 p0.1 c1,vI p0.2.1,vS a2 p0.2.2.1 c2,vS u n x] g.f2 fun w9 g=>(⟨⟨iA g a,⟨.inl rfl,trivial⟩⟩,?_⟩))));refine eW kr ?_;have g:=g.f2.t;refine aE (aC (bW 3 28 41 27 3 (vS u n x) g.h (aF 3 [(6,vI (wr ((n.length:Int)-1)))] (aL ?_))));obtain rfl:=sI i;exact aO [6] [vI (wr ((n.length:Int)-1))] (.inr ⟨_,rfl,a1,c1,a2,c2,u,x,Z,rfl,(q.t l).t y,g.f1.f1,(z.mono l).mono y,(B.mono l).mono y,r6⟩)
 intro l;refine aI i ?_ ?_
 .intro A i;refine bC (cI 13 (.agg (V2 p1)) g (R.mono b) (cY 14 i (oZ (p0:=p1) g) ?_));rintro y1 i _ w4 (⟨Z,y,rfl,rfl,u,g⟩|⟨y2,rfl,x,rfl,a,g⟩)
  .obtain rfl:=sI i;have i:=S;refine bU ?_;obtain rfl:=sI i;have g:=g.t.t;exact cP (.inl ⟨Z,y,rfl,rfl,q.t u,g⟩)
  refine aU rfl ?_;have n:=jG i;exact xE (l _ _ ⟨(),x,n,rfl,q.t a,g.f1.f1,k.mono a,((E.mono f).mono b).mono a,((z.mono f).mono b).mono a,((B.mono f).mono b).mono a,((D.mono f).mono b).mono a⟩)
 intro A i;refine aM ?_;have n:=jG i;exact xE (l _ _ ⟨(),Y,n,rfl,q,g.f1.f1,k,(E.mono f).mono b,(z.mono f).mono b,(B.mono f).mono b,(D.mono f).mono b⟩)
def wZ(N:Nat)(p1:Int)(y1:wY)(a:Option wW)(b:Unit):Option (Unit⊕Unit⊕pI):=
 (match a with|none=>some (.inr (.inl ()))|some a=>(if(y1.2.1==4)=true then(if(y1.2.2.1.toList==a.2.toList)=true then((zK N a.1).bind fun b=>some (b==p1)) else(some false)) else(some false):Te).bind fun o2=>if o2=true then(some (.inr (.inr ((y1.1,a.1))))) else(some (.inl ())))
instance dec_source_parser_operator_L1:DecidableEq (Unit⊕pI):=(@instDecidableEqSum _ _ inferInstance (@instDecidableEqProd _ _ (@instDecidableEqProd _ _ (@instDecidableEqList _ (@instDecidableEqProd _ _ inferInstance (@instDecidableEqProd _ _ inferInstance (@instDecidableEqProd _ _ inferInstance inferInstance)))) (@instDecidableEqProd _ _ inferInstance (@instDecidableEqProd _ _ (@instDecidableEqList _ inferInstance) (@instDecidableEqList _ (@instDecidableEqProd _ _ inferInstance (@instDecidableEqProd _ _ inferInstance (@instDecidableEqProd _ _ inferInstance (@instDecidableEqProd _ _ inferInstance (@instDecidableEqList _ inferInstance))))))))) inferInstance))
def GF(N:Nat)(p0:bI)(p1:Int):Option pI:=
 (qT N p0).bind fun y1=>(CZ N).bind fun a=>(isQ a).bind fun b=>(wF (wZ N p1 y1) (Option.getD a []) ()).bind fun a=>(match a with| .inl a=>some (y1.1,0)| .inr (z)=>some z)
theorem qFy{p0:bI}{p1:Int}{r:pI}(g:St m (kB bp0 (Vc p0 a1 c1 a2 c2 a3 c3) 84::kR a3 p0.2.2.2 c3 61 5::O) w)(r1:RepS C2 m a1 c1 p0.1)(r2:RepS aH m a2 c2 p0.2.2.1)(r3:RepS C3 m a3 c3 p0.2.2.2)(i:GF N p0 p1=some r):Calls prog 161 #[vP bp0 0,vI p1] w fun e w'=>∃c7 c9 c8 d0 a9 b0 m',e= .returned (vI r.2)/\m.le m'/\St m' (kB bp0 (Vc r.1 c7 c9 c8 d0 a9 b0) 84::kR a9 r.1.2.2.2 b0 61 5::O) w'/\P7 m' c7 c9 c8 d0 a9 b0 r.1:=by
 unfold GF at i;have q:=m.le_refl;refine bG func161 rfl ntmps161 ?_;refine aD 1 [] (aC ?_);refine aA 1 [(8,vP bp0 0)] (aK 9 i (tN (p0:=p0) g.f1.f1 r1 r2 r3) ?_);rintro y1 i _ w1 ⟨E,G,F,H,l,o,m1,rfl,e1,g,s,u,v⟩;refine eQ 5 109 (.agg (V3 0 eB 0 0)) g fun Z w2 g=> ?_;refine cG (.agg (V2 y1.2)) g fun w3 g=> ?_;refine aN (aG (aC (aK 10 i (UX g) ?_)));rintro y2 i _ w4 ⟨q1,b,a,m2,rfl,e2,g,k⟩;have⟨u1,d3,i⟩:=aZ i;obtain⟨y,rfl⟩:=MapQ.at k d3;refine bA rfl (ZF (ek:=(fun n:Int=>Value.int .i64 n)) (c:=aH) (agg:=false) (d:=11) (t:=146) (kt:=3) (et:=9) (x:=(.tmp 10)) kr rfl (ev (.map (some y))) kr g k fun R w5 g d2=>(aN (bD ?_)));have⟨a8,i,j2⟩:=aZ i;refine cZ (.exit 0) (fun L' w'=>∃(o1:Unit) (b6:Array Nat) (b4:nE),∃B,(.inl o1)=a8/\L'=[]/\m.le B/\St B (kB Z (V2 y1.2) 109::kB bp0 (Vc y1.1 E G F H l o) 84::eH (some y) b a::rL R (some y) a b6::kR l y1.1.2.2.2 o 61 5::O) w'/\RepS C2 B E G y1.1.1/\RepS aH B F H y1.1.2.2.1/\RepS C3 B l o y1.1.2.2.2/\MapQ (fun n:Int=>Value.int .i64 n) aH false B (some y) b a y2/\ItR (fun n:Int=>Value.int .i64 n) aH false B b b6 b4) ?_ ?_
 .rintro _ p ⟨o1,b6,b4,B,rfl,rfl,q,g,s,u,v,k,f⟩;have i:=j2;refine dW (aE (aS 1 [(4,vI 0)] (aU rfl ?_)));have g:=g.f3.t;refine aE (aL ?_);cases i;exact aO [4] [vI 0] ⟨E,G,F,H,l,o,B,rfl,q,g.t.f1.t.f1.f1,s,u,v⟩
 intro b8;refine cX _ kr (cW (fun k1 L' w'=>∃(s1:Unit) (U:Array Nat) (D:nE),∃p,LoopE (wZ N p1 y1) D s1 a8 k1/\L'=[(1,vI p1),(5,vP Z 0),(11,vP R 0)]/\m.le p/\St p (kB Z (V2 y1.2) 109::kB bp0 (Vc y1.1 E G F H l o) 84::eH (some y) b a::rL R (some y) a U::kR l y1.1.2.2.2 o 61 5::O) w'/\RepS C2 p E G y1.1.1/\RepS aH p F H y1.1.2.2.1/\RepS C3 p l o y1.1.2.2.2/\MapQ (fun n:Int=>Value.int .i64 n) aH false p (some y) b a y2/\ItR (fun n:Int=>Value.int .i64 n) aH false p b U D) (List.length (Option.getD y2 [])+1) ⟨(),#[],(Option.getD y2 []),m2,LoopE.start i,rfl,(q.t e1).t e2,g.f4.f1.f2.f4.f4,s.mono e2,u.mono e2,v.mono e2,k,d2⟩ ?_);rintro k1 _ w7 ⟨s1,U,D,p,hL,rfl,q,g,s,u,v,k,b9⟩;rcases k1 with _|k1
 .exact LoopE.zero hL
 refine aC ?_;have g:=g.f2.f3;refine bA rfl (qAx (ek:=(fun n:Int=>Value.int .i64 n)) (c:=aH) (agg:=false) (d:=12) (x:=(.tmp 11)) kr rfl (ev (vP R 0)) g k b9 ?_ ?_)
 .intro f z g;obtain⟨d6,i,a7,S⟩:=hL.nil f;clear hL;unfold wZ at i;refine aF 1 [(13,vB false)] (aG (tR false kr (fun h=>Bool.noConfusion h) ?_));intro _;refine cQ (bK ?_);cases i;have ho:=S _ rfl;have g:=g.f4.f1.f2.f4.f4;refine bK ?_;exact xE (b8 _ _ ⟨(),U,D,p,ho,rfl,q,g,s,u,v,k,b9⟩)
 rintro f b5 b7 d7 w9 d5 rfl g M d1;obtain⟨d6,i,a7,S⟩:=hL.cons d5;clear hL;unfold wZ at i;refine aF 1 [(13,vB true)] (aG (tR true kr ?_ (fun h=>Bool.noConfusion h)));intro _;refine aM (aE (bD (aC ?_)));have g:=g.f1.f1;refine bA rfl (ZP (ek:=(fun n:Int=>Value.int .i64 n)) (c:=aH) (agg:=false) (d:=14) (x:=(.tmp 11)) (K:=vI f.1) (V:=vT f.2) kr rfl (ev (vP R 0)) g k d1 (aF 4 [(6,vI f.1),(7,vT f.2)] (aC (eM 15 i (fun o2 L' w'=>∃z,L'=[(1,vI p1),(5,vP Z 0),(6,vI f.1),(11,vP R 0),(31,vB o2)]/\m.le z/\St z (kB Z (V2 y1.2) 109::kB bp0 (Vc y1.1 E G F H l o) 84::eH (some y) b a::rL R (some y) a b7::kR l y1.1.2.2.2 o 61 5::O) w'/\RepS C2 z E G y1.1.1/\RepS aH z F H y1.1.2.2.1/\RepS C3 z l o y1.1.2.2.2/\MapQ (fun n:Int=>Value.int .i64 n) aH false z (some y) b a y2/\ItR (fun n:Int=>Value.int .i64 n) aH false z b b7 b5) ?_ ?_))))
 .rintro o2 i _ Y ⟨z,rfl,q,g,s,u,v,k,M⟩;refine aN (aI i ?_ ?_)
  .intro A i;refine aS 2 [(4,vI f.1)] ?_;refine aU rfl ?_;have g:=g.f3.t;refine aE (aL (bH ?_));cases i;have ho:=S _ rfl;subst ho;have i:=j2;refine aQ (bH (aQ ?_));cases i;exact aO [4] [vI f.1] ⟨E,G,F,H,l,o,z,rfl,q,g.t.f1.t.f1.f1,s,u,v⟩
  intro A i;refine aM (bQ ?_);obtain rfl:=sI i;have hL:=a7 _ rfl;exact xE (cT ⟨(),b7,b5,z,hL,rfl,q,g.f4.f4.f4.f4.f4,s,u,v,k,M⟩)
 intro o2 i K;refine bW 1 18 3 17 0 (vI y1.2.1) g.t.t.h (aA 2 [(20,vB (y1.2.1==4))] (bN 20 i ?_ ?_))
 .intro A i;refine bW 1 22 9 21 1 (vT y1.2.2.1) g.t.t.h (aA 4 [(26,vB (y1.2.2.1.toList==f.2.toList))] (bN 26 i ?_ ?_))
  .intro A i;refine aA 1 [(27,vI f.1)] (aK 28 i (UQ g) ?_);rintro y3 i _ d8 ⟨m6,rfl,Y,g⟩;refine aA 3 [(31,vB (y3==p1))] ?_;cases i;exact aY _ kr (K _ _ ⟨m6,rfl,q.t Y,g.f4.f1.f2.f4.f4,s.mono Y,u.mono Y,v.mono Y,k.mono Y,M.mono Y⟩)
  intro A i;refine aA 5 [(31,vB false)] ?_;cases i;exact aY _ kr (K _ _ ⟨p,rfl,q,g.f4.f1.f2.f4.f4,s,u,v,k,M⟩)
 intro A i;refine aA 11 [(31,vB false)] ?_;cases i;exact aY _ kr (K _ _ ⟨p,rfl,q,g.f4.f1.f2.f4.f4,s,u,v,k,M⟩)
end
end Go.Proofs.YthiiggmmmoolbaaGreatDoor
