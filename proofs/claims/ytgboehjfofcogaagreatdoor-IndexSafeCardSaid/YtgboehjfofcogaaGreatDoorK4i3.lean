/- No condition but those of each theorem. -/
import Derived.Lib.Bytealg
import Derived.Test.YtgboehjfofcogaaGreatDoorK3i3
namespace Go.Proofs.YtgboehjfofcogaaGreatDoor
section
open Go Go.Dc Go.Proofs.Tryz
set_option maxHeartbeats 4000000
set_option maxRecDepth 100000
variable {N c1:Nat} {m:Mem} {O:List Piece} {w:World} {a1:Option Addr}
def VT(N:Nat)(p0:BA)(p1:Int):Td:=
 some (EB p0 p1)
theorem Sz{p0:BA}{p1:Int}{r:Int}(st:St m (O) w)(hr:VT N p0 p1=some r):Calls prog 191 #[vT p0,.int .u8 p1] w λe w'=>∃m',dN m m' e (vI r) (O) w':=by
 cases hr;exact bU st func191 rfl ntmps191 λq=>bG (bF 2 (cL (Xy (d:=7) (f:=196) (x:=(.tmp 5)) (y:=(.tmp 6)) (ts:= #[9,5]) kr rfl (ev (vT p0)) (ev (.int .u8 p1)) func196 kr kr (dM ⟨m,rfl,q,st⟩))))
def VX(N:Nat)(p0:BA)(p1:BA):Td:=
 (if((ByteArray.size p1:Int)==0)then(some true) else(some (p1.toList==p0.toList)):Tk).bind λa=>if a then(some 0) else(if((ByteArray.size p1:Int)==1)then((iB p1 0).bind λa=>(VT N p0 (a.toNat:Int)).bind λy1=>some y1) else(if(decide ((ByteArray.size p1:Int)>=(ByteArray.size p0:Int)))then(some (-1)) else none))
theorem Ul{p0:BA}{p1:BA}{r:Int}(st:St m (O) w)(hr:VX N p0 p1=some r):Calls prog 187 #[vT p0,vT p1] w λe w'=>∃m',dN m m' e (vI r) (O) w':=by
 refine bU st func187 rfl ntmps187 λq=>bG (bK (aU (aB (dT 8 hr (λb L' w'=>∃a,L'=[(0,vT p0),(1,vT p1),(5,vI (p1.size:Int)),(16,vB b)]/\m.le a/\St a (O) w') ?_ ?_))))
 .rintro b hr _ f ⟨a,rfl,q,st⟩;refine aK (aM hr ?_ ?_)<;>intro A hr
  .cases hr;exact cB ⟨a,rfl,q,st⟩
  refine bN hr ?_ ?_<;>intro A hr
  .refine bF 2 (lQ 29 hr λh hr=>aX hr (Sz st) ?_);rintro y1 hr _ g ⟨d,rfl,c,st⟩;obtain rfl:=sI hr;exact dM ⟨d,rfl,q.t c,st⟩
  refine bN hr ?_ ?_<;>intro A hr
  .cases hr;exact cB ⟨a,rfl,q,st⟩
  cases hr
 intro b hr K;refine bJ 3 19 hr ?_ ?_<;>intro A hr
 .exact aN 5 (K hr ⟨m,rfl,q,st⟩)
 exact aN 5 (K hr ⟨m,rfl,q,st⟩)
def MD(N:Nat)(p0:BA)(p1:BA):Td:=
 (VX N p0 p1).bind λy1=>some y1
theorem Ey{p0:BA}{p1:BA}{r:Int}(st:St m (O) w)(hr:MD N p0 p1=some r):Calls prog 175 #[vT p0,vT p1] w λe w'=>∃m',dN m m' e (vI r) (O) w':=by
 refine bU st func175 rfl ntmps175 λq=>bG (bT 2 hr (Ul st) ?_);rintro y1 hr _ c ⟨b,rfl,a,st⟩;obtain rfl:=sI hr;exact dM ⟨b,rfl,q.t a,st⟩
def Fa(N:Nat)(p1:BA)(a:Tq):Option (Tq⊕Int):=
 (MD N a.1 p1).bind λy1=>if(y1==(-1))then(some (.inr a.2)) else((qS a.1 (wI (y1+(ByteArray.size p1:Int))) (ByteArray.size a.1:Int)).bind λb=>some (.inl (b,wI (a.2+1))))
def SO(N:Nat)(p0:BA)(p1:BA):Td:=
 if((ByteArray.size p1:Int)==0)then none else(if((ByteArray.size p1:Int)==1)then((iB p1 0).bind λa=>some (OM p0 (a.toNat:Int))) else((aA (Fa N p1) N (p0,0)).bind λz=>some z))
theorem Xh{p0:BA}{p1:BA}{r:Int}(st:St m (O) w)(hr:SO N p0 p1=some r):Calls prog 174 #[vT p0,vT p1] w λe w'=>∃m',dN m m' e (vI r) (O) w':=by
 refine bU st func174 rfl ntmps174 λq=>bK (bN hr ?_ ?_)<;>intro A hr
 .cases hr
 refine aL (aF (bN hr ?_ ?_))<;>intro A hr
 .refine bF 2 (lQ 18 hr λa hr=>cL (Yg (d:=19) (f:=186) (x:=(.tmp 16)) (y:=(.tmp 18)) (ts:= #[9,5]) kr rfl (ev (vT p0)) (ev (.int .u8 (a.toNat:Int))) func186 kr kr ?_));cases hr;exact dM ⟨m,rfl,q,st⟩
 refine aL (bG (aU ?_));have⟨k,hr,s⟩:=aR hr;refine cJ (λb L' w'=>∃(a:Tq),∃h,aA (Fa N p1) b a=some k/\L'=[(0,vT a.1),(1,vT p1),(5,vI a.2)]/\m.le h/\St h (O) w') N ⟨(p0,0),m,hr,rfl,q,st⟩ ?_;rintro b _ v ⟨a,h,hL,rfl,q,st⟩;obtain⟨b,u,rfl,hr,g,c⟩:=cM hL;refine aU (bT 2 hr (Ey st) ?_);rintro y1 hr _ z ⟨o,rfl,l,st⟩;refine cZ (bN hr ?_ ?_)<;>intro A hr
 .refine bG (bI (bD (cH ?_)));have ho:=c _ (sI hr);subst ho;have hr:=s;cases hr;exact eV ⟨o,rfl,q.t l,st⟩
 refine aL (bG (dV 5 ?_));have⟨p,n,hr⟩:=aR hr;refine cL (wD (d:=33) (t:=9) (x:=(.tmp 28)) (lo:=(some (.tmp 32))) (hi:=none) kr rfl (ev (vT a.1)) kr (.inr ⟨_,_,rfl,(ev (vI (wI (y1+(p1.size:Int)))))⟩) (.inl ⟨rfl,rfl⟩) n (cW 1 (iX ?_)));have hL:=g _ (sI hr);exact cG ⟨(p,wI (a.2+1)),o,hL,rfl,q.t l,st⟩
def RP(N:Nat)(p0:BA)(p1:BA)(p2:Int)(b:Int)(a:PQ):Option (PQ⊕PQ):=
 if(decide (a.2.1<(wI ((if(wI ((ByteArray.size p0:Int)+1))<b then(wI ((ByteArray.size p0:Int)+1)) else b)-1))))then((MD N a.1 p1).bind λb=>if(decide (b<0))then(some (.inr a)) else((qS a.1 0 (wI (b+p2))).bind λc=>(aO a.2.2 a.2.1).bind λd=>(qS a.1 (wI (b+(ByteArray.size p1:Int))) (ByteArray.size a.1:Int)).bind λb=>some (.inl (b,wI (a.2.1+1),List.set a.2.2 (Int.toNat a.2.1) c)))) else(some (.inr a))
def XA(N:Nat)(p0:BA)(p1:BA)(p2:Int)(p3:Int):Tc:=
 if(p3==0)then(some ([]:Tb)) else(if(p1.toList==(⟨#[]⟩:BA).toList)then none else((if(decide (p3<0))then((SO N p0 p1).bind λy1=>some (wI (y1+1))) else(some p3):Td).bind λa=>(wX 16 (⟨#[]⟩:BA) (if(wI ((ByteArray.size p0:Int)+1))<a then(wI ((ByteArray.size p0:Int)+1)) else a)).bind λb=>(aA (RP N p0 p1 p2 a) N (p0,0,b)).bind λo2=>(aO o2.2.2 o2.2.1).bind λa=>(qP (List.set o2.2.2 (Int.toNat o2.2.1) o2.1) 0 (wI (o2.2.1+1))).bind λa=>some a))
theorem Xd{p0:BA}{p1:BA}{p2:Int}{p3:Int}{r}(st:St m (O) w)(hr:XA N p0 p1 p2 p3=some r):Calls prog 154 #[vT p0,vT p1,vI p2,vI p3] w λe w'=>∃E F m',cV m m' e (vS E r F) (O) w' (RepS aD m' E F r):=by
 refine bU st func154 rfl ntmps154 λq=>bK (bN hr ?_ ?_)<;>intro A hr
 .cases hr;exact cB ⟨none,0,m,rfl,q,st,(RepS.nil _ _)⟩
 refine aL (aF (bN hr ?_ ?_))<;>intro A hr
 .cases hr
 refine aL (aF (bG (bL .normal hr (λa L' w'=>∃s,L'=[(0,vT p0),(1,vT p1),(2,vI p2),(3,vI a)]/\m.le s/\St s (O) w') ?_ ?_)))
 .rintro a hr _ w1 ⟨s,rfl,q,st⟩;refine aY (bG (bF 1 ?_));have⟨Z,B,hr⟩:=aR hr;refine cL (Gy (d:=31) (t:=34) (e:=9) (by_:=16) (x:=(.tmp 30)) (y:=(.tmp 30)) PN kr rfl (ev (vI (if(wI ((p0.size:Int)+1))<a then(wI ((p0.size:Int)+1)) else a))) (ev (vI (if(wI ((p0.size:Int)+1))<a then(wI ((p0.size:Int)+1)) else a))) kr kr rfl st B λg w3 M st=>aZ (bG (bK (aU (bL (.exit 0) hr (λh L' w'=>∃(o2:PQ),∃H,o2=h/\L'=[(0,vT o2.1),(9,.slice (aP g) (Int.toNat (if(wI ((p0.size:Int)+1))<a then(wI ((p0.size:Int)+1)) else a)) (Int.toNat (if(wI ((p0.size:Int)+1))<a then(wI ((p0.size:Int)+1)) else a))),(10,vI o2.2.1)]/\m.le H/\St H (.blk g (.cells (lV PN o2.d []) 9 (0,0))::O) w'/\List.length o2.d=(Int.toNat (if(wI ((p0.size:Int)+1))<a then(wI ((p0.size:Int)+1)) else a))) ?_ ?_)))))
  .rintro h hr _ R ⟨o2,H,rfl,rfl,q,st,k⟩;refine dB (bF 3 ?_);have⟨U,l,hr⟩:=aR hr;refine cL (ST (d:=61) (t:=34) (e:=9) (x:=(.tmp 58)) (y:=(.tmp 59)) kr rfl (ev (.slice (aP g) (Int.toNat (if(wI ((p0.size:Int)+1))<a then(wI ((p0.size:Int)+1)) else a)) (Int.toNat (if(wI ((p0.size:Int)+1))<a then(wI ((p0.size:Int)+1)) else a)))) (ev (vI o2.2.1)) kr k l (cL (XH (f:=PN) (u:=o2.1) (t:=9) (x:=(.tmp 61)) (y:=(.tmp 60)) kr (ev (.pointer (some ⟨g,Int.toNat o2.2.1,none⟩))) (ev (vT o2.1)) st l rfl kr λS st=> ?_)));have b:List.length (List.set o2.d (Int.toNat o2.2.1) o2.1)=(Int.toNat (if(wI ((p0.size:Int)+1))<a then(wI ((p0.size:Int)+1)) else a)):=AL k _ _;refine aK (bF 3 ?_);obtain⟨D,z,st,G⟩:=St.freeze (c:=aD) st b (jH _) (qFk B) (Za b (fB _)) rfl (λ_ _=>rfl);refine Rf [(9,.slice (aP g) (List.length (List.set o2.d (Int.toNat o2.2.1) o2.1)) (Int.toNat (if(wI ((p0.size:Int)+1))<a then(wI ((p0.size:Int)+1)) else a))),(10,vI o2.2.1),(62,.slice (aP g) (List.length (List.set o2.d (Int.toNat o2.2.1) o2.1)) (Int.toNat (if(wI ((p0.size:Int)+1))<a then(wI ((p0.size:Int)+1)) else a))),(64,vI (wI (o2.2.1+1)))] (by(try simp only[vS,b]);kernel_rfl) ?_;have⟨v,p,hr⟩:=aR hr
   refine cL (GO (d:=65) (t:=34) (e:=9) (x:=(.tmp 62)) (lo:=none) (hi:=(some (.tmp 64))) aD kr rfl (ev (.slice (aP g) (List.length (List.set o2.d (Int.toNat o2.2.1) o2.1)) (Int.toNat (if(wI ((p0.size:Int)+1))<a then(wI ((p0.size:Int)+1)) else a)))) kr G (.inl ⟨rfl,rfl⟩) (.inr ⟨_,_,rfl,(ev (vI (wI (o2.2.1+1))))⟩) p ?_);intro n o K;refine cW 1 ?_;have st:=st.t;obtain rfl:=sI hr;exact iN ⟨n,o,D,rfl,q.t z,st,K⟩
  intro h hr k;refine cJ (λp L' w'=>∃(b:PQ),∃v,aA (RP N p0 p1 p2 a) p b=some h/\L'=[(0,vT b.1),(1,vT p1),(2,vI p2),(3,vI (wI ((if(wI ((p0.size:Int)+1))<a then(wI ((p0.size:Int)+1)) else a)-1))),(9,.slice (aP g) (Int.toNat (if(wI ((p0.size:Int)+1))<a then(wI ((p0.size:Int)+1)) else a)) (Int.toNat (if(wI ((p0.size:Int)+1))<a then(wI ((p0.size:Int)+1)) else a))),(10,vI b.2.1)]/\m.le v/\St v (.blk g (.cells (lV PN b.d []) 9 (0,0))::O) w'/\List.length b.d=(Int.toNat (if(wI ((p0.size:Int)+1))<a then(wI ((p0.size:Int)+1)) else a))) N ⟨(p0,0,Z),s,hr,rfl,q,st,M⟩ ?_;rintro p _ w5 ⟨b,v,hL,rfl,q,st,l⟩;obtain⟨p,a0,rfl,hr,G,o⟩:=cM hL;refine aF (bN hr ?_ ?_)<;>intro A hr
  .refine aL (aU (bT 2 hr (Ey st) ?_));rintro n hr _ w6 ⟨V,rfl,K,st⟩;refine cZ (bN hr ?_ ?_)<;>intro A hr
   .refine cF (MS rfl ?_);have ho:=o _ (sI hr);exact cC (k rfl ⟨b,V,ho,rfl,q.t K,st,l⟩)
   refine aL (bF 6 ?_);have⟨z,S,hr⟩:=aR hr;refine cL (wD (d:=48) (t:=9) (x:=(.tmp 44)) (lo:=none) (hi:=(some (.tmp 47))) kr rfl (ev (vT b.1)) kr (.inl ⟨rfl,rfl⟩) (.inr ⟨_,_,rfl,(ev (vI (wI (n+p2))))⟩) S ?_);have⟨x1,D,hr⟩:=aR hr;refine cL (ST (d:=49) (t:=34) (e:=9) (x:=(.tmp 42)) (y:=(.tmp 43)) kr rfl (ev (.slice (aP g) (Int.toNat (if(wI ((p0.size:Int)+1))<a then(wI ((p0.size:Int)+1)) else a)) (Int.toNat (if(wI ((p0.size:Int)+1))<a then(wI ((p0.size:Int)+1)) else a)))) (ev (vI b.2.1)) kr l D (cL (XH (f:=PN) (u:=z) (t:=9) (x:=(.tmp 49)) (y:=(.tmp 48)) kr (ev (.pointer (some ⟨g,Int.toNat b.2.1,none⟩))) (ev (vT z)) st D rfl kr λw7 st=> ?_)));have R:List.length (List.set b.d (Int.toNat b.2.1) z)=(Int.toNat (if(wI ((p0.size:Int)+1))<a then(wI ((p0.size:Int)+1)) else a)):=AL l _ _;refine aK (bF 5 ?_);have⟨Y,U,hr⟩:=aR hr;refine cL (wD (d:=55) (t:=9) (x:=(.tmp 50)) (lo:=(some (.tmp 54))) (hi:=none) kr rfl (ev (vT b.1)) kr (.inr ⟨_,_,rfl,(ev (vI (wI (n+(p1.size:Int)))))⟩) (.inl ⟨rfl,rfl⟩) U (aZ (bV 3 (iX ?_))));have hL:=G _ (sI hr);exact cG ⟨(Y,wI (b.2.1+1),List.set b.d (Int.toNat b.2.1) z),V,hL,rfl,q.t K,st,R⟩
  refine cF ?_;have ho:=o _ (sI hr);exact cC (k rfl ⟨b,v,ho,rfl,q,st,l⟩)
 intro a hr b;refine aM hr ?_ ?_<;>intro A hr
 .refine dV 2 (aX hr (Xh st) ?_);rintro y1 hr _ k ⟨h,rfl,g,st⟩;exact cW 2 (xE (b hr ⟨h,rfl,q.t g,st⟩))
 exact eD (b hr ⟨m,rfl,q,st⟩)
def SN(N:Nat)(p0:BA)(p1:BA):Tc:=
 (XA N p0 p1 0 (-1)).bind λy1=>some y1
theorem Xi{p0:BA}{p1:BA}{r}(st:St m (O) w)(hr:SN N p0 p1=some r):Calls prog 139 #[vT p0,vT p1] w λe w'=>∃a b m',cV m m' e (vS a r b) (O) w' (RepS aD m' a b r):=by
 refine bU st func139 rfl ntmps139 λq=>bG (bT 2 hr (Xd st) ?_);rintro y1 hr _ k ⟨c,d,g,rfl,f,st,h⟩;obtain rfl:=sI hr;exact dM ⟨c,d,g,rfl,q.t f,st,h⟩
def MA(N:Nat)(y1:Tb)(c:pQ)(b:Int):Tj:=
 if(decide (b<(List.length y1:Int)))then((aO y1 b).bind λa=>(if(decide ((ByteArray.size a:Int)<1))then(some true) else(if(decide ((ByteArray.size a:Int)>24))then(some true) else((GB N a 0 c ([(1:Int),2,3,4])).bind λc=>some (c !=(ByteArray.size a:Int)))):Tk).bind λa=>if a then(some (.inr (.inr (false)))) else(some (.inl (wI (b+1))))) else(some (.inr (.inl ())))
def SX(N:Nat)(p0:BA):Tk:=
 (SN N p0 (⟨#[47]⟩:BA)).bind λy1=>(if(decide ((ByteArray.size p0:Int)>80))then(some true) else(some (decide ((List.length y1:Int)>8))):Tk).bind λa=>if a then(some false) else((FY N).bind λa=>(aA (MA N y1 a) N 0).bind λa=>(match a with| .inl o2=>some true| .inr (z)=>some z))
theorem Yc{p0:BA}{r:Bool}(st:St m (O) w)(hr:SX N p0=some r):Calls prog 112 #[vT p0] w λe w'=>∃m',dN m m' e (vB r) (O) w':=by
 refine bU st func112 rfl ntmps112 λq=>bG (bT 1 hr (Xi st) ?_);rintro y1 hr _ w1 ⟨g,h,U,rfl,H,st,a⟩;refine cZ (aB ?_);have⟨o1,hr,J⟩:=aR hr;refine pY (j:=8) (λL' w'=>∃u,L'=[(3,vS g y1 h),(16,vB o1)]/\m.le u/\St u (O) w'/\RepS aD u g h y1) ?_ ?_
 .have hr:=J;rintro _ w2 ⟨u,rfl,q,st,a⟩;refine aK (aM hr ?_ ?_)<;>intro A hr
  .cases hr;exact cB ⟨u,rfl,q,st⟩
  refine aL (aB (aX hr (Fk st) ?_));rintro D hr _ w3 ⟨b,f,d,Y,rfl,M,st,c⟩;refine cZ (bG (aU ?_));have⟨x,hr,S⟩:=aR hr;refine eF (.exit 0) (λL' w'=>∃(o2:Unit),∃v,(.inl o2)=x/\L'=[]/\m.le v/\St v (lI b f d::O) w'/\MapQ (λn:Int=>Value.int .u8 n) (aJ .i64) false v b f d D) ?_ ?_
  .rintro _ k ⟨o2,v,rfl,rfl,q,st,c⟩;have hr:=S;cases hr;exact dB (cB ⟨v,rfl,q,st.t⟩)
  intro y;refine cJ (λB L' w'=>∃(o:Int),∃k,aA (MA N y1 D) B o=some x/\L'=[(4,.map b),(18,vS g y1 h),(19,vI (y1.length:Int)),(20,vI o)]/\m.le k/\St k (lI b f d::O) w'/\RepS aD k g h y1/\MapQ (λn:Int=>Value.int .u8 n) (aJ .i64) false k b f d D) N ⟨0,Y,hr,rfl,q.t M,st,a.o M,c⟩ ?_;rintro B _ w5 ⟨o,k,hL,rfl,q,st,a,c⟩;obtain⟨B,a2,rfl,hr,F,s⟩:=cM hL;refine bK (aM hr ?_ ?_)<;>intro A hr
  .refine aL (aF (aU (aB (dD a hr ?_))));rintro p hr b1 V a0 rfl R;refine bC st R (nV (dT 17 hr (λG L' w'=>∃l,L'=[(4,.map b),(18,vS g y1 h),(19,vI (y1.length:Int)),(20,vI o),(40,vB G)]/\m.le l/\St l (lI b f d::O) w'/\RepS aD l g h y1/\MapQ (λn:Int=>Value.int .u8 n) (aJ .i64) false l b f d D) ?_ ?_))
   .rintro G hr _ z ⟨l,rfl,q,st,a,c⟩;refine aK (aM hr ?_ ?_)<;>intro A hr
    .refine bG (bI (cH (bD ?_)));have ho:=s _ (sI hr);subst ho;have hr:=S;cases hr;exact eV ⟨l,rfl,q,st.t⟩
    refine eK (bV 2 ?_);have hL:=F _ (sI hr);exact cG ⟨wI (o+1),l,hL,rfl,q,st,a,c⟩
   intro G hr K;refine bJ 4 27 hr ?_ ?_<;>intro A hr
   .exact aN 13 (K hr ⟨k,rfl,q,st,a,c⟩)
   refine bJ 5 32 hr ?_ ?_<;>intro A hr
   .exact aN 8 (K hr ⟨k,rfl,q,st,a,c⟩)
   refine cA 2 (eE 35 3 4 (aJ .i64) [(1:Int),2,3,4] st λb2 m7 w7 z st r3=>aX hr (Ft st.f1 (c.o z) r3) ?_);rintro y3 hr _ w8 ⟨Z,rfl,E,st⟩;exact aN 4 (K hr ⟨Z,rfl,(q.t z).t E,st.f1.t,(a.o z).o E,(c.o z).o E⟩)
  refine cF ?_;have ho:=s _ (sI hr);exact cC (y _ _ ⟨(),k,ho,rfl,q,st,c⟩)
 intro K;refine bJ 4 12 hr ?_ ?_<;>intro A hr
 .cases hr;exact aN 4 (K _ _ ⟨U,rfl,q.t H,st,a⟩)
 cases hr;exact aN 4 (K _ _ ⟨U,rfl,q.t H,st,a⟩)
def AC(N:Nat)(p0:lY):Tk:=
 (if(p0.1==1)then(some (p0.1==1)) else(some (p0.1==2)):Tk).bind λa=>if a then(((GC N p0.2.1).bind λy1=>if y1 then((GC N p0.2.2).bind λa=>some a) else(some false):Tk).bind λo2=>some o2) else((if(p0.1==3)then(some (p0.1==3)) else(some (p0.1==4)):Tk).bind λa=>if a then(((SX N p0.2.1).bind λa=>if a then(some (p0.2.2.toList==(⟨#[]⟩:BA).toList)) else(some false):Tk).bind λa=>some a) else((if(p0.1==5)then(some (p0.1==5)) else(if(p0.1==6)then(some (p0.1==6)) else(some (p0.1==7))):Tk).bind λa=>if a then(((GC N p0.2.1).bind λa=>if a then(some (p0.2.2.toList==(⟨#[]⟩:BA).toList)) else(some false):Tk).bind λa=>some a) else(some false)))
theorem XG{p0:lY}{r:Bool}(st:St m (O) w)(hr:AC N p0=some r):Calls prog 82 #[.agg (Vj p0)] w λe w'=>∃m',dN m m' e (vB r) (O) w':=by
 refine bU st func82 rfl ntmps82 λq=>aB (cX 1 103 (.agg (Vj p0)) st λb v z u st a=>cZ (dG 1 st a (aK (aU (aF (bG (bL .normal hr (λo L' w'=>∃g,L'=[(1,vP b 0),(4,vI p0.1),(5,vB o)]/\m.le g/\St g (O) w'/\MRow g b 0 (Vk p0)) ?_ ?_)))))))
 .rintro o hr _ B ⟨g,rfl,q,st,a⟩;refine aY (aM hr ?_ ?_)<;>intro A hr
  .refine aB (dT 9 hr (λo2 L' w'=>∃c,L'=[(2,vB o2)]/\m.le c/\St c (O) w') ?_ ?_)
   .rintro o2 hr _ f ⟨c,rfl,q,st⟩;obtain rfl:=sI hr;exact aK (iI ⟨c,rfl,q,st⟩)
   intro o2 hr K;refine cI 1 st (a.drop 1) (aX hr (XD st) ?_);rintro y1 hr _ p ⟨k,rfl,f,st⟩;refine bJ 1 11 hr ?_ ?_<;>intro A hr
   .refine cI 1 st ((a.o f).drop 2) (aX hr (XD st) ?_);rintro n hr _ s ⟨l,rfl,h,st⟩;exact aN 2 (K hr ⟨l,rfl,(q.t f).t h,st⟩)
   exact aN 5 (K hr ⟨k,rfl,q.t f,st⟩)
  refine aF (bG (bL .normal hr (λp L' w'=>∃c,L'=[(1,vP b 0),(4,vI p0.1),(16,vB p)]/\m.le c/\St c (O) w'/\MRow c b 0 (Vk p0)) ?_ ?_))
  .rintro p hr _ D ⟨c,rfl,q,st,a⟩;refine aY (aM hr ?_ ?_)<;>intro A hr
   .refine aB (dT 9 hr (λh L' w'=>∃f,L'=[(2,vB h)]/\m.le f/\St f (O) w') ?_ ?_)
    .rintro h hr _ k ⟨f,rfl,q,st⟩;obtain rfl:=sI hr;exact aK (iI ⟨f,rfl,q,st⟩)
    intro h hr K;refine cI 1 st (a.drop 1) (aX hr (Yc st) ?_);rintro n hr _ s ⟨l,rfl,k,st⟩;refine bJ 1 22 hr ?_ ?_<;>intro A hr
    .exact cI 1 st ((a.o k).drop 2) (aN 3 (K hr ⟨l,rfl,q.t k,st⟩))
    exact aN 5 (K hr ⟨l,rfl,q.t k,st⟩)
   refine aF (bG (bL .normal hr (λs L' w'=>∃h,L'=[(1,vP b 0),(27,vB s)]/\m.le h/\St h (O) w'/\MRow h b 0 (Vk p0)) ?_ ?_))
   .rintro s hr _ E ⟨h,rfl,q,st,a⟩;refine aY (aM hr ?_ ?_)<;>intro A hr
    .refine aB (dT 9 hr (λk L' w'=>∃f,L'=[(2,vB k)]/\m.le f/\St f (O) w') ?_ ?_)
     .rintro k hr _ l ⟨f,rfl,q,st⟩;obtain rfl:=sI hr;exact aK (iI ⟨f,rfl,q,st⟩)
     intro k hr K;refine cI 1 st (a.drop 1) (aX hr (XD st) ?_);rintro x hr _ y ⟨l,rfl,n,st⟩;refine bJ 1 34 hr ?_ ?_<;>intro A hr
     .exact cI 1 st ((a.o n).drop 2) (aN 3 (K hr ⟨l,rfl,q.t n,st⟩))
     exact aN 5 (K hr ⟨l,rfl,q.t n,st⟩)
    cases hr;exact eK (cB ⟨h,rfl,q,st⟩)
   intro s hr f;refine aM hr ?_ ?_<;>intro A hr
   .exact eD (f hr ⟨c,rfl,q,st,a⟩)
   refine bN hr ?_ ?_<;>intro A hr
   .exact eD (f hr ⟨c,rfl,q,st,a⟩)
   exact bV 2 (xE (f hr ⟨c,rfl,q,st,a⟩))
  intro p hr f;refine aM hr ?_ ?_<;>intro A hr
  .exact eD (f hr ⟨g,rfl,q,st,a⟩)
  exact bV 2 (xE (f hr ⟨g,rfl,q,st,a⟩))
 intro o hr c;refine aM hr ?_ ?_<;>intro A hr
 .exact eD (c hr ⟨v,rfl,q.t u,st,a⟩)
 exact bV 2 (xE (c hr ⟨v,rfl,q.t u,st,a⟩))
def SQ(N:Nat)(p0:OW):Tk:=
 (AC N p0.1).bind λy1=>some (!y1)
theorem Xk{p0:OW}{r:Bool}(st:St m (O) w)(hr:SQ N p0=some r):Calls prog 81 #[.agg (Vp p0.1.1 p0.1.2.1 p0.1.d p0.2)] w λe w'=>∃m',dN m m' e (vB r) (O) w':=by
 refine bU st func81 rfl ntmps81 λq=>aB (cX 1 115 (.agg (Vp p0.1.1 p0.1.2.1 p0.1.d p0.2)) st λb h k c st a=>aZ (dG 1 st a (aX hr (XG (p0:=p0.1) st) ?_)));rintro y1 hr _ l ⟨g,rfl,f,st⟩;obtain rfl:=sI hr;exact dM ⟨g,rfl,(q.t c).t f,st⟩
def MH(N:Nat)(p0:mK)(a:Int):qC:=
 if(decide (a<(List.length p0.2.2.2.2.2.2:Int)))then((aO p0.2.2.2.2.2.2 a).bind λb=>(SQ N (b.1,b.2)).bind λy1=>if y1 then(some (.inr (.inr (a)))) else(some (.inl (wI (a+1))))) else(some (.inr (.inl ())))
def GI(N:Nat)(p0:mK):Tk:=
 ((aA (MH N p0) N 0).bind λa=>(match a with| .inl o2=>some (-1)| .inr (z)=>some z):Td).bind λa=>some (!(decide (a>=0)))
theorem Fq{p0:mK}{r:Bool}(st:St m (O) w)(c:RepS Ca m a1 c1 p0.j)(hr:GI N p0=some r):Calls prog 49 #[.agg (Vm p0.1.1 p0.1.2 p0.2.1 p0.d.1 p0.e.1 p0.f.1.1 p0.f.1.2.1 p0.f.1.d p0.h.1 a1 p0.j c1)] w λe w'=>∃m',dN m m' e (vB r) (O) w':=by
 refine bU st func49 rfl ntmps49 λq=>aB (cX 1 53 (.agg (Vm p0.1.1 p0.1.2 p0.2.1 p0.d.1 p0.e.1 p0.f.1.1 p0.f.1.2.1 p0.f.1.d p0.h.1 a1 p0.j c1)) st λx K U B st a=>aZ (dG 1 st (a.drop 9) (cL (nE 5 80 #[vS a1 p0.j c1,.func (.func 81) #[] #[]] kr rfl (nQ func80 rfl ntmps80 (bG (bF 2 ?_)))))));have⟨s,hr,H⟩:=aR hr;refine cL (nE 7 110 #[vS a1 p0.j c1,.func (.func 81) #[] #[]] kr rfl (CJ (λv' w'=>∃k,v'=(vI s)/\m.le k/\St k (O) w'/\MRow k x 0 (Vo p0.1.1 p0.1.2 p0.2.1 p0.d.1 p0.e.1 p0.f.1.1 p0.f.1.2.1 p0.f.1.d p0.h.1 a1 p0.j c1)/\RepS Ca k a1 c1 p0.j) ?_ ?_))
 .have hr:=H;rintro _ b ⟨k,rfl,q,st,a,c⟩;refine⟨_,rfl,?_⟩;refine aZ (bI (oP [4] [vB (decide (s>=0))] ⟨_,rfl,aZ (bI ?_)⟩));obtain rfl:=sI hr;exact pN ⟨k,rfl,q,st⟩
 refine nQ func110 rfl ntmps110 (bK (bG (aU ?_)));have⟨u,hr,E⟩:=aR hr;refine eF (.exit 0) (λL' w'=>∃(o2:Unit),∃l,(.inl o2)=u/\L'=[]/\m.le l/\St l (O) w'/\MRow l x 0 (Vo p0.1.1 p0.1.2 p0.2.1 p0.d.1 p0.e.1 p0.f.1.1 p0.f.1.2.1 p0.f.1.d p0.h.1 a1 p0.j c1)/\RepS Ca l a1 c1 p0.j) ?_ ?_
 .rintro _ b ⟨o2,l,rfl,rfl,q,st,a,c⟩;have hr:=E;cases hr;exact dB (cB ⟨_,rfl,⟨l,rfl,q,st,a,c⟩⟩)
 intro v;refine cJ (λy L' w'=>∃(b:Int),∃n,aA (MH N p0) y b=some u/\L'=[(0,vS a1 p0.j c1),(1,.func (.func 81) #[] #[]),(7,vI (p0.2.2.2.2.2.2.length:Int)),(8,vI b)]/\m.le n/\St n (O) w'/\RepS Ca n a1 c1 p0.j/\MRow n x 0 (Vo p0.1.1 p0.1.2 p0.2.1 p0.d.1 p0.e.1 p0.f.1.1 p0.f.1.2.1 p0.f.1.d p0.h.1 a1 p0.j c1)) N ⟨0,K,hr,rfl,q.t B,st,c.o B,a⟩ ?_;rintro y _ V ⟨b,n,hL,rfl,q,st,c,a⟩;obtain⟨y,R,rfl,hr,z,p⟩:=cM hL;refine bK (aM hr ?_ ?_)<;>intro A hr
 .refine aL (aF (aU (bG (bF 3 (dD c hr ?_)))));rintro o hr S G M ⟨_,_,rfl,⟨_,_,rfl,rfl,⟨_,_,rfl,rfl,rfl⟩⟩,rfl⟩ D;refine bC st D (aX hr (Xk (p0:=o) st) ?_);rintro y1 hr _ Y ⟨F,rfl,g,st⟩;refine aK (aM hr ?_ ?_)<;>intro A hr
  .refine bG (bI (cH (bD ?_)));have ho:=p _ (sI hr);subst ho;have hr:=E;obtain rfl:=sI hr;exact eV ⟨_,rfl,⟨F,rfl,q.t g,st,a.o g,c.o g⟩⟩
  refine eK (bV 2 ?_);have hL:=z _ (sI hr);exact cG ⟨wI (b+1),F,hL,rfl,q.t g,st,c.o g,a.o g⟩
 refine cF ?_;have ho:=p _ (sI hr);exact cC (v _ _ ⟨(),n,ho,rfl,q,st,a,c⟩)
def MC(N:Nat)(p0:mK):Tk:=
 (GI N (p0.1,p0.2.1,p0.2.2.1,p0.2.2.2.1,p0.2.2.2.2.1,p0.2.2.2.2.2.1,p0.2.2.2.2.2.2)).bind λy1=>some (!y1)
theorem Xj{p0:mK}{r:Bool}(st:St m (O) w)(k:RepS Ca m a1 c1 p0.j)(hr:MC N p0=some r):Calls prog 48 #[.agg (Vm p0.1.1 p0.1.2 p0.2.1 p0.d.1 p0.e.1 p0.f.1.1 p0.f.1.2.1 p0.f.1.d p0.h.1 a1 p0.j c1)] w λe w'=>∃m',dN m m' e (vB r) (O) w':=by
 refine bU st func48 rfl ntmps48 λq=>aB (cX 1 53 (.agg (Vm p0.1.1 p0.1.2 p0.2.1 p0.d.1 p0.e.1 p0.f.1.1 p0.f.1.2.1 p0.f.1.d p0.h.1 a1 p0.j c1)) st λl n o a st b=>nV (bC st b (aX hr (Fq (p0:=p0) st (k.o a)) ?_)));rintro y1 hr _ p ⟨g,rfl,c,st⟩;obtain rfl:=sI hr;exact dM ⟨g,rfl,(q.t a).t c,st⟩
def LX(N:Nat)(p0:mK)(a:lB):zI:=
 if(decide (a.2<(List.length p0.2.2.2.2.2.2:Int)))then((aO p0.2.2.2.2.2.2 a.2).bind λb=>(dS 40 a.1 ([b.1])).bind λb=>some (.inl (b,wI (a.2+1)))) else(some (.inr a.1))
def MO(N:Nat)(p0:mK):vL:=
 (aA (LX N p0) N (([]:dI),0)).bind λa=>some a
theorem Xr{p0:mK}{r}(st:St m (O) w)(z:RepS Ca m a1 c1 p0.j)(hr:MO N p0=some r):Calls prog 85 #[.agg (Vm p0.1.1 p0.1.2 p0.2.1 p0.d.1 p0.e.1 p0.f.1.1 p0.f.1.2.1 p0.f.1.d p0.h.1 a1 p0.j c1)] w λe w'=>∃u v m',cV m m' e (vS u r v) (kR u r v 103 3::O) w' (RepS C9 m' u v r):=by
 refine bU st func85 rfl ntmps85 λq=>aB (cX 1 53 (.agg (Vm p0.1.1 p0.1.2 p0.2.1 p0.d.1 p0.e.1 p0.f.1.1 p0.f.1.2.1 p0.f.1.d p0.h.1 a1 p0.j c1)) st λV m1 w1 H st M=>aZ (bK (dG 1 st (M.drop 9) (eH (bL (.exit 0) hr (λc L' w'=>∃(l:dI),∃g k s,l=c/\L'=[(3,vS g l k)]/\m.le s/\St s (kR g l k 103 3::O) w'/\RepS C9 s g k l) ?_ ?_)))))
 .rintro c hr _ b ⟨l,g,k,s,rfl,rfl,q,st,a⟩;obtain rfl:=sI hr;exact dB (cB ⟨g,k,s,rfl,q,st,a⟩)
 intro c hr x;refine cJ (λy L' w'=>∃(a:lB),∃n o p,aA (LX N p0) y a=some c/\L'=[(3,vS n a.1 o),(7,vS a1 p0.j c1),(8,vI (p0.2.2.2.2.2.2.length:Int)),(9,vI a.2)]/\m.le p/\St p (kR n a.1 o 103 3::O) w'/\RepS C9 p n o a.1/\RepS Ca p a1 c1 p0.j) N ⟨(([]:dI),0),none,0,m1,hr,rfl,q.t H,(st.nilroom 103 3),(RepS.nil _ _),z.o H⟩ ?_;rintro y _ w3 ⟨a,n,o,p,hL,rfl,q,st,U,z⟩;obtain⟨y,a5,rfl,hr,E,D⟩:=cM hL;refine bK (aM hr ?_ ?_)<;>intro A hr
 .refine aL (aF (aU (aB (dD z hr ?_))));rintro b hr b2 Z a0 ⟨_,_,rfl,⟨_,_,rfl,rfl,⟨_,_,rfl,rfl,rfl⟩⟩,rfl⟩ R;refine bC st R (cP 5 115 (.agg (Vp 0 eB eB 0)) st λY w4 st=>bP (.agg (Vp b.1.1 b.1.2.1 b.1.d b.2)) st λw5 st=>aK (dV 2 (bX st.h (eE 16 103 1 C9 [b.1] st λb4 m4 w6 B st r4=>lA 17 45 45 103 40 13 16 st.f2 (.inl kr) (U.o B) r4.src hr λS hr F G m5 w7 K st r5=>cW 1 ?_))));have st:=st.f1.t;refine iU (bV 2 ?_);have hL:=E _ (sI hr);exact cG ⟨(S,wI (a.2+1)),F,G,m5,hL,rfl,(q.t B).t K,st.f1.t,r5,(z.o B).o K⟩
 refine cF ?_;have ho:=D _ (sI hr);exact cC (x rfl ⟨a.1,n,o,p,ho,rfl,q,st,U⟩)
def JF(p0:dI):vL:=yX 40 p0
theorem Ud{p0:dI}{r:dI}(st:St m (O) w)(o:RepS C9 m a1 c1 p0)(hr:JF p0=some r):Calls prog 114 #[vS a1 p0 c1] w λe w'=>∃a k T m',e= .returned (vS a r k)/\m.le m'/\OAS a r.length k 3 T/\St m' (bM a (aQ cR r T) 103::O) w':=by
 unfold JF at hr;refine bU st func114 rfl ntmps114 λq=>bK (bF 1 ?_);rcases eX (Option.isNone a1) with hnil|hnil
 .refine cL (TE (d:=4) (t:=45) (t2:=45) (e:=103) (x:=(.tmp 3)) (y:=(.const (v6))) true kr rfl (ev (vS a1 p0 c1)) kr rfl hnil (aK (AN true kr ?_ (λh=>Bool.noConfusion h))));intro _;refine bG (bI (bD ?_));have hp:p0=[]:=by
   cases a1 with
   |none=>exact o.none_nil.1
   |some p=>cases hnil
  subst hp;have hr':r=[]:=by simp[yX] at hr;first|exact hr|exact hr.symm
  subst hr';exact pN ⟨none,0,[],m,rfl,q,⟨jH _,jQ _,rfl⟩,(st.nilroom 0 0)⟩
 refine cL (TE (d:=4) (t:=45) (t2:=45) (e:=103) (x:=(.tmp 3)) (y:=(.const (v6))) false kr rfl (ev (vS a1 p0 c1)) kr rfl hnil (aK (AN false kr (λh=>Bool.noConfusion h) ?_)));intro _;exact aL (aB (cL (mL (d:=5) (t:=45) (e:=103) (len:=0) (parts:= #[]) C9 (xs:=([]:dI)) [] kr rfl (λ_=>Fg ad kr _) rfl rfl st rfl λl s z n st v=>cA 1 (cL (Lr (d:=7) (t:=45) (u:=45) (e:=103) (by_:=40) (x:=(.tmp 5)) (y:=(.tmp 6)) (c:=C9) (f:=cR) (a:=(aP l)) (λ_ _ _ h=>by obtain⟨_,_,rfl,rfl,⟨_,_,rfl,rfl,rfl⟩⟩:=h;rfl) (λ_=>rfl) kr rfl (ev (.slice (aP l) 0 0)) (ev (vS a1 p0 c1)) st kr (.inl kr) (o.o n).src hr λb g T2 A hs st=>aZ (bI (pN ⟨b,g,T2,s,rfl,q.t n,hs,st⟩)))))))
def MB(N:Nat)(p0:Int):Tk:=
 some (p0 !=p0)
theorem Ez{p0:Int}{r:Bool}(st:St m (O) w)(hr:MB N p0=some r):Calls prog 142 #[vI p0] w λe w'=>∃m',dN m m' e (vB r) (O) w':=by
 cases hr;exact bU st func142 rfl ntmps142 λq=>nN (dM ⟨m,rfl,q,st⟩)
def SJ(N:Nat)(p0:Int)(p1:Int):Td:=
 (MB N p0).bind λy1=>(MB N p1).bind λa=>if y1 then(if a then(some 0) else(some (-1))) else(if a then(some 1) else(if(decide (p0<p1))then(some (-1)) else(if(decide (p0>p1))then(some 1) else(some 0))))
theorem Xe{p0:Int}{p1:Int}{r:Int}(st:St m (O) w)(hr:SJ N p0 p1=some r):Calls prog 119 #[vI p0,vI p1] w λe w'=>∃m',dN m m' e (vI r) (O) w':=by
 refine bU st func119 rfl ntmps119 λq=>bG (bT 1 hr (Ez st) ?_);rintro y1 hr _ g ⟨f,rfl,c,st⟩;refine aZ (bT 1 hr (Ez st) ?_);rintro b hr _ h ⟨a,rfl,d,st⟩;have q:=(q.t c).t d;refine cZ (bN hr ?_ ?_)<;>intro A hr
 .refine aF (bN hr ?_ ?_)<;>intro A hr
  .cases hr;exact cB ⟨a,rfl,q,st⟩
  cases hr;exact aL (cB ⟨a,rfl,q,st⟩)
 refine aL (aF (bN hr ?_ ?_))<;>intro A hr
 .cases hr;exact cB ⟨a,rfl,q,st⟩
 refine aL (aF (bN hr ?_ ?_))<;>intro A hr
 .cases hr;exact cB ⟨a,rfl,q,st⟩
 refine aL (aF (bN hr ?_ ?_))<;>intro A hr
 .cases hr;exact cB ⟨a,rfl,q,st⟩
 cases hr;exact aL (cB ⟨a,rfl,q,st⟩)
def VR(N:Nat)(p0:BA)(p1:BA):Td:=
 some (pM p0 p1)
theorem Ua{p0:BA}{p1:BA}{r:Int}(st:St m (O) w)(hr:VR N p0 p1=some r):Calls prog 143 #[vT p0,vT p1] w λe w'=>∃m',dN m m' e (vI r) (O) w':=by
 cases hr;exact bU st func143 rfl ntmps143 λq=>bG (bF 2 (cL (qAq (d:=7) (f:=165) (x:=(.tmp 5)) (y:=(.tmp 6)) (ts:= #[9,9]) kr rfl (ev (vT p0)) (ev (vT p1)) func165 kr kr (dM ⟨m,rfl,q,st⟩))))
def LQ(N:Nat)(p0:BA)(p1:BA):Td:=
 (VR N p0 p1).bind λy1=>some y1
theorem Ev{p0:BA}{p1:BA}{r:Int}(st:St m (O) w)(hr:LQ N p0 p1=some r):Calls prog 120 #[vT p0,vT p1] w λe w'=>∃m',dN m m' e (vI r) (O) w':=by
 refine bU st func120 rfl ntmps120 λq=>bG (bT 2 hr (Ua st) ?_);rintro y1 hr _ c ⟨b,rfl,a,st⟩;obtain rfl:=sI hr;exact dM ⟨b,rfl,q.t a,st⟩
def XF(N:Nat)(p0:Te)(a:Int):qC:=
 if(decide (a<(List.length p0:Int)))then((aO p0 a).bind λb=>if(b !=0)then(some (.inr (.inr (b)))) else(some (.inl (wI (a+1))))) else(some (.inr (.inl ())))
def TA(N:Nat)(p0:Te):Td:=
 (aA (XF N p0) N 0).bind λa=>(match a with| .inl a=>some 0| .inr (z)=>some z)
theorem Yh{p0:Te}{r:Int}(st:St m (O) w)(l:RepS (aJ .i64) m a1 c1 p0)(hr:TA N p0=some r):Calls prog 118 #[vS a1 p0 c1] w λe w'=>∃m',dN m m' e (vI r) (O) w':=by
 refine bU st func118 rfl ntmps118 λq=>bG (bK (bG (aU ?_)));have⟨d,hr,p⟩:=aR hr;refine eF (.exit 0) (λL' w'=>∃(s:Unit),∃k,(.inl s)=d/\L'=[(3,vI 0)]/\m.le k/\St k (O) w') ?_ ?_
 .rintro _ a ⟨s,k,rfl,rfl,q,st⟩;have hr:=p;cases hr;exact dB (cB ⟨k,rfl,q,st⟩)
 intro g;refine cJ (λh L' w'=>∃(b:Int),∃a,aA (XF N p0) h b=some d/\L'=[(3,vI 0),(6,vS a1 p0 c1),(7,vI (p0.length:Int)),(8,vI b)]/\m.le a/\St a (O) w'/\RepS (aJ .i64) a a1 c1 p0) N ⟨0,m,hr,rfl,q,st,l⟩ ?_;rintro h _ y ⟨b,a,hL,rfl,q,st,l⟩;obtain⟨h,v,rfl,hr,n,c⟩:=cM hL;refine bK (aM hr ?_ ?_)<;>intro A hr
 .refine aL (aF (aU (aB (dD l hr ?_))));rintro f hr x t u rfl o;refine bC st o (aZ (bN hr ?_ ?_))<;>intro A hr
  .refine bG (bI (cH (bD ?_)));have ho:=c _ (sI hr);subst ho;have hr:=p;obtain rfl:=sI hr;exact eV ⟨a,rfl,q,st⟩
  refine eK (bV 2 ?_);have hL:=n _ (sI hr);exact cG ⟨wI (b+1),a,hL,rfl,q,st,l⟩
 refine cF ?_;have ho:=c _ (sI hr);exact cC (g _ _ ⟨(),a,ho,rfl,q,st⟩)
def xX(N:Nat)(p0:lY)(p1:lY):Td:=
 if((p0.1==p1.1)&&((p0.2.1.toList==p1.2.1.toList)&&((p0.2.2.toList==p1.2.2.toList)&&true)))then(some 0) else((SJ N p0.1 p1.1).bind λy1=>(LQ N p0.2.1 p1.2.1).bind λa=>(LQ N p0.2.2 p1.2.2).bind λb=>(TA N ([y1,a,b])).bind λa=>some a)
theorem SI{p0:lY}{p1:lY}{r:Int}(st:St m (O) w)(hr:xX N p0 p1=some r):Calls prog 89 #[.agg (Vj p0),.agg (Vj p1)] w λe w'=>∃m',dN m m' e (vI r) (O) w':=by
 refine bU st func89 rfl ntmps89 λq=>aB (cX 2 103 (.agg (Vj p0)) st λf H U p st b=>cX 3 103 (.agg (Vj p1)) st λg l V k st c=> ?_);have b:=b.o k;refine cZ (aB (bC st b (bC st c (cL (TG (d:=7) (t:=103) (t2:=103) (x:=(.tmp 5)) (y:=(.tmp 6)) (xs:=(Vj p0)) (ys:=(Vj p1)) ((p0.1==p1.1)&&((p0.2.1.toList==p1.2.1.toList)&&((p0.2.2.toList==p1.2.2.toList)&&true))) kr rfl (ev (.agg (Vj p0))) (ev (.agg (Vj p1))) kr kr kr (aK (aM hr ?_ ?_)))))))<;>intro A hr
 .cases hr;exact cB ⟨l,rfl,(q.t p).t k,st⟩
 refine aL (aF (dA [(18,λw'=>Inv l w'/\True)] kr st λY _ st=> ?_));have a:=l.le_refl;refine tA st a (aS 0 (cQ 1 b (aS 2 (cQ 3 c (aS 5 (cQ 6 (b.drop 1) (aS 7 (cQ 8 (c.drop 1) (aS 10 (cQ 11 (b.drop 2) (aS 12 (cQ 13 (c.drop 2) (aH 4 kr (bQ hr (λ_ h=>Xe st h) ?_))))))))))))));rintro y1 hr _ Z ⟨K,rfl,s,st⟩;refine⟨_,rfl,?_⟩;have a:=a.t s;refine tA st a (aH 9 kr (bQ hr (λ_ h=>Ev st h) ?_));rintro n hr _ w5 ⟨M,rfl,u,st⟩;refine⟨_,rfl,?_⟩;have a:=a.t u;refine tA st a (aH 14 kr (bQ hr (λ_ h=>Ev st h) ?_));rintro o hr _ w6 ⟨R,rfl,v,st⟩;refine⟨_,rfl,?_⟩;have a:=a.t v;refine tA st a (aH 15 kr (mL (d:=23) (t:=22) (e:=3) (len:=3) (parts:= #[(0,(.tmp 12)),(1,(.tmp 17)),(2,(.tmp 22))]) (aJ .i64) (xs:=[y1,n,o]) [vI y1,vI n,vI o] kr rfl (λ_=>mS kr _) rfl rfl st ⟨[vI y1],_,rfl,rfl,⟨[vI n],_,rfl,rfl,⟨[vI o],_,rfl,rfl,rfl⟩⟩⟩ λG S w7 z st F=> ?_));have a:=a.t z;refine tA st a (aH 16 kr (bQ hr (λ_ h=>Yh st F h) ?_));rintro D hr _ w8 ⟨E,rfl,B,st⟩;refine⟨_,rfl,?_⟩;have a:=a.t B;refine tA st a (aS 17 (bH kr ?_));have st:=st.t;obtain rfl:=sI hr;exact iN ⟨E,rfl,((((((q.t p).t k).t s).t u).t v).t z).t B,st⟩
def Xq:Go.Shelf.Ren:=⟨λ|6=>115|15=>141|14=>140|28=>163|29=>164|20=>155|21=>156|22=>157|23=>158|24=>159|25=>160|26=>161|27=>162|46=>176|47=>177|48=>178|49=>179|50=>180|57=>188|n=>n,λ|22=>45|24=>103|25=>164|3=>3|39=>191|0=>0|53=>236|55=>50|4=>4|46=>230|45=>229|50=>152|5=>5|9=>9|66=>244|70=>248|76=>255|77=>256|n=>n,λ|n=>n⟩
theorem qAz:Go.Proofs.SlLaysF0.n6 prog Xq where
 mixed:=kr
 f6:=⟨Tryz.f115.name,kr,func115.trans (kA some kr)⟩
 f14:=⟨Tryz.f140.name,kr,func140.trans (kA some kr)⟩
 f15:=func141.trans (kA some kr)
 f20:=⟨Tryz.f155.name,kr,func155.trans (kA some kr)⟩
 f21:=⟨Tryz.f156.name,kr,func156.trans (kA some kr)⟩
 f22:=⟨Tryz.f157.name,kr,func157.trans (kA some kr)⟩
 f23:=⟨Tryz.f158.name,kr,func158.trans (kA some kr)⟩
 f24:=⟨Tryz.f159.name,kr,func159.trans (kA some kr)⟩
 f25:=⟨Tryz.f160.name,kr,func160.trans (kA some kr)⟩
 f26:=⟨Tryz.f161.name,kr,func161.trans (kA some kr)⟩
 f27:=⟨Tryz.f162.name,kr,func162.trans (kA some kr)⟩
 f28:=func163.trans (kA some kr)
 f29:=func164.trans (kA some kr)
 f46:=⟨Tryz.f176.name,kr,func176.trans (kA some kr)⟩
 f47:=func177.trans (kA some kr)
 f48:=func178.trans (kA some kr)
 f49:=⟨Tryz.f179.name,kr,func179.trans (kA some kr)⟩
 f50:=⟨Tryz.f180.name,kr,func180.trans (kA some kr)⟩
 f57:=⟨Tryz.f188.name,kr,func188.trans (kA some kr)⟩
 t0:=Tryz.underlying0
 a0:=Tryz.isAgg0
 z0:=Tryz.sizeOf0
 v0:=Tryz.zeroValue0
 t3:=Tryz.underlying3
 a3:=Tryz.isAgg3
 z3:=Tryz.sizeOf3
 v3:=Tryz.zeroValue3
 t4:=Tryz.underlying4
 a4:=Tryz.isAgg4
 z4:=Tryz.sizeOf4
 v4:=Tryz.zeroValue4
 t5:=Tryz.underlying5
 a5:=Tryz.isAgg5
 z5:=Tryz.sizeOf5
 v5:=Tryz.zeroValue5
 t9:=Tryz.underlying9
 a9:=Tryz.isAgg9
 z9:=Tryz.sizeOf9
 v9:=Tryz.zeroValue9
 t22:=Tryz.underlying45
 a22:=Tryz.isAgg45
 z22:=Tryz.sizeOf45
 v22:=Tryz.zeroValue45
 t25:=Tryz.underlying164
 a25:=Tryz.isAgg164
 z25:=Tryz.sizeOf164
 v25:=Tryz.zeroValue164
 t39:=Tryz.underlying191
 a39:=Tryz.isAgg191
 z39:=Tryz.sizeOf191
 v39:=Tryz.zeroValue191
 t45:=Tryz.underlying229
 a45:=Tryz.isAgg229
 z45:=Tryz.sizeOf229
 v45:=Tryz.zeroValue229
 t46:=Tryz.underlying230
 a46:=Tryz.isAgg230
 z46:=Tryz.sizeOf230
 v46:=Tryz.zeroValue230
 t50:=Tryz.underlying152
 a50:=Tryz.isAgg152
 z50:=Tryz.sizeOf152
 v50:=Tryz.zeroValue152
 t53:=Tryz.underlying236
 a53:=Tryz.isAgg236
 z53:=Tryz.sizeOf236
 v53:=Tryz.zeroValue236
 t55:=Tryz.underlying50
 a55:=Tryz.isAgg50
 z55:=Tryz.sizeOf50
 v55:=Tryz.zeroValue50
 t66:=Tryz.underlying244
 a66:=Tryz.isAgg244
 z66:=Tryz.sizeOf244
 v66:=Tryz.zeroValue244
 t70:=Tryz.underlying248
 a70:=Tryz.isAgg248
 z70:=Tryz.sizeOf248
 v70:=Tryz.zeroValue248
 t76:=Tryz.underlying255
 a76:=Tryz.isAgg255
 z76:=Tryz.sizeOf255
 v76:=Tryz.zeroValue255
 t77:=Tryz.underlying256
 a77:=Tryz.isAgg256
 z77:=Tryz.sizeOf256
 v77:=Tryz.zeroValue256
theorem Yi(x y:Int):SJ N x y=some (sK x y):=by
 have h:∀z:Int,MB N z=some false:=λz=>by simp[MB]
 simp only[SJ,h,j0,sK]
 by_cases h1:x<y
 .simp[h1]
 by_cases h2:x>y
 .simp[h1,h2]
 simp[h1,h2]
theorem Xf(x y:BA):LQ N x y=some (pM x y):=by simp[LQ,VR]
theorem qFr(hN:10<=N)(a b c:Int):TA N [a,b,c]=some (if a≠0 then a else if b≠0 then b else c):=by
 obtain⟨k,rfl⟩:∃k,N=k+4:=⟨N-4,by omega⟩;have e:wI 1=1:=by decide
 have g:wI 2=2:=by decide
 have l:wI 3=3:=by decide
 have h:aO [a,b,c] 0=some a:=rfl;have d:aO [a,b,c] 1=some b:=rfl;have f:aO [a,b,c] 2=some c:=rfl;simp only[TA,aA,XF,jS,kH,h,j0]
 by_cases ha:a=0
 .subst ha
  by_cases hb:b=0
  .subst hb
   by_cases A:c=0
   .subst A;simp[e,g,l,d,f]
   simp[e,g,d,f,A]
  simp[e,d,hb]
 simp[ha]
theorem Fh(hN:10<=N)(x y:lY):xX N x y=some (qQ sK (qQ pM pM) x y):=by
 have hl:Lin (qQ sK (qQ pM pM)):=GY cmpI_lin (GY cmpS_lin cmpS_lin);simp only[xX,Yi,Xf,qFr hN,j0]
 by_cases h:x=y
 .rw[jB (by subst h;simp),(hl.zero x y).2 h]
 split
 .rename_i g
  simp only[jU,gP,and_true] at g;have bt:∀{a b:BA},a.toList=b.toList->a=b:=λ{a b} e=>by
   rw[ByteArray.toList_eq,ByteArray.toList_eq] at e;exact Go.WideShapes.bytes_inj e
  exact absurd (Prod.ext g.1 (Prod.ext (bt g.2.1) (bt g.2.2))) h
 rfl
def BS(N:Nat)(l:dI):vL:=if 10<=N/\l.length<4611686018427387904 then some (l.mergeSort λx y=> !(Go.Proofs.ltOf (qQ sK (qQ pM pM)) y x)) else none
theorem Sx{l r:dI}(h:BS N l=some r):r.length=l.length:=by
 unfold BS at h
 split at h
 .simp only[jM] at h;subst h;simp
 cases h
theorem Sy{a:Option Addr}{nn cc:Nat}{T:List Value}{l r:dI}{e:TypeId}(st:St m (bM a (aQ cR l T) e::O) w)(hs:OAS a nn cc 3 T)(hn:List.length l=nn)(h:BS N l=some r):
  Calls prog 115 #[.slice a nn cc,.func (.func 89) #[] #[]] w λe' w'=>e'= .returned (.tuple #[])/\St m (bM a (aQ cR r T) e::O) w':=by
 unfold BS at h
 split at h
 .rename_i hb
  obtain⟨hN,hlen⟩:=hb;simp only[jM] at h;subst h;subst hn;have hl:Lin (qQ sK (qQ pM pM)):=GY cmpI_lin (GY cmpS_lin cmpS_lin);have:=Zx (f:=cR) (k:=3) qAz Tryz.isAgg103 Tryz.sizeOf103 (λ_=>rfl) (λ_ _ hv=>by simp only[jG,gC,hY] at hv;rcases hv with rfl|rfl|rfl<;>rfl) (qQ sK (qQ pM pM)) hl.swo hl.total 89 (enters_of func89 kr rfl) (λx y W=>by
   refine(SI (Ph W) (Fh hN x y)).mono λe' w' h=> ?_;obtain⟨m',b,c,d⟩:=h;exact⟨m',b,c,d⟩) st hs hlen
  exact this
 cases h
def MP(N:Nat)(c:dI)(b:Int)(a:Int×zJ):Option (Int×zJ⊕zJ):=
 if(decide (a.2.1<((Int.toNat (List.length c:Int)-Int.toNat b:Nat):Int)))then(((aO (List.drop (Int.toNat b) (List.take (Int.toNat (List.length c:Int)) a.2.2)) a.2.1).bind λd=>(aO (List.drop (Int.toNat b) (List.take (Int.toNat (List.length c:Int)) a.2.2)) (wI (a.2.1-1))).bind λe=>if(!((d.1==e.1)&&((d.2.1.toList==e.2.1.toList)&&((d.2.2.toList==e.2.2.toList)&&true))))then((aO (List.drop (Int.toNat b) (List.take (Int.toNat (List.length c:Int)) a.2.2)) a.2.1).bind λb=>(aO a.2.2 a.1).bind λc=>some (wI (a.1+1),List.set a.2.2 (Int.toNat a.1) b)) else(some (a.1,a.2.2)):Option zJ).bind λb=>some (.inl (b.1,wI (a.2.1+1),b.2))) else(some (.inr (a.1,a.2.2)))
def MN(N:Nat)(y1:dI)(a:dI)(b:Int):Option (Int⊕Unit⊕dI):=
 if(decide (b<((List.length y1):Int)))then((aO a b).bind λc=>(aO a (wI (b-1))).bind λd=>if((c.1==d.1)&&((c.2.1.toList==d.2.1.toList)&&((c.2.2.toList==d.2.2.toList)&&true)))then((lR a b (List.length a:Int)).bind λc=>(aA (MP N a b) N (b,1,a)).bind λa=>(lR a.2 a.1 (List.length a.2:Int)).bind λc=>(CX a.2 a.1 (0,(⟨#[]⟩:BA),(⟨#[]⟩:BA))).bind λc=>(lR c 0 a.1).bind λd=>some (.inr (.inr (List.take (Int.toNat a.1) c)))) else(some (.inl (wI (b+1))))) else(some (.inr (.inl ())))
def NB(N:Nat)(p0:dI):vL:=
 (JF p0).bind λy1=>(BS N y1).bind λb=>(if(decide (((List.length y1):Int)<2))then(some b) else((aA (MN N y1 b) N 1).bind λa=>(match a with| .inl o2=>some b| .inr (z)=>some z)):vL).bind λa=>some a
theorem qAc{p0:dI}{r}(st:St m (O) w)(r1:RepS C9 m a1 c1 p0)(hr:NB N p0=some r):Calls prog 84 #[vS a1 p0 c1] w λe w'=>∃a9 b0 m',cV m m' e (vS a9 r b0) (kR a9 r b0 103 3::O) w' (RepS C9 m' a9 b0 r):=by
 refine bU st func84 rfl ntmps84 λq=>bG (bT 1 hr (Ud st r1) ?_);rintro y1 hr _ w1 ⟨a,g,T1,m1,rfl,e1,p,st⟩;refine aZ (bF 1 ?_);have⟨B,b4,hr⟩:=aR hr;refine cL (nE 6 115 #[vS a y1 g,.func (.func 89) #[] #[]] kr rfl ((Sy st p rfl b4).mono ?_));rintro _ w2 ⟨rfl,st⟩;refine⟨_,rfl,?_⟩;have s:=((Sx b4).trans rfl);refine aK (bF 1 ?_);have⟨o1,hr,j1⟩:=aR hr;refine cL (nE 8 116 #[vS a y1 g] kr rfl (CJ (λv' w'=>∃M R m3,v'=(vS M o1 R)/\m.le m3/\St m3 (kR M o1 R 103 3::O) w'/\RepS C9 m3 M R o1) ?_ ?_))
 .have hr:=j1;rintro _ n ⟨M,R,m3,rfl,q,st,b⟩;refine⟨_,rfl,?_⟩;obtain rfl:=sI hr;exact dM ⟨M,R,m3,rfl,q,st,b⟩
 refine nQ func116 rfl ntmps116 (bK (bN hr ?_ ?_))<;>intro A hr
 .refine bG (bI (bD ?_));obtain rfl:=sI hr;obtain⟨n,b,st,D⟩:=St.freezeM (c:=C9) (f:=cR) st p s (λ_=>rfl) (λ_ x=>⟨_,_,rfl,rfl,⟨_,_,rfl,rfl,rfl⟩⟩);refine DF [(2,vS a B g)] (by(try simp only[vS,s]);kernel_rfl) ?_;exact pN ⟨_,rfl,⟨a,g,n,rfl,(q.t e1).t b,st,D⟩⟩
 refine aL (aF (bG (aU ?_)));have⟨a8,hr,j2⟩:=aR hr;refine eF (.exit 0) (λL' w'=>∃(o2:Unit),∃m5,(.inl o2)=a8/\L'=[(0,vS a y1 g)]/\m.le m5/\St m5 (bM a (aQ cR B T1) 103::O) w'/\List.length B=y1.length) ?_ ?_
 .rintro _ E ⟨o2,m5,rfl,rfl,q,st,s⟩;have hr:=j2;refine dB (bG (bI ?_));obtain rfl:=sI hr;obtain⟨b,n,st,D⟩:=St.freezeM (c:=C9) (f:=cR) st p s (λ_=>rfl) (λ_ x=>⟨_,_,rfl,rfl,⟨_,_,rfl,rfl,rfl⟩⟩);refine DF [(2,vS a B g)] (by(try simp only[vS,s]);kernel_rfl) ?_;exact pN ⟨_,rfl,⟨a,g,b,rfl,q.t n,st,D⟩⟩
 intro b1;refine cJ (λk1 L' w'=>∃(b:Int),∃G,aA (MN N y1 B) k1 b=some a8/\L'=[(0,vS a y1 g),(3,vI b)]/\m.le G/\St G (bM a (aQ cR B T1) 103::O) w'/\List.length B=y1.length) N ⟨1,m1,hr,rfl,q.t e1,st,s⟩ ?_;rintro k1 _ w5 ⟨b,G,hL,rfl,q,st,s⟩;obtain⟨k1,d1,rfl,hr,c3,a0⟩:=cM hL;refine aF (bN hr ?_ ?_)<;>intro A hr
 .refine aL (aF (aU (aF (dA [(10,λw'=>Inv G w'/\Piece.holds G w' (bM a (aQ cR B T1) 103)/\True)] kr st λw6 _ st=> ?_))));have a3:=G.le_refl;refine⟨aI (aC st a3),aT 2 [0,1] ?_⟩;have⟨U,b5,hr⟩:=aR hr;refine rX (t:=45) (e:=103) (x:=(.tmp 16)) (y:=(.tmp 17)) (k:=3) 2 18 kr rfl kr (.head _) (aG (bB (aG (aG (bB (aG dL)))))) (ev (vS a y1 g)) (ev (vI b)) kr p s b5 ?_;refine rY (t:=103) (x:=(.tmp 18)) (o:=0) (f:=cR) (z:=U) (v:= .agg (Vj U)) 3 19 (λ_=>rfl) (Int.toNat b*3) rfl kr rfl kr (.head _) (aG (bB (aG (aG (bB (aG dL)))))) cS (ev (.pointer (some ⟨ab a,Int.toNat b*3,none⟩))) p s b5 kr ?_;refine aT 3 [4,5,6] ?_;have⟨V,b6,hr⟩:=aR hr;refine rX (t:=45) (e:=103) (x:=(.tmp 20)) (y:=(.tmp 22)) (k:=3) 7 23 kr rfl kr (.head _) (aG (bB (aG (aG (bB (aG dL)))))) (ev (vS a y1 g)) (ev (vI (wI (b-1)))) kr p s b6 ?_;refine rY (t:=103) (x:=(.tmp 23)) (o:=0) (f:=cR) (z:=V) (v:= .agg (Vj V)) 8 24 (λ_=>rfl) (Int.toNat (wI (b-1))*3) rfl kr rfl kr (.head _) (aG (bB (aG (aG (bB (aG dL)))))) cS (ev (.pointer (some ⟨ab a,Int.toNat (wI (b-1))*3,none⟩))) p s b6 kr ?_
  refine aH 9 kr (TG (d:=25) (t:=103) (t2:=103) (x:=(.tmp 19)) (y:=(.tmp 24)) (xs:=(Vj U)) (ys:=(Vj V)) ((U.1==V.1)&&((U.2.1.toList==V.2.1.toList)&&((U.2.2.toList==V.2.2.toList)&&true))) kr rfl (ev (.agg (Vj U))) (ev (.agg (Vj V))) kr kr kr ⟨aI (aC st a3),bH kr (aY (aM hr ?_ ?_))⟩)<;>intro A hr
  .refine bF 2 ?_;have⟨u3,b7,hr⟩:=aR hr;refine cL (ZD (d:=28) (t:=45) (e:=103) (k:=3) (x:=(.tmp 26)) (lo:=(some (.tmp 27))) (hi:=none) (li:=b) (hix:=(B.length:Int)) kr rfl (ev (vS a y1 g)) kr (.inr ⟨_,_,rfl,(ev (vI b))⟩) (.inl ⟨rfl,kA Nat.cast s⟩) p s b7 ?_);have F:=DC b7 s;refine cZ (bG (aU (bL (.exit 2) hr (λK L' w'=>∃(D:zJ),∃m7,D=K/\L'=[(0,vS a y1 g),(3,vI D.1)]/\m.le m7/\St m7 (bM a (aQ cR D.2 T1) 103::O) w'/\List.length D.2=y1.length) ?_ ?_)))
   .rintro K hr _ w7 ⟨D,m7,rfl,rfl,q,st,n⟩;refine dB (bF 2 ?_);have⟨u6,H,hr⟩:=aR hr;refine cL (ZD (d:=56) (t:=45) (e:=103) (k:=3) (x:=(.tmp 54)) (lo:=(some (.tmp 55))) (hi:=none) (li:=D.1) (hix:=(D.2.length:Int)) kr rfl (ev (vS a y1 g)) kr (.inr ⟨_,_,rfl,(ev (vI D.1))⟩) (.inl ⟨rfl,kA Nat.cast n⟩) p n H ?_);have a7:=DC H n;have⟨l1,S,hr⟩:=aR hr;refine cL (qAr (t:=45) (e:=103) (k:=3) (x:=(.tmp 56)) (f:=cR) (l:=D.2) (lo:=D.1) (z:= .agg pR) (z0:=(0,eB,eB)) (λ_=>rfl) (λ_ _ hv=>by simp only[jG,gC,hY] at hv;rcases hv with rfl|rfl|rfl<;>rfl) kr (ev (.slice (lK a g (Int.toNat D.1) 3) (Int.toNat (D.2.length:Int)-Int.toNat D.1) (g-Int.toNat D.1))) rfl kr kr rfl st p n S λb2 st=> ?_);have E:=((qAi S).trans n);refine aK (bF 2 ?_);have⟨u7,Y,hr⟩:=aR hr;refine cL (ZD (d:=59) (t:=45) (e:=103) (k:=3) (x:=(.tmp 57)) (lo:=none) (hi:=(some (.tmp 58))) (li:=0) (hix:=D.1) kr rfl (ev (vS a y1 g)) kr (.inl ⟨rfl,rfl⟩) (.inr ⟨_,_,rfl,(ev (vI D.1))⟩) p E Y ?_);have Z:=DC Y E;refine aZ (bI (cH (bD ?_)));have ho:=a0 _ (sI hr);subst ho;have hr:=j2;refine bD (cH (bD ?_));obtain rfl:=sI hr;have a5:=qKx (k:=3) (l:=l1) p E Z
    obtain⟨a6,e4,st,r5⟩:=St.freezeView (c:=C9) (f:=cR) (hi:=D.1) st p E (λ_=>rfl) (λ_ x=>⟨_,_,rfl,rfl,⟨_,_,rfl,rfl,rfl⟩⟩) Z;refine DF [(2,.slice a (List.length (List.take (Int.toNat D.1) l1)) g)] (by(try simp only[vS,a5]);kernel_rfl) ?_;exact pN ⟨_,rfl,⟨a,g,a6,rfl,q.t e4,st,r5⟩⟩
   intro K hr b2;refine cJ (λk2 L' w'=>∃(n:Int×zJ),∃H,aA (MP N B b) k2 n=some K/\L'=[(0,vS a y1 g),(3,vI n.1),(4,.slice (lK a g (Int.toNat b) 3) (Int.toNat (B.length:Int)-Int.toNat b) (g-Int.toNat b)),(5,vI n.2.1)]/\m.le H/\St H (bM a (aQ cR n.d T1) 103::O) w'/\List.length n.d=y1.length) N ⟨(b,1,B),G,hr,rfl,q,st,s⟩ ?_;rintro k2 _ w8 ⟨n,H,hL,rfl,q,st,E⟩;obtain⟨k2,d2,rfl,hr,c5,c0⟩:=cM hL;refine aF (bN hr ?_ ?_)<;>intro A hr
   .refine aL (aF (bL .normal hr (λS L' w'=>∃m9,L'=[(0,vS a y1 g),(3,vI S.1),(4,.slice (lK a g (Int.toNat b) 3) (Int.toNat (B.length:Int)-Int.toNat b) (g-Int.toNat b)),(5,vI n.2.1)]/\m.le m9/\St m9 (bM a (aQ cR S.2 T1) 103::O) w'/\List.length S.2=y1.length) ?_ ?_))
    .rintro S hr _ Z ⟨m9,rfl,q,st,Y⟩;refine aY (bV 3 ?_);have hL:=c5 _ (sI hr);exact cG ⟨(S.1,wI (n.2.1+1),S.2),m9,hL,rfl,q,st,Y⟩
    intro S hr b3;refine aU (aF (dA [(10,λw'=>Inv H w'/\Piece.holds H w' (bM a (aQ cR n.d T1) 103)/\True)] kr st λd3 _ st=> ?_));have a5:=H.le_refl;refine⟨aI (aC st a5),aT 2 [0,1] ?_⟩;have⟨Y,b8,hr⟩:=aR hr;refine Gb (t:=45) (e:=103) (k:=3) (x:=(.tmp 35)) (y:=(.tmp 36)) (lo:=b) (hi:=(B.length:Int)) (ix:=n.2.1) 2 37 kr rfl kr (.head _) (aG (bB (aG (aG (bB (aG (bB (aG (aG (bB (aG dL))))))))))) (ev (.slice (lK a g (Int.toNat b) 3) (Int.toNat (B.length:Int)-Int.toNat b) (g-Int.toNat b))) (ev (vI n.2.1)) kr p E F b8 ?_;have c8:=(TN F.1 b8).1;refine rY (t:=103) (x:=(.tmp 37)) (o:=0) (f:=cR) (z:=Y) (v:= .agg (Vj Y)) 3 38 (λ_=>rfl) (Int.toNat (b+n.2.1)*3) rfl kr rfl kr (.head _) (aG (bB (aG (aG (bB (aG (bB (aG (aG (bB (aG dL))))))))))) cS (ev (.pointer (some ⟨ab a,Int.toNat (b+n.2.1)*3,none⟩))) p E c8 kr ?_;refine aT 3 [4,5,6] ?_;have⟨Z,b9,hr⟩:=aR hr
    refine Gb (t:=45) (e:=103) (k:=3) (x:=(.tmp 39)) (y:=(.tmp 41)) (lo:=b) (hi:=(B.length:Int)) (ix:=wI (n.2.1-1)) 7 42 kr rfl kr (.head _) (aG (bB (aG (aG (bB (aG (bB (aG (aG (bB (aG dL))))))))))) (ev (.slice (lK a g (Int.toNat b) 3) (Int.toNat (B.length:Int)-Int.toNat b) (g-Int.toNat b))) (ev (vI (wI (n.2.1-1)))) kr p E F b9 ?_;have c9:=(TN F.1 b9).1;refine rY (t:=103) (x:=(.tmp 42)) (o:=0) (f:=cR) (z:=Z) (v:= .agg (Vj Z)) 8 43 (λ_=>rfl) (Int.toNat (b+(wI (n.2.1-1)))*3) rfl kr rfl kr (.head _) (aG (bB (aG (aG (bB (aG (bB (aG (aG (bB (aG dL))))))))))) cS (ev (.pointer (some ⟨ab a,Int.toNat (b+(wI (n.2.1-1)))*3,none⟩))) p E c9 kr ?_;refine aH 9 kr (YZ (d:=44) (t:=103) (t2:=103) (x:=(.tmp 38)) (y:=(.tmp 43)) (xs:=(Vj Y)) (ys:=(Vj Z)) ((Y.1==Z.1)&&((Y.2.1.toList==Z.2.1.toList)&&((Y.2.2.toList==Z.2.2.toList)&&true))) kr rfl (ev (.agg (Vj Y))) (ev (.agg (Vj Z))) kr kr kr ⟨aI (aC st a5),bH kr (aY (aM hr ?_ ?_))⟩)<;>intro A hr
    .refine bF 4 ?_;have⟨x5,a6,hr⟩:=aR hr;refine cL (Xx (d:=49) (t:=45) (e:=103) (k:=3) (x:=(.tmp 47)) (y:=(.tmp 48)) (lo:=b) (hi:=(B.length:Int)) (ix:=n.2.1) kr rfl (ev (.slice (lK a g (Int.toNat b) 3) (Int.toNat (B.length:Int)-Int.toNat b) (g-Int.toNat b))) (ev (vI n.2.1)) kr p E F a6 ?_);have c6:=(TN F.1 a6).1;refine cL (XL (d:=50) (t:=103) (x:=(.tmp 49)) (o:=0) (f:=cR) (z:=x5) (v:= .agg (Vj x5)) (λ_=>rfl) (Int.toNat (b+n.2.1)*3) rfl kr rfl (ev (.pointer (some ⟨ab a,Int.toNat (b+n.2.1)*3,none⟩))) st.h p E c6 kr ?_);have⟨x6,a7,hr⟩:=aR hr;refine cL (MF (d:=51) (t:=45) (e:=103) (x:=(.tmp 45)) (y:=(.tmp 46)) (k:=3) kr rfl (ev (vS a y1 g)) (ev (vI n.1)) kr p E a7 (cL (MG (t:=103) (x:=(.tmp 51)) (y:=(.tmp 50)) (o:=0) (f:=cR) (z:=x6) (u:=x5) (v:= .agg (Vj x5)) (λ_=>rfl) (Int.toNat n.1*3) rfl kr (ev (.pointer (some ⟨ab a,Int.toNat n.1*3,none⟩))) (ev (.agg (Vj x5))) st p E a7 kr rfl λd4 st=> ?_)));have c7:List.length (List.set n.d (Int.toNat n.1) x5)=y1.length:=AL E _ _;exact aK (bV 3 (eG (b3 hr ⟨H,rfl,q,st,c7⟩)))
    exact lU (eG (b3 hr ⟨H,rfl,q,st,E⟩))
   refine cF ?_;have ho:=c0 _ (sI hr);exact cC (b2 rfl ⟨(n.1,n.d),H,ho,rfl,q,st,E⟩)
  refine eK (bV 3 ?_);have hL:=c3 _ (sI hr);exact cG ⟨wI (b+1),G,hL,rfl,q,st,s⟩
 refine cF ?_;have ho:=a0 _ (sI hr);exact cC (b1 _ _ ⟨(),G,ho,rfl,q,st,s⟩)
def KZ(N:Nat)(p0:Te):Option Te:=
 IE p0 (some ([]:Te)) ((dS 8 ([]:Te) p0).bind λa=>some a)
theorem Dw{p0:Te}{r}(st:St m (O) w)(l:RepS (aJ .i64) m a1 c1 p0)(hr:KZ N p0=some r):Calls prog 92 #[vS a1 p0 c1] w λe w'=>∃a b m',cV m m' e (vS a r b) (kR a r b 3 1::O) w' (RepS (aJ .i64) m' a b r):=by
 refine bU st func92 rfl ntmps92 λq=>bK (bF 1 ?_);rcases eX (Option.isNone a1) with hnil|hnil
 .replace hr:=nilS_true hr l hnil;refine cL (TE (d:=4) (t:=22) (t2:=22) (e:=3) (x:=(.tmp 3)) (y:=(.const (v6))) true kr rfl (ev (vS a1 p0 c1)) kr rfl hnil (aK (AN true kr ?_ (λh=>Bool.noConfusion h))));intro _;cases hr;exact cB ⟨none,0,m,rfl,q,(st.nilroom 3 1),(RepS.nil _ _)⟩
 replace hr:=qBb hr;refine cL (TE (d:=4) (t:=22) (t2:=22) (e:=3) (x:=(.tmp 3)) (y:=(.const (v6))) false kr rfl (ev (vS a1 p0 c1)) kr rfl hnil (aK (AN false kr (λh=>Bool.noConfusion h) ?_)));intro _;refine aL (aB (cL (mL (d:=5) (t:=22) (e:=3) (len:=0) (parts:= #[]) (aJ .i64) (xs:=([]:Te)) [] kr rfl (λ_=>Fg ad kr _) rfl rfl st rfl λu v z g st p=>cA 1 (lA 7 22 22 3 8 5 6 st (.inl kr) p (l.o g).src hr λk hr c f o A n st s=>aZ ?_))));obtain rfl:=sI hr;exact iI ⟨c,f,o,rfl,(q.t g).t n,st,s⟩
variable {c2 c3 c4:Nat} {a2 a3 a4:Option Addr}
def uT(N:Nat)(p0:mC)(a:EE):Option (EE⊕EE⊕EE):=
 (if(decide ((List.length a.2.1:Int)>0))then(some true) else(some (decide ((List.length a.1:Int)>0))):Tk).bind λb=>if b then((if((List.length a.2.1:Int)==0)then(some 1) else(if((List.length a.1:Int)==0)then(some (-1)) else((aO a.2.1 0).bind λb=>(aO a.1 0).bind λc=>(xX N b.1 c).bind λb=>some b)):Td).bind λc=>(if(decide (c<=0))then((aO a.2.1 0).bind λb=>(aO a.2.1 0).bind λd=>(KZ N d.2).bind λe=>(qP a.2.1 1 (List.length a.2.1:Int)).bind λd=>some (b.1.1,b.1.2.1,b.1.2.2,e,d)) else(some (0,(⟨#[]⟩:BA),(⟨#[]⟩:BA),([]:Te),a.2.1)):Option (Int×Ta×Ta×Te×sM)).bind λb=>(if(decide (c>=0))then((aO a.1 0).bind λc=>(dS 8 b.2.2.2.1 ([p0.2])).bind λd=>(qP a.1 1 (List.length a.1:Int)).bind λe=>some (c.1,c.2.1,c.2.2,d,e)) else(some (b.1,b.2.1,b.2.2.1,b.2.2.2.1,a.1)):Option (Int×Ta×Ta×Te×dI)).bind λc=>(dS 64 a.2.2 ([((c.1,c.2.1,c.2.2.1),c.2.2.2.1)])).bind λd=>some (.inl (c.2.2.2.2,b.2.2.2.2,d))) else(some (.inr (.inl a)))
def FX(N:Nat)(p0:mC)(p1:mK):Option mC:=
 (MO N (p1.1,p1.2.1,p1.2.2.1,p1.2.2.2.1,p1.2.2.2.2.1,p1.2.2.2.2.2.1,p1.2.2.2.2.2.2)).bind λy1=>(NB N y1).bind λa=>((aA (uT N p0) N (a,p0.1,([]:sM))).bind λa=>(match a with| .inl o2=>some o2| .inr (z)=>some z):Option EE).bind λa=>some (a.2.2,wI (p0.2+1))
theorem Fo{p0:mC}{p1:mK}{r:mC}(st:St m (O) w)(r1:RepS Cb m a1 c1 p0.1)(r2:RepS Ca m a2 c2 p1.j)(hr:FX N p0 p1=some r):Calls prog 50 #[.agg (V1 p0 a1 c1),.agg (Vm p1.1.1 p1.1.2 p1.2.1 p1.d.1 p1.e.1 p1.f.1.1 p1.f.1.2.1 p1.f.1.d p1.h.1 a2 p1.j c2)] w λe w'=>∃g2 g3 m',cV m m' e (.agg (V1 r g2 g3)) (kR g2 r.1 g3 160 4::O) w' (RepS Cb m' g2 g3 r.1):=by
 have q:=m.le_refl;refine qFa func50 rfl ntmps50 [(0,.agg (V1 p0 a1 c1)),(1,.agg (Vm p1.1.1 p1.1.2 p1.2.1 p1.d.1 p1.e.1 p1.f.1.1 p1.f.1.2.1 p1.f.1.d p1.h.1 a2 p1.j c2))] kr rfl ?_;refine aB (cX 2 63 (.agg (V1 p0 a1 c1)) st λb1 m1 w1 e1 st e5=>cX 3 53 (.agg (Vm p1.1.1 p1.1.2 p1.2.1 p1.d.1 p1.e.1 p1.f.1.1 p1.f.1.2.1 p1.f.1.d p1.h.1 a2 p1.j c2)) st λb2 m2 w2 e2 st h7=> ?_);have e5:=e5.o e2;refine cP 4 63 (.agg #[v6,vI 0]) st λb3 w3 st=>aK (dG 1 st (e5.drop 1) (cA 2 (cP 5 63 (.agg #[v6,vI 0]) st λb4 w4 st=>bP (.agg #[vh,vI (wI (p0.2+1))]) st λw5 st=>aK (aF (aF (dA [(8,λw'=>Inv m2 w'/\True)] kr st λw6 _ st=> ?_))))));have R:=m2.le_refl;refine tA st R (aS 0 (cQ 1 e5 (cQ 2 h7 (aS 5 (cQ 6 (e5.drop 1) (aH 3 kr (bQ hr (λ_ h=>Xr (p0:=p1) st ((r2.o e1).o e2) h) ?_)))))));rintro y1 hr _ w7 ⟨a3,c3,m3,rfl,e3,st,r3⟩;refine⟨_,rfl,?_⟩;have R:=R.t e3;refine tA st R (aH 4 kr (bQ hr (λ_ h=>qAc st r3 h) ?_));rintro y2 hr _ w8 ⟨a4,c4,m4,rfl,e4,st,r4⟩;refine⟨_,rfl,?_⟩;have R:=R.t e4
 refine tA st R (aH 7 kr (nE 18 83 #[vS a1 p0.1 c1,vS a4 y2 c4,vI p0.2] kr rfl (nQ func83 rfl ntmps83 (aB (cL (tX 3 61 0 (vS a1 p0.1 c1) st λH w9 st=>cL (tX 4 45 1 (vS a4 y2 c4) st λM k9 st=>cL (tX 5 3 2 (vI p0.2) st λU l0 st=>aZ (bG (bI (oP [6] [.func (.func 113) #[] #[vP H 0,vP M 0,vP U 0]] ⟨_,rfl,tA st R (bH kr ?_)⟩)))))))))));have st:=st.f4.t;refine aY (aU (Zr (f:=113) (cap:= #[vP H 0,vP M 0,vP U 0]) [] kr (qCx func113 kr) st λq1 l1 l6 h3 h1 h2 h4 st=> ?_));have⟨o1,hr,j1⟩:=aR hr;refine CJ (λv' w'=>∃a5 c5 a6 c6 a7 c7 m8,v'=(.tuple #[])/\m.le m8/\St m8 (kB U #[vI p0.2] 3::kB M #[vS a5 o1.1 c5] 45::kB H #[vS a6 o1.2.1 c6] 61::kB b4 #[vS a7 o1.d c7,vI (wI (p0.2+1))] 63::kB b3 #[vh,vI 0] 63::sW l1 q1 [] 0::yJ q1.D::kR a7 o1.d c7 160 4::O) w'/\P9 m8 a5 c5 a6 c6 a7 c7 o1) ?_ ?_
 .have hr:=j1;rintro _ b ⟨a5,c5,a6,c6,a7,c7,m8,rfl,q,st,n,p,a⟩;refine⟨_,rfl,?_⟩;refine qBc 0 st.f5 rfl λc st=> ?_;refine iU (aB (bX st.t.t.t.h (bP (.agg #[vS a7 o1.d c7,vI (wI (p0.2+1))]) st.f4 λg st=>aK (bI ?_))));cases hr;refine qKd st.f5 λk st=> ?_;refine qKe [.cell 4 63] [.agg #[vS a7 o1.d c7,vI (wI (p0.2+1))]] rfl (ResAll.cons (ResAt.blk (v:= .agg #[vS a7 o1.d c7,vI (wI (p0.2+1))]) (o:=0) kr st.h kr) ResAll.nil) ?_;exact⟨a7,c7,m8,rfl,q,st.t.t.t.t.t,a⟩
 refine nQ func113 rfl ntmps113 (aU (bL (.exit 0) hr (λd6 L' w'=>∃(o2:EE),∃a8 c8 a9 c9 d7 d8 m9,(.inl o2)=d6/\L'=[]/\m.le m9/\St m9 (kB U #[vI p0.2] 3::kB M #[vS a8 o2.1 c8] 45::kB H #[vS a9 o2.2.1 c9] 61::kB b4 #[vS d7 o2.d d8,vI (wI (p0.2+1))] 63::kB b3 #[vh,vI 0] 63::sW l1 q1 [] 0::yJ q1.D::kR d7 o2.d d8 160 4::O) w'/\P9 m9 a8 c8 a9 c9 d7 d8 o2) ?_ ?_))
 .rintro d6 hr _ g ⟨o2,a8,c8,a9,c9,d7,d8,m9,rfl,rfl,q,st,b,c,a⟩;cases hr;exact oK (HK [] [] rfl ResAll.nil ⟨_,rfl,⟨a8,c8,a9,c9,d7,d8,m9,rfl,q,st.f7.f7.f7.f7.f7.f7.f7.f7,b,c,a⟩⟩)
 intro d6 hr g4;have st:=(st.nilroom 160 4).front6;refine cJ (λk1 L' w'=>∃(a:EE),∃c k g n p s d5,aA (uT N p0) k1 a=some d6/\L'=[(0,.func (.yield l1) #[] #[]),(1,vP H 0),(2,vP M 0),(3,vP U 0)]/\m.le d5/\St d5 (kB U #[vI p0.2] 3::kB M #[vS c a.1 k] 45::kB H #[vS g a.2.1 n] 61::kB b4 #[vS p a.d s,vI (wI (p0.2+1))] 63::kB b3 #[vh,vI 0] 63::sW l1 q1 [] 0::yJ q1.D::kR p a.d s 160 4::O) w'/\P9 d5 c k g n p s a) N ⟨(y2,p0.1,([]:sM)),a4,c4,a1,c1,none,0,m4,hr,rfl,(((q.t e1).t e2).t e3).t e4,st.t.f2.f2.f7.f7.f7.f7.f7,r4,(((r1.o e1).o e2).o e3).o e4,(RepS.nil _ _)⟩ ?_;rintro k1 _ l7 ⟨a,c,k,g,n,p,s,d5,hL,rfl,q,st,z,F,B⟩;obtain⟨k1,k8,rfl,hr,h0,g9⟩:=cM hL;refine aF (aB (dT 8 hr (λo3 L' w'=>∃S,L'=[(0,.func (.yield l1) #[] #[]),(1,vP H 0),(2,vP M 0),(3,vP U 0),(14,vB o3)]/\m.le S/\St S (kB U #[vI p0.2] 3::kB M #[vS c a.1 k] 45::kB H #[vS g a.2.1 n] 61::kB b4 #[vS p a.d s,vI (wI (p0.2+1))] 63::kB b3 #[vh,vI 0] 63::sW l1 q1 [] 0::yJ q1.D::kR p a.d s 160 4::O) w'/\P9 S c k g n p s a) ?_ ?_))
 .rintro o3 hr _ l8 ⟨S,rfl,q,st,z,F,B⟩;refine aK (aM hr ?_ ?_)<;>intro A hr
  .refine aL (aU (bK (bL .normal hr (λo4 L' w'=>∃c0,L'=[(0,.func (.yield l1) #[] #[]),(1,vP H 0),(2,vP M 0),(3,vP U 0),(5,vI o4)]/\m.le c0/\St c0 (kB U #[vI p0.2] 3::kB M #[vS c a.1 k] 45::kB H #[vS g a.2.1 n] 61::kB b4 #[vS p a.d s,vI (wI (p0.2+1))] 63::kB b3 #[vh,vI 0] 63::sW l1 q1 [] 0::yJ q1.D::kR p a.d s 160 4::O) w'/\P9 c0 c k g n p s a) ?_ ?_)))
   .rintro o4 hr _ l9 ⟨c0,rfl,q,st,z,F,B⟩;refine aY (aB (cP 6 160 (.agg #[vI 0,vT eB,vT eB,v6]) st λY n0 st=>aK (aF (bG (bL .normal hr (λG L' w'=>∃a0 b0 d2 d3 E,L'=[(0,.func (.yield l1) #[] #[]),(1,vP H 0),(2,vP M 0),(3,vP U 0),(5,vI o4),(6,vP Y 0)]/\m.le E/\St E (kB Y #[vI G.1,vT G.2.1,vT G.d.1,vS a0 G.e.1 b0] 160::kB U #[vI p0.2] 3::kB M #[vS c a.1 k] 45::kB H #[vS d2 G.f d3] 61::kB b4 #[vS p a.d s,vI (wI (p0.2+1))] 63::kB b3 #[vh,vI 0] 63::sW l1 q1 [] 0::yJ q1.D::kR p a.d s 160 4::kR a0 G.e.1 b0 3 1::O) w'/\RepS (aJ .i64) E a0 b0 G.e.1/\RepS C9 E c k a.1/\RepS Cb E d2 d3 G.f/\RepS Cb E p s a.d) ?_ ?_)))))
    .rintro G hr _ n3 ⟨a0,b0,d2,d3,E,rfl,q,st,g8,z,f0,B⟩;refine iF (bG (bL .normal hr (λb L' w'=>∃V Z e6 e7 d1,L'=[(0,.func (.yield l1) #[] #[]),(1,vP H 0),(2,vP M 0),(3,vP U 0),(6,vP Y 0)]/\m.le d1/\St d1 (kB Y #[vI b.1,vT b.2.1,vT b.d.1,vS V b.e.1 Z] 160::kB U #[vI p0.2] 3::kB M #[vS e6 b.f e7] 45::kB H #[vS d2 G.f d3] 61::kB b4 #[vS p a.d s,vI (wI (p0.2+1))] 63::kB b3 #[vh,vI 0] 63::sW l1 q1 [] 0::yJ q1.D::kR p a.d s 160 4::kR V b.e.1 Z 3 1::O) w'/\RepS (aJ .i64) d1 V Z b.e.1/\RepS C9 d1 e6 e7 b.f/\RepS Cb d1 d2 d3 G.f/\RepS Cb d1 p s a.d) ?_ ?_))
     .rintro b hr _ k2 ⟨V,Z,e6,e7,d1,rfl,q,st,g6,g7,f0,B⟩;refine uF 1 (bX st.h ?_);have st:=st.f6;refine cL (qCv (d:=62) (l:=l1) (x:=(.tmp 60)) (xs:= #[(.tmp 61)]) (ts:= #[160]) [.agg #[vI b.1,vT b.2.1,vT b.d.1,vS V b.e.1 Z]] kr rfl (ev (.func (.yield l1) #[] #[])) kr h4 h3 h1 h2 rfl kr st ?_);intro R1 g1;refine YB rfl ?_;refine cP 6 160 (.agg #[vI 0,vT eB,vT eB,v6]) st λh8 k3 st=>bP (.agg #[vI b.1,vT b.2.1,vT b.d.1,vS V b.e.1 Z]) st λk4 st=>eJ (qIg st.f1 λk5 st=>aU (YB rfl (aW 1 st.t.t.t.t.t.t.h (bX st.t.h (cL (mL (d:=23) (t:=61) (e:=160) (len:=1) (parts:= #[(0,(.tmp 22))]) Cb (xs:=[((b.1,b.2.1,b.d.1),b.e.1)]) [vI b.1,vT b.2.1,vT b.d.1,vS V b.e.1 Z] kr rfl (λ_=>mS kr _) rfl rfl st ⟨[vI b.1,vT b.2.1,vT b.d.1,vS V b.e.1 Z],_,rfl,⟨_,_,rfl,⟨_,_,rfl,rfl,⟨_,_,rfl,rfl,rfl⟩⟩,(sC g6)⟩,rfl⟩ λh9 k0 k6 u st h5=>lA 24 61 61 160 64 21 23 st.f10 (.inl kr) (B.o u) h5.src hr λl5 hr d9 g0 g5 k7 d4 st h6=>cA 1 (lD #[vS d9 l5 g0,vI (wI (p0.2+1))] st.f8 λn4 st=>eJ ?_)))))));have st:=st.f2.t;refine iX (qFp [] st.f2 λn5 st=>g1 true _ (aZ (AN false kr (λh=>Bool.noConfusion h) ?_)));intro _;refine lU (iX ?_);have hL:=h0 _ (sI hr)
      exact cG ⟨(b.f,G.f,l5),e6,e7,d2,d3,d9,g0,g5,hL,rfl,(q.t u).t d4,st.f3.t.f3.t.f8.t.f2.f7.f2.f7.f4.f7.f7.f7,(g7.o u).o d4,(f0.o u).o d4,h6⟩
     intro b hr g5;refine aM hr ?_ ?_<;>intro A hr
     .refine aF (dA [(12,λw'=>Inv E w'/\Piece.holds E w' (kB U #[vI p0.2] 3)/\Piece.holds E w' (kB M #[vS c a.1 k] 45)/\True),(9,λw'=>Inv E w'/\Piece.holds E w' (kB Y #[vI G.1,vT G.2.1,vT G.d.1,vS a0 G.e.1 b0] 160)/\True)] kr st λn4 _ st=> ?_);have u:=E.le_refl;refine⟨iJ (aC st u) (aC st u),cE 0 lW ?_⟩;have⟨x5,h5,hr⟩:=aR hr;refine iD (t:=45) (e:=103) (x:=(.tmp 48)) (y:=(.const (vI 0))) 1 49 C9 kr rfl kr (.head _) (aG (aG (bB (aG (bB dL))))) (ev (vS c a.1 k)) (ev (vI 0)) kr z h5 ?_;rintro k4 f5 k6 ⟨_,_,rfl,rfl,⟨_,_,rfl,rfl,rfl⟩⟩ h8;refine cQ 2 h8 (aS 3 (uY 22 51 4 52 3 (vS a0 G.e.1 b0) (.tail _ (.head _)) cS (cE 5 cS (aS 8 (aH 6 kr (mL (d:=54) (t:=22) (e:=3) (len:=1) (parts:= #[(0,(.tmp 53))]) (aJ .i64) (xs:=[p0.2]) [vI p0.2] kr rfl (λ_=>mS kr _) rfl rfl st ⟨[vI p0.2],_,rfl,rfl,rfl⟩ λk5 k7 n5 d4 st k0=> ?_))))));have u:=u.t d4;refine⟨iJ (aC st u) (aC st u),aH 7 kr (rZ 55 22 22 3 8 52 54 st.f10 (.inl kr) (g8.o d4) k0.src hr λl3 hr g0 g1 h9 n6 d9 st k2=> ?_)⟩;have u:=u.t d9
      refine⟨iJ (aC st u) (aC st u),aH 9 kr (qH 103 56 50 0 (.agg (Vj x5)) #[vI x5.1,vT x5.2.1,vT x5.d,vS a0 G.e.1 b0] st.f2 λn7 st=>⟨qT (aC st u),aS 10 (aH 11 kr (qH 22 57 55 3 (vS g0 l3 g1) #[vI x5.1,vT x5.2.1,vT x5.d,vS g0 l3 g1] st λn8 st=>⟨qT (aC st u),bH kr ?_⟩))⟩)⟩;have st:=st.f2.t;refine aY (oL (bX st.t.t.t.h ?_));have⟨l4,h6,hr⟩:=aR hr;refine cL (GO (d:=59) (t:=45) (e:=103) (x:=(.tmp 58)) (lo:=(some (.const (vI 1)))) (hi:=none) C9 kr rfl (ev (vS c a.1 k)) kr ((z.o d4).o d9) (.inr ⟨_,_,rfl,(ev (vI 1))⟩) (.inl ⟨rfl,rfl⟩) h6 ?_);intro g6 g7 k3;exact bP (vS g6 l4 g7) st.f3 λn9 st=>oA (g5 hr ⟨g0,g1,g6,g7,h9,rfl,(q.t d4).t d9,st.f2.f9.f9.f9.f9.f9.f9.f7.f9.f9,k2,k3,(f0.o d4).o d9,(B.o d4).o d9⟩)
     exact eD (g5 hr ⟨a0,b0,c,k,E,rfl,q,st.f9.f9.f9.f9.f9.f9.f9.f9.f9.f9,g8,z,f0,B⟩)
    intro G hr d1;refine aM hr ?_ ?_<;>intro A hr
    .refine aF (dA [(13,λw'=>Inv c0 w'/\Piece.holds c0 w' (kB H #[vS g a.2.1 n] 61)/\True)] kr st λk6 _ st=> ?_);have b:=c0.le_refl;refine⟨aI (aC st b),cE 0 cS ?_⟩;have⟨u,g6,hr⟩:=aR hr;refine iD (t:=61) (e:=160) (x:=(.tmp 33)) (y:=(.const (vI 0))) 1 34 Cb kr rfl kr (.head _) (aG (aG (bB (aG (bB dL))))) (ev (vS g a.2.1 n)) (ev (vI 0)) kr F g6 ?_;rintro e7 f3 k3 ⟨_,_,rfl,⟨_,_,rfl,rfl,⟨_,_,rfl,rfl,rfl⟩⟩,⟨k0,k2,rfl,k5⟩⟩ g1;refine aS 2 (cQ 3 g1 (cE 4 cS ?_));have⟨x4,g7,hr⟩:=aR hr;refine iD (t:=61) (e:=160) (x:=(.tmp 37)) (y:=(.const (vI 0))) 5 38 Cb kr rfl kr (.head _) (aG (aG (bB (aG (bB dL))))) (ev (vS g a.2.1 n)) (ev (vI 0)) kr F g7 ?_;rintro f0 f4 k4 ⟨_,_,rfl,⟨_,_,rfl,rfl,⟨_,_,rfl,rfl,rfl⟩⟩,⟨e6,g0,rfl,h6⟩⟩ g5;refine aS 6 (cQ 7 (g5.drop 3) (aS 9 (aH 8 kr (bQ hr (λ_ h=>Dw st h6 h) ?_))));rintro y4 hr _ k7 ⟨V,Z,h5,rfl,e9,st,h8⟩;refine⟨_,rfl,?_⟩;have b:=b.t e9;refine⟨aI (aC st b),aH 10 kr (qH 103 42 36 0 (.agg (Vj u.1)) #[vI u.1.1,vT u.1.2.1,vT u.1.d,vb] st.f1 λn3 st=>⟨aI (aC st b),aS 11 (aH 12 kr (qH 22 43 41 3 (vS V y4 Z) #[vI u.1.1,vT u.1.2.1,vT u.1.d,vS V y4 Z] st λn4 st=>⟨aI (aC st b),bH kr (aY (oL (bX st.t.t.t.t.h ?_)))⟩))⟩)⟩;have⟨l2,g8,hr⟩:=aR hr
     refine cL (GO (d:=45) (t:=61) (e:=160) (x:=(.tmp 44)) (lo:=(some (.const (vI 1)))) (hi:=none) Cb kr rfl (ev (vS g a.2.1 n)) kr (F.o e9) (.inr ⟨_,_,rfl,(ev (vI 1))⟩) (.inl ⟨rfl,rfl⟩) g8 ?_);intro d4 d9 h9;exact bP (vS d4 l2 d9) st.f4 λn5 st=>oA (d1 hr ⟨V,Z,d4,d9,h5,rfl,q.t e9,st.f2.f9.f9.f9.f9.f9.f6.f9.f9.f9,h8,z.o e9,h9,B.o e9⟩)
    refine lU ?_;cases hr;have st:=(st.nilroom 3 1).front9.front9.front9.front9.front9.front9.front9.front9.front9;exact xE (d1 rfl ⟨none,0,g,n,c0,rfl,q,st,(RepS.nil _ _),z,F,B⟩)
   intro o4 hr u;refine aU (aB (bX st.t.t.h (dE hr ?_ ?_)))<;>intro A hr
   .exact bV 1 (eG (u hr ⟨S,rfl,q,st.f7.f7.f7.f7.f7.f7.f7.f7,z,F,B⟩))
   refine aB (bX st.t.h (dE hr ?_ ?_))<;>intro A hr
   .exact bV 1 (eG (u hr ⟨S,rfl,q,st.f7.f7.f7.f7.f7.f7.f7.f7,z,F,B⟩))
   refine dA [(9,λw'=>Inv S w'/\Piece.holds S w' (kB M #[vS c a.1 k] 45)/\Piece.holds S w' (kB H #[vS g a.2.1 n] 61)/\True)] kr st λe6 _ st=> ?_;have b:=S.le_refl;refine⟨aI (aC st b),cE 0 lW ?_⟩;have⟨x1,Z,hr⟩:=aR hr;refine iD (t:=61) (e:=160) (x:=(.tmp 15)) (y:=(.const (vI 0))) 1 16 Cb kr rfl kr (.head _) (bB (aG (bB (aG (bB dL))))) (ev (vS g a.2.1 n)) (ev (vI 0)) kr F Z ?_;rintro b8 G d3 ⟨_,_,rfl,⟨_,_,rfl,rfl,⟨_,_,rfl,rfl,rfl⟩⟩,⟨d1,d2,rfl,d9⟩⟩ V;refine aS 2 (cQ 3 V (cE 4 cS ?_));have⟨x2,a0,hr⟩:=aR hr;refine iD (t:=45) (e:=103) (x:=(.tmp 19)) (y:=(.const (vI 0))) 5 20 C9 kr rfl kr (.head _) (bB (aG (bB (aG (bB dL))))) (ev (vS c a.1 k)) (ev (vI 0)) kr z a0 ?_;rintro b9 f2 d4 ⟨_,_,rfl,rfl,⟨_,_,rfl,rfl,rfl⟩⟩ Y;refine cQ 6 Y (aH 7 kr (bQ hr (λ_ h=>SI (p0:=x1.1) (p1:=x2) st h) ?_));rintro y3 hr _ e7 ⟨b0,rfl,E,st⟩;refine⟨_,rfl,?_⟩;have b:=b.t E;exact⟨aI (aC st b),aS 8 (bH kr (eG (u hr ⟨b0,rfl,q.t E,st.f7.f7.f7.f7.f7.f7.f7.f7,z.o E,F.o E,B.o E⟩)))⟩
  refine cF ?_;have ho:=g9 _ (sI hr);have st:=st.f7.f7.f7.f7.f7.f7.f7.f7;exact cC (g4 rfl ⟨a,c,k,g,n,p,s,S,ho,rfl,q,st,z,F,B⟩)
 intro o3 hr K;refine bX st.t.t.h (bJ 3 10 hr ?_ ?_)<;>intro A hr
 .exact aN 4 (K hr ⟨d5,rfl,q,st.f7.f7.f7.f7.f7.f7.f7.f7,z,F,B⟩)
 exact bX st.t.h (aN 3 (K hr ⟨d5,rfl,q,st.f7.f7.f7.f7.f7.f7.f7.f7,z,F,B⟩))
def LV(N:Nat)(p0:BP)(b:Int):qC:=
 if(decide (b<(List.length p0:Int)))then((aO p0 b).bind λa=>(MC N (a.1,a.2.1,a.2.2.1,a.2.2.2.1,a.2.2.2.2.1,a.2.2.2.2.2.1,a.2.2.2.2.2.2)).bind λy1=>if y1 then(some (.inr (.inr (b)))) else(some (.inl (wI (b+1))))) else(some (.inr (.inl ())))
def LU(N:Nat)(p0:BP)(b:Int×mC):Option (Int×mC⊕mC):=
 if(decide (b.1<(List.length p0:Int)))then((aO p0 b.1).bind λa=>(FX N b.2 (a.1,a.2.1,a.2.2.1,a.2.2.2.1,a.2.2.2.2.1,a.2.2.2.2.2.1,a.2.2.2.2.2.2)).bind λa=>some (.inl (wI (b.1+1),a.1,a.2))) else(some (.inr b.2))
def FU(N:Nat)(p0:BP):Option (mC×Int):=
 if(decide ((List.length p0:Int)>512))then(some ((([]:sM),0),2)) else(((aA (LV N p0) N 0).bind λa=>(match a with| .inl o2=>some (-1)| .inr (z)=>some z):Td).bind λa=>if(decide (a>=0))then(some ((([]:sM),0),1)) else((aA (LU N p0) N (0,([]:sM),0)).bind λa=>some (a,0)))
theorem Fm{p0:BP}{r:mC×Int}(st:St m (O) w)(b:RepS Cc m a1 c1 p0)(hr:FU N p0=some r):Calls prog 13 #[vS a1 p0 c1] w λe w'=>∃y z m',cV m m' e (.tuple #[.agg (V1 r.1 y z),vI r.2]) (kR y r.1.1 z 160 4::O) w' (RepS Cb m' y z r.1.1):=by
 refine bU st func13 rfl ntmps13 λq=>aB (cP 2 63 (.agg #[v6,vI 0]) st λl w1 st=>cZ (bN hr ?_ ?_))<;>intro A hr
 .refine bF 1 (bP (.agg #[vh,vI 0]) st λa st=>aZ (bI (bD ?_)));cases hr;refine rA 2 63 [3] [vI 2] st.h ?_;have st:=(st.nilroom 160 4).front1;exact⟨none,0,m,rfl,q,st.t,(RepS.nil _ _)⟩
 refine aL (aF (bF 1 (cL (nE 12 47 #[vS a1 p0 c1,.func (.func 48) #[] #[]] kr rfl (nQ func47 rfl ntmps47 (bG (bF 2 ?_)))))));have⟨M,hr,j1⟩:=aR hr;refine cL (nE 7 79 #[vS a1 p0 c1,.func (.func 48) #[] #[]] kr rfl (CJ (λv' w'=>∃u,v'=(vI M)/\m.le u/\St u (kB l #[vh,vI 0] 63::O) w'/\RepS Cc u a1 c1 p0) ?_ ?_))
 .have hr:=j1;rintro _ w3 ⟨u,rfl,q,st,b⟩;refine⟨_,rfl,?_⟩;refine aZ (bI (oP [4] [vB (decide (M>=0))] ⟨_,rfl,(aK (aM hr ?_ ?_))⟩))<;>intro A hr
  .refine bF 1 (bP (.agg #[vh,vI 0]) st λa st=>aZ (bI (bD ?_)));cases hr;refine rA 2 63 [3] [vI 1] st.h ?_;have st:=(st.nilroom 160 4).front1;exact⟨none,0,u,rfl,q,st.t,(RepS.nil _ _)⟩
  refine aL (aB (cP 4 63 (.agg #[v6,vI 0]) st λD w8 st=>aK (aF (bG (aU (bL (.exit 0) hr (λg L' w'=>∃(o:mC),∃k n x,o=g/\L'=[(2,vP l 0),(4,vP D 0)]/\m.le x/\St x (kB D (V1 o k n) 63::kB l #[vh,vI 0] 63::kR k o.1 n 160 4::O) w'/\RepS Cb x k n o.1) ?_ ?_))))))
  .rintro g hr _ p ⟨o,k,n,x,rfl,rfl,q,st,a⟩;obtain rfl:=sI hr;exact dB (aB (bX st.h (bP (.agg (V1 o k n)) st.f1 λc st=>aZ (bI (iE st.h ⟨k,n,x,rfl,q,st.t.t,a⟩)))))
  intro g hr B;have st:=(st.nilroom 160 4).front2.front2;refine cJ (λE L' w'=>∃(c:Int×mC),∃p s v,aA (LU N p0) E c=some g/\L'=[(2,vP l 0),(4,vP D 0),(14,vS a1 p0 c1),(15,vI (p0.length:Int)),(16,vI c.1)]/\m.le v/\St v (kB D (V1 c.2 p s) 63::kB l #[vh,vI 0] 63::kR p c.2.1 s 160 4::O) w'/\RepS Cc v a1 c1 p0/\RepS Cb v p s c.2.1) N ⟨(0,([]:sM),0),none,0,u,hr,rfl,q,st,b,(RepS.nil _ _)⟩ ?_;rintro E _ a8 ⟨c,p,s,v,hL,rfl,q,st,b,Z⟩;obtain⟨E,a7,rfl,hr,K,H⟩:=cM hL;refine bK (aM hr ?_ ?_)<;>intro A hr
  .refine aL (aF (aU (aB (dD b hr ?_))));rintro a hr b4 f2 a0 ⟨_,_,rfl,⟨_,_,rfl,rfl,rfl⟩,⟨_,_,rfl,rfl,⟨_,_,rfl,rfl,⟨_,_,rfl,rfl,⟨_,_,rfl,⟨_,_,rfl,rfl,⟨_,_,rfl,rfl,rfl⟩⟩,⟨_,_,rfl,rfl,⟨F,G,rfl,r5⟩⟩⟩⟩⟩⟩⟩ Y;refine bC st Y (cP 6 53 (.agg #[vT eB,vT eB,vI 0,vI 0,vI 0,vI 0,vI 0,vI 0,vB false,v6]) st λb5 a9 st=>bP (.agg (Vm a.1.1 a.1.2 a.2.1 a.d.1 a.e.1 a.f.1.1 a.f.1.2.1 a.f.1.d a.h.1 F a.j G)) st λb0 st=>aK (oL (bX st.t.h (bX st.h (aX hr (Fo (p0:=c.2) (p1:=a) st Z r5) ?_)))));rintro R hr _ b6 ⟨S,U,m7,rfl,V,st,r6⟩;refine bP (.agg (V1 R S U)) st.f2 λb7 st=>eJ ?_;have st:=st.f4.t;refine iU (bV 2 ?_);have hL:=K _ (sI hr);exact cG ⟨(wI (c.1+1),R.1,R.2),S,U,m7,hL,rfl,q.t V,st.f2.t.f1.f2.f2,b.o V,r6⟩
  refine cF ?_;have ho:=H _ (sI hr);have st:=st.f2.f2.f2;exact cC (B rfl ⟨c.2,p,s,v,ho,rfl,q,st,Z⟩)
 refine nQ func79 rfl ntmps79 (bK (bG (aU ?_)));have⟨o,hr,D⟩:=aR hr;refine eF (.exit 0) (λL' w'=>∃(o2:Unit),∃k,(.inl o2)=o/\L'=[]/\m.le k/\St k (kB l #[vh,vI 0] 63::O) w'/\RepS Cc k a1 c1 p0) ?_ ?_
 .rintro _ a ⟨o2,k,rfl,rfl,q,st,b⟩;have hr:=D;cases hr;exact dB (cB ⟨_,rfl,⟨k,rfl,q,st,b⟩⟩)
 intro p;refine cJ (λv L' w'=>∃(c:Int),∃n,aA (LV N p0) v c=some o/\L'=[(0,vS a1 p0 c1),(1,.func (.func 48) #[] #[]),(7,vI (p0.length:Int)),(8,vI c)]/\m.le n/\St n (kB l #[vh,vI 0] 63::O) w'/\RepS Cc n a1 c1 p0) N ⟨0,m,hr,rfl,q,st,b⟩ ?_;rintro v _ V ⟨c,n,hL,rfl,q,st,b⟩;obtain⟨v,S,rfl,hr,x,g⟩:=cM hL;refine bK (aM hr ?_ ?_)<;>intro A hr
 .refine aL (aF (aU (bG (bF 3 (dD b hr ?_)))));rintro a hr U H R ⟨_,_,rfl,⟨_,_,rfl,rfl,rfl⟩,⟨_,_,rfl,rfl,⟨_,_,rfl,rfl,⟨_,_,rfl,rfl,⟨_,_,rfl,⟨_,_,rfl,rfl,⟨_,_,rfl,rfl,rfl⟩⟩,⟨_,_,rfl,rfl,⟨F,G,rfl,K⟩⟩⟩⟩⟩⟩⟩ B;refine bC st B (aX hr (Xj (p0:=a) st K) ?_);rintro y1 hr _ Y ⟨E,rfl,s,st⟩;refine aK (aM hr ?_ ?_)<;>intro A hr
  .refine bG (bI (cH (bD ?_)));have ho:=g _ (sI hr);subst ho;have hr:=D;obtain rfl:=sI hr;exact eV ⟨_,rfl,⟨E,rfl,q.t s,st,b.o s⟩⟩
  refine eK (bV 2 ?_);have hL:=x _ (sI hr);exact cG ⟨wI (c+1),E,hL,rfl,q.t s,st,b.o s⟩
 refine cF ?_;have ho:=g _ (sI hr);exact cC (p _ _ ⟨(),n,ho,rfl,q,st,b⟩)
def LW(N:Nat)(p0:mC)(b:lY×Te)(a:Int):Tj:=
 if(decide (a<(List.length b.2:Int)))then((aO b.2 a).bind λc=>(if(decide (c<0))then(some true) else(if(decide (c>=p0.2))then(some true) else(if(decide (a>0))then((aO b.2 (wI (a-1))).bind λb=>some (decide (c<=b))) else(some false))):Tk).bind λb=>if b then(some (.inr (.inr (false)))) else(some (.inl (wI (a+1))))) else(some (.inr (.inl ())))
def LY(N:Nat)(p0:mC)(a:Int):Tj:=
 if(decide (a<(List.length p0.1:Int)))then((aO p0.1 a).bind λb=>((AC N b.1).bind λy1=>if(!y1)then(some true) else(if(decide (a>0))then((aO p0.1 (wI (a-1))).bind λc=>(xX N c.1 b.1).bind λc=>if(decide (c>=0))then(some true) else(some ((List.length b.2:Int)==0))) else(some ((List.length b.2:Int)==0))):Tk).bind λc=>if c then(some (.inr (.inr (false)))) else((aA (LW N p0 b) N 0).bind λb=>(match b with| .inl b=>some (.inl (wI (a+1)))| .inr (z)=>some (.inr (.inr (z)))))) else(some (.inr (.inl ())))
def xY(N:Nat)(p0:mC):Tk:=
 (if(decide (p0.2<0))then(some true) else(some (decide (p0.2>512))):Tk).bind λa=>if a then(some false) else((aA (LY N p0) N 0).bind λa=>(match a with| .inl o2=>some true| .inr (z)=>some z))
theorem SK{p0:mC}{r:Bool}(st:St m (O) w)(f:RepS Cb m a1 c1 p0.1)(hr:xY N p0=some r):Calls prog 56 #[.agg (V1 p0 a1 c1)] w λe w'=>∃m',dN m m' e (vB r) (O) w':=by
 refine bU st func56 rfl ntmps56 λq=>aB (cX 1 63 (.agg (V1 p0 a1 c1)) st λn m1 w1 V st c=>cZ (aB ?_));have⟨o1,hr,J⟩:=aR hr;refine pY (j:=8) (λL' w'=>∃E,L'=[(1,vP n 0),(14,vB o1)]/\m.le E/\St E (O) w'/\MRow E n 0 [vS a1 p0.1 c1,vI p0.2]/\RepS Cb E a1 c1 p0.1) ?_ ?_
 .have hr:=J;rintro _ w2 ⟨E,rfl,q,st,c,f⟩;refine aK (aM hr ?_ ?_)<;>intro A hr
  .cases hr;exact cB ⟨E,rfl,q,st⟩
  refine aL (aF (dG 1 st c (eH ?_)));have⟨M,hr,j1⟩:=aR hr;refine eF (.exit 0) (λL' w'=>∃(o2:Unit),∃m3,(.inl o2)=M/\L'=[]/\m.le m3/\St m3 (O) w') ?_ ?_
  .rintro _ a ⟨o2,m3,rfl,rfl,q,st⟩;have hr:=j1;cases hr;exact dB (cB ⟨m3,rfl,q,st⟩)
  intro S;refine cJ (λY L' w'=>∃(g:Int),∃z,aA (LY N p0) Y g=some M/\L'=[(1,vP n 0),(16,vS a1 p0.1 c1),(17,vI (p0.1.length:Int)),(18,vI g)]/\m.le z/\St z (O) w'/\MRow z n 0 [vS a1 p0.1 c1,vI p0.2]/\RepS Cb z a1 c1 p0.1) N ⟨0,E,hr,rfl,q,st,c,f⟩ ?_;rintro Y _ w4 ⟨g,z,hL,rfl,q,st,c,f⟩;obtain⟨Y,b8,rfl,hr,a0,D⟩:=cM hL;refine bK (aM hr ?_ ?_)<;>intro A hr
  .refine aL (aF (aU (bF 1 (dD f hr ?_))));rintro a hr b2 f1 a9 ⟨_,_,rfl,⟨_,_,rfl,rfl,⟨_,_,rfl,rfl,rfl⟩⟩,⟨l,o,rfl,k⟩⟩ a6;refine bC st a6 (cP 4 160 (.agg #[vI 0,vT eB,vT eB,v6]) st λs w5 st=>cA 1 (bP (.agg #[vI a.1.1,vT a.1.2.1,vT a.1.d,vS l a.2 o]) st λw6 st=>aK (aF (aF ?_))));have⟨o3,hr,J⟩:=aR hr;refine eF .normal (λL' w'=>∃B,L'=[(1,vP n 0),(4,vP s 0),(16,vS a1 p0.1 c1),(17,vI (p0.1.length:Int)),(18,vI g),(49,vB o3)]/\m.le B/\St B (kB s #[vI a.1.1,vT a.1.2.1,vT a.1.d,vS l a.2 o] 160::O) w'/\MRow B n 0 [vS a1 p0.1 c1,vI p0.2]/\RepS Cb B a1 c1 p0.1/\RepS (aJ .i64) B l o a.2) ?_ ?_
   .have hr:=J;rintro _ w7 ⟨B,rfl,q,st,c,f,k⟩;refine aY (aM hr ?_ ?_)<;>intro A hr
    .refine bG (bI (bD (cH (bD ?_))));have ho:=D _ (sI hr);subst ho;have hr:=j1;cases hr;exact eV ⟨B,rfl,q,st.t⟩
    refine aL (aB (aW 1 st.h (eH ?_)));have⟨R,hr,j2⟩:=aR hr;refine eF (.exit 2) (λL' w'=>∃(o4:Unit),∃F,(.inl o4)=R/\L'=[(1,vP n 0),(16,vS a1 p0.1 c1),(17,vI (p0.1.length:Int)),(18,vI g)]/\m.le F/\St F (kB s #[vI a.1.1,vT a.1.2.1,vT a.1.d,vS l a.2 o] 160::O) w'/\MRow F n 0 [vS a1 p0.1 c1,vI p0.2]/\RepS Cb F a1 c1 p0.1/\RepS (aJ .i64) F l o a.2) ?_ ?_
    .rintro _ p ⟨o4,F,rfl,rfl,q,st,c,f,k⟩;have hr:=j2;refine oK (iU (bV 2 ?_));have hL:=a0 _ (sI hr);exact cG ⟨wI (g+1),F,hL,rfl,q,st.t,c,f⟩
    intro U;refine cJ (λZ L' w'=>∃(v:Int),∃u,aA (LW N p0 a) Z v=some R/\L'=[(1,vP n 0),(4,vP s 0),(16,vS a1 p0.1 c1),(17,vI (p0.1.length:Int)),(18,vI g),(51,vS l a.2 o),(52,vI (a.2.length:Int)),(53,vI v)]/\m.le u/\St u (kB s #[vI a.1.1,vT a.1.2.1,vT a.1.d,vS l a.2 o] 160::O) w'/\MRow u n 0 [vS a1 p0.1 c1,vI p0.2]/\RepS Cb u a1 c1 p0.1/\RepS (aJ .i64) u l o a.2) N ⟨0,B,hr,rfl,q,st,c,f,k⟩ ?_;rintro Z _ c0 ⟨v,u,hL,rfl,q,st,c,f,k⟩;obtain⟨Z,b9,rfl,hr,a5,H⟩:=cM hL;refine bK (aM hr ?_ ?_)<;>intro A hr
    .refine aL (aF (aU (bF 1 (dD k hr ?_))));rintro G hr b5 f3 b0 rfl a7;refine bC st a7 (nV (dT 22 hr (λo5 L' w'=>∃p,L'=[(1,vP n 0),(4,vP s 0),(16,vS a1 p0.1 c1),(17,vI (p0.1.length:Int)),(18,vI g),(51,vS l a.2 o),(52,vI (a.2.length:Int)),(53,vI v),(79,vB o5)]/\m.le p/\St p (kB s #[vI a.1.1,vT a.1.2.1,vT a.1.d,vS l a.2 o] 160::O) w'/\MRow p n 0 [vS a1 p0.1 c1,vI p0.2]/\RepS Cb p a1 c1 p0.1/\RepS (aJ .i64) p l o a.2) ?_ ?_))
     .rintro o5 hr _ a8 ⟨p,rfl,q,st,c,f,k⟩;refine aK (aM hr ?_ ?_)<;>intro A hr
      .refine bG (bI (cH (bD ?_)));have ho:=H _ (sI hr);subst ho;have hr:=j2;refine bD (cH (cH (bD ?_)));have ho:=D _ (sI hr);subst ho;have hr:=j1;cases hr;exact eV ⟨p,rfl,q,st.t⟩
      refine eK (bV 2 ?_);have hL:=a5 _ (sI hr);exact cG ⟨wI (v+1),p,hL,rfl,q,st,c,f,k⟩
     intro o5 hr K;refine bJ 3 60 hr ?_ ?_<;>intro A hr
     .exact aN 19 (K hr ⟨u,rfl,q,st,c,f,k⟩)
     refine cI 2 st (c.drop 1) (bJ 3 66 hr ?_ ?_)<;>intro A hr
     .exact aN 13 (K hr ⟨u,rfl,q,st,c,f,k⟩)
     refine bJ 3 69 hr ?_ ?_<;>intro A hr
     .refine aW 2 st.h (cA 2 (dD k hr ?_));rintro x4 hr b6 f4 b7 rfl a8;exact bC st a8 (aN 3 (K hr ⟨u,rfl,q,st,c,f,k⟩))
     exact aN 10 (K hr ⟨u,rfl,q,st,c,f,k⟩)
    refine cF ?_;have ho:=H _ (sI hr);exact cC (U _ _ ⟨(),u,ho,rfl,q,st,c,f,k⟩)
   intro K;refine dA [(27,λw'=>Inv z w'/\Piece.holds z w' (kB s #[vI a.1.1,vT a.1.2.1,vT a.1.d,vS l a.2 o] 160)/\True)] kr st λw8 _ st=> ?_;have p:=z.le_refl;refine⟨aI (aC st p),?_⟩;have hb1S:=c;have r1S:=f;refine aS 0 (cE 1 cS (aH 2 kr (bQ hr (λ_ h=>XG (p0:=a.1) st h) ?_)));rintro y1 hr _ w9 ⟨U,rfl,F,st⟩;refine⟨_,rfl,?_⟩;have q:=q.t F;have c:=c.o F;have f:=f.o F;have k:=k.o F;have p:=p.t F;refine⟨aI (aC st p),aT 2 [3,4] ?_⟩;rcases eX (!y1) with A|A
   .rw[jB A] at hr;cases hr;exact hZ (t:=27) (b:=true) (!y1) kr A (aT 22 [5,6,7,8,9,10,11,12,13,14,15,16,17,18,19,20,21,22,23,24,25,26] (bH kr (xE (K _ _ ⟨U,rfl,q,st,c,f,k⟩))))
   rw[jA (not_true A)] at hr;refine hZ (t:=27) (b:=false) (!y1) kr A (aT 3 [5,6,7] ?_);rcases eX (decide (g>0)) with A|A
   .rw[jB A] at hr;refine hZ (t:=30) (b:=true) (decide (g>0)) kr A (aS 8 (cQ 9 hb1S (aT 2 [10,11] ?_)));have⟨x2,R,hr⟩:=aR hr;refine iD (t:=61) (e:=160) (x:=(.tmp 32)) (y:=(.tmp 34)) 12 35 Cb kr rfl kr (.head _) (aG (aG (bB (aG (aG (bB (aG dL))))))) (ev (vS a1 p0.1 c1)) (ev (vI (wI (g-1)))) kr r1S R ?_;rintro b4 G a5 ⟨_,_,rfl,⟨_,_,rfl,rfl,⟨_,_,rfl,rfl,rfl⟩⟩,⟨a3,c3,rfl,r3⟩⟩ H;have hq2S:=H;refine aS 13 (cQ 14 hq2S (aS 15 (cE 16 cS (aH 17 kr (bQ hr (λ_ h=>SI (p0:=x2.1) (p1:=a.1) st h) ?_)))));rintro v hr _ a7 ⟨Z,rfl,u,st⟩;refine⟨_,rfl,?_⟩;have p:=p.t u;refine⟨aI (aC st p),aT 4 [18,19,20,21] ?_⟩;rcases eX (decide (v>=0)) with A|A
    .rw[jB A] at hr;cases hr;exact hZ (t:=44) (b:=true) (decide (v>=0)) kr A (aT 5 [22,23,24,25,26] (bH kr (xE (K _ _ ⟨Z,rfl,q.t u,st,c.o u,f.o u,k.o u⟩))))
    rw[jA (not_true A)] at hr;cases hr;exact hZ (t:=44) (b:=false) (decide (v>=0)) kr A (aS 22 (cE 23 cS (aT 3 [24,25,26] (bH kr (xE (K _ _ ⟨Z,rfl,q.t u,st,c.o u,f.o u,k.o u⟩))))))
   rw[jA (not_true A)] at hr;cases hr;exact hZ (t:=30) (b:=false) (decide (g>0)) kr A (aT 15 [8,9,10,11,12,13,14,15,16,17,18,19,20,21,22] (cE 23 cS (aT 3 [24,25,26] (bH kr (xE (K _ _ ⟨U,rfl,q,st,c,f,k⟩))))))
  refine cF ?_;have ho:=D _ (sI hr);exact cC (S _ _ ⟨(),z,ho,rfl,q,st⟩)
 intro K;refine cI 1 st (c.drop 1) (bJ 2 10 hr ?_ ?_)<;>intro A hr
 .cases hr;exact aN 4 (K _ _ ⟨m1,rfl,q.t V,st,c,f.o V⟩)
 cases hr;exact cI 1 st (c.drop 1) (aN 2 (K _ _ ⟨m1,rfl,q.t V,st,c,f.o V⟩))
def SL(N:Nat)(p0:lY):Tk:=
 (AC N p0).bind λy1=>some (!y1)
theorem Xg{p0:lY}{r:Bool}(st:St m (O) w)(hr:SL N p0=some r):Calls prog 87 #[.agg (Vj p0)] w λe w'=>∃m',dN m m' e (vB r) (O) w':=by
 refine bU st func87 rfl ntmps87 λq=>aB (cX 1 103 (.agg (Vj p0)) st λf g h b st a=>nV (bC st a (aX hr (XG (p0:=p0) st) ?_)));rintro y1 hr _ k ⟨d,rfl,c,st⟩;obtain rfl:=sI hr;exact dM ⟨d,rfl,(q.t b).t c,st⟩
def ME(N:Nat)(p0:mC)(p1:lY)(a:iZ):Option (iZ⊕Int):=
 if(decide (a.1<a.2))then((aO p0.1 (wI (Int.fdiv (IntKind.wrap .u64 (wI (a.1+a.2))) (2^1)))).bind λb=>(xX N b.1 p1).bind λb=>if(!(decide (b>=0)))then(some (.inl (wI ((wI (Int.fdiv (IntKind.wrap .u64 (wI (a.1+a.2))) (2^1)))+1),a.2))) else(some (.inl (a.1,wI (Int.fdiv (IntKind.wrap .u64 (wI (a.1+a.2))) (2^1)))))) else(some (.inr a.1))
def GH(N:Nat)(p0:mC)(p1:lY):Option Te:=
 (xY N p0).bind λy1=>if(!y1)then(some ([]:Te)) else(((aA (ME N p0 p1) N (0,(List.length p0.1:Int))).bind λo2=>some o2:Td).bind λa=>(if(a==(List.length p0.1:Int))then(some true) else((aO p0.1 a).bind λb=>some (!((b.1.1==p1.1)&&((b.1.2.1.toList==p1.2.1.toList)&&((b.1.2.2.toList==p1.2.2.toList)&&true))))):Tk).bind λb=>if b then(some ([]:Te)) else((aO p0.1 a).bind λa=>(KZ N a.2).bind λa=>some a))
theorem Fx{p0:mC}{p1:lY}{r}(st:St m (O) w)(f:RepS Cb m a1 c1 p0.1)(hr:GH N p0 p1=some r):Calls prog 58 #[.agg (V1 p0 a1 c1),.agg (Vj p1)] w λe w'=>∃z B m',cV m m' e (vS z r B) (kR z r B 3 1::O) w' (RepS (aJ .i64) m' z B r):=by
 refine bU st func58 rfl ntmps58 λq=>aB (cL (tX 2 63 0 (.agg (V1 p0 a1 c1)) st λc w1 st=>cL (tX 3 103 1 (.agg (Vj p1)) st λk w2 st=>cZ (aB (bX st.t.h (aX hr (SK (p0:=p0) st f) ?_))))));rintro y1 hr _ w3 ⟨U,rfl,G,st⟩;refine dE hr ?_ ?_<;>intro A hr
 .refine bG (bI (bD ?_));cases hr;refine oP [4] [vb] ?_;have st:=(st.nilroom 3 1).front1;exact⟨none,0,U,rfl,q.t G,st.t.f1.t,(RepS.nil _ _)⟩
 refine aL (aB (aW 1 st.t.h (cA 2 ?_)));have⟨g,hr,j1⟩:=aR hr;refine cL (nE 13 90 #[vI (p0.1.length:Int),.func (.func 91) #[] #[vP c 0,vP k 0]] kr rfl (CJ (λv' w'=>∃l,v'=(vI g)/\m.le l/\St l (kB k (Vj p1) 103::kB c (V1 p0 a1 c1) 63::O) w'/\RepS Cb l a1 c1 p0.1) ?_ ?_))
 .have hr:=j1;rintro _ w4 ⟨l,rfl,q,st,f⟩;refine⟨_,rfl,?_⟩;refine cZ (aF (bL .normal hr (λp L' w'=>∃o,L'=[(2,vP c 0),(5,vI g),(28,vB p)]/\m.le o/\St o (kB k (Vj p1) 103::kB c (V1 p0 a1 c1) 63::O) w'/\RepS Cb o a1 c1 p0.1) ?_ ?_))
  .rintro p hr _ w9 ⟨o,rfl,q,st,f⟩;refine aY (aM hr ?_ ?_)<;>intro A hr
   .refine bG (bI (bD ?_));cases hr;refine oP [4] [vb] ?_;have st:=(st.nilroom 3 1).front1;exact⟨none,0,o,rfl,q,st.t.f1.t,(RepS.nil _ _)⟩
   refine aL (aB (aW 1 st.t.h (cA 1 (dD f hr ?_))));rintro V hr D H Y ⟨_,_,rfl,⟨_,_,rfl,rfl,⟨_,_,rfl,rfl,rfl⟩⟩,⟨v,E,rfl,R⟩⟩ s;refine cI 1 st (s.drop 3) (aX hr (Dw st R) ?_);rintro u hr _ Z ⟨a,n,M,rfl,F,st,S⟩;obtain rfl:=sI hr;exact dM ⟨a,n,M,rfl,q.t F,st.f1.t.f1.t,S⟩
  intro p hr K;refine dA [(15,λw'=>Inv l w'/\Piece.holds l w' (kB k (Vj p1) 103)/\Piece.holds l w' (kB c (V1 p0 a1 c1) 63)/\True)] kr st λF _ st=> ?_;have n:=l.le_refl;refine⟨aI (aC st n),aT 2 [0,1] (cE 2 lW (aT 3 [3,4,5] ?_))⟩;rcases eX (g==(p0.1.length:Int)) with A|A
  .rw[jB A] at hr;exact hZ (t:=19) (b:=true) (g==(p0.1.length:Int)) kr A (aT 9 [6,7,8,9,10,11,12,13,14] (bH kr (xE (K hr ⟨l,rfl,q,st.f1.f1,f⟩))))
  rw[jA (not_true A)] at hr;refine hZ (t:=19) (b:=false) (g==(p0.1.length:Int)) kr A (aS 6 (cE 7 lW (aS 8 ?_)));have⟨a,v,hr⟩:=aR hr;refine iD (t:=61) (e:=160) (x:=(.tmp 21)) (y:=(.tmp 22)) 9 23 Cb kr rfl kr (.head _) (aG (aG dL)) (ev (vS a1 p0.1 c1)) (ev (vI g)) kr f v ?_;rintro D s E ⟨_,_,rfl,⟨_,_,rfl,rfl,⟨_,_,rfl,rfl,rfl⟩⟩,⟨H,M,rfl,R⟩⟩ u;exact aS 10 (cQ 11 u (cE 12 cS (aH 13 kr (YZ (d:=27) (t:=103) (t2:=103) (x:=(.tmp 25)) (y:=(.tmp 26)) (xs:=(Vj a.1)) (ys:=(Vj p1)) ((a.1.1==p1.1)&&((a.1.2.1.toList==p1.2.1.toList)&&((a.1.2.2.toList==p1.2.2.toList)&&true))) kr rfl (ev (.agg (Vj a.1))) (ev (.agg (Vj p1))) kr kr kr ⟨aI (aC st n),aS 14 (bH kr (xE (K hr ⟨l,rfl,q,st.f1.f1,f⟩)))⟩))))
 refine nQ func90 rfl ntmps90 (bG (bK (aU (bL (.exit 0) hr (λp L' w'=>∃(o2:Int),∃v,o2=p/\L'=[(5,vI o2)]/\m.le v/\St v (kB k (Vj p1) 103::kB c (V1 p0 a1 c1) 63::O) w'/\RepS Cb v a1 c1 p0.1) ?_ ?_))))
 .rintro p hr _ a ⟨o2,v,rfl,rfl,q,st,f⟩;obtain rfl:=sI hr;exact dB (cB ⟨_,rfl,⟨v,rfl,q,st.f1.f1,f⟩⟩)
 intro p hr D;refine cJ (λE L' w'=>∃(a:iZ),∃o,aA (ME N p0 p1) E a=some p/\L'=[(1,.func (.func 91) #[] #[vP c 0,vP k 0]),(5,vI a.1),(6,vI a.2)]/\m.le o/\St o (kB k (Vj p1) 103::kB c (V1 p0 a1 c1) 63::O) w'/\RepS Cb o a1 c1 p0.1) N ⟨(0,(p0.1.length:Int)),U,hr,rfl,q.t G,st.f1.f1,f.o G⟩ ?_;rintro E _ w6 ⟨a,o,hL,rfl,q,st,f⟩;obtain⟨E,a6,rfl,hr,u,H⟩:=cM hL;refine aF (bN hr ?_ ?_)<;>intro A hr
 .refine aL (aU (bG (bF 2 (cL (nE 20 91 #[vI (wI (Int.fdiv (IntKind.wrap .u64 (wI (a.1+a.2))) (2^1))),vP c 0,vP k 0] kr rfl (nQ func91 rfl ntmps91 (bK (dA [(10,λw'=>Inv o w'/\Piece.holds o w' (kB k (Vj p1) 103)/\Piece.holds o w' (kB c (V1 p0 a1 c1) 63)/\True)] kr st λw7 _ st=> ?_))))))));have n:=o.le_refl;refine⟨aI (aC st n),aS 0 (cE 1 lW (aS 2 ?_))⟩;have⟨Y,S,hr⟩:=aR hr;refine iD (t:=61) (e:=160) (x:=(.tmp 6)) (y:=(.tmp 7)) 3 8 Cb kr rfl kr (.head _) (aG dL) (ev (vS a1 p0.1 c1)) (ev (vI (wI (Int.fdiv (IntKind.wrap .u64 (wI (a.1+a.2))) (2^1))))) kr f S ?_;rintro Z M a0 ⟨_,_,rfl,⟨_,_,rfl,rfl,⟨_,_,rfl,rfl,rfl⟩⟩,⟨a2,c2,rfl,r2⟩⟩ R;refine aS 4 (cQ 5 R (cE 6 cS (aH 7 kr (bQ hr (λ_ h=>SI (p0:=Y.1) (p1:=p1) st h) ?_))));rintro F hr _ w8 ⟨V,rfl,s,st⟩;refine⟨_,rfl,?_⟩;have n:=n.t s;refine⟨aI (aC st n),aT 2 [8,9] (bH kr (aY (bI (oP [4] [vB (decide (F>=0))] ⟨_,rfl,(dE hr ?_ ?_)⟩))))⟩<;>intro A hr
  .refine bV 3 (iX ?_);have hL:=u _ (sI hr);exact cG ⟨(wI ((wI (Int.fdiv (IntKind.wrap .u64 (wI (a.1+a.2))) (2^1)))+1),a.2),V,hL,rfl,q.t s,st.f1.f1,f.o s⟩
  refine bV 2 (iX ?_);have hL:=u _ (sI hr);exact cG ⟨(a.1,wI (Int.fdiv (IntKind.wrap .u64 (wI (a.1+a.2))) (2^1))),V,hL,rfl,q.t s,st.f1.f1,f.o s⟩
 refine cF ?_;have ho:=H _ (sI hr);have st:=st.f1.f1;exact cC (D rfl ⟨a.1,o,ho,rfl,q,st,f⟩)
def LS(N:Nat)(p1:dI)(a:Int):qC:=
 if(decide (a<(List.length p1:Int)))then((aO p1 a).bind λb=>(SL N b).bind λb=>if b then(some (.inr (.inr (a)))) else(some (.inl (wI (a+1))))) else(some (.inr (.inl ())))
def LT(N:Nat)(b:Te)(a:JA):Option (JA⊕List Bool):=
 if(decide (a.1<(List.length b:Int)))then((aO b a.1).bind λb=>(aO a.2 b).bind λc=>some (.inl (wI (a.1+1),List.set a.2 (Int.toNat b) true))) else(some (.inr a.2))
def LR(N:Nat)(p0:mC)(p1:dI)(a:JA):Option (JA⊕List Bool):=
 if(decide (a.1<(List.length p1:Int)))then((aO p1 a.1).bind λb=>(GH N p0 b).bind λb=>(aA (LT N b) N (0,a.2)).bind λb=>some (.inl (wI (a.1+1),b))) else(some (.inr a.2))
def LP(N:Nat)(p0:mC)(p2:Bool)(b:List Bool)(a:Tf):Option (Tf⊕Te):=
 if(decide (a.2<((Int.toNat p0.2):Int)))then(((aO b a.2).bind λb=>if(b==p2)then((dS 8 a.1 ([a.2])).bind λb=>some b) else(some a.1):Option Te).bind λb=>some (.inl (b,wI (a.2+1)))) else(some (.inr a.1))
def MI(N:Nat)(p0:mC)(p1:dI)(p2:Bool):Option Tf:=
 ((xY N p0).bind λy1=>if(!y1)then(some true) else(((aA (LS N p1) N 0).bind λa=>(match a with| .inl a=>some (-1)| .inr (z)=>some z):Td).bind λo2=>some (decide (o2>=0))):Tk).bind λa=>if a then(some (([]:Te),1)) else((wX 1 false p0.2).bind λa=>(aA (LR N p0 p1) N (0,a)).bind λa=>(aA (LP N p0 p2 a) N (([]:Te),0)).bind λa=>some (a,0))
theorem Fd{p0:mC}{p1:dI}{p2:Bool}{r:Tf}(st:St m (O) w)(b:RepS Cb m a1 c1 p0.1)(c:RepS C9 m a2 c2 p1)(hr:MI N p0 p1 p2=some r):Calls prog 51 #[.agg (V1 p0 a1 c1),vS a2 p1 c2,vB p2] w λe w'=>∃Y Z m',cV m m' e (.tuple (V1 r Y Z)) (kR Y r.1 Z 3 1::O) w' (RepS (aJ .i64) m' Y Z r.1):=by
 refine bU st func51 rfl ntmps51 λq=>aB (cX 3 63 (.agg (V1 p0 a1 c1)) st λn m1 w1 V st a=> ?_);have b:=b.o V;refine cZ (aB (dT 7 hr (λo1 L' w'=>∃D,L'=[(1,vS a2 p1 c2),(2,vB p2),(3,vP n 0),(21,vB o1)]/\m.le D/\St D (O) w'/\RepS C9 D a2 c2 p1/\MRow D n 0 [vS a1 p0.1 c1,vI p0.2]/\RepS Cb D a1 c1 p0.1) ?_ ?_))
 .rintro o1 hr _ w2 ⟨D,rfl,q,st,c,a,b⟩;refine aK (aM hr ?_ ?_)<;>intro A hr
  .cases hr;exact cB ⟨none,0,D,rfl,q,(st.nilroom 3 1),(RepS.nil _ _)⟩
  refine aL (dG 1 st (a.drop 1) ?_);have⟨l1,d2,hr⟩:=aR hr;refine cL (Gy (d:=24) (t:=162) (e:=4) (by_:=1) (x:=(.tmp 23)) (y:=(.tmp 23)) (λx:Bool=>Value.bool x) kr rfl (ev (vI p0.2)) (ev (vI p0.2)) kr kr rfl st d2 λg w8 c0 st=>cZ (bG (aU (bL (.exit 0) hr (λv L' w'=>∃(p:List Bool),∃m8,p=v/\L'=[(2,vB p2),(8,.slice (aP g) (Int.toNat p0.2) (Int.toNat p0.2))]/\m.le m8/\St m8 (.blk g (.cells (lV (λx:Bool=>Value.bool x) p []) 4 (0,0))::O) w'/\List.length p=(Int.toNat p0.2)) ?_ ?_))))
  .rintro v hr _ w9 ⟨p,m8,rfl,rfl,q,st,l⟩;refine dB (bK (bG (aU (bL (.exit 4) hr (λs L' w'=>∃(M:Te),∃E G z,M=s/\L'=[(13,vS E M G)]/\m.le z/\St z (.blk g (.cells (lV (λx:Bool=>Value.bool x) p []) 4 (0,0))::kR E M G 3 1::O) w'/\RepS (aJ .i64) z E G M/\List.length p=(Int.toNat p0.2)) ?_ ?_))))
   .rintro s hr _ o ⟨M,E,G,z,rfl,rfl,q,st,k,l⟩;obtain rfl:=sI hr;exact dB (cB ⟨E,G,z,rfl,q,st.t,k⟩)
   intro s hr a0;have st:=(st.nilroom 3 1).front1;refine cJ (λk4 L' w'=>∃(k:Tf),∃F H o,aA (LP N p0 p2 p) k4 k=some s/\L'=[(2,vB p2),(8,.slice (aP g) (Int.toNat p0.2) (Int.toNat p0.2)),(13,vS F k.1 H),(45,vI ((Int.toNat p0.2):Int)),(46,vI k.2)]/\m.le o/\St o (.blk g (.cells (lV (λx:Bool=>Value.bool x) p []) 4 (0,0))::kR F k.1 H 3 1::O) w'/\RepS (aJ .i64) o F H k.1/\List.length p=(Int.toNat p0.2)) N ⟨(([]:Te),0),none,0,m8,hr,rfl,q,st,(RepS.nil _ _),l⟩ ?_;rintro k4 _ d1 ⟨k,F,H,o,hL,rfl,q,st,r5,l⟩;obtain⟨k4,c9,rfl,hr,b8,b0⟩:=cM hL;refine bK (aM hr ?_ ?_)<;>intro A hr
   .refine aL (aF (bL .normal hr (λR L' w'=>∃S U B,L'=[(2,vB p2),(8,.slice (aP g) (Int.toNat p0.2) (Int.toNat p0.2)),(13,vS S R U),(45,vI ((Int.toNat p0.2):Int)),(46,vI k.2)]/\m.le B/\St B (.blk g (.cells (lV (λx:Bool=>Value.bool x) p []) 4 (0,0))::kR S R U 3 1::O) w'/\RepS (aJ .i64) B S U R/\List.length p=(Int.toNat p0.2)) ?_ ?_))
    .rintro R hr _ a8 ⟨S,U,B,rfl,q,st,r6,l⟩;refine aY (bV 2 ?_);have hL:=b8 _ (sI hr);exact cG ⟨(R,wI (k.2+1)),S,U,B,hL,rfl,q,st.f1.f1,r6,l⟩
    intro R hr a8;refine aU (bG (bF 2 ?_));have⟨x5,a9,hr⟩:=aR hr;refine cL (ST (d:=51) (t:=162) (e:=4) (x:=(.tmp 49)) (y:=(.tmp 50)) kr rfl (ev (.slice (aP g) (Int.toNat p0.2) (Int.toNat p0.2))) (ev (vI k.2)) kr l a9 (cL (Zj (d:=52) (t:=4) (x:=(.tmp 51)) kr rfl (ev (.pointer (some ⟨g,Int.toNat k.2,none⟩))) st.h a9 kr (dE hr ?_ ?_))))<;>intro A hr
    .refine dV 2 (eE 57 3 1 (aJ .i64) [k.2] st λb7 c8 d3 e5 st r7=>lA 58 22 22 3 8 55 57 st.f2 (.inl kr) (r5.o e5) r7.src hr λl2 hr a7 c7 b9 d4 e6 st r8=>cW 1 ?_);have st:=st.f1.t;exact eG (a8 hr ⟨a7,c7,b9,rfl,(q.t e5).t e6,st.f1,r8,l⟩)
    exact lU (eG (a8 hr ⟨F,H,o,rfl,q,st.f1.f1,r5,l⟩))
   refine cF ?_;have ho:=b0 _ (sI hr);have st:=st.f1.f1;exact cC (a0 rfl ⟨k.1,F,H,o,ho,rfl,q,st,r5,l⟩)
  intro v hr R;refine cJ (λk2 L' w'=>∃(l:JA),∃E,aA (LR N p0 p1) k2 l=some v/\L'=[(2,vB p2),(3,vP n 0),(8,.slice (aP g) (Int.toNat p0.2) (Int.toNat p0.2)),(25,vS a2 p1 c2),(26,vI (p1.length:Int)),(27,vI l.1)]/\m.le E/\St E (.blk g (.cells (lV (λx:Bool=>Value.bool x) l.2 []) 4 (0,0))::O) w'/\MRow E n 0 [vS a1 p0.1 c1,vI p0.2]/\RepS Cb E a1 c1 p0.1/\RepS C9 E a2 c2 p1/\List.length l.2=(Int.toNat p0.2)) N ⟨(0,l1),D,hr,rfl,q,st,a,b,c,c0⟩ ?_;rintro k2 _ d8 ⟨l,E,hL,rfl,q,st,a,b,c,a0⟩;obtain⟨k2,d6,rfl,hr,b8,a9⟩:=cM hL;refine bK (aM hr ?_ ?_)<;>intro A hr
  .refine aL (aF (aU (aB (dD c hr ?_))));rintro G hr b4 f2 d4 ⟨_,_,rfl,rfl,⟨_,_,rfl,rfl,rfl⟩⟩ c9;refine bC st c9 (cP 10 103 (.agg pR) st λb5 d9 st=>bP (.agg (Vj G)) st λe7 st=>aK (aB (bC st a (bX st.h (aX hr (Fx (p0:=p0) (p1:=G) st b) ?_)))));rintro B hr _ e8 ⟨U,c3,d3,rfl,e4,st,r3⟩;refine eH (bL (.exit 2) hr (λz L' w'=>∃(M:List Bool),∃o,M=z/\L'=[(2,vB p2),(3,vP n 0),(8,.slice (aP g) (Int.toNat p0.2) (Int.toNat p0.2)),(25,vS a2 p1 c2),(26,vI (p1.length:Int)),(27,vI l.1)]/\m.le o/\St o (kB b5 (Vj G) 103:: .blk g (.cells (lV (λx:Bool=>Value.bool x) M []) 4 (0,0))::kR U B c3 3 1::O) w'/\MRow o n 0 [vS a1 p0.1 c1,vI p0.2]/\RepS Cb o a1 c1 p0.1/\RepS C9 o a2 c2 p1/\List.length M=(Int.toNat p0.2)) ?_ ?_)
   .rintro z hr _ s ⟨M,o,rfl,rfl,q,st,a,b,c,k⟩;refine oK (iU (bV 2 ?_));have st:=st.f2.t;have hL:=b8 _ (sI hr);exact cG ⟨(wI (l.1+1),M),o,hL,rfl,q,st.t,a,b,c,k⟩
   intro z hr S;refine cJ (λk3 L' w'=>∃(s:JA),∃k,aA (LT N B) k3 s=some z/\L'=[(2,vB p2),(3,vP n 0),(8,.slice (aP g) (Int.toNat p0.2) (Int.toNat p0.2)),(25,vS a2 p1 c2),(26,vI (p1.length:Int)),(27,vI l.1),(33,vS U B c3),(34,vI (B.length:Int)),(35,vI s.1)]/\m.le k/\St k (kB b5 (Vj G) 103:: .blk g (.cells (lV (λx:Bool=>Value.bool x) s.2 []) 4 (0,0))::kR U B c3 3 1::O) w'/\MRow k n 0 [vS a1 p0.1 c1,vI p0.2]/\RepS Cb k a1 c1 p0.1/\RepS C9 k a2 c2 p1/\RepS (aJ .i64) k U c3 B/\List.length s.2=(Int.toNat p0.2)) N ⟨(0,l.2),d3,hr,rfl,q.t e4,st.f2.f2,a.o e4,b.o e4,c.o e4,r3,a0⟩ ?_;rintro k3 _ e9 ⟨s,k,hL,rfl,q,st,a,b,c,r3,H⟩;obtain⟨k3,d7,rfl,hr,b9,b0⟩:=cM hL;refine bK (aM hr ?_ ?_)<;>intro A hr
   .refine aL (aF (aU (aB (dD r3 hr ?_))));rintro F hr b6 f3 d5 rfl d1;refine bC st d1 (aZ (dV 2 ?_));have⟨x4,a8,hr⟩:=aR hr;refine cL (ST (d:=41) (t:=162) (e:=4) (x:=(.tmp 39)) (y:=(.tmp 40)) kr rfl (ev (.slice (aP g) (Int.toNat p0.2) (Int.toNat p0.2))) (ev (vI F)) kr H a8 (cL (XH (f:=(λx:Bool=>Value.bool x)) (u:=true) (t:=4) (x:=(.tmp 41)) (y:=(.const (vB true))) kr (ev (.pointer (some ⟨g,Int.toNat F,none⟩))) (ev (vB true)) st.f1 a8 rfl kr λf0 st=> ?_)));have c8:List.length (List.set s.2 (Int.toNat F) true)=(Int.toNat p0.2):=AL H _ _;refine eJ (iU (bV 2 ?_));have hL:=b9 _ (sI hr);exact cG ⟨(wI (s.1+1),List.set s.2 (Int.toNat F) true),k,hL,rfl,q,st.f2.f1.f2,a,b,c,r3,c8⟩
   refine cF ?_;have ho:=b0 _ (sI hr);have st:=st.f2.f2.f2;exact cC (S rfl ⟨s.2,k,ho,rfl,q,st,a,b,c,H⟩)
  refine cF ?_;have ho:=a9 _ (sI hr);exact cC (R rfl ⟨l.2,E,ho,rfl,q,st,a0⟩)
 intro o1 hr K;refine bC st a (aX hr (SK (p0:=p0) st b) ?_);rintro y1 hr _ w3 ⟨M,rfl,k,st⟩;refine bJ 2 18 hr ?_ ?_<;>intro A hr
 .exact aN 3 (K hr ⟨M,rfl,(q.t V).t k,st,(c.o V).o k,a.o k,b.o k⟩)
 refine cA 1 (cL (nE 20 86 #[vS a2 p1 c2,.func (.func 87) #[] #[]] kr rfl (nQ func86 rfl ntmps86 (bG (bF 2 ?_)))));have⟨o2,hr,j1⟩:=aR hr;refine cL (nE 7 117 #[vS a2 p1 c2,.func (.func 87) #[] #[]] kr rfl (CJ (λv' w'=>∃o,v'=(vI o2)/\m.le o/\St o (O) w'/\RepS C9 o a2 c2 p1/\MRow o n 0 [vS a1 p0.1 c1,vI p0.2]/\RepS Cb o a1 c1 p0.1) ?_ ?_))
 .have hr:=j1;rintro _ g ⟨o,rfl,q,st,c,a,b⟩;refine⟨_,rfl,?_⟩;exact aZ (bI (oP [4] [vB (decide (o2>=0))] ⟨_,rfl,aN 1 (K hr ⟨o,rfl,q,st,c,a,b⟩)⟩))
 refine nQ func117 rfl ntmps117 (bK (bG (aU ?_)));have⟨z,hr,H⟩:=aR hr;refine eF (.exit 0) (λL' w'=>∃(S:Unit),∃p,(.inl S)=z/\L'=[]/\m.le p/\St p (O) w'/\RepS C9 p a2 c2 p1/\MRow p n 0 [vS a1 p0.1 c1,vI p0.2]/\RepS Cb p a1 c1 p0.1) ?_ ?_
 .rintro _ g ⟨S,p,rfl,rfl,q,st,c,a,b⟩;have hr:=H;cases hr;exact dB (cB ⟨_,rfl,⟨p,rfl,q,st,c,a,b⟩⟩)
 intro B;refine cJ (λE L' w'=>∃(g:Int),∃s,aA (LS N p1) E g=some z/\L'=[(0,vS a2 p1 c2),(1,.func (.func 87) #[] #[]),(7,vI (p1.length:Int)),(8,vI g)]/\m.le s/\St s (O) w'/\RepS C9 s a2 c2 p1/\MRow s n 0 [vS a1 p0.1 c1,vI p0.2]/\RepS Cb s a1 c1 p0.1) N ⟨0,M,hr,rfl,(q.t V).t k,st,(c.o V).o k,a.o k,b.o k⟩ ?_;rintro E _ w6 ⟨g,s,hL,rfl,q,st,c,a,b⟩;obtain⟨E,a8,rfl,hr,F,v⟩:=cM hL;refine bK (aM hr ?_ ?_)<;>intro A hr
 .refine aL (aF (aU (bG (bF 3 (dD c hr ?_)))));rintro U hr b2 f1 a0 ⟨_,_,rfl,rfl,⟨_,_,rfl,rfl,rfl⟩⟩ G;refine bC st G (aX hr (Xg (p0:=U) st) ?_);rintro y2 hr _ w7 ⟨R,rfl,l,st⟩;refine aK (aM hr ?_ ?_)<;>intro A hr
  .refine bG (bI (cH (bD ?_)));have ho:=v _ (sI hr);subst ho;have hr:=H;obtain rfl:=sI hr;exact eV ⟨_,rfl,⟨R,rfl,q.t l,st,c.o l,a.o l,b.o l⟩⟩
  refine eK (bV 2 ?_);have hL:=F _ (sI hr);exact cG ⟨wI (g+1),R,hL,rfl,q.t l,st,c.o l,a.o l,b.o l⟩
 refine cF ?_;have ho:=v _ (sI hr);exact cC (B _ _ ⟨(),s,ho,rfl,q,st,c,a,b⟩)
def FO(N:Nat)(p0:mC)(p1:dI):Option Tf:=
 (MI N p0 p1 false).bind λy1=>some y1
theorem Eu{p0:mC}{p1:dI}{r:Tf}(st:St m (O) w)(l:RepS Cb m a1 c1 p0.1)(n:RepS C9 m a2 c2 p1)(hr:FO N p0 p1=some r):Calls prog 14 #[.agg (V1 p0 a1 c1),vS a2 p1 c2] w λe w'=>∃a b m',cV m m' e (.tuple (V1 r a b)) (kR a r.1 b 3 1::O) w' (RepS (aJ .i64) m' a b r.1):=by
 refine bU st func14 rfl ntmps14 λq=>aB (cX 2 63 (.agg (V1 p0 a1 c1)) st λp s u f st g=>nV (bC st g (dQ 1 hr (Fd (p0:=p0) st (l.o f) (n.o f)) ?_)));rintro y1 hr _ v ⟨c,d,k,rfl,h,st,o⟩;obtain rfl:=sI hr;exact dM ⟨c,d,k,rfl,(q.t f).t h,st,o⟩
def FQ(N:Nat)(p0:mC)(p1:dI):Option Tf:=
 (MI N p0 p1 true).bind λy1=>some y1
theorem Ew{p0:mC}{p1:dI}{r:Tf}(st:St m (O) w)(l:RepS Cb m a1 c1 p0.1)(n:RepS C9 m a2 c2 p1)(hr:FQ N p0 p1=some r):Calls prog 15 #[.agg (V1 p0 a1 c1),vS a2 p1 c2] w λe w'=>∃a b m',cV m m' e (.tuple (V1 r a b)) (kR a r.1 b 3 1::O) w' (RepS (aJ .i64) m' a b r.1):=by
 refine bU st func15 rfl ntmps15 λq=>aB (cX 2 63 (.agg (V1 p0 a1 c1)) st λp s u f st g=>nV (bC st g (dQ 1 hr (Fd (p0:=p0) st (l.o f) (n.o f)) ?_)));rintro y1 hr _ v ⟨c,d,k,rfl,h,st,o⟩;obtain rfl:=sI hr;exact dM ⟨c,d,k,rfl,(q.t f).t h,st,o⟩
def KN(N:Nat)(p0:mK)(a:Int):qC:=
 if(decide (a<(List.length p0.2.2.2.2.2.2:Int)))then((aO p0.2.2.2.2.2.2 a).bind λc=>(LO N c.1 p0.2.2.2.1).bind λb=>(if(b.2 !=0)then(some true) else(if(!((b.1.1==c.1.1)&&((b.1.2.1.toList==c.1.2.1.toList)&&((b.1.2.2.toList==c.1.2.2.toList)&&true))))then(some true) else(if(decide (a>0))then((aO p0.2.2.2.2.2.2 (wI (a-1))).bind λc=>(LL N c.1 b.1).bind λb=>some (!b)) else(some false))):Tk).bind λb=>if b then(some (.inr (.inr (1)))) else(some (.inl (wI (a+1))))) else(some (.inr (.inl ())))
def KM(N:Nat)(p0:mK)(p1:Int)(a:Int):qC:=
 if(decide (a<(List.length p0.2.2.2.2.2.2:Int)))then((aO p0.2.2.2.2.2.2 a).bind λb=>(if(decide (b.2<0))then(some true) else(some (decide (b.2>=p1))):Tk).bind λb=>if b then(some (.inr (.inr (20)))) else(some (.inl (wI (a+1))))) else(some (.inr (.inl ())))
def RK(N:Nat)(p0:mK)(p1:Int):Td:=
 ((LN N (p0.1,p0.2.1,p0.2.2.1,p0.2.2.2.1,p0.2.2.2.2.1,p0.2.2.2.2.2.1,p0.2.2.2.2.2.2)).bind λy1=>if(!y1)then(some true) else((zP N p0.2.2.2.2.1).bind λa=>some (!a)):Tk).bind λa=>if a then(some 1) else((aA (KN N p0) N 0).bind λa=>(match a with| .inl o2=>if(decide ((List.length p0.2.2.2.2.2.2:Int)>1024))then(some 2) else((aA (KM N p0 p1) N 0).bind λa=>(match a with| .inl a=>some 0| .inr (z)=>some z))| .inr (z)=>some z))
theorem Wd{p0:mK}{p1:Int}{r:Int}(st:St m (O) w)(k:RepS Ca m a1 c1 p0.j)(hr:RK N p0 p1=some r):Calls prog 88 #[.agg (Vm p0.1.1 p0.1.2 p0.2.1 p0.d.1 p0.e.1 p0.f.1.1 p0.f.1.2.1 p0.f.1.d p0.h.1 a1 p0.j c1),vI p1] w λe w'=>∃m',dN m m' e (vI r) (O) w':=by
 refine bU st func88 rfl ntmps88 λq=>aB (cX 2 53 (.agg (Vm p0.1.1 p0.1.2 p0.2.1 p0.d.1 p0.e.1 p0.f.1.1 p0.f.1.2.1 p0.f.1.d p0.h.1 a1 p0.j c1)) st λn m1 w1 M st c=> ?_);have k:=k.o M;refine cZ (aB ?_);have⟨o1,hr,J⟩:=aR hr;refine pY (j:=9) (λL' w'=>∃p,L'=[(1,vI p1),(2,vP n 0),(19,vB o1)]/\m.le p/\St p (O) w'/\MRow p n 0 (Vo p0.1.1 p0.1.2 p0.2.1 p0.d.1 p0.e.1 p0.f.1.1 p0.f.1.2.1 p0.f.1.d p0.h.1 a1 p0.j c1)/\RepS Ca p a1 c1 p0.j) ?_ ?_
 .have hr:=J;rintro _ w2 ⟨p,rfl,q,st,c,k⟩;refine aK (aM hr ?_ ?_)<;>intro A hr
  .cases hr;exact cB ⟨p,rfl,q,st⟩
  refine aL (aF (dG 1 st (c.drop 9) (eH ?_)));have⟨D,hr,j1⟩:=aR hr;refine eF (.exit 0) (λL' w'=>∃(o2:Unit),∃s,(.inl o2)=D/\L'=[(1,vI p1),(2,vP n 0)]/\m.le s/\St s (O) w'/\MRow s n 0 (Vo p0.1.1 p0.1.2 p0.2.1 p0.d.1 p0.e.1 p0.f.1.1 p0.f.1.2.1 p0.f.1.d p0.h.1 a1 p0.j c1)/\RepS Ca s a1 c1 p0.j) ?_ ?_
  .rintro _ w5 ⟨o2,s,rfl,rfl,q,st,c,k⟩;have hr:=j1;refine dB (aF (dG 1 st (c.drop 9) (dE hr ?_ ?_)))<;>intro A hr
   .cases hr;exact cB ⟨s,rfl,q,st⟩
   refine aL (aF (dG 1 st (c.drop 9) (eH ?_)));have⟨z,hr,R⟩:=aR hr;refine eF (.exit 2) (λL' w'=>∃(S:Unit),∃u,(.inl S)=z/\L'=[]/\m.le u/\St u (O) w') ?_ ?_
   .rintro _ a ⟨S,u,rfl,rfl,q,st⟩;have hr:=R;cases hr;exact dB (cB ⟨u,rfl,q,st⟩)
   intro B;refine cJ (λE L' w'=>∃(o:Int),∃g,aA (KM N p0 p1) E o=some z/\L'=[(1,vI p1),(66,vS a1 p0.j c1),(67,vI (p0.2.2.2.2.2.2.length:Int)),(68,vI o)]/\m.le g/\St g (O) w'/\RepS Ca g a1 c1 p0.j) N ⟨0,s,hr,rfl,q,st,k⟩ ?_;rintro E _ a0 ⟨o,g,hL,rfl,q,st,k⟩;obtain⟨E,Z,rfl,hr,F,v⟩:=cM hL;refine bK (aM hr ?_ ?_)<;>intro A hr
   .refine aL (aF (aU (aB (dD k hr ?_))));rintro a hr b6 V Y ⟨_,_,rfl,⟨_,_,rfl,rfl,⟨_,_,rfl,rfl,rfl⟩⟩,rfl⟩ H;refine bC st H (cP 10 115 (.agg (Vp 0 eB eB 0)) st λU a5 st=>bP (.agg (Vp a.1.1 a.1.2.1 a.1.d a.2)) st λa6 st=>aK (aB (dT 9 hr (λG L' w'=>∃l,L'=[(1,vI p1),(66,vS a1 p0.j c1),(67,vI (p0.2.2.2.2.2.2.length:Int)),(68,vI o),(80,vB G)]/\m.le l/\St l (kB U (Vp a.1.1 a.1.2.1 a.1.d a.2) 115::O) w'/\RepS Ca l a1 c1 p0.j) ?_ ?_)))
    .rintro G hr _ a7 ⟨l,rfl,q,st,k⟩;refine aK (aM hr ?_ ?_)<;>intro A hr
     .refine bG (bI (cH (bD ?_)));have ho:=v _ (sI hr);subst ho;have hr:=R;cases hr;exact eV ⟨l,rfl,q,st.t⟩
     refine eK (bV 2 ?_);have hL:=F _ (sI hr);exact cG ⟨wI (o+1),l,hL,rfl,q,st.t,k⟩
    intro G hr K;refine aW 1 st.h (bJ 2 75 hr ?_ ?_)<;>intro A hr
    .exact aN 5 (K hr ⟨g,rfl,q,st,k⟩)
    exact aW 1 st.h (aN 3 (K hr ⟨g,rfl,q,st,k⟩))
   refine cF ?_;have ho:=v _ (sI hr);exact cC (B _ _ ⟨(),g,ho,rfl,q,st⟩)
  intro E;refine cJ (λG L' w'=>∃(l:Int),∃z,aA (KN N p0) G l=some D/\L'=[(1,vI p1),(2,vP n 0),(21,vS a1 p0.j c1),(22,vI (p0.2.2.2.2.2.2.length:Int)),(23,vI l)]/\m.le z/\St z (O) w'/\MRow z n 0 (Vo p0.1.1 p0.1.2 p0.2.1 p0.d.1 p0.e.1 p0.f.1.1 p0.f.1.2.1 p0.f.1.d p0.h.1 a1 p0.j c1)/\RepS Ca z a1 c1 p0.j) N ⟨0,p,hr,rfl,q,st,c,k⟩ ?_;rintro G _ w6 ⟨l,z,hL,rfl,q,st,c,k⟩;obtain⟨G,a9,rfl,hr,S,B⟩:=cM hL;refine bK (aM hr ?_ ?_)<;>intro A hr
  .refine aL (aF (aU (bF 1 (dD k hr ?_))));rintro a hr b2 f1 a7 ⟨_,_,rfl,⟨_,_,rfl,rfl,⟨_,_,rfl,rfl,rfl⟩⟩,rfl⟩ a0;refine bC st a0 (cP 6 115 (.agg (Vp 0 eB eB 0)) st λH w7 st=>cA 1 (bP (.agg (Vp a.1.1 a.1.2.1 a.1.d a.2)) st λw8 st=>aK (aB (aW 1 st.h (cI 1 st (c.drop 4) (aX hr (Er (p0:=a.1) st) ?_))))));rintro g hr _ w9 ⟨u,rfl,R,st⟩;have q:=q.t R;have c:=c.o R;have k:=k.o R;refine cA 3 (cP 7 103 (.agg pR) st λY b0 st=>bP (.agg (Vj g.1)) st λb8 st=>cZ (bL .normal hr (λU L' w'=>∃v,L'=[(1,vI p1),(2,vP n 0),(21,vS a1 p0.j c1),(22,vI (p0.2.2.2.2.2.2.length:Int)),(23,vI l),(59,vB U)]/\m.le v/\St v (kB Y (Vj g.1) 103::kB H (Vp a.1.1 a.1.2.1 a.1.d a.2) 115::O) w'/\MRow v n 0 (Vo p0.1.1 p0.1.2 p0.2.1 p0.d.1 p0.e.1 p0.f.1.1 p0.f.1.2.1 p0.f.1.d p0.h.1 a1 p0.j c1)/\RepS Ca v a1 c1 p0.j) ?_ ?_))
   .rintro U hr _ o ⟨v,rfl,q,st,c,k⟩;refine aY (aM hr ?_ ?_)<;>intro A hr
    .refine bG (bI (cH (bD ?_)));have ho:=B _ (sI hr);subst ho;have hr:=j1;cases hr;exact eV ⟨v,rfl,q,st.t.t⟩
    refine eK (bV 2 ?_);have hL:=S _ (sI hr);exact cG ⟨wI (l+1),v,hL,rfl,q,st.t.t,c,k⟩
   intro U hr K;refine dA [(24,λw'=>Inv u w'/\Piece.holds u w' (kB Y (Vj g.1) 103)/\Piece.holds u w' (kB H (Vp a.1.1 a.1.2.1 a.1.d a.2) 115)/\True)] kr st λb9 _ st=> ?_;have o:=u.le_refl;refine⟨aI (aC st o),aT 3 [0,1,2] ?_⟩;rcases eX (g.2 !=0) with A|A
   .rw[jB A] at hr;exact hZ (t:=38) (b:=true) (g.2 !=0) kr A (aT 21 [3,4,5,6,7,8,9,10,11,12,13,14,15,16,17,18,19,20,21,22,23] (bH kr (xE (K hr ⟨u,rfl,q,st.f1.f1,c,k⟩))))
   rw[jA (not_true A)] at hr;refine hZ (t:=38) (b:=false) (g.2 !=0) kr A (cE 3 cS (aS 4 (cE 5 lW (aH 6 kr (YZ (d:=42) (t:=103) (t2:=103) (x:=(.tmp 39)) (y:=(.tmp 41)) (xs:=(Vj g.1)) (ys:=(Vj a.1)) ((g.1.1==a.1.1)&&((g.1.2.1.toList==a.1.2.1.toList)&&((g.1.2.2.toList==a.1.2.2.toList)&&true))) kr rfl (ev (.agg (Vj g.1))) (ev (.agg (Vj a.1))) kr kr kr ⟨aI (aC st o),aT 2 [7,8] ?_⟩)))));rcases eX (!((g.1.1==a.1.1)&&((g.1.2.1.toList==a.1.2.1.toList)&&((g.1.2.2.toList==a.1.2.2.toList)&&true)))) with A|A
   .rw[jB A] at hr;exact hZ (t:=44) (b:=true) (!((g.1.1==a.1.1)&&((g.1.2.1.toList==a.1.2.1.toList)&&((g.1.2.2.toList==a.1.2.2.toList)&&true)))) kr A (aT 15 [9,10,11,12,13,14,15,16,17,18,19,20,21,22,23] (bH kr (xE (K hr ⟨u,rfl,q,st.f1.f1,c,k⟩))))
   rw[jA (not_true A)] at hr;refine hZ (t:=44) (b:=false) (!((g.1.1==a.1.1)&&((g.1.2.1.toList==a.1.2.1.toList)&&((g.1.2.2.toList==a.1.2.2.toList)&&true)))) kr A (aT 3 [9,10,11] ?_);rcases eX (decide (l>0)) with A|A
   .rw[jB A] at hr;refine hZ (t:=47) (b:=true) (decide (l>0)) kr A (aS 12 (cQ 13 (c.drop 9) (aT 2 [14,15] ?_)));have⟨x2,a6,hr⟩:=aR hr;refine iD (t:=51) (e:=115) (x:=(.tmp 49)) (y:=(.tmp 51)) 16 52 Ca kr rfl kr (.head _) (aG (bB (aG (aG (bB (aG dL)))))) (ev (vS a1 p0.j c1)) (ev (vI (wI (l-1)))) kr k a6 ?_;rintro b5 Z a8 ⟨_,_,rfl,⟨_,_,rfl,rfl,⟨_,_,rfl,rfl,rfl⟩⟩,rfl⟩ a5;refine aS 17 (cQ 18 a5 (cE 19 cS (aH 20 kr (bQ hr (λ_ h=>Ef (p0:=x2.1) (p1:=g.1) st h) ?_))));rintro V hr _ c0 ⟨m9,rfl,F,st⟩;refine⟨_,rfl,?_⟩;have o:=o.t F;exact⟨aI (aC st o),aT 3 [21,22,23] (bH kr (xE (K hr ⟨m9,rfl,q.t F,st.f1.f1,c.o F,k.o F⟩)))⟩
   rw[jA (not_true A)] at hr;exact hZ (t:=47) (b:=false) (decide (l>0)) kr A (aT 12 [12,13,14,15,16,17,18,19,20,21,22,23] (bH kr (xE (K hr ⟨u,rfl,q,st.f1.f1,c,k⟩))))
  refine cF ?_;have ho:=B _ (sI hr);exact cC (E _ _ ⟨(),z,ho,rfl,q,st,c,k⟩)
 intro K;refine bC st c (aX hr (Eg (p0:=p0) st k) ?_);rintro y1 hr _ u ⟨l,rfl,a,st⟩;have c:=c.o a;refine bJ 2 14 hr ?_ ?_<;>intro A hr
 .cases hr;exact aN 5 (K _ _ ⟨l,rfl,(q.t M).t a,st,c,k.o a⟩)
 refine cI 1 st (c.drop 5) (aX hr (De (p0:=p0.f.1) st) ?_);rintro s hr _ v ⟨o,rfl,g,st⟩;cases hr;exact aN 2 (K _ _ ⟨o,rfl,((q.t M).t a).t g,st,c.o g,(k.o a).o g⟩)
def WV(N:Nat)(p0:Tb)(p1:mK):Td:=
 (FF N p0).bind λy1=>if(y1 !=0)then(some y1) else((RK N (p1.1,p1.2.1,p1.2.2.1,p1.2.2.2.1,p1.2.2.2.2.1,p1.2.2.2.2.2.1,p1.2.2.2.2.2.2) (List.length p0:Int)).bind λa=>some a)
theorem Vy{p0:Tb}{p1:mK}{r:Int}(st:St m (O) w)(u:RepS aD m a1 c1 p0)(v:RepS Ca m a2 c2 p1.j)(hr:WV N p0 p1=some r):Calls prog 52 #[.agg #[vS a1 p0 c1],.agg (Vm p1.1.1 p1.1.2 p1.2.1 p1.d.1 p1.e.1 p1.f.1.1 p1.f.1.2.1 p1.f.1.d p1.h.1 a2 p1.j c2)] w λe w'=>∃m',dN m m' e (vI r) (O) w':=by
 refine bU st func52 rfl ntmps52 λq=>aB (cX 2 36 (.agg #[vS a1 p0 c1]) st λn y B c st g=>cX 3 53 (.agg (Vm p1.1.1 p1.1.2 p1.2.1 p1.d.1 p1.e.1 p1.f.1.1 p1.f.1.2.1 p1.f.1.d p1.h.1 a2 p1.j c2)) st λx z D a st k=>cZ (aB (bC st (g.o a) (aX hr (WP st ((u.o c).o a)) ?_))));rintro y1 hr _ E ⟨p,rfl,b,st⟩;refine aZ (bN hr ?_ ?_)<;>intro A hr
 .obtain rfl:=sI hr;exact cB ⟨p,rfl,((q.t c).t a).t b,st⟩
 refine aL (aB (bC st (k.o b) (cI 1 st ((g.o a).o b) (dQ 1 hr (Wd (p0:=p1) st (((v.o c).o a).o b)) ?_))));rintro l hr _ F ⟨s,rfl,o,st⟩;obtain rfl:=sI hr;exact dM ⟨s,rfl,(((q.t c).t a).t b).t o,st⟩
def KT(N:Nat)(p0:mK)(a:lB):zI:=
 if(decide (a.2<(List.length p0.2.2.2.2.2.2:Int)))then((aO p0.2.2.2.2.2.2 a.2).bind λb=>(dS 40 a.1 ([b.1])).bind λb=>some (.inl (b,wI (a.2+1)))) else(some (.inr a.1))
def WX(N:Nat)(p0:mK):vL:=
 (aA (KT N p0) N (([]:dI),0)).bind λa=>some a
theorem Wq{p0:mK}{r}(st:St m (O) w)(z:RepS Ca m a1 c1 p0.j)(hr:WX N p0=some r):Calls prog 54 #[.agg (Vm p0.1.1 p0.1.2 p0.2.1 p0.d.1 p0.e.1 p0.f.1.1 p0.f.1.2.1 p0.f.1.d p0.h.1 a1 p0.j c1)] w λe w'=>∃u v m',cV m m' e (vS u r v) (kR u r v 103 3::O) w' (RepS C9 m' u v r):=by
 refine bU st func54 rfl ntmps54 λq=>aB (cX 1 53 (.agg (Vm p0.1.1 p0.1.2 p0.2.1 p0.d.1 p0.e.1 p0.f.1.1 p0.f.1.2.1 p0.f.1.d p0.h.1 a1 p0.j c1)) st λV m1 w1 H st M=>aZ (bK (dG 1 st (M.drop 9) (eH (bL (.exit 0) hr (λc L' w'=>∃(l:dI),∃g k s,l=c/\L'=[(3,vS g l k)]/\m.le s/\St s (kR g l k 103 3::O) w'/\RepS C9 s g k l) ?_ ?_)))))
 .rintro c hr _ b ⟨l,g,k,s,rfl,rfl,q,st,a⟩;obtain rfl:=sI hr;exact dB (cB ⟨g,k,s,rfl,q,st,a⟩)
 intro c hr x;refine cJ (λy L' w'=>∃(a:lB),∃n o p,aA (KT N p0) y a=some c/\L'=[(3,vS n a.1 o),(7,vS a1 p0.j c1),(8,vI (p0.2.2.2.2.2.2.length:Int)),(9,vI a.2)]/\m.le p/\St p (kR n a.1 o 103 3::O) w'/\RepS C9 p n o a.1/\RepS Ca p a1 c1 p0.j) N ⟨(([]:dI),0),none,0,m1,hr,rfl,q.t H,(st.nilroom 103 3),(RepS.nil _ _),z.o H⟩ ?_;rintro y _ w3 ⟨a,n,o,p,hL,rfl,q,st,U,z⟩;obtain⟨y,a5,rfl,hr,E,D⟩:=cM hL;refine bK (aM hr ?_ ?_)<;>intro A hr
 .refine aL (aF (aU (aB (dD z hr ?_))));rintro b hr b2 Z a0 ⟨_,_,rfl,⟨_,_,rfl,rfl,⟨_,_,rfl,rfl,rfl⟩⟩,rfl⟩ R;refine bC st R (cP 5 115 (.agg (Vp 0 eB eB 0)) st λY w4 st=>bP (.agg (Vp b.1.1 b.1.2.1 b.1.d b.2)) st λw5 st=>aK (dV 2 (bX st.h (eE 16 103 1 C9 [b.1] st λb4 m4 w6 B st r4=>lA 17 45 45 103 40 13 16 st.f2 (.inl kr) (U.o B) r4.src hr λS hr F G m5 w7 K st r5=>cW 1 ?_))));have st:=st.f1.t;refine iU (bV 2 ?_);have hL:=E _ (sI hr);exact cG ⟨(S,wI (a.2+1)),F,G,m5,hL,rfl,(q.t B).t K,st.f1.t,r5,(z.o B).o K⟩
 refine cF ?_;have ho:=D _ (sI hr);exact cC (x rfl ⟨a.1,n,o,p,ho,rfl,q,st,U⟩)
def KL(N:Nat)(p3:Tb)(y1:pC)(a:Int):Option (Int⊕Unit⊕iZ):=
 if(decide (a<(List.length y1.1:Int)))then((aO y1.1 a).bind λb=>(aO p3 a).bind λc=>if(!(b.toList==c.toList))then(some (.inr (.inr ((a,0))))) else(some (.inl (wI (a+1))))) else(some (.inr (.inl ())))
def RQ(N:Nat)(p0:Tt)(p1:iP)(p2:dI)(p3:Tb):Option iZ:=
 (KO N p0 p1 p2).bind λy1=>(if(y1.2 !=0)then(some true) else(some ((List.length p2:Int) !=(List.length p3:Int))):Tk).bind λa=>if a then(some (0,1)) else((aA (KL N p3 y1) N 0).bind λa=>(match a with| .inl o2=>some ((-1),0)| .inr (z)=>some z))
theorem Wi{p0:Tt}{p1:iP}{p2:dI}{p3:Tb}{r:iZ}(st:St m (O) w)(r1:RepS C1 m a1 c1 p0)(r2:RepS C3 m a2 c2 p1)(r3:RepS C9 m a3 c3 p2)(l:RepS aD m a4 c4 p3)(hr:RQ N p0 p1 p2 p3=some r):Calls prog 53 #[.agg #[vS a1 p0 c1],.agg #[vS a2 p1 c2],vS a3 p2 c3,vS a4 p3 c4] w λe w'=>∃m',dN m m' e (.tuple #[vI r.1,vI r.2]) (O) w':=by
 refine bU st func53 rfl ntmps53 λq=>aB (cX 4 28 (.agg #[vS a1 p0 c1]) st λb1 m1 w1 g st F=>cX 5 32 (.agg #[vS a2 p1 c2]) st λb2 m2 w2 f st G=>nV (bC st (F.o f) (bC st G (dQ 1 hr (Dm st ((r1.o g).o f) ((r2.o g).o f) ((r3.o g).o f)) ?_))));rintro y1 hr _ w3 ⟨b,c,V,rfl,u,st,n⟩;refine cZ (aB (dT 9 hr (λE L' w'=>∃k,L'=[(3,vS a4 p3 c4),(10,vS b y1.1 c),(28,vB E)]/\m.le k/\St k (kR b y1.1 c 9 1::O) w'/\RepS aD k a4 c4 p3/\RepS aD k b c y1.1) ?_ ?_))
 .rintro E hr _ w4 ⟨k,rfl,q,st,l,n⟩;refine aK (aM hr ?_ ?_)<;>intro A hr
  .refine bF 2 (eJ ?_);have st:=st.t;cases hr;exact iN ⟨k,rfl,q,st⟩
  refine aL (aF (bG (aU ?_)));have⟨p,hr,U⟩:=aR hr;refine eF (.exit 0) (λL' w'=>∃(o2:Unit),∃z,(.inl o2)=p/\L'=[]/\m.le z/\St z (kR b y1.1 c 9 1::O) w') ?_ ?_
  .rintro _ a ⟨o2,z,rfl,rfl,q,st⟩;have hr:=U;refine dB (bF 2 (eJ ?_));have st:=st.t;cases hr;exact iN ⟨z,rfl,q,st⟩
  intro s;refine cJ (λv L' w'=>∃(a:Int),∃d,aA (KL N p3 y1) v a=some p/\L'=[(3,vS a4 p3 c4),(10,vS b y1.1 c),(30,vI (y1.1.length:Int)),(31,vI a)]/\m.le d/\St d (kR b y1.1 c 9 1::O) w'/\RepS aD d a4 c4 p3/\RepS aD d b c y1.1) N ⟨0,k,hr,rfl,q,st,l,n⟩ ?_;rintro v _ w6 ⟨a,d,hL,rfl,q,st,l,n⟩;obtain⟨v,a7,rfl,hr,B,o⟩:=cM hL;refine bK (aM hr ?_ ?_)<;>intro A hr
  .refine aL (aF (aU (bK (dA [(9,λw'=>Inv d w'/\True)] kr st λw7 _ st=> ?_))));have D:=d.le_refl;refine tA st D (aT 2 [0,1] ?_);have⟨Y,R,hr⟩:=aR hr;refine iD (t:=34) (e:=9) (x:=(.tmp 34)) (y:=(.tmp 35)) 2 36 aD kr rfl kr (.head _) (aG (bB (aG (aG (bB (aG dL)))))) (ev (vS b y1.1 c)) (ev (vI a)) kr n R ?_;rintro b3 f1 a0 rfl H;refine cQ 3 H (aT 2 [4,5] ?_);have⟨Z,S,hr⟩:=aR hr;refine iD (t:=34) (e:=9) (x:=(.tmp 38)) (y:=(.tmp 39)) 6 40 aD kr rfl kr (.head _) (aG (bB (aG (aG (bB (aG dL)))))) (ev (vS a4 p3 c4)) (ev (vI a)) kr l S ?_;rintro b4 f2 a6 rfl M;refine cQ 7 M (aS 8 (bH kr (aY (aM hr ?_ ?_))))<;>intro A hr
   .refine bF 3 (eJ ?_);have st:=st.t;refine aY (bI (cH (bD ?_)));have ho:=o _ (sI hr);subst ho;have hr:=U;obtain rfl:=sI hr;exact eV ⟨d,rfl,q,st⟩
   refine eK (bV 2 ?_);have hL:=B _ (sI hr);exact cG ⟨wI (a+1),d,hL,rfl,q,st,l,n⟩
  refine cF ?_;have ho:=o _ (sI hr);exact cC (s _ _ ⟨(),d,ho,rfl,q,st⟩)
 intro E hr K;refine bJ 3 22 hr ?_ ?_<;>intro A hr
 .exact aN 6 (K hr ⟨V,rfl,((q.t g).t f).t u,st,((l.o g).o f).o u,n⟩)
 exact aN 6 (K hr ⟨V,rfl,((q.t g).t f).t u,st,((l.o g).o f).o u,n⟩)
def JZ(N:Nat)(p0:Tb)(p3:mK)(a:pC):Option T2r:=
 if(decide (a.2<(List.length p3.2.2.2.2.2.2:Int)))then((aO p3.2.2.2.2.2.2 a.2).bind λb=>(aO p0 b.2).bind λb=>(dS 16 a.1 ([b])).bind λb=>some (.inl (b,wI (a.2+1)))) else(some (.inr a.1))
def FG(N:Nat)(p0:Tb)(p1:Tt)(p2:iP)(p3:mK):Option iZ:=
 (WV N p0 (p3.1,p3.2.1,p3.2.2.1,p3.2.2.2.1,p3.2.2.2.2.1,p3.2.2.2.2.2.1,p3.2.2.2.2.2.2)).bind λy1=>if(y1 !=0)then(some (0,y1)) else(((tM N p1).bind λa=>if(a !=0)then(some true) else((rV N p2).bind λa=>some (!a)):Tk).bind λa=>if a then(some (0,1)) else((aA (JZ N p0 p3) N (([]:Tb),0)).bind λo2=>(WX N (p3.1,p3.2.1,p3.2.2.1,p3.2.2.2.1,p3.2.2.2.2.1,p3.2.2.2.2.2.1,p3.2.2.2.2.2.2)).bind λa=>(RQ N p1 p2 a o2).bind λy5=>some y5))
theorem Ed{p0:Tb}{p1:Tt}{p2:iP}{p3:mK}{r:iZ}(st:St m (O) w)(y:RepS aD m a1 c1 p0)(s:RepS C1 m a2 c2 p1)(u:RepS C3 m a3 c3 p2)(o:RepS Ca m a4 c4 p3.j)(hr:FG N p0 p1 p2 p3=some r):Calls prog 16 #[.agg #[vS a1 p0 c1],.agg #[vS a2 p1 c2],.agg #[vS a3 p2 c3],.agg (Vm p3.1.1 p3.1.2 p3.2.1 p3.d.1 p3.e.1 p3.f.1.1 p3.f.1.2.1 p3.f.1.d p3.h.1 a4 p3.j c4)] w λe w'=>∃m',dN m m' e (.tuple #[vI r.1,vI r.2]) (O) w':=by
 refine bU st func16 rfl ntmps16 λq=>aB (cX 4 36 (.agg #[vS a1 p0 c1]) st λY m1 w1 e1 st k=>cX 5 28 (.agg #[vS a2 p1 c2]) st λM m2 w2 U st b=>cX 6 32 (.agg #[vS a3 p2 c3]) st λR m3 w3 G st c=>cX 7 53 (.agg (Vm p3.1.1 p3.1.2 p3.2.1 p3.d.1 p3.e.1 p3.f.1.1 p3.f.1.2.1 p3.f.1.d p3.h.1 a4 p3.j c4)) st λF m4 w4 E st g=> ?_);have y:=(((y.o e1).o U).o G).o E;have o:=(((o.o e1).o U).o G).o E;have k:=((k.o U).o G).o E;refine cZ (aB (bC st k (bC st g (aX hr (Vy (p1:=p3) st y o) ?_))));rintro y1 hr _ w5 ⟨m5,rfl,l,st⟩;have q:=((((q.t e1).t U).t G).t E).t l;have b:=((b.o G).o E).o l;have s:=((((s.o e1).o U).o G).o E).o l;refine aZ (bN hr ?_ ?_)<;>intro A hr
 .obtain rfl:=sI hr;exact cB ⟨m5,rfl,q,st⟩
 refine aL (aF (aB (dT 8 hr (λo1 L' w'=>∃n,L'=[(4,vP Y 0),(5,vP M 0),(6,vP R 0),(7,vP F 0),(27,vB o1)]/\m.le n/\St n (O) w'/\MRow n Y 0 [vS a1 p0 c1]/\RepS aD n a1 c1 p0/\MRow n M 0 [vS a2 p1 c2]/\RepS C1 n a2 c2 p1/\MRow n R 0 [vS a3 p2 c3]/\RepS C3 n a3 c3 p2/\MRow n F 0 (Vo p3.1.1 p3.1.2 p3.2.1 p3.d.1 p3.e.1 p3.f.1.1 p3.f.1.2.1 p3.f.1.d p3.h.1 a4 p3.j c4)/\RepS Ca n a4 c4 p3.j) ?_ ?_)))
 .rintro o1 hr _ w6 ⟨n,rfl,q,st,k,y,b,s,c,u,g,o⟩;refine aK (aM hr ?_ ?_)<;>intro A hr
  .cases hr;exact cB ⟨n,rfl,q,st⟩
  refine aL (bK (dG 1 st (g.drop 9) (eH (bL (.exit 0) hr (λB L' w'=>∃(o2:Tb),∃V Z p,o2=B/\L'=[(5,vP M 0),(6,vP R 0),(7,vP F 0),(11,vS V o2 Z)]/\m.le p/\St p (kR V o2 Z 9 1::O) w'/\MRow p M 0 [vS a2 p1 c2]/\RepS C1 p a2 c2 p1/\MRow p R 0 [vS a3 p2 c3]/\RepS C3 p a3 c3 p2/\MRow p F 0 (Vo p3.1.1 p3.1.2 p3.2.1 p3.d.1 p3.e.1 p3.f.1.1 p3.f.1.2.1 p3.f.1.d p3.h.1 a4 p3.j c4)/\RepS Ca p a4 c4 p3.j/\RepS aD p V Z o2) ?_ ?_))))
  .rintro B hr _ w9 ⟨o2,V,Z,p,rfl,rfl,q,st,b,s,c,u,g,o,D⟩;refine dB (aF (dA [(10,λw'=>Inv p w'/\True)] kr st λa0 _ st=> ?_));have a:=p.le_refl;refine tA st a (cQ 0 b (cQ 1 c (cQ 2 g (aS 4 (aH 3 kr (bQ hr (λ_ h=>Wq (p0:=p3) st o h) ?_))))));rintro y4 hr _ a9 ⟨a8,c8,S,rfl,v,st,H⟩;refine⟨_,rfl,?_⟩;have a:=a.t v;refine tA st a (aH 5 kr (bQ hr (λ_ h=>Wi st (s.o v) (u.o v) H (D.o v) h) ?_));rintro y5 hr _ b0 ⟨z,rfl,x,st⟩;refine⟨_,rfl,?_⟩;have a:=a.t x;refine tA st a (aT 4 [6,7,8,9] (bH kr ?_));have st:=st.t.t;obtain rfl:=sI hr;exact iN ⟨z,rfl,(q.t v).t x,st⟩
  intro B hr a0;refine cJ (λk1 L' w'=>∃(v:pC),∃H S a,aA (JZ N p0 p3) k1 v=some B/\L'=[(4,vP Y 0),(5,vP M 0),(6,vP R 0),(7,vP F 0),(11,vS H v.1 S),(29,vS a4 p3.j c4),(30,vI (p3.2.2.2.2.2.2.length:Int)),(31,vI v.2)]/\m.le a/\St a (kR H v.1 S 9 1::O) w'/\MRow a Y 0 [vS a1 p0 c1]/\RepS aD a a1 c1 p0/\MRow a M 0 [vS a2 p1 c2]/\RepS C1 a a2 c2 p1/\MRow a R 0 [vS a3 p2 c3]/\RepS C3 a a3 c3 p2/\MRow a F 0 (Vo p3.1.1 p3.1.2 p3.2.1 p3.d.1 p3.e.1 p3.f.1.1 p3.f.1.2.1 p3.f.1.d p3.h.1 a4 p3.j c4)/\RepS Ca a a4 c4 p3.j/\RepS aD a H S v.1) N ⟨(([]:Tb),0),none,0,n,hr,rfl,q,(st.nilroom 9 1),k,y,b,s,c,u,g,o,(RepS.nil _ _)⟩ ?_;rintro k1 _ d5 ⟨v,H,S,a,hL,rfl,q,st,k,y,b,s,c,u,g,o,r6⟩;obtain⟨k1,d4,rfl,hr,b0,a9⟩:=cM hL;refine bK (aM hr ?_ ?_)<;>intro A hr
  .refine aL (aF (aU (aB (dD o hr ?_))));rintro D hr b5 f1 d1 ⟨_,_,rfl,⟨_,_,rfl,rfl,⟨_,_,rfl,rfl,rfl⟩⟩,rfl⟩ b9;refine bC st b9 (cP 13 115 (.agg (Vp 0 eB eB 0)) st λb6 d6 st=>bP (.agg (Vp D.1.1 D.1.2.1 D.1.d D.2)) st λd7 st=>aK (dV 2 (bC st k (aW 1 st.h (dD y hr ?_)))));rintro x2 hr b7 f2 d2 rfl c0;refine bC st c0 (eE 42 9 1 aD [x2] st λb8 d3 d8 x st r7=>lA 43 34 34 9 16 35 42 st.f2 (.inl kr) (r6.o x) r7.src hr λl1 hr a7 c7 c9 d9 z st r8=>cW 1 ?_);have st:=st.f1.t;refine iU (bV 2 ?_);have hL:=b0 _ (sI hr);exact cG ⟨(l1,wI (v.2+1)),a7,c7,c9,hL,rfl,(q.t x).t z,st.f1.t,(k.o x).o z,(y.o x).o z,(b.o x).o z,(s.o x).o z,(c.o x).o z,(u.o x).o z,(g.o x).o z,(o.o x).o z,r8⟩
  refine cF ?_;have ho:=a9 _ (sI hr);exact cC (a0 rfl ⟨v.1,H,S,a,ho,rfl,q,st,b,s,c,u,g,o,r6⟩)
 intro o1 hr K;refine bC st b (aX hr (vZ st s) ?_);rintro z hr _ D ⟨v,rfl,a,st⟩;have c:=((c.o E).o l).o a;have u:=(((((u.o e1).o U).o G).o E).o l).o a;refine bJ 2 23 hr ?_ ?_<;>intro A hr
 .exact aN 4 (K hr ⟨v,rfl,q.t a,st,(k.o l).o a,(y.o l).o a,b.o a,s.o a,c,u,(g.o l).o a,(o.o l).o a⟩)
 refine bC st c (aX hr (EF st u) ?_);rintro B hr _ H ⟨x,rfl,p,st⟩;exact aN 2 (K hr ⟨x,rfl,(q.t a).t p,st,((k.o l).o a).o p,((y.o l).o a).o p,(b.o a).o p,(s.o a).o p,c.o p,u.o p,((g.o l).o a).o p,((o.o l).o a).o p⟩)
def Kz(N:Nat)(p0:mC)(p1:mK):Option (mC×Int):=
 (xY N p0).bind λy1=>if(!y1)then(some ((([]:sM),0),1)) else(if(p0.2==512)then(some ((([]:sM),0),2)) else((GI N (p1.1,p1.2.1,p1.2.2.1,p1.2.2.2.1,p1.2.2.2.2.1,p1.2.2.2.2.2.1,p1.2.2.2.2.2.2)).bind λa=>if(!a)then(some ((([]:sM),0),1)) else((FX N p0 (p1.1,p1.2.1,p1.2.2.1,p1.2.2.2.1,p1.2.2.2.2.1,p1.2.2.2.2.2.1,p1.2.2.2.2.2.2)).bind λa=>some (a,0))))
theorem Yo{p0:mC}{p1:mK}{r:mC×Int}(st:St m (O) w)(v:RepS Cb m a1 c1 p0.1)(x:RepS Ca m a2 c2 p1.j)(hr:Kz N p0 p1=some r):Calls prog 55 #[.agg (V1 p0 a1 c1),.agg (Vm p1.1.1 p1.1.2 p1.2.1 p1.d.1 p1.e.1 p1.f.1.1 p1.f.1.2.1 p1.f.1.d p1.h.1 a2 p1.j c2)] w λe w'=>∃l n m',cV m m' e (.tuple #[.agg (V1 r.1 l n),vI r.2]) (kR l r.1.1 n 160 4::O) w' (RepS Cb m' l n r.1.1):=by
 refine bU st func55 rfl ntmps55 λq=>aB (cX 2 63 (.agg (V1 p0 a1 c1)) st λy R U k st b=>cX 3 53 (.agg (Vm p1.1.1 p1.1.2 p1.2.1 p1.d.1 p1.e.1 p1.f.1.1 p1.f.1.2.1 p1.f.1.d p1.h.1 a2 p1.j c2)) st λK S V c st o=> ?_);have b:=b.o c;refine cP 4 63 (.agg #[v6,vI 0]) st λM Y st=>cZ (aU (aB (bC st b (aX hr (SK (p0:=p0) st ((v.o k).o c)) ?_))));rintro y1 hr _ Z ⟨u,rfl,a,st⟩;have q:=((q.t k).t c).t a;refine dE hr ?_ ?_<;>intro A hr
 .refine bF 1 (bP (.agg #[vh,vI 0]) st λg st=>aZ (bI (cH (bD ?_))));cases hr;refine rA 4 63 [5] [vI 1] st.h ?_;have st:=(st.nilroom 160 4).front1;exact⟨none,0,u,rfl,q,st.t,(RepS.nil _ _)⟩
 refine dG 1 st ((b.o a).drop 1) (dE hr ?_ ?_)<;>intro A hr
 .refine bF 1 (bP (.agg #[vh,vI 0]) st λg st=>aZ (bI (cH (bD ?_))));cases hr;refine rA 4 63 [5] [vI 2] st.h ?_;have st:=(st.nilroom 160 4).front1;exact⟨none,0,u,rfl,q,st.t,(RepS.nil _ _)⟩
 refine aB (bC st (o.o a) (aX hr (Fq (p0:=p1) st (((x.o k).o c).o a)) ?_));rintro F hr _ w7 ⟨B,rfl,g,st⟩;refine dE hr ?_ ?_<;>intro A hr
 .refine bF 1 (bP (.agg #[vh,vI 0]) st λp st=>aZ (bI (cH (bD ?_))));cases hr;refine rA 4 63 [5] [vI 1] st.h ?_;have st:=(st.nilroom 160 4).front1;exact⟨none,0,B,rfl,q.t g,st.t,(RepS.nil _ _)⟩
 refine eK (aB (bC st ((b.o a).o g) (bC st ((o.o a).o g) (aX hr (Fo (p0:=p0) (p1:=p1) st ((((v.o k).o c).o a).o g) ((((x.o k).o c).o a).o g)) ?_))));rintro G hr _ w9 ⟨p,s,D,rfl,z,st,E⟩;obtain rfl:=sI hr;exact bP (.agg (V1 G p s)) st.f1 λH st=>aZ (bI (iE st.h ⟨p,s,D,rfl,(q.t g).t z,st.t,E⟩))
def Dn(N:Nat)(p0:Te)(p1:Te)(a:Int):Tj:=
 if(decide (a<(List.length p0:Int)))then((aO p0 a).bind λb=>(aO p1 a).bind λc=>if(b !=c)then(some (.inr (.inr (false)))) else(some (.inl (wI (a+1))))) else(some (.inr (.inl ())))
def RA(N:Nat)(p0:Te)(p1:Te):Tk:=
 if((List.length p0:Int) !=(List.length p1:Int))then(some false) else((aA (Dn N p0 p1) N 0).bind λa=>(match a with| .inl a=>some true| .inr (z)=>some z))
theorem WB{p0:Te}{p1:Te}{r:Bool}(st:St m (O) w)(l:RepS (aJ .i64) m a1 c1 p0)(n:RepS (aJ .i64) m a2 c2 p1)(hr:RA N p0 p1=some r):Calls prog 57 #[vS a1 p0 c1,vS a2 p1 c2] w λe w'=>∃m',dN m m' e (vB r) (O) w':=by
 refine bU st func57 rfl ntmps57 λq=>bK (bN hr ?_ ?_)<;>intro A hr
 .cases hr;exact cB ⟨m,rfl,q,st⟩
 refine aL (aF (bG (aU ?_)));have⟨d,hr,B⟩:=aR hr;refine eF (.exit 0) (λL' w'=>∃(D:Unit),∃k,(.inl D)=d/\L'=[]/\m.le k/\St k (O) w') ?_ ?_
 .rintro _ a ⟨D,k,rfl,rfl,q,st⟩;have hr:=B;cases hr;exact dB (cB ⟨k,rfl,q,st⟩)
 intro f;refine cJ (λg L' w'=>∃(b:Int),∃a,aA (Dn N p0 p1) g b=some d/\L'=[(0,vS a1 p0 c1),(1,vS a2 p1 c2),(5,vI b)]/\m.le a/\St a (O) w'/\RepS (aJ .i64) a a1 c1 p0/\RepS (aJ .i64) a a2 c2 p1) N ⟨0,m,hr,rfl,q,st,l,n⟩ ?_;rintro g _ V ⟨b,a,hL,rfl,q,st,l,n⟩;obtain⟨g,R,rfl,hr,o,c⟩:=cM hL;refine aF (bN hr ?_ ?_)<;>intro A hr
 .refine aL (aF (aU (aF (dA [(9,λw'=>Inv a w'/\True)] kr st λY _ st=> ?_))));have p:=a.le_refl;refine tA st p (aT 2 [0,1] ?_);have⟨E,v,hr⟩:=aR hr;refine iD (t:=22) (e:=3) (x:=(.tmp 17)) (y:=(.tmp 18)) 2 19 (aJ .i64) kr rfl kr (.head _) (aG (bB (aG (aG (bB (aG dL)))))) (ev (vS a1 p0 c1)) (ev (vI b)) kr l v ?_;rintro S G K rfl s;refine cQ 3 s (aT 2 [4,5] ?_);have⟨F,z,hr⟩:=aR hr;refine iD (t:=22) (e:=3) (x:=(.tmp 21)) (y:=(.tmp 22)) 6 23 (aJ .i64) kr rfl kr (.head _) (aG (bB (aG (aG (bB (aG dL)))))) (ev (vS a2 p1 c2)) (ev (vI b)) kr n z ?_;rintro U H M rfl u;refine cQ 7 u (aS 8 (bH kr (aY (aM hr ?_ ?_))))<;>intro A hr
  .refine bG (bI (cH (bD ?_)));have ho:=c _ (sI hr);subst ho;have hr:=B;cases hr;exact eV ⟨a,rfl,q,st⟩
  refine eK (bV 3 ?_);have hL:=o _ (sI hr);exact cG ⟨wI (b+1),a,hL,rfl,q,st,l,n⟩
 refine cF ?_;have ho:=c _ (sI hr);exact cC (f _ _ ⟨(),a,ho,rfl,q,st⟩)
def WT(N:Nat):Tk:=
 (FU N ([(((⟨#[]⟩:BA),(⟨#[]⟩:BA)),0,0,0,(0,0,0),false,[((4,(⟨#[99]⟩:BA),(⟨#[]⟩:BA)),0)]),(((⟨#[]⟩:BA),(⟨#[]⟩:BA)),0,0,0,(0,0,0),false,([]:nR)),(((⟨#[]⟩:BA),(⟨#[]⟩:BA)),0,0,0,(0,0,0),false,[((4,(⟨#[99]⟩:BA),(⟨#[]⟩:BA)),0)])])).bind λy1=>(Kz N y1.1 (((⟨#[]⟩:BA),(⟨#[]⟩:BA)),0,0,0,(0,0,0),false,[((4,(⟨#[99]⟩:BA),(⟨#[]⟩:BA)),0)])).bind λa=>(FQ N a.1 ([(4,(⟨#[99]⟩:BA),(⟨#[]⟩:BA))])).bind λb=>(FO N a.1 ([(4,(⟨#[99]⟩:BA),(⟨#[]⟩:BA))])).bind λc=>(if(y1.2==0)then(if(a.2==0)then(if(b.2==0)then(if(c.2==0)then((xY N y1.1).bind λy5=>if y5 then((GH N y1.1 (4,(⟨#[99]⟩:BA),(⟨#[]⟩:BA))).bind λa=>(RA N a ([(0:Int),2])).bind λa=>if a then((RA N b.1 ([(0:Int),2,3])).bind λa=>if a then((RA N c.1 ([(1:Int)])).bind λa=>some a) else(some false)) else(some false)) else(some false)) else(some false)) else(some false)) else(some false)) else(some false):Tk).bind λa=>some a
theorem Wj{r:Bool}(st:St m (O) w)(hr:WT N=some r):Calls prog 17 #[] w λe w'=>∃m',dN m m' e (vB r) (O) w':=by
 refine bU st func17 rfl ntmps17 λq=>bG (bF 1 (cP 1 103 (.agg pR) st λb1 w1 st=>bP (.agg (Vl 4 bg eB)) st λw2 st=>aK (aB (bX st.h (cA 1 (eE 14 115 1 Ca [((4,bg,eB),0)] st λf m1 w3 e1 st c=>cA 1 (cP 2 53 (.agg #[vT eB,vT eB,vI 0,vI 0,vI 0,vI 0,vI 0,vI 0,vB false,v6]) st λb3 w4 st=>bP (.agg #[vT eB,vT eB,vI 0,vI 0,vI 0,vI 0,vI 0,vI 0,vB false,.slice (aP f) (List.length ([((4,bg,eB),0)])) 1]) st λw5 st=>aK (aB (bX st.h (aW 1 st.h (cL (mL (d:=20) (t:=37) (e:=53) (len:=3) (parts:= #[(0,(.tmp 17)),(1,(.tmp 18)),(2,(.tmp 19))]) Cc (xs:=[((eB,eB),0,0,0,(0,0,0),false,[((4,bg,eB),0)]),((eB,eB),0,0,0,(0,0,0),false,([]:nR)),((eB,eB),0,0,0,(0,0,0),false,[((4,bg,eB),0)])]) [vT eB,vT eB,vI 0,vI 0,vI 0,vI 0,vI 0,vI 0,vB false,.slice (aP f) (List.length ([((4,bg,eB),0)])) 1,vT eB,vT eB,vI 0,vI 0,vI 0,vI 0,vI 0,vI 0,vB false,vg,vT eB,vT eB,vI 0,vI 0,vI 0,vI 0,vI 0,vI 0,vB false,.slice (aP f) (List.length ([((4,bg,eB),0)])) 1] kr rfl (λ_=>mS kr _) rfl rfl st ⟨[vT eB,vT eB,vI 0,vI 0,vI 0,vI 0,vI 0,vI 0,vB false,.slice (aP f) (List.length ([((4,bg,eB),0)])) 1],_,rfl,⟨_,_,rfl,⟨_,_,rfl,rfl,rfl⟩,⟨_,_,rfl,rfl,⟨_,_,rfl,rfl,⟨_,_,rfl,rfl,⟨_,_,rfl,⟨_,_,rfl,rfl,⟨_,_,rfl,rfl,rfl⟩⟩,⟨_,_,rfl,rfl,(sC c)⟩⟩⟩⟩⟩⟩,⟨[vT eB,vT eB,vI 0,vI 0,vI 0,vI 0,vI 0,vI 0,vB false,vg],_,rfl,⟨_,_,rfl,⟨_,_,rfl,rfl,rfl⟩,⟨_,_,rfl,rfl,⟨_,_,rfl,rfl,⟨_,_,rfl,rfl,⟨_,_,rfl,⟨_,_,rfl,rfl,⟨_,_,rfl,rfl,rfl⟩⟩,⟨_,_,rfl,rfl,(sC (RepS.nil _ _))⟩⟩⟩⟩⟩⟩,⟨[vT eB,vT eB,vI 0,vI 0,vI 0,vI 0,vI 0,vI 0,vB false,.slice (aP f) (List.length ([((4,bg,eB),0)])) 1],_,rfl,⟨_,_,rfl,⟨_,_,rfl,rfl,rfl⟩,⟨_,_,rfl,rfl,⟨_,_,rfl,rfl,⟨_,_,rfl,rfl,⟨_,_,rfl,⟨_,_,rfl,rfl,⟨_,_,rfl,rfl,rfl⟩⟩,⟨_,_,rfl,rfl,(sC c)⟩⟩⟩⟩⟩⟩,rfl⟩⟩⟩ λb4 m2 w6 e2 st r2=>aX hr (Fm st r2) ?_))))))))))))
 rintro y1 hr _ w7 ⟨u,v,m3,rfl,e3,st,a⟩;refine cA 3 (cP 3 63 (.agg #[v6,vI 0]) st λb5 w8 st=>bP (.agg (V1 y1.1 u v)) st λw9 st=>cW 1 ?_);have st:=st.f2.t;refine aY (aB (bX st.h (bX st.t.t.h (aX hr (Yo (p0:=y1.1) (p1:=((eB,eB),0,0,0,(0,0,0),false,[((4,bg,eB),0)])) st a ((c.o e2).o e3)) ?_))));rintro g hr _ d3 ⟨y,z,m4,rfl,e4,st,b⟩;refine cA 3 (cP 5 63 (.agg #[v6,vI 0]) st λb6 d4 st=>bP (.agg (V1 g.1 y z)) st λd5 st=>nV (bX st.h (bX st.t.t.t.t.t.t.h (eE 33 103 1 C9 [(4,bg,eB)] st λb7 m5 d6 R st r5=> ?_))));have b:=b.o R;refine aX hr (Ew (p0:=g.1) st b r5) ?_;rintro H hr _ d7 ⟨V,Z,m6,rfl,F,st,r6⟩;refine cW 5 ?_;have st:=st.f1.t;refine aY (aB (bX st.t.h (bX st.t.t.t.t.t.t.t.h (eE 40 103 1 C9 [(4,bg,eB)] st λb8 m7 d8 E st r7=>aX hr (Eu (p0:=g.1) st ((b.o F).o E) r7) ?_))));rintro M hr _ d9 ⟨Y,c4,S,rfl,G,st,r8⟩;have q:=(((((((q.t e1).t e2).t e3).t e4).t R).t F).t E).t G;have b:=((b.o F).o E).o G;have a:=((((a.o e4).o R).o F).o E).o G;have c:=((((((c.o e2).o e3).o e4).o R).o F).o E).o G;refine cW 5 ?_;have st:=st.f1.t
 refine aY (aB (dT 36 hr (λU L' w'=>∃B,L'=[(0,vB U)]/\m.le B/\St B (kB b6 (V1 g.1 y z) 63::kB b5 (V1 y1.1 u v) 63::kB b3 #[vT eB,vT eB,vI 0,vI 0,vI 0,vI 0,vI 0,vI 0,vB false,.slice (aP f) (List.length ([((4,bg,eB),0)])) 1] 53::kB b1 (Vl 4 bg eB) 103::kR Y M.1 c4 3 1::kR V H.1 Z 3 1::kR y g.1.1 z 160 4::kR u y1.1.1 v 160 4:: .room (aP f) (List.length ([((4,bg,eB),0)])) 1 115 4::O) w'/\RepS Cb B y z g.1.1/\RepS Cb B u v y1.1.1/\RepS Ca B (aP f) 1 ([((4,bg,eB),0)])) ?_ ?_))
 .rintro U hr _ k ⟨B,rfl,q,st,b,a,c⟩;obtain rfl:=sI hr;exact aK (iI ⟨B,rfl,q,st.t.t.t.t.t.t.t.t.t⟩)
 intro U hr K;refine bJ 3 46 hr ?_ ?_<;>intro A hr
 .refine bJ 4 50 hr ?_ ?_<;>intro A hr
  .refine bJ 4 54 hr ?_ ?_<;>intro A hr
   .refine bJ 4 58 hr ?_ ?_<;>intro A hr
    .refine bX st.t.t.t.t.h (aX hr (SK (p0:=y1.1) st a) ?_);rintro y5 hr _ f0 ⟨a0,rfl,s,st⟩;have a:=a.o s;refine bJ 2 62 hr ?_ ?_<;>intro A hr
     .refine bX st.t.t.t.t.h (bX st.t.t.t.t.t.t.t.t.h (aX hr (Fx (p0:=y1.1) (p1:=(4,bg,eB)) st a) ?_));rintro y6 hr _ f3 ⟨a5,c5,c8,rfl,n,st,r9⟩;refine eE 66 3 2 (aJ .i64) [(0:Int),2] st λb9 c9 f9 k st a9=>aX hr (WB st (r9.o k) a9) ?_;rintro y7 hr _ g0 ⟨a6,rfl,o,st⟩;have q:=(((q.t s).t n).t k).t o;have a:=((a.o n).o k).o o;have b:=(((b.o s).o n).o k).o o;have c:=(((c.o s).o n).o k).o o;refine bJ 2 69 hr ?_ ?_<;>intro A hr
      .refine cA 1 (eE 71 3 3 (aJ .i64) [(0:Int),2,3] st λc6 d1 g1 l st b0=>aX hr (WB st (((((((r6.o E).o G).o s).o n).o k).o o).o l) b0) ?_);rintro y8 hr _ g2 ⟨a7,rfl,p,st⟩;have a:=(a.o l).o p;have b:=(b.o l).o p;have c:=(c.o l).o p;refine bJ 2 74 hr ?_ ?_<;>intro A hr
       .refine cA 1 (eE 76 3 1 (aJ .i64) [(1:Int)] st λc7 d2 g3 x st c0=>aX hr (WB st (((((((r8.o s).o n).o k).o o).o l).o p).o x) c0) ?_);rintro y9 hr _ g4 ⟨a8,rfl,D,st⟩;exact aN 2 (K hr ⟨a8,rfl,(((q.t l).t p).t x).t D,st.t.t.t.t.f7.f6.f5.f4.f4.f8.f8.f8.f8,(b.o x).o D,(a.o x).o D,(c.o x).o D⟩)
       exact aN 5 (K hr ⟨a7,rfl,(q.t l).t p,st.t.t.t.f7.f6.f5.f4.f4.f8.f8.f8.f8,b,a,c⟩)
      exact aN 10 (K hr ⟨a6,rfl,q,st.t.t.f7.f6.f5.f4.f4.f8.f8.f8.f8,b,a,c⟩)
     exact aN 17 (K hr ⟨a0,rfl,q.t s,st.f7.f6.f5.f4.f4.f8.f8.f8.f8,b.o s,a,c.o s⟩)
    exact aN 21 (K hr ⟨S,rfl,q,st.f7.f6.f5.f4.f4.f8.f8.f8.f8,b,a,c⟩)
   exact aN 25 (K hr ⟨S,rfl,q,st.f7.f6.f5.f4.f4.f8.f8.f8.f8,b,a,c⟩)
  exact aN 29 (K hr ⟨S,rfl,q,st.f7.f6.f5.f4.f4.f8.f8.f8.f8,b,a,c⟩)
 exact aN 33 (K hr ⟨S,rfl,q,st.f7.f6.f5.f4.f4.f8.f8.f8.f8,b,a,c⟩)
end
section
open Go Go.Dc Go.Proofs.Tryz
variable {N c1:Nat} {m:Mem} {O:List Piece} {w:World} {a1:Option Addr}
def VY(N:Nat)(y1:BO)(d:T1a)(a:Tt)(b:T36):Option (T36⊕T37⊕Bool):=
 if(decide (b.2.1<(List.length a:Int)))then((aO a b.2.1).bind λc=>(SD N y1.2 d.2 7 c).bind λa=>((pX N b.2.2.2 3).bind λy5=>(RZ N b.2.2.1 y1.2 d.2 (c,0,0,wI (1+y5.2),(0,0,0),false,([]:nR)) (a.1.1,a.1.2.1,a.1.2.2.1,a.1.2.2.2)).bind λa=>some (a.2.2,a.2.1.1.1,a.2.1.1.2,a.2.1.2.1,a.2.1.2.2.1,a.2.1.2.2.2.1,a.2.1.2.2.2.2.1.1,a.2.1.2.2.2.2.1.2.1,a.2.1.2.2.2.2.1.2.2,a.2.1.2.2.2.2.2.1,a.2.1.2.2.2.2.2.2,a.1,y5.1.1,y5.1.2):Option (Int×Ta×Ta×Int×Int×Int×Int×Int×Int×Bool×nR×Tp)).bind λo2=>if(o2.1 !=0)then(some (.inr (.inr (false)))) else((dS 112 b.1 ([((o2.2.1,o2.2.2.1),o2.2.2.2.1,o2.2.2.2.2.1,o2.2.2.2.2.2.1,(o2.2.2.2.2.2.2.1,o2.2.2.2.2.2.2.2.1,o2.2.2.2.2.2.2.2.2.1),o2.2.2.2.2.2.2.2.2.2.1,o2.2.2.2.2.2.2.2.2.2.2.1)])).bind λa=>some (.inl (a,wI (b.2.1+1),o2.2.2.2.2.2.2.2.2.2.2.2.1,o2.2.2.2.2.2.2.2.2.2.2.2.2.1,o2.2.2.2.2.2.2.2.2.2.2.2.2.2)))) else(some (.inr (.inl (b.1,b.2.2.1,b.2.2.2.1,b.2.2.2.2))))
def JK(N:Nat)(c:T37)(d:Tz)(e:Te×Int×iP)(a:Tf)(b:Int):Tj:=
 if(decide (b<(List.length a.1:Int)))then((aO a.1 b).bind λa=>(aO c.1 a).bind λa=>(FG N c.2.1 d.1 e.2.2 (a.1,a.2.1,a.2.2.1,a.2.2.2.1,a.2.2.2.2.1,a.2.2.2.2.2.1,a.2.2.2.2.2.2)).bind λa=>(if(a.2 !=0)then(some true) else(some (a.1 !=(-1))):Tk).bind λa=>if a then(some (.inr (.inr (false)))) else(some (.inl (wI (b+1))))) else(some (.inr (.inl ())))
def JL(N:Nat)(c:T37)(d:Tz)(e:Te×Int×iP)(a:Tf)(b:Int):Tj:=
 if(decide (b<(List.length a.1:Int)))then((aO a.1 b).bind λa=>(aO c.1 a).bind λa=>(FG N c.2.1 d.1 e.2.2 (a.1,a.2.1,a.2.2.1,a.2.2.2.1,a.2.2.2.2.1,a.2.2.2.2.2.1,a.2.2.2.2.2.2)).bind λa=>(if(a.2 !=0)then(some true) else(some (a.1==(-1))):Tk).bind λa=>if a then(some (.inr (.inr (false)))) else(some (.inl (wI (b+1))))) else(some (.inr (.inl ())))
def QM(N:Nat)(p0:Te):Tk:=
 (QY N (p0,0)).bind λy1=>(JU N y1.1).bind λb=>(RV N y1.2).bind λa=>(aA (VY N y1 b a) N (([]:BP),0,([]:Tb),b.1.1,b.1.2)).bind λa=>(match a with| .inl a=>((SF N a.2.2 y1.2).bind λc=>some (c.2,c.1.1,c.1.2):Option Tz).bind λd=>(rF N d.2 1 3).bind λc=>(if c.2 then((JU N c.1).bind λe=>some (e.1.1,e.1.2,e.2)) else(some (c.1.1,c.1.2,b.2)):Option (Te×Int×iP)).bind λf=>(SH N y1.2 b.2 d.1 f.2.2).bind λe=>(FU N a.1).bind λb=>if(b.2 !=0)then(some false) else((FO N b.1 e.1).bind λc=>(FQ N b.1 e.1).bind λb=>(if(c.2 !=0)then(some true) else(if(b.2 !=0)then(some true) else(some ((wI ((List.length c.1:Int)+(List.length b.1:Int))) !=(List.length a.1:Int)))):Tk).bind λe=>if e then(some false) else((aA (JK N a d f c) N 0).bind λc=>(match c with| .inl c=>(aA (JL N a d f b) N 0).bind λa=>(match a with| .inl a=>(WT N).bind λa=>some a| .inr (z)=>some z)| .inr (z)=>some z)))| .inr (z)=>some z)
set_option maxHeartbeats 4000000 in
set_option maxRecDepth 100000 in
theorem Ur{p0:Te}{r:Bool}(st:St m (O) w)(r1:RepS (aJ .i64) m a1 c1 p0)(hr:QM N p0=some r):Calls prog 3 #[vS a1 p0 c1] w λe w'=>∃m',dN m m' e (vB r) (O) w':=by
 refine bU st func3 rfl ntmps3 λq=>bG (bF 2 (cL (tX 34 25 33 (.agg #[vS a1 p0 c1,vI 0]) st λb1 w1 st=>aZ (bT 1 hr (Uz (p0:=(p0,0)) st r1) ?_))));rintro y1 hr _ w2 ⟨a2,c2,F,G,m2,rfl,e2,st,r2,g⟩;refine dQ 1 hr (Df (p0:=y1.1) st.f1 r2) ?_;rintro E hr _ w3 ⟨a4,c4,H,M,m3,rfl,e3,st,r4,s⟩;refine cP 4 28 (.agg #[v6]) st λb2 w4 st=>cP 5 32 (.agg #[v6]) st λb3 w5 st=>bP (.agg #[vS F y1.2 G]) st.f1 λw6 st=>bP (.agg #[vS H E.2 M]) st.f1 λw7 st=>aK (aB (cP 6 36 (.agg #[v6]) st λb4 w8 st=>aK (bK (aB (bX st.t.t.h (aX hr (We st (g.o e3)) ?_))))));rintro y3 hr _ w9 ⟨a6,c6,m4,rfl,e4,st,r6⟩;refine eH ?_;have⟨k0,hr,j1⟩:=aR hr;refine eF (.exit 0) (λL' w'=>∃(v:T37),∃Y Z a8 c8 a9 c9 m5,(.inl v)=k0/\L'=[(3,vP b1 0),(4,vP b2 0),(5,vP b3 0),(6,vP b4 0),(7,vS Y v.1 Z)]/\m.le m5/\St m5 (kB b4 #[vS a8 v.2.1 c8] 36::kB b3 #[vS H E.2 M] 32::kB b2 #[vS F y1.2 G] 28::kB b1 (V1 v.d a9 c9) 25::kR a6 y3 c6 41 2::kR H E.2 M 81 2::kR F y1.2 G 77 2::kR Y v.1 Z 53 10::O) w'/\RepS Cc m5 Y Z v.1/\RepS aD m5 a8 c8 v.2.1/\RepS C3 m5 H M E.2/\RepS C1 m5 F G y1.2/\RepS (aJ .i64) m5 a9 c9 v.d.1) ?_ ?_
 .rintro _ q2 ⟨v,Y,Z,a8,c8,a9,c9,m5,rfl,rfl,q,st,u,B,s,g,r9⟩;have hr:=j1;refine dB (aF ?_);have⟨U,hr,J⟩:=aR hr;refine eF .normal (λL' w'=>∃d1 d2 c l h4 h6 g9,L'=[(3,vP b1 0),(4,vP b2 0),(5,vP b3 0),(6,vP b4 0),(7,vS Y v.1 Z),(15,vP d1 0),(16,vP d2 0)]/\m.le g9/\St g9 (kB d2 #[vS H E.2 M] 32::kB d1 #[vS c U.1 l] 28::kB b4 #[vS a8 v.2.1 c8] 36::kB b3 #[vS H E.2 M] 32::kB b2 #[vS F y1.2 G] 28::kB b1 (V1 U.2 h4 h6) 25::kR a6 y3 c6 41 2::kR H E.2 M 81 2::kR F y1.2 G 77 2::kR Y v.1 Z 53 10::kR c U.1 l 77 2::O) w'/\RepS Cc g9 Y Z v.1/\RepS C3 g9 H M E.2/\RepS C1 g9 c l U.1/\RepS aD g9 a8 c8 v.2.1/\RepS C1 g9 F G y1.2/\RepS (aJ .i64) g9 h4 h6 U.2.1) ?_ ?_
  .have hr:=J;rintro _ q3 ⟨d1,d2,c,l,h4,h6,g9,rfl,q,st,u,s,z,B,g,n4⟩;refine iF (bT 1 hr (vX (p0:=U.2) st.f5 n4) ?_);rintro y8 hr _ q4 ⟨l4,l6,n0,rfl,h0,st,k9⟩;have u:=u.o h0;have s:=s.o h0;have B:=B.o h0;have g:=g.o h0;refine eJ ?_;have st:=st.f6.t;refine aY (bL .normal hr (λa L' w'=>∃d7 d8 b n g6,L'=[(4,vP b2 0),(5,vP b3 0),(6,vP b4 0),(7,vS Y v.1 Z),(15,vP d1 0),(16,vP d2 0)]/\m.le g6/\St g6 (kB b1 #[vS d7 a.1 d8,vI a.2.1] 25::kB d2 #[vS b a.d n] 32::kB d1 #[vS c U.1 l] 28::kB b4 #[vS a8 v.2.1 c8] 36::kB b3 #[vS H E.2 M] 32::kB b2 #[vS F y1.2 G] 28::kR F y1.2 G 77 2::kR Y v.1 Z 53 10::kR c U.1 l 77 2::kR b a.d n 81 2::O) w'/\RepS Cc g6 Y Z v.1/\RepS (aJ .i64) g6 d7 d8 a.1/\RepS C3 g6 b n a.d/\RepS C1 g6 c l U.1/\RepS aD g6 a8 c8 v.2.1/\RepS C3 g6 H M E.2/\RepS C1 g6 F G y1.2) ?_ ?_)
   .rintro a hr _ q5 ⟨d7,d8,b,n,g6,rfl,q,st,u,a0,S,z,B,s,g⟩;refine aY (aB (bX st.t.t.t.t.t.h (bX st.t.t.t.t.h (bX st.t.t.h (bX st.t.h (aX hr (Wz st g s z S) ?_))))));rintro k6 hr _ q6 ⟨h5,h7,o0,rfl,g8,st,l0⟩;have u:=u.o g8;refine aZ (bT 1 hr (Fm st u) ?_);rintro o hr _ q7 ⟨D,R,n3,rfl,g3,st,V⟩;refine cA 3 (cP 19 63 (.agg #[v6,vI 0]) st λh2 q8 st=>bP (.agg (V1 o.1 D R)) st λq9 st=>cZ (bN hr ?_ ?_))<;>intro A hr
    .refine bF 1 (eJ ?_);have st:=st.f2.t.f9.t;cases hr;exact iN ⟨n3,rfl,(q.t g8).t g3,st.t.t.t.t.t.t.t.t.t.t.t⟩
    refine aL (aB (bX st.h (dQ 1 hr (Eu (p0:=o.1) st V (l0.o g3)) ?_)));rintro d3 hr _ r0 ⟨g1,g2,q0,rfl,g4,st,g0⟩;refine nV (bX st.t.h (dQ 1 hr (Ew (p0:=o.1) st (V.o g4) ((l0.o g3).o g4)) ?_));rintro p hr _ s4 ⟨b0,c0,h9,rfl,g5,st,d6⟩;have q:=(((q.t g8).t g3).t g4).t g5;have u:=((u.o g3).o g4).o g5;have g0:=g0.o g5;have V:=(V.o g4).o g5;have a0:=(((a0.o g8).o g3).o g4).o g5;have S:=(((S.o g8).o g3).o g4).o g5;have z:=(((z.o g8).o g3).o g4).o g5;have B:=(((B.o g8).o g3).o g4).o g5;have s:=(((s.o g8).o g3).o g4).o g5;have g:=(((g.o g8).o g3).o g4).o g5;refine cW 5 ?_;have st:=st.f4.t;refine iF (aB ?_);have⟨o5,hr,J⟩:=aR hr
    refine pY (j:=16) (λL' w'=>∃d9,L'=[(6,vP b4 0),(7,vS Y v.1 Z),(15,vP d1 0),(16,vP d2 0),(21,vS g1 d3.1 g2),(22,vS b0 p.1 c0),(125,vB o5)]/\m.le d9/\St d9 (kB h2 (V1 o.1 D R) 63::kB b1 #[vS d7 a.1 d8,vI a.2.1] 25::kB d2 #[vS b a.d n] 32::kB d1 #[vS c U.1 l] 28::kB b4 #[vS a8 v.2.1 c8] 36::kB b3 #[vS H E.2 M] 32::kB b2 #[vS F y1.2 G] 28::kR b0 p.1 c0 3 1::kR g1 d3.1 g2 3 1::kR D o.1.1 R 160 4::kR F y1.2 G 77 2::kR Y v.1 Z 53 10::kR c U.1 l 77 2::kR b a.d n 81 2::O) w'/\RepS Cc d9 Y Z v.1/\RepS (aJ .i64) d9 g1 g2 d3.1/\RepS (aJ .i64) d9 b0 c0 p.1/\RepS Cb d9 D R o.1.1/\RepS (aJ .i64) d9 d7 d8 a.1/\RepS C3 d9 b n a.d/\RepS C1 d9 c l U.1/\RepS aD d9 a8 c8 v.2.1/\RepS C3 d9 H M E.2/\RepS C1 d9 F G y1.2) ?_ ?_
    .have hr:=J;rintro _ s5 ⟨d9,rfl,q,st,u,g0,d6,V,a0,S,z,B,s,g⟩;refine aK (aM hr ?_ ?_)<;>intro A hr
     .refine bF 1 (eJ ?_);have st:=st.f7.t.f7.t.f9.t;cases hr;exact iN ⟨d9,rfl,q,st.t.t.t.t.t.t.t.t.t.t.t⟩
     refine aL (aF (bG (aU ?_)));have⟨k4,hr,j3⟩:=aR hr;refine eF (.exit 2) (λL' w'=>∃(o6:Unit),∃f0,(.inl o6)=k4/\L'=[(6,vP b4 0),(7,vS Y v.1 Z),(15,vP d1 0),(16,vP d2 0),(22,vS b0 p.1 c0)]/\m.le f0/\St f0 (kB h2 (V1 o.1 D R) 63::kB b1 #[vS d7 a.1 d8,vI a.2.1] 25::kB d2 #[vS b a.d n] 32::kB d1 #[vS c U.1 l] 28::kB b4 #[vS a8 v.2.1 c8] 36::kB b3 #[vS H E.2 M] 32::kB b2 #[vS F y1.2 G] 28::kR b0 p.1 c0 3 1::kR g1 d3.1 g2 3 1::kR D o.1.1 R 160 4::kR F y1.2 G 77 2::kR Y v.1 Z 53 10::kR c U.1 l 77 2::kR b a.d n 81 2::O) w'/\RepS Cc f0 Y Z v.1/\RepS (aJ .i64) f0 b0 c0 p.1/\RepS Cb f0 D R o.1.1/\RepS (aJ .i64) f0 d7 d8 a.1/\RepS C3 f0 b n a.d/\RepS C1 f0 c l U.1/\RepS aD f0 a8 c8 v.2.1/\RepS C3 f0 H M E.2/\RepS C1 f0 F G y1.2) ?_ ?_
     .rintro _ s6 ⟨o6,f0,rfl,rfl,q,st,u,d6,V,a0,S,z,B,s,g⟩;have hr:=j3;refine dB (aF (bF 3 (eJ ?_)));have st:=st.f8.t;refine aY (aU ?_);have⟨k5,hr,j5⟩:=aR hr;refine eF (.exit 4) (λL' w'=>∃(o8:Unit),∃g7,(.inl o8)=k5/\L'=[]/\m.le g7/\St g7 (kB h2 (V1 o.1 D R) 63::kB b1 #[vS d7 a.1 d8,vI a.2.1] 25::kB d2 #[vS b a.d n] 32::kB d1 #[vS c U.1 l] 28::kB b4 #[vS a8 v.2.1 c8] 36::kB b3 #[vS H E.2 M] 32::kB b2 #[vS F y1.2 G] 28::kR b0 p.1 c0 3 1::kR D o.1.1 R 160 4::kR F y1.2 G 77 2::kR Y v.1 Z 53 10::kR c U.1 l 77 2::kR b a.d n 81 2::O) w'/\RepS Cb g7 D R o.1.1/\RepS (aJ .i64) g7 d7 d8 a.1/\RepS C3 g7 b n a.d/\RepS C1 g7 c l U.1/\RepS aD g7 a8 c8 v.2.1/\RepS C3 g7 H M E.2/\RepS C1 g7 F G y1.2) ?_ ?_
      .rintro _ h1 ⟨o8,g7,rfl,rfl,q,st,V,a0,S,z,B,s,g⟩;have hr:=j5;refine dB (aB (aX hr (Wj st) ?_));rintro d4 hr _ h3 ⟨e1,rfl,d5,st⟩;refine cW 1 ?_;have st:=st.f7.t.f9.t;obtain rfl:=sI hr;exact iN ⟨e1,rfl,q.t d5,st.t.t.t.t.t.t.t.t.t.t.t⟩
      intro k7;refine cJ (λk3 L' w'=>∃(s3:Int),∃d4,aA (JL N v U a p) k3 s3=some k5/\L'=[(6,vP b4 0),(7,vS Y v.1 Z),(15,vP d1 0),(16,vP d2 0),(150,vS b0 p.1 c0),(151,vI (p.1.length:Int)),(152,vI s3)]/\m.le d4/\St d4 (kB h2 (V1 o.1 D R) 63::kB b1 #[vS d7 a.1 d8,vI a.2.1] 25::kB d2 #[vS b a.d n] 32::kB d1 #[vS c U.1 l] 28::kB b4 #[vS a8 v.2.1 c8] 36::kB b3 #[vS H E.2 M] 32::kB b2 #[vS F y1.2 G] 28::kR b0 p.1 c0 3 1::kR D o.1.1 R 160 4::kR F y1.2 G 77 2::kR Y v.1 Z 53 10::kR c U.1 l 77 2::kR b a.d n 81 2::O) w'/\RepS Cc d4 Y Z v.1/\RepS (aJ .i64) d4 b0 c0 p.1/\RepS Cb d4 D R o.1.1/\RepS (aJ .i64) d4 d7 d8 a.1/\RepS C3 d4 b n a.d/\RepS C1 d4 c l U.1/\RepS aD d4 a8 c8 v.2.1/\RepS C3 d4 H M E.2/\RepS C1 d4 F G y1.2) N ⟨0,f0,hr,rfl,q,st.f12.f12.f12.f12.f12.f12.f12.f12.f12.f12.f12.f12.f12,u,d6,V,a0,S,z,B,s,g⟩ ?_;rintro k3 _ s7 ⟨s3,d4,hL,rfl,q,st,u,d6,V,a0,S,z,B,s,g⟩;obtain⟨k3,q1,rfl,hr,l2,h8⟩:=cM hL;refine bK (aM hr ?_ ?_)<;>intro A hr
      .refine aL (aF (aU (aB (dD d6 hr ?_))));rintro x4 hr n6 f4 n8 rfl l8;refine bC st l8 (cZ (dA [(13,λw'=>Inv d4 w'/\Piece.holds d4 w' (kB d2 #[vS b a.d n] 32)/\Piece.holds d4 w' (kB d1 #[vS c U.1 l] 28)/\Piece.holds d4 w' (kB b4 #[vS a8 v.2.1 c8] 36)/\True)] kr st λs8 _ st=> ?_));have h3:=d4.le_refl;refine⟨aI (aC st h3),cE 0 VO (cE 1 lW (cE 2 cS (aT 2 [3,4] ?_)))⟩;have⟨x5,l3,hr⟩:=aR hr;refine iD (t:=37) (e:=53) (x:=(.tmp 160)) (y:=(.tmp 161)) 5 162 Cc kr rfl kr (.head _) (aG (bB (aG (aG (bB (aG dL)))))) (ev (vS Y v.1 Z)) (ev (vI x4)) kr u l3 ?_;rintro n7 f5 n9 ⟨_,_,rfl,⟨_,_,rfl,rfl,rfl⟩,⟨_,_,rfl,rfl,⟨_,_,rfl,rfl,⟨_,_,rfl,rfl,⟨_,_,rfl,⟨_,_,rfl,rfl,⟨_,_,rfl,rfl,rfl⟩⟩,⟨_,_,rfl,rfl,⟨l5,l7,rfl,n5⟩⟩⟩⟩⟩⟩⟩ l9;refine cQ 6 l9 (aH 7 kr (bQ hr (λ_ h=>Ed (p3:=x5) st B z S n5 h) ?_));rintro h1 hr _ s9 ⟨k8,rfl,d5,st⟩;refine⟨_,rfl,?_⟩;have u:=u.o d5;have B:=B.o d5;have s:=s.o d5;have g:=g.o d5;have h3:=h3.t d5
       refine⟨aI (aC st h3),aT 5 [8,9,10,11,12] (bH kr (aY (aB (dT 6 hr (λo9 L' w'=>∃e1,L'=[(6,vP b4 0),(7,vS Y v.1 Z),(15,vP d1 0),(16,vP d2 0),(150,vS b0 p.1 c0),(151,vI (p.1.length:Int)),(152,vI s3),(172,vB o9)]/\m.le e1/\St e1 (kB h2 (V1 o.1 D R) 63::kB b1 #[vS d7 a.1 d8,vI a.2.1] 25::kB d2 #[vS b a.d n] 32::kB d1 #[vS c U.1 l] 28::kB b4 #[vS a8 v.2.1 c8] 36::kB b3 #[vS H E.2 M] 32::kB b2 #[vS F y1.2 G] 28::kR b0 p.1 c0 3 1::kR D o.1.1 R 160 4::kR F y1.2 G 77 2::kR Y v.1 Z 53 10::kR c U.1 l 77 2::kR b a.d n 81 2::O) w'/\RepS Cc e1 Y Z v.1/\RepS (aJ .i64) e1 b0 c0 p.1/\RepS Cb e1 D R o.1.1/\RepS (aJ .i64) e1 d7 d8 a.1/\RepS C3 e1 b n a.d/\RepS C1 e1 c l U.1/\RepS aD e1 a8 c8 v.2.1/\RepS C3 e1 H M E.2/\RepS C1 e1 F G y1.2) ?_ ?_))))⟩
       .rintro o9 hr _ t3 ⟨e1,rfl,q,st,u,d6,V,a0,S,z,B,s,g⟩;refine aK (aM hr ?_ ?_)<;>intro A hr
        .refine bF 1 (eJ ?_);have st:=st.f7.t.f9.t;refine aY (bI (cH (bD ?_)));have ho:=h8 _ (sI hr);subst ho;have hr:=j5;cases hr;exact eV ⟨e1,rfl,q,st.t.t.t.t.t.t.t.t.t.t.t⟩
        refine eK (bV 2 ?_);have hL:=l2 _ (sI hr);exact cG ⟨wI (s3+1),e1,hL,rfl,q,st.f12.f12.f12.f12.f12.f12.f12.f12.f12.f12.f12.f12.f12,u,d6,V,a0,S,z,B,s,g⟩
       intro o9 hr K;refine bJ 3 169 hr ?_ ?_<;>intro A hr
       .exact aN 3 (K hr ⟨k8,rfl,q.t d5,st.f12.f12.f12.f12.f12.f12.f12.f12.f12.f12.f12.f12.f12,u,d6.o d5,V.o d5,a0.o d5,S.o d5,z.o d5,B,s,g⟩)
       exact aN 3 (K hr ⟨k8,rfl,q.t d5,st.f12.f12.f12.f12.f12.f12.f12.f12.f12.f12.f12.f12.f12,u,d6.o d5,V.o d5,a0.o d5,S.o d5,z.o d5,B,s,g⟩)
      refine cF ?_;have ho:=h8 _ (sI hr);have st:=st.f12.f12.f12.f12.f12.f12.f12.f12.f12.f12.f12.f12.f12;exact cC (k7 _ _ ⟨(),d4,ho,rfl,q,st,V,a0,S,z,B,s,g⟩)
     intro h8;refine cJ (λk2 L' w'=>∃(s2:Int),∃d5,aA (JK N v U a d3) k2 s2=some k4/\L'=[(6,vP b4 0),(7,vS Y v.1 Z),(15,vP d1 0),(16,vP d2 0),(22,vS b0 p.1 c0),(126,vS g1 d3.1 g2),(127,vI (d3.1.length:Int)),(128,vI s2)]/\m.le d5/\St d5 (kB h2 (V1 o.1 D R) 63::kB b1 #[vS d7 a.1 d8,vI a.2.1] 25::kB d2 #[vS b a.d n] 32::kB d1 #[vS c U.1 l] 28::kB b4 #[vS a8 v.2.1 c8] 36::kB b3 #[vS H E.2 M] 32::kB b2 #[vS F y1.2 G] 28::kR b0 p.1 c0 3 1::kR g1 d3.1 g2 3 1::kR D o.1.1 R 160 4::kR F y1.2 G 77 2::kR Y v.1 Z 53 10::kR c U.1 l 77 2::kR b a.d n 81 2::O) w'/\RepS Cc d5 Y Z v.1/\RepS (aJ .i64) d5 b0 c0 p.1/\RepS (aJ .i64) d5 g1 g2 d3.1/\RepS Cb d5 D R o.1.1/\RepS (aJ .i64) d5 d7 d8 a.1/\RepS C3 d5 b n a.d/\RepS C1 d5 c l U.1/\RepS aD d5 a8 c8 v.2.1/\RepS C3 d5 H M E.2/\RepS C1 d5 F G y1.2) N ⟨0,d9,hr,rfl,q,st.f13.f13.f13.f13.f13.f13.f13.f13.f13.f13.f13.f13.f13.f13,u,d6,g0,V,a0,S,z,B,s,g⟩ ?_;rintro k2 _ n9 ⟨s2,d5,hL,rfl,q,st,u,d6,g0,V,a0,S,z,B,s,g⟩;obtain⟨k2,n8,rfl,hr,k7,h3⟩:=cM hL;refine bK (aM hr ?_ ?_)<;>intro A hr
     .refine aL (aF (aU (aB (dD g0 hr ?_))));rintro x2 hr l9 f2 n6 rfl l5;refine bC st l5 (cZ (dA [(13,λw'=>Inv d5 w'/\Piece.holds d5 w' (kB d2 #[vS b a.d n] 32)/\Piece.holds d5 w' (kB d1 #[vS c U.1 l] 28)/\Piece.holds d5 w' (kB b4 #[vS a8 v.2.1 c8] 36)/\True)] kr st λq1 _ st=> ?_));have h1:=d5.le_refl;refine⟨aI (aC st h1),cE 0 VO (cE 1 lW (cE 2 cS (aT 2 [3,4] ?_)))⟩;have⟨x3,k8,hr⟩:=aR hr;refine iD (t:=37) (e:=53) (x:=(.tmp 136)) (y:=(.tmp 137)) 5 138 Cc kr rfl kr (.head _) (aG (bB (aG (aG (bB (aG dL)))))) (ev (vS Y v.1 Z)) (ev (vI x2)) kr u k8 ?_;rintro n5 f3 n7 ⟨_,_,rfl,⟨_,_,rfl,rfl,rfl⟩,⟨_,_,rfl,rfl,⟨_,_,rfl,rfl,⟨_,_,rfl,rfl,⟨_,_,rfl,⟨_,_,rfl,rfl,⟨_,_,rfl,rfl,rfl⟩⟩,⟨_,_,rfl,rfl,⟨l2,l3,rfl,l8⟩⟩⟩⟩⟩⟩⟩ l7;refine cQ 6 l7 (aH 7 kr (bQ hr (λ_ h=>Ed (p3:=x3) st B z S l8 h) ?_));rintro g7 hr _ s6 ⟨k5,rfl,d4,st⟩;refine⟨_,rfl,?_⟩;have u:=u.o d4;have B:=B.o d4;have s:=s.o d4;have g:=g.o d4;have h1:=h1.t d4
      refine⟨aI (aC st h1),aT 5 [8,9,10,11,12] (bH kr (aY (aB (dT 6 hr (λo7 L' w'=>∃e1,L'=[(6,vP b4 0),(7,vS Y v.1 Z),(15,vP d1 0),(16,vP d2 0),(22,vS b0 p.1 c0),(126,vS g1 d3.1 g2),(127,vI (d3.1.length:Int)),(128,vI s2),(148,vB o7)]/\m.le e1/\St e1 (kB h2 (V1 o.1 D R) 63::kB b1 #[vS d7 a.1 d8,vI a.2.1] 25::kB d2 #[vS b a.d n] 32::kB d1 #[vS c U.1 l] 28::kB b4 #[vS a8 v.2.1 c8] 36::kB b3 #[vS H E.2 M] 32::kB b2 #[vS F y1.2 G] 28::kR b0 p.1 c0 3 1::kR g1 d3.1 g2 3 1::kR D o.1.1 R 160 4::kR F y1.2 G 77 2::kR Y v.1 Z 53 10::kR c U.1 l 77 2::kR b a.d n 81 2::O) w'/\RepS Cc e1 Y Z v.1/\RepS (aJ .i64) e1 b0 c0 p.1/\RepS (aJ .i64) e1 g1 g2 d3.1/\RepS Cb e1 D R o.1.1/\RepS (aJ .i64) e1 d7 d8 a.1/\RepS C3 e1 b n a.d/\RepS C1 e1 c l U.1/\RepS aD e1 a8 c8 v.2.1/\RepS C3 e1 H M E.2/\RepS C1 e1 F G y1.2) ?_ ?_))))⟩
      .rintro o7 hr _ s7 ⟨e1,rfl,q,st,u,d6,g0,V,a0,S,z,B,s,g⟩;refine aK (aM hr ?_ ?_)<;>intro A hr
       .refine bF 1 (eJ ?_);have st:=st.f7.t.f7.t.f9.t;refine aY (bI (cH (bD ?_)));have ho:=h3 _ (sI hr);subst ho;have hr:=j3;cases hr;exact eV ⟨e1,rfl,q,st.t.t.t.t.t.t.t.t.t.t.t⟩
       refine eK (bV 2 ?_);have hL:=k7 _ (sI hr);exact cG ⟨wI (s2+1),e1,hL,rfl,q,st.f13.f13.f13.f13.f13.f13.f13.f13.f13.f13.f13.f13.f13.f13,u,d6,g0,V,a0,S,z,B,s,g⟩
      intro o7 hr K;refine bJ 3 145 hr ?_ ?_<;>intro A hr
      .exact aN 3 (K hr ⟨k5,rfl,q.t d4,st.f13.f13.f13.f13.f13.f13.f13.f13.f13.f13.f13.f13.f13.f13,u,d6.o d4,g0.o d4,V.o d4,a0.o d4,S.o d4,z.o d4,B,s,g⟩)
      exact aN 3 (K hr ⟨k5,rfl,q.t d4,st.f13.f13.f13.f13.f13.f13.f13.f13.f13.f13.f13.f13.f13.f13,u,d6.o d4,g0.o d4,V.o d4,a0.o d4,S.o d4,z.o d4,B,s,g⟩)
     refine cF ?_;have ho:=h3 _ (sI hr);have st:=st.f13.f13.f13.f13.f13.f13.f13.f13.f13.f13.f13.f13.f13.f13;exact cC (h8 _ _ ⟨(),d5,ho,rfl,q,st,u,d6,V,a0,S,z,B,s,g⟩)
    intro K;refine bJ 3 112 hr ?_ ?_<;>intro A hr
    .cases hr;exact aN 13 (K _ _ ⟨h9,rfl,q,st.f13.f13.f13.f13.f7.f6.f6.f13.f13.f13.f13.f13.f13.f13,u,g0,d6,V,a0,S,z,B,s,g⟩)
    refine bJ 4 116 hr ?_ ?_<;>intro A hr
    .cases hr;exact aN 9 (K _ _ ⟨h9,rfl,q,st.f13.f13.f13.f13.f7.f6.f6.f13.f13.f13.f13.f13.f13.f13,u,g0,d6,V,a0,S,z,B,s,g⟩)
    cases hr;exact aN 9 (K _ _ ⟨h9,rfl,q,st.f13.f13.f13.f13.f7.f6.f6.f13.f13.f13.f13.f13.f13.f13,u,g0,d6,V,a0,S,z,B,s,g⟩)
   intro a hr p;refine aM hr ?_ ?_<;>intro A hr
   .refine dV 1 (aX hr (Df (p0:=y8.1) st k9) ?_);rintro y9 hr _ d3 ⟨S,V,D,R,a0,rfl,o,st,b0,c0⟩;exact bP (.agg #[vS D y9.2 R]) st.f2 λd4 st=>oA (p hr ⟨S,V,D,R,a0,rfl,(q.t h0).t o,st.f7.t.f1.f9.f9.f9.f9.f9.f9.f9.f8.f9,u.o o,b0,c0,(z.o h0).o o,B.o o,s.o o,g.o o⟩)
   exact eD (p hr ⟨l4,l6,H,M,n0,rfl,q.t h0,st.f6.f9.f9.f9.f9.f9.f9.f9.f9.f9,u,k9,s,z.o h0,B,s,g⟩)
  intro K;refine dA [(8,λw'=>Inv m5 w'/\Piece.holds m5 w' (kB b3 #[vS H E.2 M] 32)/\Piece.holds m5 w' (kB b2 #[vS F y1.2 G] 28)/\True)] kr st λd6 _ st=> ?_;have a:=m5.le_refl;refine⟨aI (aC st a),aS 0 (cE 1 lW (cE 3 cS (iT [2,4,5] kr ad (MW ?_ ?_ ?_))))⟩
  .refine bQ hr (λ_ h=>LC (p0:=v.d) st.f3 r9 g h) ?_;rintro y7 hr _ d5 ⟨z,D,n,o,R,rfl,b,st,S,V⟩;refine⟨_,rfl,?_⟩;have u:=u.o b;have g:=g.o b;have s:=s.o b;have B:=B.o b;have a:=a.t b;refine⟨aI (aC st a),iT [4,5] kr ad (lH ?_ ?_)⟩
   .refine eC 15 28 (.agg #[v6]) st λa0 b0 st=> ?_;refine⟨aI (aC st a),aH 5 kr (eC 16 32 (.agg #[v6]) st λp c0 st=>⟨aI (aC st a),aH 6 kr (dC 28 15 77 (.agg #[vS n y7.2 o]) st.f1 λd3 st=>⟨aI (aC st a),aH 7 kr (dC 32 16 78 (.agg #[vS H E.2 M]) st.f1 λd4 st=>⟨aI (aC st a),?_⟩)⟩)⟩)⟩;obtain rfl:=sI hr;exact bH kr (xE (K _ _ ⟨a0,p,n,o,z,D,R,rfl,q.t b,st.f2.f10.f10.f10.f10.f7.f10.f10.f10.f10.f10,u,s,V,B,g,S⟩))
   refine eC 16 32 (.agg #[v6]) st λa0 b0 st=> ?_;refine⟨aI (aC st a),aH 4 kr (eC 15 28 (.agg #[v6]) st λp c0 st=>⟨aI (aC st a),aH 6 kr (dC 28 15 77 (.agg #[vS n y7.2 o]) st λd3 st=>⟨aI (aC st a),aH 7 kr (dC 32 16 78 (.agg #[vS H E.2 M]) st.f1 λd4 st=>⟨aI (aC st a),?_⟩)⟩)⟩)⟩;obtain rfl:=sI hr;exact bH kr (xE (K _ _ ⟨p,a0,n,o,z,D,R,rfl,q.t b,st.f2.f10.f10.f10.f10.f7.f10.f10.f10.f10.f10,u,s,V,B,g,S⟩))
  .refine eC 15 28 (.agg #[v6]) st λa0 d5 st=> ?_;refine⟨aI (aC st a),iT [2,5] kr ad (lH ?_ ?_)⟩
   .refine bQ hr (λ_ h=>LC (p0:=v.d) st.f4 r9 g h) ?_;rintro y7 hr _ b0 ⟨z,D,n,o,R,rfl,b,st,S,V⟩;refine⟨_,rfl,?_⟩;have a:=a.t b;refine⟨aI (aC st a),aH 5 kr (eC 16 32 (.agg #[v6]) st λp c0 st=>⟨aI (aC st a),aH 6 kr (dC 28 15 77 (.agg #[vS n y7.2 o]) st.f3 λd3 st=>⟨aI (aC st a),aH 7 kr (dC 32 16 78 (.agg #[vS H E.2 M]) st.f1 λd4 st=>⟨aI (aC st a),?_⟩)⟩)⟩)⟩;obtain rfl:=sI hr;exact bH kr (xE (K _ _ ⟨a0,p,n,o,z,D,R,rfl,q.t b,st.f2.f10.f10.f10.f10.f7.f10.f10.f10.f10.f10,u.o b,s.o b,V,B.o b,g.o b,S⟩))
   refine eC 16 32 (.agg #[v6]) st λp b0 st=> ?_;refine⟨aI (aC st a),aH 2 kr (bQ hr (λ_ h=>LC (p0:=v.d) st.f5 r9 g h) ?_)⟩;rintro y7 hr _ c0 ⟨z,D,n,o,R,rfl,b,st,S,V⟩;refine⟨_,rfl,?_⟩;have a:=a.t b;refine⟨aI (aC st a),aH 6 kr (dC 28 15 77 (.agg #[vS n y7.2 o]) st.f3 λd3 st=>⟨aI (aC st a),aH 7 kr (dC 32 16 78 (.agg #[vS H E.2 M]) st.f3 λd4 st=>⟨aI (aC st a),?_⟩)⟩)⟩;obtain rfl:=sI hr;exact bH kr (xE (K _ _ ⟨a0,p,n,o,z,D,R,rfl,q.t b,st.f2.f10.f10.f10.f10.f7.f10.f10.f10.f10.f10,u.o b,s.o b,V,B.o b,g.o b,S⟩))
  refine eC 16 32 (.agg #[v6]) st λa0 d5 st=> ?_;refine⟨aI (aC st a),iT [2,4] kr ad (lH ?_ ?_)⟩
  .refine bQ hr (λ_ h=>LC (p0:=v.d) st.f4 r9 g h) ?_;rintro y7 hr _ b0 ⟨z,D,n,o,R,rfl,b,st,S,V⟩;refine⟨_,rfl,?_⟩;have a:=a.t b;refine⟨aI (aC st a),aH 4 kr (eC 15 28 (.agg #[v6]) st λp c0 st=>⟨aI (aC st a),aH 6 kr (dC 28 15 77 (.agg #[vS n y7.2 o]) st λd3 st=>⟨aI (aC st a),aH 7 kr (dC 32 16 78 (.agg #[vS H E.2 M]) st.f3 λd4 st=>⟨aI (aC st a),?_⟩)⟩)⟩)⟩;obtain rfl:=sI hr;exact bH kr (xE (K _ _ ⟨p,a0,n,o,z,D,R,rfl,q.t b,st.f2.f10.f10.f10.f10.f7.f10.f10.f10.f10.f10,u.o b,s.o b,V,B.o b,g.o b,S⟩))
  refine eC 15 28 (.agg #[v6]) st λp b0 st=> ?_;refine⟨aI (aC st a),aH 2 kr (bQ hr (λ_ h=>LC (p0:=v.d) st.f5 r9 g h) ?_)⟩;rintro y7 hr _ c0 ⟨z,D,n,o,R,rfl,b,st,S,V⟩;refine⟨_,rfl,?_⟩;have a:=a.t b;refine⟨aI (aC st a),aH 6 kr (dC 28 15 77 (.agg #[vS n y7.2 o]) st.f2 λd3 st=>⟨aI (aC st a),aH 7 kr (dC 32 16 78 (.agg #[vS H E.2 M]) st.f3 λd4 st=>⟨aI (aC st a),?_⟩)⟩)⟩;obtain rfl:=sI hr;exact bH kr (xE (K _ _ ⟨p,a0,n,o,z,D,R,rfl,q.t b,st.f2.f10.f10.f10.f10.f7.f10.f10.f10.f10.f10,u.o b,s.o b,V,B.o b,g.o b,S⟩))
 intro h2;have st:=(st.nilroom 53 10).front7.front6.front3.front7.front7.front7.front7;refine cJ (λk1 L' w'=>∃(s1:T36),∃d7 d8 d9 f0 g7 g9 m6,aA (VY N y1 E y3) k1 s1=some k0/\L'=[(3,vP b1 0),(4,vP b2 0),(5,vP b3 0),(6,vP b4 0),(7,vS d7 s1.1 d8),(40,vS a6 y3 c6),(41,vI (y3.length:Int)),(42,vI s1.2.1)]/\m.le m6/\St m6 (kB b4 #[vS d9 s1.d.1 f0] 36::kB b3 #[vS H E.2 M] 32::kB b2 #[vS F y1.2 G] 28::kB b1 (V1 s1.e g7 g9) 25::kR a6 y3 c6 41 2::kR H E.2 M 81 2::kR F y1.2 G 77 2::kR d7 s1.1 d8 53 10::O) w'/\RepS Cc m6 d7 d8 s1.1/\RepS C1 m6 a6 c6 y3/\RepS aD m6 d9 f0 s1.d.1/\RepS C3 m6 H M E.2/\RepS C1 m6 F G y1.2/\RepS (aJ .i64) m6 g7 g9 s1.e.1) N ⟨(([]:BP),0,([]:Tb),E.1.1,E.1.2),none,0,none,0,a4,c4,m4,hr,rfl,((q.t e2).t e3).t e4,st,(RepS.nil _ _),r6,(RepS.nil _ _),s.o e4,(g.o e3).o e4,r4.o e4⟩ ?_;rintro k1 _ h8 ⟨s1,d7,d8,d9,f0,g7,g9,m6,hL,rfl,q,st,a0,r6,B,s,g,g1⟩;obtain⟨k1,h7,rfl,hr,h4,h1⟩:=cM hL;refine bK (aM hr ?_ ?_)<;>intro A hr
 .refine aL (aF (aU (aB (dD r6 hr ?_))));rintro x1 hr b5 f1 h6 ⟨_,_,rfl,rfl,rfl⟩ h5;refine bC st h5 (cP 9 41 (.agg #[vT eB,vT eB]) st λb6 h9 st=>bP (.agg (V2 x1)) st λk4 st=>aK (aB (bX st.t.t.t.h (bX st.t.t.h (bX st.h (aX hr (Xc (p3:=x1) st g s) ?_))))));rintro u hr _ k5 ⟨g2,g4,m7,rfl,e5,st,D⟩;have q:=q.t e5;have a0:=a0.o e5;have r6:=r6.o e5;have g:=g.o e5;have s:=s.o e5;have B:=B.o e5;have g1:=g1.o e5
  refine cA 3 (cP 10 47 (.agg #[vI 0,vI 0,vI 0,vB false,v6,vI 0]) st λb7 k6 st=>bP (.agg #[vI u.1.1.1,vI u.1.1.2.1,vI u.1.1.d,vB u.1.2.1,vS g2 u.1.d.1 g4,vI u.1.e]) st λk7 st=>cZ (bL .normal hr (λo2 L' w'=>∃b8 b9 e1 g0 g3 g5 g8 h0 m8,L'=[(3,vP b1 0),(4,vP b2 0),(5,vP b3 0),(6,vP b4 0),(7,vS d7 s1.1 d8),(12,vP b8 0),(13,vP b9 0),(14,vI o2.1),(40,vS a6 y3 c6),(41,vI (y3.length:Int)),(42,vI s1.2.1)]/\m.le m8/\St m8 (kB b9 (Vm o2.2.1 o2.d.1 o2.e.1 o2.f.1 o2.h.1 o2.j.1 o2.k.1 o2.2.2.2.2.2.2.2.2.1 o2.2.2.2.2.2.2.2.2.2.1 e1 o2.2.2.2.2.2.2.2.2.2.2.1 g0) 53::kB b8 #[vS g3 o2.2.2.2.2.2.2.2.2.2.2.2.1 g5] 36::kB b7 #[vI u.1.1.1,vI u.1.1.2.1,vI u.1.1.d,vB u.1.2.1,vS g2 u.1.d.1 g4,vI u.1.e] 47::kB b6 (V2 x1) 41::kB b4 #[vS d9 s1.d.1 f0] 36::kB b3 #[vS H E.2 M] 32::kB b2 #[vS F y1.2 G] 28::kB b1 (V1 o2.2.2.2.2.2.2.2.2.2.2.2.2 g8 h0) 25::kR g2 u.1.d.1 g4 103 3::kR a6 y3 c6 41 2::kR H E.2 M 81 2::kR F y1.2 G 77 2::kR d7 s1.1 d8 53 10::kR e1 o2.2.2.2.2.2.2.2.2.2.2.1 g0 115 4::O) w'/\RepS Cc m8 d7 d8 s1.1/\RepS C1 m8 a6 c6 y3/\RepS Ca m8 e1 g0 o2.2.2.2.2.2.2.2.2.2.2.1/\RepS aD m8 g3 g5 o2.2.2.2.2.2.2.2.2.2.2.2.1/\RepS C9 m8 g2 g4 u.1.d.1/\RepS aD m8 d9 f0 s1.d.1/\RepS C3 m8 H M E.2/\RepS C1 m8 F G y1.2/\RepS (aJ .i64) m8 g8 h0 o2.2.2.2.2.2.2.2.2.2.2.2.2.1) ?_ ?_))
  .rintro o2 hr _ d1 ⟨b8,b9,e1,g0,g3,g5,g8,h0,m8,rfl,q,st,a0,r6,z,R,D,B,s,g,S⟩;refine iF (bN hr ?_ ?_)<;>intro A hr
   .refine bF 1 (eJ ?_);have st:=st.f9.t.f11.t;refine aY (bI (bD (cH (bD ?_))));have ho:=h1 _ (sI hr);subst ho;have hr:=j1;cases hr;exact eV ⟨m8,rfl,q,st.t.t.t.t.t.t.t.t.t.t.t.t⟩
   refine aL (dA [(7,λw'=>Inv m8 w'/\Piece.holds m8 w' (kB b9 (Vm o2.2.1 o2.d.1 o2.e.1 o2.f.1 o2.h.1 o2.j.1 o2.k.1 o2.2.2.2.2.2.2.2.2.1 o2.2.2.2.2.2.2.2.2.2.1 e1 o2.2.2.2.2.2.2.2.2.2.2.1 g0) 53)/\Piece.holds m8 w' (kB b8 #[vS g3 o2.2.2.2.2.2.2.2.2.2.2.2.1 g5] 36)/\True)] kr st λd2 _ st=> ?_);have a:=m8.le_refl;refine⟨aI (aC st a),cE 0 lW (aS 1 (cE 2 cS (aH 3 kr (mL (d:=72) (t:=37) (e:=53) (len:=1) (parts:= #[(0,(.tmp 71))]) Cc (xs:=[((o2.2.1,o2.d.1),o2.e.1,o2.f.1,o2.h.1,(o2.j.1,o2.k.1,o2.2.2.2.2.2.2.2.2.1),o2.2.2.2.2.2.2.2.2.2.1,o2.2.2.2.2.2.2.2.2.2.2.1)]) (Vo o2.2.1 o2.d.1 o2.e.1 o2.f.1 o2.h.1 o2.j.1 o2.k.1 o2.2.2.2.2.2.2.2.2.1 o2.2.2.2.2.2.2.2.2.2.1 e1 o2.2.2.2.2.2.2.2.2.2.2.1 g0) kr rfl (λ_=>mS kr _) rfl rfl st ⟨(Vo o2.2.1 o2.d.1 o2.e.1 o2.f.1 o2.h.1 o2.j.1 o2.k.1 o2.2.2.2.2.2.2.2.2.1 o2.2.2.2.2.2.2.2.2.2.1 e1 o2.2.2.2.2.2.2.2.2.2.2.1 g0),_,rfl,⟨_,_,rfl,⟨_,_,rfl,rfl,rfl⟩,⟨_,_,rfl,rfl,⟨_,_,rfl,rfl,⟨_,_,rfl,rfl,⟨_,_,rfl,⟨_,_,rfl,rfl,⟨_,_,rfl,rfl,rfl⟩⟩,⟨_,_,rfl,rfl,(sC z)⟩⟩⟩⟩⟩⟩,rfl⟩ λb0 c0 d3 b st U=> ?_))))⟩;have a:=a.t b;refine⟨aI (aC st a),aH 4 kr (rZ 73 37 37 53 112 70 72 st.f13 (.inl kr) (a0.o b) U.src hr λo hr l n p d4 c st V=> ?_)⟩;have a:=a.t c;refine⟨aI (aC st a),aH 5 kr (dC 36 6 69 (.agg #[vS g3 o2.2.2.2.2.2.2.2.2.2.2.2.1 g5]) st.f6 λd5 st=>⟨aI (aC st a),aS 6 (bH kr ?_)⟩)⟩
   have st:=st.f2.t;refine iU (bV 2 ?_);have hL:=h4 _ (sI hr);exact cG ⟨(o,wI (s1.2.1+1),o2.2.2.2.2.2.2.2.2.2.2.2.1,o2.2.2.2.2.2.2.2.2.2.2.2.2.1,o2.2.2.2.2.2.2.2.2.2.2.2.2.2),l,n,g3,g5,g8,h0,p,hL,rfl,(q.t b).t c,st.f2.t.f2.t.f2.t.f2.t.f5.t.f8.t.f1.f7.f7.f7.f7.f7.f7.f7,V,(r6.o b).o c,(R.o b).o c,(s.o b).o c,(g.o b).o c,(S.o b).o c⟩
  intro o2 hr K;refine dA [(19,λw'=>Inv m7 w'/\Piece.holds m7 w' (kB b7 #[vI u.1.1.1,vI u.1.1.2.1,vI u.1.1.d,vB u.1.2.1,vS g2 u.1.d.1 g4,vI u.1.e] 47)/\Piece.holds m7 w' (kB b6 (V2 x1) 41)/\Piece.holds m7 w' (kB b4 #[vS d9 s1.d.1 f0] 36)/\Piece.holds m7 w' (kB b3 #[vS H E.2 M] 32)/\Piece.holds m7 w' (kB b2 #[vS F y1.2 G] 28)/\True)] kr st λk8 _ st=> ?_;have b:=m7.le_refl;refine⟨aI (aC st b),cE 0 VO (cE 1 (λ_ h=>h.2.2.2.2.2.1) (cE 2 prj5 (cE 3 lW (aS 4 (cE 8 cS (iT [5,14,15] kr ad (MW ?_ ?_ ?_)))))))⟩
  .refine bQ hr (λ_ h=>pU (p0:=s1.e) st.f6 g1 h) ?_;rintro y5 hr _ h3 ⟨c0,d1,m9,rfl,z,st,d2⟩;refine⟨_,rfl,?_⟩;have q:=q.t z;have a0:=a0.o z;have r6:=r6.o z;have B:=B.o z;have g:=g.o z;have s:=s.o z;have D:=D.o z;have b:=b.t z;refine⟨aI (aC st b),aT 2 [6,7] (iT [9,14,15] kr ad (MW ?_ ?_ ?_))⟩
   .refine bQ hr (λ_ h=>uP (p3:=(x1,0,0,wI (1+y5.2),(0,0,0),false,([]:nR))) (p4:=u.1) st B g s (RepS.nil _ _) D h) ?_;rintro a hr _ g6 ⟨l,o,n,p,S,rfl,c,st,U,V⟩;refine⟨_,rfl,?_⟩;have b:=b.t c;refine⟨aI (aC st b),aT 4 [10,11,12,13] (iT [14,15] kr ad (lH ?_ ?_))⟩
    .refine eC 12 36 (.agg #[v6]) st λb0 d3 st=> ?_;exact⟨aI (aC st b),aH 15 kr (eC 13 53 (.agg #[vT eB,vT eB,vI 0,vI 0,vI 0,vI 0,vI 0,vI 0,vB false,v6]) st λR d4 st=>⟨aI (aC st b),aH 16 kr (dC 36 12 64 (.agg #[vS l a.1 o]) st.f1 λd5 st=>⟨aI (aC st b),aH 17 kr (dC 53 13 65 (.agg (Vm a.2.1.1.1 a.2.1.1.2 a.2.1.2.1 a.2.1.d.1 a.2.1.e.1 a.2.1.f.1.1 a.2.1.f.1.2.1 a.2.1.f.1.d a.2.1.h.1 n a.2.1.j p)) st.f1 λd6 st=>⟨aI (aC st b),aS 18 (bH kr (xE (K hr ⟨b0,R,n,p,l,o,c0,d1,S,rfl,q.t c,st.f2.f13.f13.f13.f13.f9.f8.f13.f13.f13.f13.f13.f13.f13,a0.o c,r6.o c,V,U,D.o c,B.o c,s.o c,g.o c,d2.o c⟩)))⟩)⟩)⟩)⟩
    refine eC 13 53 (.agg #[vT eB,vT eB,vI 0,vI 0,vI 0,vI 0,vI 0,vI 0,vB false,v6]) st λb0 d3 st=> ?_;exact⟨aI (aC st b),aH 14 kr (eC 12 36 (.agg #[v6]) st λR d4 st=>⟨aI (aC st b),aH 16 kr (dC 36 12 64 (.agg #[vS l a.1 o]) st λd5 st=>⟨aI (aC st b),aH 17 kr (dC 53 13 65 (.agg (Vm a.2.1.1.1 a.2.1.1.2 a.2.1.2.1 a.2.1.d.1 a.2.1.e.1 a.2.1.f.1.1 a.2.1.f.1.2.1 a.2.1.f.1.d a.2.1.h.1 n a.2.1.j p)) st.f1 λd6 st=>⟨aI (aC st b),aS 18 (bH kr (xE (K hr ⟨R,b0,n,p,l,o,c0,d1,S,rfl,q.t c,st.f2.f13.f13.f13.f13.f9.f8.f13.f13.f13.f13.f13.f13.f13,a0.o c,r6.o c,V,U,D.o c,B.o c,s.o c,g.o c,d2.o c⟩)))⟩)⟩)⟩)⟩
   .refine eC 12 36 (.agg #[v6]) st λb0 g6 st=> ?_;refine⟨aI (aC st b),iT [9,15] kr ad (lH ?_ ?_)⟩
    .refine bQ hr (λ_ h=>uP (p3:=(x1,0,0,wI (1+y5.2),(0,0,0),false,([]:nR))) (p4:=u.1) st B g s (RepS.nil _ _) D h) ?_;rintro a hr _ d3 ⟨l,o,n,p,S,rfl,c,st,U,V⟩;refine⟨_,rfl,?_⟩;have b:=b.t c;exact⟨aI (aC st b),aT 4 [10,11,12,13] (aH 15 kr (eC 13 53 (.agg #[vT eB,vT eB,vI 0,vI 0,vI 0,vI 0,vI 0,vI 0,vB false,v6]) st λR d4 st=>⟨aI (aC st b),aH 16 kr (dC 36 12 64 (.agg #[vS l a.1 o]) st.f2 λd5 st=>⟨aI (aC st b),aH 17 kr (dC 53 13 65 (.agg (Vm a.2.1.1.1 a.2.1.1.2 a.2.1.2.1 a.2.1.d.1 a.2.1.e.1 a.2.1.f.1.1 a.2.1.f.1.2.1 a.2.1.f.1.d a.2.1.h.1 n a.2.1.j p)) st.f1 λd6 st=>⟨aI (aC st b),aS 18 (bH kr (xE (K hr ⟨b0,R,n,p,l,o,c0,d1,S,rfl,q.t c,st.f2.f13.f13.f13.f13.f9.f8.f13.f13.f13.f13.f13.f13.f13,a0.o c,r6.o c,V,U,D.o c,B.o c,s.o c,g.o c,d2.o c⟩)))⟩)⟩)⟩))⟩
    refine eC 13 53 (.agg #[vT eB,vT eB,vI 0,vI 0,vI 0,vI 0,vI 0,vI 0,vB false,v6]) st λR d3 st=> ?_;refine⟨aI (aC st b),aH 9 kr (bQ hr (λ_ h=>uP (p3:=(x1,0,0,wI (1+y5.2),(0,0,0),false,([]:nR))) (p4:=u.1) st B g s (RepS.nil _ _) D h) ?_)⟩;rintro a hr _ d4 ⟨l,o,n,p,S,rfl,c,st,U,V⟩;refine⟨_,rfl,?_⟩;have b:=b.t c;exact⟨aI (aC st b),aT 4 [10,11,12,13] (aH 16 kr (dC 36 12 64 (.agg #[vS l a.1 o]) st.f2 λd5 st=>⟨aI (aC st b),aH 17 kr (dC 53 13 65 (.agg (Vm a.2.1.1.1 a.2.1.1.2 a.2.1.2.1 a.2.1.d.1 a.2.1.e.1 a.2.1.f.1.1 a.2.1.f.1.2.1 a.2.1.f.1.d a.2.1.h.1 n a.2.1.j p)) st.f2 λd6 st=>⟨aI (aC st b),aS 18 (bH kr (xE (K hr ⟨b0,R,n,p,l,o,c0,d1,S,rfl,q.t c,st.f2.f13.f13.f13.f13.f9.f8.f13.f13.f13.f13.f13.f13.f13,a0.o c,r6.o c,V,U,D.o c,B.o c,s.o c,g.o c,d2.o c⟩)))⟩)⟩))⟩
   refine eC 13 53 (.agg #[vT eB,vT eB,vI 0,vI 0,vI 0,vI 0,vI 0,vI 0,vB false,v6]) st λb0 g6 st=> ?_;refine⟨aI (aC st b),iT [9,14] kr ad (lH ?_ ?_)⟩
   .refine bQ hr (λ_ h=>uP (p3:=(x1,0,0,wI (1+y5.2),(0,0,0),false,([]:nR))) (p4:=u.1) st B g s (RepS.nil _ _) D h) ?_;rintro a hr _ d3 ⟨l,o,n,p,S,rfl,c,st,U,V⟩;refine⟨_,rfl,?_⟩;have b:=b.t c;exact⟨aI (aC st b),aT 4 [10,11,12,13] (aH 14 kr (eC 12 36 (.agg #[v6]) st λR d4 st=>⟨aI (aC st b),aH 16 kr (dC 36 12 64 (.agg #[vS l a.1 o]) st λd5 st=>⟨aI (aC st b),aH 17 kr (dC 53 13 65 (.agg (Vm a.2.1.1.1 a.2.1.1.2 a.2.1.2.1 a.2.1.d.1 a.2.1.e.1 a.2.1.f.1.1 a.2.1.f.1.2.1 a.2.1.f.1.d a.2.1.h.1 n a.2.1.j p)) st.f2 λd6 st=>⟨aI (aC st b),aS 18 (bH kr (xE (K hr ⟨R,b0,n,p,l,o,c0,d1,S,rfl,q.t c,st.f2.f13.f13.f13.f13.f9.f8.f13.f13.f13.f13.f13.f13.f13,a0.o c,r6.o c,V,U,D.o c,B.o c,s.o c,g.o c,d2.o c⟩)))⟩)⟩)⟩))⟩
   refine eC 12 36 (.agg #[v6]) st λR d3 st=> ?_;refine⟨aI (aC st b),aH 9 kr (bQ hr (λ_ h=>uP (p3:=(x1,0,0,wI (1+y5.2),(0,0,0),false,([]:nR))) (p4:=u.1) st B g s (RepS.nil _ _) D h) ?_)⟩;rintro a hr _ d4 ⟨l,o,n,p,S,rfl,c,st,U,V⟩;refine⟨_,rfl,?_⟩;have b:=b.t c;exact⟨aI (aC st b),aT 4 [10,11,12,13] (aH 16 kr (dC 36 12 64 (.agg #[vS l a.1 o]) st.f1 λd5 st=>⟨aI (aC st b),aH 17 kr (dC 53 13 65 (.agg (Vm a.2.1.1.1 a.2.1.1.2 a.2.1.2.1 a.2.1.d.1 a.2.1.e.1 a.2.1.f.1.1 a.2.1.f.1.2.1 a.2.1.f.1.d a.2.1.h.1 n a.2.1.j p)) st.f2 λd6 st=>⟨aI (aC st b),aS 18 (bH kr (xE (K hr ⟨R,b0,n,p,l,o,c0,d1,S,rfl,q.t c,st.f2.f13.f13.f13.f13.f9.f8.f13.f13.f13.f13.f13.f13.f13,a0.o c,r6.o c,V,U,D.o c,B.o c,s.o c,g.o c,d2.o c⟩)))⟩)⟩))⟩
  .refine eC 12 36 (.agg #[v6]) st λb0 h3 st=> ?_;refine⟨aI (aC st b),iT [5,15] kr ad (lH ?_ ?_)⟩
   .refine bQ hr (λ_ h=>pU (p0:=s1.e) st.f7 g1 h) ?_;rintro y5 hr _ g6 ⟨c0,d1,m9,rfl,z,st,d2⟩;refine⟨_,rfl,?_⟩;have B:=B.o z;have g:=g.o z;have s:=s.o z;have D:=D.o z;have b:=b.t z;refine⟨aI (aC st b),aT 2 [6,7] (iT [9,15] kr ad (lH ?_ ?_))⟩
    .refine bQ hr (λ_ h=>uP (p3:=(x1,0,0,wI (1+y5.2),(0,0,0),false,([]:nR))) (p4:=u.1) st B g s (RepS.nil _ _) D h) ?_;rintro a hr _ d3 ⟨l,o,n,p,S,rfl,c,st,U,V⟩;refine⟨_,rfl,?_⟩;have b:=b.t c;exact⟨aI (aC st b),aT 4 [10,11,12,13] (aH 15 kr (eC 13 53 (.agg #[vT eB,vT eB,vI 0,vI 0,vI 0,vI 0,vI 0,vI 0,vB false,v6]) st λR d4 st=>⟨aI (aC st b),aH 16 kr (dC 36 12 64 (.agg #[vS l a.1 o]) st.f3 λd5 st=>⟨aI (aC st b),aH 17 kr (dC 53 13 65 (.agg (Vm a.2.1.1.1 a.2.1.1.2 a.2.1.2.1 a.2.1.d.1 a.2.1.e.1 a.2.1.f.1.1 a.2.1.f.1.2.1 a.2.1.f.1.d a.2.1.h.1 n a.2.1.j p)) st.f1 λd6 st=>⟨aI (aC st b),aS 18 (bH kr (xE (K hr ⟨b0,R,n,p,l,o,c0,d1,S,rfl,(q.t z).t c,st.f2.f13.f13.f13.f13.f9.f8.f13.f13.f13.f13.f13.f13.f13,(a0.o z).o c,(r6.o z).o c,V,U,D.o c,B.o c,s.o c,g.o c,d2.o c⟩)))⟩)⟩)⟩))⟩
    refine eC 13 53 (.agg #[vT eB,vT eB,vI 0,vI 0,vI 0,vI 0,vI 0,vI 0,vB false,v6]) st λR d3 st=> ?_;refine⟨aI (aC st b),aH 9 kr (bQ hr (λ_ h=>uP (p3:=(x1,0,0,wI (1+y5.2),(0,0,0),false,([]:nR))) (p4:=u.1) st B g s (RepS.nil _ _) D h) ?_)⟩;rintro a hr _ d4 ⟨l,o,n,p,S,rfl,c,st,U,V⟩;refine⟨_,rfl,?_⟩;have b:=b.t c;exact⟨aI (aC st b),aT 4 [10,11,12,13] (aH 16 kr (dC 36 12 64 (.agg #[vS l a.1 o]) st.f3 λd5 st=>⟨aI (aC st b),aH 17 kr (dC 53 13 65 (.agg (Vm a.2.1.1.1 a.2.1.1.2 a.2.1.2.1 a.2.1.d.1 a.2.1.e.1 a.2.1.f.1.1 a.2.1.f.1.2.1 a.2.1.f.1.d a.2.1.h.1 n a.2.1.j p)) st.f2 λd6 st=>⟨aI (aC st b),aS 18 (bH kr (xE (K hr ⟨b0,R,n,p,l,o,c0,d1,S,rfl,(q.t z).t c,st.f2.f13.f13.f13.f13.f9.f8.f13.f13.f13.f13.f13.f13.f13,(a0.o z).o c,(r6.o z).o c,V,U,D.o c,B.o c,s.o c,g.o c,d2.o c⟩)))⟩)⟩))⟩
   refine eC 13 53 (.agg #[vT eB,vT eB,vI 0,vI 0,vI 0,vI 0,vI 0,vI 0,vB false,v6]) st λR g6 st=> ?_;refine⟨aI (aC st b),aH 5 kr (bQ hr (λ_ h=>pU (p0:=s1.e) st.f8 g1 h) ?_)⟩;rintro y5 hr _ d3 ⟨c0,d1,m9,rfl,z,st,d2⟩;refine⟨_,rfl,?_⟩;have b:=b.t z;refine⟨aI (aC st b),aT 2 [6,7] (aH 9 kr (bQ hr (λ_ h=>uP (p3:=(x1,0,0,wI (1+y5.2),(0,0,0),false,([]:nR))) (p4:=u.1) st (B.o z) (g.o z) (s.o z) (RepS.nil _ _) (D.o z) h) ?_))⟩;rintro a hr _ d4 ⟨l,o,n,p,S,rfl,c,st,U,V⟩;refine⟨_,rfl,?_⟩;have b:=b.t c;exact⟨aI (aC st b),aT 4 [10,11,12,13] (aH 16 kr (dC 36 12 64 (.agg #[vS l a.1 o]) st.f3 λd5 st=>⟨aI (aC st b),aH 17 kr (dC 53 13 65 (.agg (Vm a.2.1.1.1 a.2.1.1.2 a.2.1.2.1 a.2.1.d.1 a.2.1.e.1 a.2.1.f.1.1 a.2.1.f.1.2.1 a.2.1.f.1.d a.2.1.h.1 n a.2.1.j p)) st.f3 λd6 st=>⟨aI (aC st b),aS 18 (bH kr (xE (K hr ⟨b0,R,n,p,l,o,c0,d1,S,rfl,(q.t z).t c,st.f2.f13.f13.f13.f13.f9.f8.f13.f13.f13.f13.f13.f13.f13,(a0.o z).o c,(r6.o z).o c,V,U,(D.o z).o c,(B.o z).o c,(s.o z).o c,(g.o z).o c,d2.o c⟩)))⟩)⟩))⟩
  refine eC 13 53 (.agg #[vT eB,vT eB,vI 0,vI 0,vI 0,vI 0,vI 0,vI 0,vB false,v6]) st λb0 h3 st=> ?_;refine⟨aI (aC st b),iT [5,14] kr ad (lH ?_ ?_)⟩
  .refine bQ hr (λ_ h=>pU (p0:=s1.e) st.f7 g1 h) ?_;rintro y5 hr _ g6 ⟨c0,d1,m9,rfl,z,st,d2⟩;refine⟨_,rfl,?_⟩;have B:=B.o z;have g:=g.o z;have s:=s.o z;have D:=D.o z;have b:=b.t z;refine⟨aI (aC st b),aT 2 [6,7] (iT [9,14] kr ad (lH ?_ ?_))⟩
   .refine bQ hr (λ_ h=>uP (p3:=(x1,0,0,wI (1+y5.2),(0,0,0),false,([]:nR))) (p4:=u.1) st B g s (RepS.nil _ _) D h) ?_;rintro a hr _ d3 ⟨l,o,n,p,S,rfl,c,st,U,V⟩;refine⟨_,rfl,?_⟩;have b:=b.t c;exact⟨aI (aC st b),aT 4 [10,11,12,13] (aH 14 kr (eC 12 36 (.agg #[v6]) st λR d4 st=>⟨aI (aC st b),aH 16 kr (dC 36 12 64 (.agg #[vS l a.1 o]) st λd5 st=>⟨aI (aC st b),aH 17 kr (dC 53 13 65 (.agg (Vm a.2.1.1.1 a.2.1.1.2 a.2.1.2.1 a.2.1.d.1 a.2.1.e.1 a.2.1.f.1.1 a.2.1.f.1.2.1 a.2.1.f.1.d a.2.1.h.1 n a.2.1.j p)) st.f3 λd6 st=>⟨aI (aC st b),aS 18 (bH kr (xE (K hr ⟨R,b0,n,p,l,o,c0,d1,S,rfl,(q.t z).t c,st.f2.f13.f13.f13.f13.f9.f8.f13.f13.f13.f13.f13.f13.f13,(a0.o z).o c,(r6.o z).o c,V,U,D.o c,B.o c,s.o c,g.o c,d2.o c⟩)))⟩)⟩)⟩))⟩
   refine eC 12 36 (.agg #[v6]) st λR d3 st=> ?_;refine⟨aI (aC st b),aH 9 kr (bQ hr (λ_ h=>uP (p3:=(x1,0,0,wI (1+y5.2),(0,0,0),false,([]:nR))) (p4:=u.1) st B g s (RepS.nil _ _) D h) ?_)⟩;rintro a hr _ d4 ⟨l,o,n,p,S,rfl,c,st,U,V⟩;refine⟨_,rfl,?_⟩;have b:=b.t c;exact⟨aI (aC st b),aT 4 [10,11,12,13] (aH 16 kr (dC 36 12 64 (.agg #[vS l a.1 o]) st.f1 λd5 st=>⟨aI (aC st b),aH 17 kr (dC 53 13 65 (.agg (Vm a.2.1.1.1 a.2.1.1.2 a.2.1.2.1 a.2.1.d.1 a.2.1.e.1 a.2.1.f.1.1 a.2.1.f.1.2.1 a.2.1.f.1.d a.2.1.h.1 n a.2.1.j p)) st.f3 λd6 st=>⟨aI (aC st b),aS 18 (bH kr (xE (K hr ⟨R,b0,n,p,l,o,c0,d1,S,rfl,(q.t z).t c,st.f2.f13.f13.f13.f13.f9.f8.f13.f13.f13.f13.f13.f13.f13,(a0.o z).o c,(r6.o z).o c,V,U,D.o c,B.o c,s.o c,g.o c,d2.o c⟩)))⟩)⟩))⟩
  refine eC 12 36 (.agg #[v6]) st λR g6 st=> ?_;refine⟨aI (aC st b),aH 5 kr (bQ hr (λ_ h=>pU (p0:=s1.e) st.f8 g1 h) ?_)⟩;rintro y5 hr _ d3 ⟨c0,d1,m9,rfl,z,st,d2⟩;refine⟨_,rfl,?_⟩;have b:=b.t z;refine⟨aI (aC st b),aT 2 [6,7] (aH 9 kr (bQ hr (λ_ h=>uP (p3:=(x1,0,0,wI (1+y5.2),(0,0,0),false,([]:nR))) (p4:=u.1) st (B.o z) (g.o z) (s.o z) (RepS.nil _ _) (D.o z) h) ?_))⟩;rintro a hr _ d4 ⟨l,o,n,p,S,rfl,c,st,U,V⟩;refine⟨_,rfl,?_⟩;have b:=b.t c;exact⟨aI (aC st b),aT 4 [10,11,12,13] (aH 16 kr (dC 36 12 64 (.agg #[vS l a.1 o]) st.f2 λd5 st=>⟨aI (aC st b),aH 17 kr (dC 53 13 65 (.agg (Vm a.2.1.1.1 a.2.1.1.2 a.2.1.2.1 a.2.1.d.1 a.2.1.e.1 a.2.1.f.1.1 a.2.1.f.1.2.1 a.2.1.f.1.d a.2.1.h.1 n a.2.1.j p)) st.f3 λd6 st=>⟨aI (aC st b),aS 18 (bH kr (xE (K hr ⟨R,b0,n,p,l,o,c0,d1,S,rfl,(q.t z).t c,st.f2.f13.f13.f13.f13.f9.f8.f13.f13.f13.f13.f13.f13.f13,(a0.o z).o c,(r6.o z).o c,V,U,(D.o z).o c,(B.o z).o c,(s.o z).o c,(g.o z).o c,d2.o c⟩)))⟩)⟩))⟩
 refine cF ?_;have ho:=h1 _ (sI hr);have st:=st.f7.f7.f7.f7.f7.f7.f7.f7;exact cC (h2 _ _ ⟨(s1.1,s1.d.1,s1.e.1,s1.f),d7,d8,d9,f0,g7,g9,m6,ho,rfl,q,st,a0,B,s,g,g1⟩)
end
section
open Go Go.Dc Go.Proofs
theorem Mq{N:Nat}(a:30<N):FY N=some (some kdL):=by
 unfold FY
 rw[show Nat.blt 30 N=true by simpa[Nat.blt_eq] using a];rfl
end
section
open Go Go.Dc
theorem mN(s:BA):s.data.toList.length=s.size:=by simp
theorem oW{s:BA}{i:Nat}(h:i<s.data.toList.length):iB s (i:Int)=some (s.data.toList[i]):=by
 have h':i<s.size:=by simpa using h
 grind [Lv,ByteArray.getElem_eq_getElem_data]
def tw(p:UInt8->Bool)(l:List UInt8)(a:Nat):Nat:=a+((l.drop a).takeWhile p).length
variable {p:UInt8->Bool} {l:List UInt8} {a:Nat}
theorem tD(h:a<=l.length):a<=tw p l a/\tw p l a<=l.length:=by
 grind [List.takeWhile_sublist,tw]
theorem NK(h:a<l.length)(b:p l[a]=true):tw p l (a+1)=tw p l a:=by
 grind [tw,List.drop_eq_getElem_cons,List.takeWhile_cons_of_pos]
theorem NO(h:a<l.length)(b:p l[a]=false):tw p l a=a:=by
 grind [tw,List.drop_eq_getElem_cons,List.takeWhile_cons_of_neg]
theorem Bm(h:l.length<=a):tw p l a=a:=by
 simp_all [tw,jZ]
theorem HI{β:Type}{f:Int->Option (Int⊕β)}(out:Nat->β)(go:∀i:Nat,∀h:i<l.length,p l[i]=true->f (i:Int)=some (.inl ((i:Int)+1)))
  (no:∀i:Nat,∀h:i<l.length,p l[i]=false->f (i:Int)=some (.inr (out i))) (en:f (l.length:Int)=some (.inr (out l.length))):
  ∀(d a N:Nat),a+d=l.length->d<N->aA f N (a:Int)=some (out (tw p l a))
 |d,a,0,_,h=>by omega
 |0,a,N+1,b,h=>by
  grind [Bm,aA]
 |d+1,a,N+1,b,h=>by
  have c:a<l.length:=by omega
  cases hb:p l[a] with
  |true=>
   have:=HI out go no en d (a+1) N aa aa
   grind [NK,aA]
  |false=>
   grind [NO,aA]
def kd(c:UInt8):Int:=vN (c.toNat:Int)
def cY(ks:List Int)(c:UInt8):Bool:=ks.any λk=>kd c==k
theorem Hh{N:Nat}{s:BA}{ks:List Int}{i:Nat}(h:i<s.data.toList.length)(c:ks.length<=10)(a:10<N):aA (FR N s (some kdL) ks (i:Int)) N (false,0)=some (cY ks (s.data.toList[i])):=by
 have key:=tO (f:=FR N s (some kdL) ks (i:Int)) (λj=>((ks.take j).any (λk=>kd (s.data.toList[i])==k),(j:Int))) ks.length (cY ks (s.data.toList[i])) (λj b=> ?_) ?_ (N:=N) aa
 .simpa using key
 .grind [FR,cD,oW,bA,List.take_succ_eq_append_getElem,kd,vN,rR]
 simp only[FR]
 rw[jA ad,hK]
 rfl
theorem Ou{N:Nat}{s:BA}{ks:List Int}{i:Nat}(hi:i<=s.data.toList.length)(e:s.data.toList.length<1000000)(d:ks.length<=10)(c:s.data.toList.length+10<N):
  GB N s (i:Int) (some kdL) ks=some ((tw (cY ks) s.data.toList i:Nat):Int):=by
 have g:=mN s
 have key:=HI (f:=FS N s (some kdL) ks) (l:=s.data.toList) (p:=cY ks) (λn=>(n:Int)) (λj b a=>by
   grind [FS,Hh,bA]) (λj b a=>by
   grind [FS,Hh]) (by
   grind [FS]) (s.data.toList.length-i) i N aa aa
 grind [GB]
theorem qKj(c:UInt8):(rR (some kdL) (c.toNat:Int)).getD 0=kd c:=rfl
theorem tR{l:List UInt8}{i:Nat}(h:i<l.length):l.getD i 0=l[i]:=by grind
def OP(n:Int)(c:UInt8):Int:=if 9007199254740993<10*n+((c.toNat:Int)-48) then 9007199254740993 else 10*n+((c.toNat:Int)-48)
def BI(ds:List UInt8):Int:=ds.foldl OP 0
def oO(c:UInt8):Bool:=decide (32<=c.toNat)&&decide (c.toNat<=126)&&c !=34
def DH:Int×BA×Int×Int:=(0,⟨#[]⟩,0,0)
def yP(l:List UInt8)(i:Nat):Nat:=if l.getD i 0=61/\l.getD (i+1) 0=61 then i+2 else i+1
def iC(s:BA)(i:Nat):(Int×BA×Int×Int)×Int×Int:=
 if kd (s.data.toList.getD i 0)=1 then
  if tw (cY [1,2,3]) s.data.toList i-i>24 then(DH,0,2) else((1,s.extract i (tw (cY [1,2,3]) s.data.toList i),0,0),((tw (cY [1,2,3]) s.data.toList i:Nat):Int),0)
 else if kd (s.data.toList.getD i 0)=2 then
  if BI ((s.data.toList.drop i).takeWhile (cY [2]))>9007199254740992 then(DH,0,3) else((2,⟨#[]⟩,BI ((s.data.toList.drop i).takeWhile (cY [2])),0),((tw (cY [2]) s.data.toList i:Nat):Int),0)
 else if kd (s.data.toList.getD i 0)=7 then
  if s.data.toList.getD (tw oO s.data.toList (i+1)) 0=34 then((3,s.extract (i+1) (tw oO s.data.toList (i+1)),0,0),((tw oO s.data.toList (i+1)+1:Nat):Int),0) else(DH,0,9)
 else if kd (s.data.toList.getD i 0)=8 then
  ((4,s.extract i (yP s.data.toList i),0,0),((yP s.data.toList i:Nat):Int),0)
 else(DH,0,9)
theorem Lz:∀c:UInt8,kd c=2->48<=c.toNat/\c.toNat<=57:=by
 have h:((List.range 256).all λn=> !(decide (kd (UInt8.ofNat n)=2))||(decide (48<=n)&&decide (n<=57)))=true:=by kernel_rfl
 intro c a
 have:=jL.1 h c.toNat (gZ.2 c.toNat_lt)
 simp_all
theorem XE{s:BA}{p:UInt8->Bool}{i:Nat}:(s.extract i (tw p s.data.toList i)).data.toList=(s.data.toList.drop i).takeWhile p:=by
 grind [ByteArray.data_extract,Array.toList_extract,List.prefix_iff_eq_take,List.takeWhile_prefix,tw]
theorem qBx(l:List UInt8)(c:UInt8):BI (l++[c])=OP (BI l) c:=by simp[BI]
theorem CW{p:UInt8->Bool}:∀{l:List UInt8} {c:UInt8},c∈l.takeWhile p->p c=true
 |[],_,h=>by simp at h
 |x::l,c,h=>by
  cases hx:p x with
  |true=>
   rw[gG hx] at h
   rcases jG.1 h with rfl|h
   .exact hx
   exact CW h
  |false=>simp_all
theorem NF{s:BA}{i e:Nat}(a:i<=e)(b:e<=s.data.toList.length):qS s (i:Int) (e:Int)=some (s.extract i e):=by
 grind [mN,TM]
theorem qDh{s:BA}{i:Nat}(a:i<=s.data.toList.length):qS s (i:Int) (s.size:Int)=some (s.extract i s.data.toList.length):=by
 grind [mN,NF]
theorem nY(x y:BA):(x.toList==y.toList)=decide (x=y):=by
 grind [Go.ByteArray.toList_eq,Go.WideShapes.bytes_inj]
theorem Qu{p:UInt8->Bool}{l:List UInt8}(h:∀c∈l,p c=true):tw p l 0=l.length:=by
 unfold tw
 have:l.takeWhile p=l:=by
  induction l with
  |nil=>rfl
  |cons c l a=>simp_all
 simp[this]
abbrev cO:=Int×BA×Int×Int
theorem Ag{ks:List Int}{k:Int}{c:UInt8}(a:k∈ks)(h:kd c=k):cY ks c=true:=by
 grind [cY]
theorem HL{p:UInt8->Bool}{l:List UInt8}{a:Nat}(h:a<l.length)(b:p l[a]=true):a<tw p l a:=by
 rw[<-NK h b];grind [tD]
theorem Mp{l:List UInt8}{i:Nat}(h:l.getD i 0≠0):i<l.length:=by
 grind
theorem Aw{s:BA}{i:Nat}(hi:i<s.data.toList.length)(h:(iC s i).2.2=0):∃e:Nat,(iC s i).2.1=(e:Int)/\i<e/\e<=s.data.toList.length/\
  (((iC s i).1.1=1\/(iC s i).1.1=4)/\(iC s i).1.2.1=s.extract i e\/(iC s i).1.1=2/\(iC s i).1.2.1=⟨#[]⟩\/(iC s i).1.1=3/\(iC s i).1.2.1.size+i<e):=by
 have d:=mN s
 unfold iC at h ⊢
 rw[tR hi] at h ⊢
 by_cases h1:kd (s.data.toList[i])=1
 .grind [tD,cY,HL]
 rw[jA h1] at h ⊢
 by_cases h2:kd (s.data.toList[i])=2
 .grind [tD,cY,HL]
 rw[jA h2] at h ⊢
 by_cases h7:kd (s.data.toList[i])=7
 .rw[jB h7] at h ⊢
  split at h
  .rename_i h24
   rw[jB h24]
   have c:=tD (p:=oO) (l:=s.data.toList) (a:=i+1) aa
   have b:tw oO s.data.toList (i+1)<s.data.toList.length:=Mp (by rw[h24];decide)
   refine⟨_,rfl,by omega,by omega,.inr (.inr ⟨rfl,?_⟩)⟩
   grind [ByteArray.size_extract]
  cases h
 grind [yP]
def mV(c:UInt8):Bool:=c !=10
def oQ:Nat->BA->Nat->(Int×Int)⊕List cO
 |0,_,_=> .inr []
 |k+1,s,i=>
  if tw (cY [5]) s.data.toList i=s.data.toList.length then .inr [(5,⟨#[]⟩,0,(s.data.toList.length:Int))]
  else if kd (s.data.toList.getD (tw (cY [5]) s.data.toList i) 0)=6 then oQ k s (tw mV s.data.toList (tw (cY [5]) s.data.toList i))
  else if(iC s (tw (cY [5]) s.data.toList i)).2.2≠0 then .inl ((tw (cY [5]) s.data.toList i:Nat),(iC s (tw (cY [5]) s.data.toList i)).2.2)
  else match oQ k s (iC s (tw (cY [5]) s.data.toList i)).2.1.toNat with
   | .inl x=> .inl x
   | .inr r=> .inr (((iC s (tw (cY [5]) s.data.toList i)).1.1,(iC s (tw (cY [5]) s.data.toList i)).1.2.1,(iC s (tw (cY [5]) s.data.toList i)).1.2.2.1,((tw (cY [5]) s.data.toList i:Nat):Int))::r)
def DI(acc:List cO):(Int×Int)⊕List cO->List cO×Int×Int
 | .inl x=>([],x.1,x.2)
 | .inr r=>(acc++r,0,0)
def lP(s:BA):List cO×Int×Int:=if s.data.toList.length>16384 then([],0,2) else DI [] (oQ (s.data.toList.length+1) s 0)
def AZ(t:cO):Int:=t.2.2.2+(t.2.1.size:Int)+(if t.1=2 then 1 else 0)
def Bx(s:BA):Int->List cO->Prop
 |_,[]=>True
 |e,t::r=>e<=t.2.2.2/\t.2.2.2+(t.2.1.size:Int)<=s.size/\(t.1=5↔r=[])/\(t.1=1\/t.1=4->s.extract t.2.2.2.toNat (t.2.2.2+(t.2.1.size:Int)).toNat=t.2.1/\0<t.2.1.size)/\Bx s (AZ t) r
theorem XV{s:BA}:∀(k i:Nat) (e:Int) (r:List cO),i<=s.data.toList.length->s.data.toList.length<i+k->e<=i->oQ k s i= .inr r->Bx s e r/\r≠[]/\r.length<=s.data.toList.length+1-i
 |0,i,e,r,v,E,F,c=>by omega
 |k+1,i,e,r,v,E,F,c=>by
  have K:=mN s
  have G:=tD (p:=cY [5]) (l:=s.data.toList) (a:=i) v
  simp only[oQ] at c
  generalize hE:tw (cY [5]) s.data.toList i=a at G c
  split at c
  .obtain rfl:=(Sum.inr.inj c).symm
   refine⟨⟨by grind,by show(s.data.toList.length:Int)+((0:Nat):Int)<=_;omega,by simp,λh=>by simp at h,trivial⟩,by simp,by simp;omega⟩
  rename_i he
  have d:a<s.data.toList.length:=by omega
  split at c
  .rename_i h6
   have f:=tD (p:=mV) (l:=s.data.toList) (a:=a) aa
   have g:=HL (p:=mV) d (by
    rw[tR d] at h6
    simp only[mV,hH,ne_eq]
    intro e;rw[e] at h6;exact absurd h6 ac)
   obtain⟨u,B,D⟩:=XV k _ e r f.2 aa aa c
   grind
  split at c
  .cases c
  rename_i h0
  obtain⟨b,y,f,z,A⟩:=Aw d (by simpa using h0)
  rw[y,jT] at c
  generalize (iC s a).1=t at c A
  cases hG:oQ k s b with
  |inl x=>grind
  |inr q=>
   rw[hG] at c
   obtain rfl:=(Sum.inr.inj c).symm
   have H:(s.extract a b).size=b-a:=by simp_all
   have o:AZ (t.1,t.2.1,t.2.2.1,(a:Int))<=b/\(a:Int)+(t.2.1.size:Int)<=b/\t.1≠5/\(t.1=1\/t.1=4->t.2.1=s.extract a b):=by
    rcases A with ⟨g,n⟩|⟨g,n⟩|⟨g,n⟩
    .grind [AZ]
    .have:(⟨#[]⟩:BA).size=0:=rfl
     grind [AZ]
    grind [AZ]
   obtain⟨u,B,D⟩:=XV k b (AZ (t.1,t.2.1,t.2.2.1,(a:Int))) q z aa o.1 hG
   refine⟨⟨by grind,?_,?_,?_,u⟩,by simp,by grind⟩
   .grind
   .grind
   grind
theorem ZS{s:BA}:∀(k i:Nat) (x:Int×Int),i<=s.data.toList.length->s.data.toList.length<i+k->oQ k s i= .inl x->0<=x.1/\x.1<=s.size/\x.2≠0
 |0,i,x,g,r,c=>by omega
 |k+1,i,x,g,r,c=>by
  have v:=mN s
  have t:=tD (p:=cY [5]) (l:=s.data.toList) (a:=i) g
  simp only[oQ] at c
  generalize hE:tw (cY [5]) s.data.toList i=a at t c
  split at c
  .cases c
  rename_i he
  have d:a<s.data.toList.length:=by omega
  split at c
  .rename_i h6
   have f:=tD (p:=mV) (l:=s.data.toList) (a:=a) aa
   have h:=HL (p:=mV) d (by
    rw[tR d] at h6
    simp only[mV,hH,ne_eq]
    intro e;rw[e] at h6;exact absurd h6 ac)
   exact ZS k _ x f.2 aa c
  split at c
  .grind
  rename_i h0
  obtain⟨b,n,f,o,u⟩:=Aw d (by simpa using h0)
  rw[n,jT] at c
  cases h:oQ k s b with
  |inl y=>rw[h] at c;obtain rfl:=Sum.inl.inj c;exact ZS k b y o aa h
  |inr q=>grind
theorem AP{p:UInt8->Bool}(h:((List.range 256).all λn=>p (UInt8.ofNat n))=true)(c:UInt8):p c=true:=by
 have:=jL.1 h c.toNat (gZ.2 c.toNat_lt)
 simpa using this
theorem YE{N:Nat}(c:UInt8):FE N (c.toNat:Int)=some (kd c==1):=by
 have h:=AP (p:=λc=>(decide (97<=c.toNat)&&decide (c.toNat<=122))==(kd c==1)) ag c
 grind [FE]
theorem ND{N:Nat}(c:UInt8):CG N (c.toNat:Int)=some (cY [1,2,3] c):=by
 have h:=AP (p:=λc=>(kd c==1||(decide (48<=c.toNat)&&decide (c.toNat<=57)||decide (c.toNat=95)))==cY [1,2,3] c) ag c
 grind [CG,YE,Decidable.decide]
theorem YD(c:UInt8):kd c=2↔48<=c.toNat/\c.toNat<=57:=by
 have h:=AP (p:=λc=>(kd c==2)==(decide (48<=c.toNat)&&decide (c.toNat<=57))) ag c
 grind
theorem Jn(c:UInt8):kd c=7↔c=34:=by
 have h:=AP (p:=λc=>(kd c==7)==(c==34)) ag c
 grind
def signs:List UInt8:=[59,44,40,41,43,45,42,47,37,60,61]
theorem qFl(c:UInt8):kd c=8↔signs.contains c=true:=by
 have h:=AP (p:=λc=>(kd c==8)==signs.contains c) ag c
 grind
theorem qCw(c:UInt8):cY [5] c=true↔c.toNat=32\/c.toNat=9\/c.toNat=10\/c.toNat=13:=by
 have h:=AP (p:=λc=>cY [5] c==(decide (c.toNat=32)||(decide (c.toNat=9)||(decide (c.toNat=10)||decide (c.toNat=13))))) ag c
 grind
theorem Ze(c:UInt8):kd c=6↔c.toNat=35:=by
 have h:=AP (p:=λc=>(kd c==6)==decide (c.toNat=35)) ag c
 grind
def tF(n:Int)(c:UInt8):Int:=if n<=9007199254740992 then n*10+((c.toNat:Int)-48) else n
theorem qDu(l:List UInt8)(c:UInt8):(l++[c]).foldl tF 0=tF (l.foldl tF 0) c:=by simp
theorem Oy:∀(n:Nat) (ds:List UInt8),ds.length=n->(∀c∈ds,kd c=2)->0<=ds.foldl tF 0/\ds.foldl tF 0<=90071992547409930/\BI ds=if ds.foldl tF 0>9007199254740992 then 9007199254740993 else ds.foldl tF 0
 |0,ds,h,_=>by grind [BI]
 |n+1,ds,h,b=>by
  obtain⟨l,c,rfl⟩:∃l c,ds=l++[c]:=by
   rcases List.eq_nil_or_concat ds with e|⟨l,c,e⟩
   .grind
   grind
  obtain⟨d,f,g⟩:=Oy n l (by simpa using h) (λc a=>b c (kQ _ a))
  have a:=Lz c (b c ad)
  rw[qDu,qBx]
  grind [tF,OP]
theorem inK2(c:UInt8):cY [2] c=decide (48<=c.toNat/\c.toNat<=57):=by
 grind [YD,cY]
theorem Ha{N:Nat}{s:BA}:∀(d i M:Nat) (n:Int),i+d=s.data.toList.length->s.data.toList.length<1000000->d<M->0<=n->n<=90071992547409930->
  aA (KG N s) M ((i:Int),n)=some (((tw (cY [2]) s.data.toList i:Nat):Int),((s.data.toList.drop i).takeWhile (cY [2])).foldl tF n)
 |d,i,0,n,_,_,h,_,_=>by omega
 |0,i,M+1,n,b,a,c,e,f=>by
  have l:=mN s
  rw[Bm aa,jZ aa]
  simp only[aA,KG]
  simp_all
 |d+1,i,M+1,n,b,a,c,e,f=>by
  have l:=mN s
  have hi:i<s.data.toList.length:=by omega
  simp only[aA,KG]
  rw[jB (by grind),oW hi]
  simp only[j0]
  have g:(if decide (((s.data.toList[i]).toNat:Int)>=48)then some (decide (((s.data.toList[i]).toNat:Int)<=57)) else some false)=some (cY [2] (s.data.toList[i])):=by
   grind [inK2]
  rw[g]
  simp only[j0]
  rw[jN hi]
  cases hb:cY [2] (s.data.toList[i]) with
  |false=>
   grind [NO,List.takeWhile_cons_of_neg]
  |true=>
   have o:48<=(s.data.toList[i]).toNat/\(s.data.toList[i]).toNat<=57:=by grind
   rw[<-NK hi hb,gG hb,kI,jB rfl]
   have k:(if decide (n<=9007199254740992)then some (wI (wI (n*10)+wI (IntKind.wrap .u8 (((s.data.toList[i]).toNat:Int)-48)))) else some n)=some (tF n (s.data.toList[i])):=by
    grind [tF,wu8,bA]
   rw[k]
   simp only[j0]
   rw[bA aa aa,<-fV]
   exact Ha d (i+1) M _ aa a aa (by grind [tF]) (by grind [tF])
theorem My(c:UInt8):(if decide ((c.toNat:Int)>=32)then(if decide ((c.toNat:Int)<=126)then some ((c.toNat:Int) !=34) else some false) else some false)=some (oO c):=by
 unfold oO
 by_cases h1:32<=c.toNat
 .rw[jB (by grind)]
  by_cases h2:c.toNat<=126
  .rw[jB (by grind)]
   simp only[h1,h2,decide_true,gY]
   congr 1
   rw[fZ,hH,hH]
   exact⟨λh e=>h (by rw[e];rfl),λh e=>h (UInt8.toNat_inj.1 (by grind))⟩
  grind
 grind
theorem Yp{N:Nat}{s:BA}(d i M:Nat)(a:i+d=s.data.toList.length)(h:s.data.toList.length<1000000)(b:d<M):aA (BX N s) M (i:Int)=some ((tw oO s.data.toList i:Nat):Int):=by
 have k:=mN s
 refine HI (f:=BX N s) (l:=s.data.toList) (p:=oO) (λe=>(e:Int)) (λj g c=> ?_) (λj g c=> ?_) ?_ d i M a b
 .grind [BX,oW,My,bA]
 .grind [BX,oW,My]
 grind [BX]
theorem Qh{N:Nat}{s:BA}{p1 a:Int}:QO N s p1 a=if(decide (a<(signs.length:Int)))then((aO signs a).bind λb=>(iB s p1).bind λc=>if((c.toNat:Int)==(b.toNat:Int))then((qS s p1 (wI (p1+1))).bind λd=>some (.inr (.inr (((4,d,0,p1),wI (p1+1),0))))) else(some (.inl (wI (a+1))))) else(some (.inr (.inl ()))):=rfl
theorem Gj{N:Nat}{s:BA}{i:Nat}(hi:i<s.data.toList.length)(g:s.data.toList.length<1000000):∀(d j M:Nat),j+d=signs.length->d<M->
  aA (QO N s (i:Int)) M (j:Int)=some (if(signs.drop j).contains (s.data.toList[i])then .inr ((4,s.extract i (i+1),0,(i:Int)),((i+1:Nat):Int),0) else .inl ())
 |d,j,0,_,h=>by omega
 |0,j,M+1,e,f=>by
  grind [aA,Qh]
 |d+1,j,M+1,e,f=>by
  have b:j<signs.length:=by omega
  have k:signs.length=11:=rfl
  simp only[aA,Qh]
  rw[jB (by grind),cD b,oW hi,jN b]
  simp only[j0,List.contains_cons]
  by_cases he:s.data.toList[i]=signs[j]
  .rw[jB (by grind),bA (x:=(i:Int)+1) aa aa,<-fV,NF aa aa]
   grind
  have c:¬((s.data.toList[i]).toNat:Int)=((signs[j]).toNat:Int):=λh=>he (UInt8.toNat_inj.1 aa)
  have a:(s.data.toList[i]==signs[j])=false:=beq_eq_false_iff_ne.2 he
  rw[jA (by simpa using c),bA aa aa,<-fV]
  simp only[j0,a,Bool.false_or]
  exact Gj hi g d (j+1) M aa aa
def Cu(s:BA)(i:Nat):(Int×BA×Int×Int)×Int×Int:=
 if(iC s i).2.2=0 then(((iC s i).1.1,(iC s i).1.2.1,(iC s i).1.2.2.1,(i:Int)),(iC s i).2.1,0) else iC s i
theorem Zo{N:Nat}{s:BA}{i:Nat}(hi:i<s.data.toList.length)(k:s.data.toList.length<1000000)(t:s.data.toList.length+20<N):RO N s (i:Int)=some (Cu s i):=by
 have u:=mN s
 simp only[RO,oW hi,j0,YE,Cu,iC,tR hi,gP]
 by_cases h1:kd (s.data.toList[i])=1
 .simp only[h1,jJ]
  have d:=tD (p:=cY [1,2,3]) (l:=s.data.toList) (a:=i) aa
  have key:=HI (f:=EV N s) (l:=s.data.toList) (p:=cY [1,2,3]) (λe=>(e:Int)) (λj b d=>by
   grind [EV,oW,ND,bA]) (λj b d=>by
   grind [EV,oW,ND]) (by
   grind [EV]) (s.data.toList.length-i) i N aa aa
  rw[key]
  simp only[j0]
  rw[bA aa aa,NF d.1 d.2]
  by_cases h:tw (cY [1,2,3]) s.data.toList i-i>24
  .rw[jB (by grind),jB h];rfl
  grind
 simp only[h1,jE]
 by_cases h2:kd (s.data.toList[i])=2
 .simp only[h2,jJ]
  have g:=(YD _).1 h2
  rw[jB (by grind)]
  simp only[j0]
  obtain⟨n1,n2,b⟩:=Oy _ _ rfl (λc (n:c∈(s.data.toList.drop i).takeWhile (cY [2]))=>by grind [cY,CW])
  rw[jB (by simp only[jR];omega),Ha (s.data.toList.length-i) i N 0 aa k aa aa aa,b]
  grind [DH]
 simp only[h2,jE]
 have q:¬(48<=(s.data.toList[i]).toNat/\(s.data.toList[i]).toNat<=57):=λh=>h2 ((YD _).2 h)
 have g:(if decide (((s.data.toList[i]).toNat:Int)>=48)then some (decide (((s.data.toList[i]).toNat:Int)<=57)) else some false)=some false:=by
  grind
 rw[g]
 simp only[j0,j7,jE]
 by_cases h7:kd (s.data.toList[i])=7
 .have n:s.data.toList[i]=34:=(Jn _).1 h7
  simp only[h7,jJ]
  rw[jB (by rw[n];rfl),bA (x:=(i:Int)+1) aa aa,<-fV]
  have d:=tD (p:=oO) (l:=s.data.toList) (a:=i+1) aa
  rw[Yp (s.data.toList.length-(i+1)) (i+1) N aa k aa]
  simp only[j0]
  generalize tw oO s.data.toList (i+1)=e at d
  by_cases he:e=s.data.toList.length
  .rw[jB aa]
   have:¬s.data.toList.getD e 0=34:=λh=>by grind
   rw[jA this]
   rfl
  have b:e<s.data.toList.length:=by omega
  rw[jA aa,oW b,tR b]
  simp only[j0]
  by_cases h34:s.data.toList[e]=34
  .rw[jB h34,jA (by rw[h34];decide),NF d.1 d.2]
   grind [bA]
  have h34':¬((s.data.toList[e]).toNat:Int)=34:=λh=>h34 (UInt8.toNat_inj.1 (by grind))
  grind [DH]
 have h34':¬((s.data.toList[i]).toNat:Int)=34:=λh=>h7 ((Jn _).2 (UInt8.toNat_inj.1 (by grind)))
 simp only[h7,jE,h34']
 have o:(if((s.data.toList[i]).toNat:Int)=61 then(if decide (wI ((i:Int)+1)<(s.size:Int))then((iB s (wI ((i:Int)+1))).bind λd=>some ((d.toNat:Int)==61)) else some false) else some false)=some (decide (s.data.toList.getD i 0=61/\s.data.toList.getD (i+1) 0=61)):=by
  rw[tR hi]
  by_cases h61:s.data.toList[i]=61
  .rw[jB (by rw[h61];rfl),bA aa aa,<-fV]
   by_cases b:i+1<s.data.toList.length
   .rw[jB (by grind),oW b,tR b]
    simp only[j0]
    congr 1
    rw[fZ,gP,jR]
    exact⟨λh=>⟨h61,UInt8.toNat_inj.1 (by grind)⟩,λh=>by simp_all⟩
   grind [decide_eq_false]
  rw[jA (λh=>h61 (UInt8.toNat_inj.1 (by grind)))]
  grind
 rw[o]
 simp only[j0,jR]
 by_cases h61:s.data.toList.getD i 0=61/\s.data.toList.getD (i+1) 0=61
 .have b:i+1<s.data.toList.length:=Mp (by grind)
  have r:kd (s.data.toList[i])=8:=by rw[<-tR hi,h61.1];kernel_rfl
  have n:yP s.data.toList i=i+2:=by grind [yP]
  have v:s.extract i (i+2)=(⟨#[61,61]⟩:BA):=by
   apply Go.WideShapes.bytes_inj
   simp only[ByteArray.data_extract,fR,List.extract_eq_take_drop]
   rw[jN hi,jN b,<-tR hi,<-tR b,h61.1,h61.2,show i+2-i=2 by omega]
   rfl
  grind [bA]
 have n:yP s.data.toList i=i+1:=by grind [yP]
 have key:=Gj (N:=N) hi k 11 0 N rfl aa
 grind [qFl,DH]
def nH:Nat->List UInt8->Nat->Nat
 |0,_,i=>i
 |k+1,l,i=>
  if tw (cY [5]) l i=l.length then l.length
  else if kd (l.getD (tw (cY [5]) l i) 0)=6 then nH k l (tw mV l (tw (cY [5]) l i))
  else tw (cY [5]) l i
theorem qAv{N:Nat}{s:BA}{i:Nat}(hi:i<=s.data.toList.length)(g:s.data.toList.length<1000000)(d:s.data.toList.length+10<N):aA (CE N s) N (i:Int)=some ((tw mV s.data.toList i:Nat):Int):=by
 have n:=mN s
 have k:∀c:UInt8,((c.toNat:Int) !=10)=mV c:=λc=>by
  rw[fZ,hH,mV,hH]
  exact⟨λh e=>h (by rw[e];rfl),λh e=>h (UInt8.toNat_inj.1 (by grind))⟩
 refine HI (f:=CE N s) (l:=s.data.toList) (p:=mV) (λe=>(e:Int)) (λj b a=> ?_) (λj b a=> ?_) ?_ (s.data.toList.length-i) i N aa aa
 .grind [CE,oW,bA]
 .grind [CE,oW]
 grind [CE]
theorem qBk{s:BA}{i:Nat}(hi:i<s.data.toList.length):((iB s (i:Int)).bind λa=>if((a.toNat:Int)==32)then(some true) else((iB s (i:Int)).bind λb=>if((b.toNat:Int)==9)then(some true) else((iB s (i:Int)).bind λd=>if((d.toNat:Int)==10)then(some true) else((iB s (i:Int)).bind λe=>some ((e.toNat:Int)==13)))))=some (cY [5] (s.data.toList[i])):=by
 simp only[oW hi,j0,gP]
 generalize s.data.toList[i]=c
 have f:=qCw c
 by_cases h1:(c.toNat:Int)=32
 .grind
 rw[jA h1]
 by_cases h2:(c.toNat:Int)=9
 .grind
 rw[jA h2]
 by_cases h3:(c.toNat:Int)=10
 .grind
 rw[jA h3]
 congr 1
 grind
theorem qBp{N:Nat}{s:BA}{i:Nat}(hi:i<s.data.toList.length)(b:s.data.toList.length<1000000)(a:s.data.toList.length+10<N):
  FA N s (i:Int)=some (if cY [5] (s.data.toList[i])then .inl (((i+1:Nat)):Int) else if kd (s.data.toList[i])=6 then .inl ((tw mV s.data.toList i:Nat):Int) else .inr (.inr (i:Int))):=by
 grind [mN,FA,qBk,bA,oW,Ze,qAv]
theorem YM{N:Nat}{s:BA}(c:s.data.toList.length<1000000)(b:s.data.toList.length+10<N):∀(d i k M:Nat),i+d=s.data.toList.length->d<k->d<M->∃z,aA (FA N s) M (i:Int)=some z/\(z= .inl ((nH k s.data.toList i:Nat):Int)\/z= .inr ((nH k s.data.toList i:Nat):Int))
 |d,i,k,0,_,_,h=>by omega
 |d,i,0,M,_,h,_=>by omega
 |0,i,k+1,M+1,g,n,o=>by
  grind [mN,aA,FA,nH,Bm]
 |d+1,i,k+1,M+1,g,n,o=>by
  have t:=mN s
  have hi:i<s.data.toList.length:=by omega
  simp only[aA]
  rw[qBp hi c b]
  simp only[j0]
  cases h5:cY [5] (s.data.toList[i]) with
  |true=>
   rw[jB rfl]
   have:=YM c b d (i+1) (k+1) M aa aa aa
   grind [nH,NK]
  |false=>
   rw[jA Bool.false_ne_true]
   by_cases h6:kd (s.data.toList[i])=6
   .have f:nH (k+1) s.data.toList i=nH k s.data.toList (tw mV s.data.toList i):=by
     grind [nH,NO]
    rw[f,jB h6]
    have r:=tD (p:=mV) (l:=s.data.toList) (a:=i) aa
    have q:=HL (p:=mV) hi (by
     simp only[mV,hH,ne_eq]
     intro e;rw[e] at h6;exact absurd h6 ac)
    exact YM c b (s.data.toList.length-tw mV s.data.toList i) _ k M aa aa aa
   grind [nH,NO]
theorem Oh{N:Nat}{s:BA}{i k:Nat}(hi:i<=s.data.toList.length)(b:s.data.toList.length<1000000)(a:s.data.toList.length+10<N)(e:s.data.toList.length<i+k):LM N s (i:Int)=some ((nH k s.data.toList i:Nat):Int):=by
 obtain⟨z,c,d⟩:=YM b a (s.data.toList.length-i) i k N aa aa aa
 grind [LM]
theorem Jj{s:BA}:∀(k i:Nat),i<=s.data.toList.length->s.data.toList.length<i+k->i<=nH k s.data.toList i/\nH k s.data.toList i<=s.data.toList.length/\
  (nH k s.data.toList i=s.data.toList.length->oQ k s i= .inr [(5,⟨#[]⟩,0,(s.data.toList.length:Int))])/\
  (nH k s.data.toList i<s.data.toList.length->∃k',(∀b,nH k s.data.toList i<b->s.data.toList.length<b+k')/\oQ k s i=
   if(iC s (nH k s.data.toList i)).2.2≠0 then .inl ((nH k s.data.toList i:Nat),(iC s (nH k s.data.toList i)).2.2)
   else match oQ k' s (iC s (nH k s.data.toList i)).2.1.toNat with
    | .inl x=> .inl x
    | .inr r=> .inr (((iC s (nH k s.data.toList i)).1.1,(iC s (nH k s.data.toList i)).1.2.1,(iC s (nH k s.data.toList i)).1.2.2.1,((nH k s.data.toList i:Nat):Int))::r))
 |0,i,d,n=>by omega
 |k+1,i,d,n=>by
  have f:=tD (p:=cY [5]) (l:=s.data.toList) (a:=i) d
  simp only[nH,oQ]
  by_cases he:tw (cY [5]) s.data.toList i=s.data.toList.length
  .grind
  simp only[he,jE]
  have c:tw (cY [5]) s.data.toList i<s.data.toList.length:=by omega
  by_cases h6:kd (s.data.toList.getD (tw (cY [5]) s.data.toList i) 0)=6
  .simp only[h6,jJ]
   have g:=tD (p:=mV) (l:=s.data.toList) (a:=tw (cY [5]) s.data.toList i) aa
   have o:=HL (p:=mV) c (by
    rw[tR c] at h6
    simp only[mV,hH,ne_eq]
    intro e;rw[e] at h6;exact absurd h6 ac)
   obtain⟨q,t,u,v⟩:=Jj k (tw mV s.data.toList (tw (cY [5]) s.data.toList i)) g.2 aa
   grind
  simp only[h6,jE]
  exact⟨f.1,f.2,λh=>absurd h he,λ_=>⟨k,λb hb'=>by omega,rfl⟩⟩
theorem Fl{N:Nat}{s:BA}(x:s.data.toList.length<=16384)(v:s.data.toList.length+40<N):∀(d i k M:Nat) (acc:List cO),i+d=s.data.toList.length->d<M->s.data.toList.length<i+k->acc.length<=i->
  ∃z,aA (QL N s) M (acc,((nH k s.data.toList i:Nat):Int))=some z/\((∃o,z= .inl o/\o.length<=s.data.toList.length/\DI acc (oQ k s i)=(o++[(5,⟨#[]⟩,0,(s.size:Int))],0,0))\/z= .inr (DI acc (oQ k s i)))
 |d,i,k,0,acc,_,h,_,_=>by omega
 |d,i,k,M+1,acc,D,E,u,F=>by
  have y:=mN s
  obtain⟨r,t,g,l⟩:=Jj (s:=s) k i aa u
  generalize hA:nH k s.data.toList i=a at r t g l
  simp only[aA,QL]
  by_cases he:a=s.data.toList.length
  .refine⟨.inl acc,?_,.inl ⟨acc,rfl,by omega,?_⟩⟩
   .grind
   rw[g he,<-y];rfl
  have b:a<s.data.toList.length:=by omega
  obtain⟨k',n,p⟩:=l b
  rw[jB (by grind),Zo b aa aa]
  simp only[j0,Cu]
  by_cases h0:(iC s a).2.2=0
  .obtain⟨e,c,f,q,_⟩:=Aw b h0
   rw[jB h0]
   simp only[bne_self_eq_false,j7,jE]
   rw[eT (by grind) aa,c]
   simp only[j0]
   rw[Oh (k:=k') q aa aa (n e f)]
   simp only[j0]
   obtain⟨z,A,B⟩:=Fl x v (s.data.toList.length-e) e k' M (acc++[((iC s a).1.1,(iC s a).1.2.1,(iC s a).1.2.2.1,(a:Int))]) aa aa (n e f) ah
   have G:DI acc (oQ k s i)=DI (acc++[((iC s a).1.1,(iC s a).1.2.1,(iC s a).1.2.2.1,(a:Int))]) (oQ k' s e):=by
    rw[p,jA (by simp[h0]),c,jT]
    grind [DI]
   grind
  rw[jA h0]
  have c:((iC s a).2.2 !=0)=true:=by simpa using h0
  simp only[c,jJ,j0]
  refine⟨_,rfl,.inr ?_⟩
  rw[p,jB h0]
  rfl
theorem Ys{N:Nat}{s:BA}(d:20000<N):RH N s=some (lP s):=by
 have e:=mN s
 unfold RH lP
 by_cases h:s.data.toList.length>16384
 .grind
 rw[jA (by grind),jA h]
 have a:=Oh (N:=N) (s:=s) (i:=0) (k:=s.data.toList.length+1) aa aa aa aa
 rw[show((0:Nat):Int)=0 from rfl] at a
 rw[a]
 simp only[j0]
 obtain⟨z,b,c⟩:=Fl (N:=N) (s:=s) aa aa s.data.toList.length 0 (s.data.toList.length+1) N [] aa aa aa ad
 grind [eT]
def lC(s:BA):Bool:=decide (1<=s.data.toList.length/\s.data.toList.length<=24/\kd (s.data.toList.getD 0 0)=1/\tw (cY [1,2,3]) s.data.toList 0=s.data.toList.length)
theorem CS{s:BA}(h:¬(1<=s.data.toList.length/\s.data.toList.length<=24/\kd (s.data.toList.getD 0 0)=1/\tw (cY [1,2,3]) s.data.toList 0=s.data.toList.length)):false=lC s:=(kC h).symm
theorem qDe{s:BA}(h:1<=s.data.toList.length/\s.data.toList.length<=24/\kd (s.data.toList.getD 0 0)=1/\tw (cY [1,2,3]) s.data.toList 0=s.data.toList.length):true=lC s:=(kE h).symm
theorem Nt{N:Nat}{s:BA}(b:100<N):GC N s=some (lC s):=by
 have c:=mN s
 simp only[GC,Mq (show 30<N by omega),j0]
 by_cases h1:1<=s.data.toList.length
 .by_cases h2:s.data.toList.length<=24
  .rw[jB (by grind),jB (by grind)]
   have hi:=oW (s:=s) (i:=0) aa
   rw[show((0:Nat):Int)=0 from rfl] at hi
   rw[hi]
   simp only[j0,qKj,gP]
   have a:=Ou (N:=N) (s:=s) (ks:=[1,2,3]) (i:=0) aa aa ad aa
   rw[show((0:Nat):Int)=0 from rfl] at a
   by_cases h3:kd (s.data.toList[0])=1
   .rw[jB h3,a]
    simp only[j0]
    congr 1
    grind [lC]
   grind [CS]
  grind [CS]
 grind [CS]
theorem MR{N:Nat}{s:BA}(c:100<N):sR N s=some (lC s):=by
 have d:=mN s
 simp only[sR]
 by_cases h1:1<=s.data.toList.length
 .by_cases h2:s.data.toList.length<=24
  .rw[jA (by grind),jA (by simp only[jR];omega)]
   have hi:=oW (s:=s) (i:=0) aa
   rw[show((0:Nat):Int)=0 from rfl] at hi
   rw[hi]
   simp only[j0,YE]
   by_cases h3:kd (s.data.toList[0])=1
   .rw[h3,jA ad]
    have key:=HI (f:=FD N s) (l:=s.data.toList) (p:=cY [1,2,3]) (λe=>if e=s.data.toList.length then .inl () else .inr false) (λj b a=>by
     grind [FD,oW,ND,bA]) (λj b a=>by
     grind [FD,oW,ND]) (by
     grind [FD]) s.data.toList.length 0 N aa aa
    grind [qDe,CS]
   grind [CS]
  grind [CS]
 grind [CS]
def sp:List UInt8->List (List UInt8)
 |[]=>[[]]
 |c::l=>if c=47 then[]::sp l else match sp l with
  |[]=>[[c]]
  |p::q=>(c::p)::q
theorem HP:∀l:List UInt8,sp l≠[]
 |[]=>by simp[sp]
 |c::l=>by
  grind [sp]
theorem Bn:∀l:List UInt8,(sp l).length=l.count 47+1
 |[]=>rfl
 |c::l=>by
  simp only[sp]
  split
  .rename_i h;subst h;simp[Bn l]
  rename_i h
  have:=Bn l
  grind
def oN(c:UInt8):Bool:=c !=47
theorem Ov:∀l:List UInt8,sp l=if(l.takeWhile oN).length=l.length then[l] else l.takeWhile oN::sp (l.drop ((l.takeWhile oN).length+1))
 |[]=>rfl
 |c::l=>by
  have a:=Ov l
  grind [List.takeWhile_cons_of_neg,sp,oN,List.takeWhile_cons_of_pos]
def yN:Nat->Nat->List UInt8->Option (Nat×Nat)
 |a,b,[]=>some (a,b)
 |a,b,c::l=>if c=47 then(if b=0 then none else yN (a+1) 0 l) else if cY [1,2,3,4] c then(if b+1>24 then none else yN a (b+1) l) else none
def qIl(p:List UInt8):Prop:=1<=p.length/\p.length<=24/\∀c∈p,cY [1,2,3,4] c=true
theorem YF:∀(l:List UInt8) (a b:Nat),b<=24->((∃x y,yN a b l=some (x,y)/\0<y/\x<=8)↔
  ∃p q,sp l=p::q/\1<=b+p.length/\b+p.length<=24/\(∀c∈p,cY [1,2,3,4] c=true)/\(∀r∈q,qIl r)/\a+q.length<=8)
 |[],a,b,n=>by
  constructor
  .rintro⟨x,y,h,e,g⟩
   simp only[yN,jM,Prod.mk.injEq] at h
   exact⟨[],[],rfl,by simp;omega,by simpa using n,by simp,by simp,by simp;omega⟩
  rintro⟨p,q,h,e,g,_,_,f⟩
  simp only[sp,fL] at h
  obtain⟨rfl,rfl⟩:=h
  simp only[kH] at e f
  exact⟨a,b,rfl,by omega,by omega⟩
 |c::l,a,b,n=>by
  by_cases hc:c=47
  .have d:sp (c::l)=[]::sp l:=by simp[sp,hc]
   rw[d]
   simp only[yN,hc,jJ]
   by_cases h0:b=0
   .grind
   rw[jA h0]
   rw[YF l (a+1) 0 aa]
   constructor
   .rintro⟨p,q,h,e,g,f,k,s⟩
    refine⟨[],sp l,rfl,by simp;omega,by simpa using n,by simp,?_,by grind⟩
    intro r o
    rw[h] at o
    rcases jG.1 o with rfl|o
    .exact⟨by omega,by omega,f⟩
    grind
   rintro⟨p,q,h,e,g,f,k,s⟩
   simp only[fL] at h
   obtain⟨rfl,rfl⟩:=h
   obtain⟨p,q,hpq⟩:∃p q,sp l=p::q:=by
    cases he:sp l with
    |nil=>grind [HP]
    |cons p q=>exact⟨p,q,rfl⟩
   rw[hpq] at k s
   obtain⟨o,t,u⟩:=k p (jD ..)
   grind
  obtain⟨p0,q0,hpq⟩:∃p q,sp l=p::q:=by
   cases he:sp l with
   |nil=>grind [HP]
   |cons p q=>exact⟨p,q,rfl⟩
  have d:sp (c::l)=(c::p0)::q0:=by grind [sp]
  rw[d]
  simp only[yN,hc,jE]
  by_cases hk:cY [1,2,3,4] c=true
  .rw[jB hk]
   by_cases h24:b+1>24
   .grind
   rw[jA h24,YF l a (b+1) aa]
   grind
  grind
theorem inK4{N:Nat}(c:UInt8):((CG N (c.toNat:Int)).bind λy1=>if y1 then(some true) else(some ((c.toNat:Int)==46)))=some (cY [1,2,3,4] c):=by
 have h:=AP (p:=λc=>(cY [1,2,3] c||decide (c.toNat=46))==cY [1,2,3,4] c) ag c
 grind [ND,Decidable.decide]
theorem XO{N:Nat}{s:BA}(c:s.data.toList.length<1000000):∀(d i M a b:Nat),i+d=s.data.toList.length->d<M->a<=i+1->b<=24->
  aA (KS N s) M ((a:Int),(b:Int),(i:Int))=some (match yN a b (s.data.toList.drop i) with|some z=> .inl ((z.1:Int),(z.2:Int))|none=> .inr false)
 |d,i,0,_,_,_,h,_,_=>by omega
 |0,i,M+1,a,b,e,f,g,k=>by
  have l:=mN s
  simp only[aA,KS]
  rw[jA (by grind),jZ aa]
  rfl
 |d+1,i,M+1,a,b,e,f,g,k=>by
  have l:=mN s
  have hi:i<s.data.toList.length:=by omega
  simp only[aA,KS]
  rw[jB (by grind),jN hi,oW hi]
  simp only[j0,inK4,gP,yN]
  by_cases hc:s.data.toList[i]=47
  .rw[jB (show((s.data.toList[i]).toNat:Int)=47 by rw[hc];rfl),jB hc]
   by_cases hb:b=0
   .grind
   rw[jA (show ¬(b:Int)=0 by omega),jA hb,bA (x:=(a:Int)+1) aa aa]
   simp only[j0]
   rw[jA ad,bA aa aa]
   have:=XO (N:=N) c d (i+1) M (a+1) 0 aa aa aa aa
   exact this
  have hc':¬((s.data.toList[i]).toNat:Int)=47:=λh=>hc (UInt8.toNat_inj.1 (by grind))
  rw[jA hc',jA hc]
  by_cases hk:cY [1,2,3,4] (s.data.toList[i])=true
  .rw[jB hk,jB hk,bA (x:=(b:Int)+1) aa aa]
   simp only[j0]
   by_cases h24:b+1>24
   .grind
   rw[jA (by grind),jA h24,bA aa aa]
   have:=XO (N:=N) c d (i+1) M a (b+1) aa aa aa aa
   exact this
  grind
def eU(l:List UInt8):Bool:=decide (l.length<=80/\(sp l).length<=8/\∀p∈sp l,1<=p.length/\p.length<=24/\∀c∈p,cY [1,2,3,4] c=true)
theorem Ko(l:List UInt8):eU l=true↔l.length<=80/\∃x y,yN 1 0 l=some (x,y)/\0<y/\x<=8:=by
 rw[YF l 1 0 aa]
 simp only[eU,jR]
 obtain⟨p,q,hpq⟩:∃p q,sp l=p::q:=by
  cases he:sp l with
  |nil=>grind [HP]
  |cons p q=>grind
 constructor
 .rintro⟨c,d,b⟩
  rw[hpq] at d b
  obtain⟨f,g,e⟩:=b p (jD ..)
  exact⟨c,p,q,hpq,by omega,by omega,e,λr a=>b r (jC _ a),by grind⟩
 rintro⟨c,p',q',h,d,b,f,e,g⟩
 refine⟨c,by grind,?_⟩
 intro r a
 rw[h] at a
 rcases jG.1 a with rfl|a
 .grind
 exact e r a
theorem FZ{N:Nat}{s:BA}(a:100<N):uR N s=some (eU s.data.toList):=by
 have b:=mN s
 simp only[uR]
 by_cases h80:s.data.toList.length<=80
 .rw[jA (by grind)]
  have key:=XO (N:=N) (s:=s) aa s.data.toList.length 0 N 1 0 aa aa aa aa
  grind [Ko]
 grind [Ko]
theorem qKz{p:UInt8->Bool}{l:List UInt8}{k:Nat}(c:k<l.length)(a:∀j,∀h:j<l.length,j<k->p l[j]=true)(b:p l[k]=false):tw p l 0=k:=by
 have key:∀d j,j+d=k->tw p l j=k:=by
  intro d
  induction d with
  |zero=>
   grind [NO]
  |succ d e=>intro j h;rw[<-NK aa (a j aa aa)];grind
 simp_all
theorem qLm(x:BA):EB x 47=if(x.data.toList.takeWhile oN).length=x.data.toList.length then-1 else((x.data.toList.takeWhile oN).length:Int):=by
 have d:=mN x
 have b:tw oN x.data.toList 0=(x.data.toList.takeWhile oN).length:=by simp[tw]
 have c:∀j,∀h:j<x.data.toList.length,x[j]! =x.data.toList[j]:=by
  grind [ByteArray.getElem_eq_getElem_data]
 have a:(47:Int).toNat.toUInt8=47:=rfl
 rw[<-b]
 unfold EB
 rw[a,<-d]
 cases hf:(List.range x.data.toList.length).find? (λj=>x[j]! ==47) with
 |none=>
  grind [Qu,List.getElem_of_mem,oN]
 |some k=>
  grind [oN,qKz,List.find?_range_eq_some]
theorem qEt{N:Nat}(x:BA):MD N x (⟨#[47]⟩:BA)=some (EB x 47):=by
 have b:iB (⟨#[47]⟩:BA) 0=some 47:=by kernel_rfl
 simp only[MD,VX,VT,show(⟨#[47]⟩:BA).size=1 from rfl,nY]
 rw[jA ac]
 simp only[j0,jR]
 by_cases h:(⟨#[47]⟩:BA)=x
 .have a:EB (⟨#[47]⟩:BA) 47=0:=by kernel_rfl
  grind
 grind
theorem qJu(x:BA):OM x 47=((x.data.toList.count 47:Nat):Int):=by
 unfold OM
 rw[Go.Lib.foldl_data]
 have key:∀(l:List UInt8) (n:Int),l.foldl (λn x=>if x==(47:Int).toNat.toUInt8 then n+1 else n) n=n+((l.count 47:Nat):Int):=by
  intro l
  induction l with
  |nil=>intro n;simp
  |cons c l a=>
   grind
 rw[key]
 omega
theorem qGh{α:Type}(l:List α)(k:Nat)(a b:α):(l++List.replicate (k+1) a).set l.length b=(l++[b])++List.replicate k a:=by
 grind
theorem Iz{N n:Nat}{s:BA}(o:n<1000000000)(g:n<=s.size+1)(q:s.size<1000000000):∀(r M:Nat) (x:BA) (done:List BA),(sp x.data.toList).length=r->done.length+r=n->r<M->x.size<1000000000->
  ∃y D,aA (RP N s (⟨#[47]⟩:BA) 0 (n:Int)) M (x,(done.length:Int),done++List.replicate r (⟨#[]⟩:BA))=some (y,((n-1:Nat):Int),D++[(⟨#[]⟩:BA)])/\D.length=n-1/\D++[y]=done++(sp x.data.toList).map dP
 |_,0,_,_,_,_,h,_=>by omega
 |0,_,x,_,h,_,_,_=>by grind [HP]
 |r+1,M+1,x,done,b,B,E,F=>by
  have u:=mN x
  have e:(if wI ((s.size:Int)+1)<(n:Int) then wI ((s.size:Int)+1) else(n:Int))=(n:Int):=by
   grind [bA]
  have a:=Ov x.data.toList
  simp only[aA,RP]
  rw[e,bA (x:=(n:Int)-1) aa aa]
  by_cases hlast:(x.data.toList.takeWhile oN).length=x.data.toList.length
  .rw[jB hlast] at a
   rw[a] at b
   simp only[jS,kH] at b
   have c:r=0:=by omega
   subst c
   rw[jA (by grind)]
   refine⟨x,done,?_,by omega,?_⟩
   .grind
   rw[a];simp[dP]
  rw[jA hlast] at a
  rw[a] at b
  simp only[jS] at b
  have p:0<(sp (x.data.toList.drop ((x.data.toList.takeWhile oN).length+1))).length:=fW.2 (HP _)
  have t:(x.data.toList.takeWhile oN).length<=x.data.toList.length:=(List.takeWhile_sublist _).length_le
  have hix:=qLm x
  rw[jA hlast] at hix
  rw[jB (by grind),qEt,hix]
  simp only[j0,show(⟨#[47]⟩:BA).size=1 from rfl]
  have G:(x.data.toList.takeWhile oN)=x.data.toList.take (x.data.toList.takeWhile oN).length:=List.prefix_iff_eq_take.1 (List.takeWhile_prefix _)
  have l:x.extract 0 (x.data.toList.takeWhile oN).length=dP (x.data.toList.takeWhile oN):=by
   apply Go.WideShapes.bytes_inj
   grind [ByteArray.data_extract,Array.toList_extract,dP]
  have d:(x.extract ((x.data.toList.takeWhile oN).length+1) x.data.toList.length).data.toList=x.data.toList.drop ((x.data.toList.takeWhile oN).length+1):=by
   grind [ByteArray.data_extract,Array.toList_extract,List.length_drop]
  generalize hk:(x.data.toList.takeWhile oN).length=k at*
  rw[jA (by grind),bA (x:=(k:Int)+0) aa aa,Int.add_zero]
  have c:qS x 0 (k:Int)=some (x.extract 0 k):=by
   grind [NF]
  rw[c]
  simp only[j0]
  rw[cD ad,bA (x:=(k:Int)+((1:Nat):Int)) aa aa,show((k:Int)+((1:Nat):Int))=((k+1:Nat):Int) by omega,qDh aa]
  simp only[j0,jT]
  rw[qGh,l,bA aa aa]
  have f:=mN (x.extract (k+1) x.data.toList.length)
  rw[d,gD] at f
  obtain⟨y,D,v,z,A⟩:=Iz (N:=N) o g q r M (x.extract (k+1) x.data.toList.length) (done++[dP (x.data.toList.takeWhile oN)]) (by rw[d];omega) ah aa aa
  grind
termination_by r=>r
theorem qFn{N:Nat}{s:BA}(o:s.size<100000000)(k:2*s.size+1000<N):SN N s (⟨#[47]⟩:BA)=some ((sp s.data.toList).map dP):=by
 have p:=mN s
 have c:=Bn s.data.toList
 have l:s.data.toList.count 47<=s.data.toList.length:=List.count_le_length
 have h:iB (⟨#[47]⟩:BA) 0=some 47:=by kernel_rfl
 have a:SO N s (⟨#[47]⟩:BA)=some ((s.data.toList.count 47:Nat):Int):=by
  simp only[SO,show(⟨#[47]⟩:BA).size=1 from rfl]
  grind [qJu]
 simp only[SN,XA,nY,a,j0]
 rw[jA ac,jA ac,jB ac]
 simp only[j0]
 rw[bA (x:=((s.data.toList.count 47:Nat):Int)+1) aa aa,show((s.data.toList.count 47:Nat):Int)+1=(((sp s.data.toList).length:Nat):Int) by omega]
 generalize hn:(sp s.data.toList).length=n at*
 have b:(if wI ((s.size:Int)+1)<(n:Int) then wI ((s.size:Int)+1) else(n:Int))=(n:Int):=by
  grind [bA]
 rw[b]
 have d:wX 16 (⟨#[]⟩:BA) (n:Int)=some (List.replicate n (⟨#[]⟩:BA)):=by
  grind [wX,Go.maxLen]
 rw[d]
 simp only[j0]
 obtain⟨y,D,e,f,g⟩:=Iz (N:=N) (n:=n) (s:=s) aa aa aa n N s [] hn ad aa aa
 grind [cD,Int.toNat_natCast,bA,CL,List.length_map]
theorem qJf{p:UInt8->Bool}{l:List UInt8}:tw p l 0=l.length↔∀c∈l,p c=true:=by
 constructor
 .intro h c d
  have a:(l.takeWhile p).length=l.length:=by grind [tw]
  have b:=(List.takeWhile_prefix p (l:=l)).eq_of_length a
  grind [CW]
 exact Qu
def HO(x:BA):Bool:=decide (1<=x.data.toList.length/\x.data.toList.length<=24/\∀c∈x.data.toList,cY [1,2,3,4] c=true)
theorem qCm(x:BA):HO x=true↔1<=x.data.toList.length/\x.data.toList.length<=24/\∀c∈x.data.toList,cY [1,2,3,4] c=true:=decide_eq_true_iff
theorem qHr{N:Nat}{x:BA}(e:100<N):(if(decide ((x.size:Int)<1))then(some true) else(if(decide ((x.size:Int)>24))then(some true) else((GB N x 0 (some kdL) ([1,2,3,4])).bind λb=>some (b !=(x.size:Int)))))=some (!HO x):=by
 have f:=mN x
 have d:∀h:¬(1<=x.data.toList.length/\x.data.toList.length<=24/\∀c∈x.data.toList,cY [1,2,3,4] c=true),HO x=false:=λh=>kC h
 by_cases h1:1<=x.data.toList.length
 .rw[jA (by grind)]
  by_cases h2:x.data.toList.length<=24
  .rw[jA (by grind)]
   have a:=Ou (N:=N) (s:=x) (ks:=[1,2,3,4]) (i:=0) aa aa ad aa
   rw[show((0:Nat):Int)=0 from rfl] at a
   rw[a]
   simp only[j0]
   refine kA some ?_
   grind [HO,qJf]
  grind
 grind
theorem La{N:Nat}{L:List BA}(f:L.length<1000)(a:100<N):∀(d j M:Nat),j+d=L.length->d<M->aA (MA N L (some kdL)) M (j:Int)=some (if(L.drop j).all HO then .inl () else .inr false)
 |d,j,0,_,h=>by omega
 |0,j,M+1,c,e=>by
  grind [aA,MA]
 |d+1,j,M+1,c,e=>by
  have b:j<L.length:=by omega
  simp only[aA,MA]
  rw[jB (by grind),cD b]
  simp only[j0,qHr a]
  rw[jN b,fF]
  cases hp:HO L[j] with
  |true=>
   rw[jA ad,bA aa aa]
   simp only[j0,gY]
   exact La f a d (j+1) M aa aa
  |false=>simp
theorem qHt{N:Nat}{s:BA}(d:s.size<100000000)(b:2*s.size+1000<N):SX N s=some (eU s.data.toList):=by
 have f:=mN s
 have e:∀h:¬(s.data.toList.length<=80/\(sp s.data.toList).length<=8/\∀p∈sp s.data.toList,1<=p.length/\p.length<=24/\∀c∈p,cY [1,2,3,4] c=true),eU s.data.toList=false:=λh=>kC h
 simp only[SX,qFn d b,j0,gS]
 by_cases h80:s.data.toList.length<=80
 .rw[jA (by grind)]
  by_cases h8:(sp s.data.toList).length<=8
  .have a:decide (((sp s.data.toList).length:Int)>8)=false:=kC aa
   simp only[j0,a,j7,jE,Mq (show 30<N by omega)]
   have key:=La (N:=N) (L:=(sp s.data.toList).map dP) (by grind) aa _ 0 N (gN _) (by grind)
   grind [dP,eU,qCm,List.mem_map_of_mem]
  grind
 grind
def run{α τ β:Type}(step:τ->α->τ⊕β)(fin:τ->β):List α->τ->β
 |[],t=>fin t
 |x::l,t=>match step t x with
  | .inl t'=>run step fin l t'
  | .inr b=>b
theorem Ka{α τ σ β:Type}{L:List α}(enc:τ->Nat->σ){f:σ->Option (σ⊕β)}(step:τ->α->τ⊕β)(fin:τ->β)(I:Nat->τ->Prop)
  (a:∀t i,∀hi:i<L.length,I i t->f (enc t i)=some (match step t L[i] with| .inl t'=> .inl (enc t' (i+1))| .inr b=> .inr b))
  (c:∀t i,∀hi:i<L.length,∀t',I i t->step t L[i]= .inl t'->I (i+1) t')
  (e:∀t,I L.length t->f (enc t L.length)=some (.inr (fin t))):∀(d i M:Nat) (t:τ),i+d=L.length->d<M->I i t->aA f M (enc t i)=some (run step fin (L.drop i) t)
 |_,_,0,_,_,h,_=>absurd h (jO _)
 |d,i,M+1,t,l,n,g=>by
  cases d with
  |zero=>
   grind [aA,run]
  |succ d=>
   have hi:i<L.length:=by omega
   have k:L.drop i=L[i]::L.drop (i+1):=(jY hi).symm
   simp only[aA,a t i hi g,j0]
   rw[k]
   simp only[run]
   cases hs:step t L[i] with
   |inl t'=>
    simp only
    exact Ka enc step fin I a c e d (i+1) M t' aa aa (c t i hi t' g hs)
   |inr b=>rfl
theorem mM{α τ σ β:Type}{L:List α}(enc:τ->Nat->σ){f:σ->Option (σ⊕β)}(step:τ->α->τ⊕β)(fin:τ->β)(I:Nat->τ->Prop)
  (a:∀t i,∀hi:i<L.length,I i t->f (enc t i)=some (match step t L[i] with| .inl t'=> .inl (enc t' (i+1))| .inr b=> .inr b))
  (d:∀t i,∀hi:i<L.length,∀t',I i t->step t L[i]= .inl t'->I (i+1) t')
  (c:∀t,I L.length t->f (enc t L.length)=some (.inr (fin t))) {M:Nat} {t:τ} (g:L.length<M) (e:I 0 t):aA f M (enc t 0)=some (run step fin L t):=by
 have:=Ka enc step fin I a d c L.length 0 M t aa g e
 grind
theorem pG{α τ β:Type}{step:τ->α->τ⊕β}{fin:τ->β}(g:τ->α->τ)(h:∀t x,step t x= .inl (g t x)):∀(l:List α) (t:τ),run step fin l t=fin (l.foldl g t)
 |[],_=>rfl
 |x::l,t=>by simp only[run,h,kI];exact pG g h l _
theorem HA{α β:Type}{step:Unit->α->Unit⊕β}{fin:Unit->β}{b:β}(p:α->Bool)(h:∀x,step () x=if p x then .inr b else .inl ()):∀l:List α,run step fin l ()=if l.any p then b else fin ()
 |[]=>rfl
 |x::l=>by
  have a:=HA (fin:=fin) p h l
  grind [run]
theorem pF{α:Type}{l:List α}{i:Nat}(h:i<l.length):l.drop i=l[i]::l.drop (i+1):=(jY h).symm
theorem YX{α:Type}{l:List α}{i:Nat}(h:i<l.length):l.take (i+1)=l.take i++[l[i]]:=kG h
abbrev bY:=BA×BA
def blt(a b:BA):Bool:=Op.bytesLess a.toList b.toList
theorem qBh{a b:BA}(h:a.toList=b.toList):a=b:=by
 grind [nY]
theorem Gn:∀a:List UInt8,Op.bytesLess a a=false
 |[]=>rfl
 |x::a=>by simp[Op.bytesLess,Gn a]
theorem Hw:∀a b c:List UInt8,Op.bytesLess a b=true->Op.bytesLess b c=true->Op.bytesLess a c=true
 |_,_,[],_,h=>by grind [Go.Op.bytesLess]
 |_,[],_::_,h,_=>by grind [Go.Op.bytesLess]
 |[],_::_,_::_,_,_=>rfl
 |x::a,y::b,z::c,d,e=>by
  simp only[Op.bytesLess,Bool.or_eq_true,jR,jU,gP] at d e ⊢
  rcases d with d|⟨rfl,d⟩<;>rcases e with e|⟨rfl,e⟩
  .grind
  .exact .inl d
  .exact .inl e
  exact .inr ⟨rfl,Hw a b c d e⟩
theorem Hk:∀a b:List UInt8,Op.bytesLess a b=true\/a=b\/Op.bytesLess b a=true
 |[],[]=> .inr (.inl rfl)
 |[],_::_=> .inl rfl
 |_::_,[]=> .inr (.inr rfl)
 |x::a,y::b=>by
  simp only[Op.bytesLess,Bool.or_eq_true,jR,jU,gP,fL]
  rcases Hk a b with h|h|h
  .grind
  .grind
  grind
theorem AA(a:BA):blt a a=false:=Gn _
theorem GK{a b c:BA}(d:blt a b=true)(e:blt b c=true):blt a c=true:=Hw _ _ _ d e
theorem TD(a b:BA):blt a b=true\/a=b\/blt b a=true:=by
 rcases Hk a.toList b.toList with h|h|h
 .exact .inl h
 .grind [qBh]
 exact .inr (.inr h)
theorem Kk{a b:BA}(h:blt a b=true):blt b a=false:=by
 grind [GK,AA]
theorem UV{a b:BA}(h:blt a b=true):a≠b:=by grind [AA]
def Asc(L:List bY):Prop:=L.Pairwise λf g=>blt f.1 g.1=true
def mH:List bY->BA->Option BA
 |[],_=>none
 |f::L,p=>if f.1=p then some f.2 else mH L p
def oR:List bY->BA->BA->List bY
 |[],p,b=>[(p,b)]
 |f::L,p,b=>if blt p f.1 then(p,b)::f::L else if f.1=p then(p,b)::L else f::oR L p b
def yW(L:List bY)(p:BA):List bY:=L.filter λf=>decide (f.1≠p)
theorem SU{L:List bY}{p:BA}(h:∀f∈L,blt p f.1=true):mH L p=none:=by
 induction L with
 |nil=>rfl
 |cons f L a=>
  grind [mH,AA]
theorem TU{L:List bY}{p b:BA}(h:mH L p=some b):(p,b)∈L:=by
 induction L with
 |nil=>grind [mH]
 |cons f L a=>
  grind [mH]
theorem Gp{L:List bY}(b:Asc L){f:bY}(h:f∈L):mH L f.1=some f.2:=by
 induction L with
 |nil=>cases h
 |cons g L c=>
  have a:=jF.1 b
  rcases jG.1 h with rfl|h
  .simp[mH]
  simp only[mH]
  rw[jA (UV (a.1 f h)),c a.2 h]
theorem Asc.ext:∀{L K:List bY},Asc L->Asc K->(∀p,mH L p=mH K p)->L=K
 |[],[],_,_,_=>rfl
 |[],f::K,_,_,h=>by have:=h f.1;simp[mH] at this
 |f::L,[],_,_,h=>by have:=h f.1;simp[mH] at this
 |f::L,g::K,k,d,h=>by
  have hL':=jF.1 k
  have hK':=jF.1 d
  have e:f.1=g.1:=by
   rcases TD f.1 g.1 with a|a|a
   .have c:=h f.1
    rw[SU (L:=g::K) (λx b=>by
     rcases jG.1 b with rfl|b
     .exact a
     exact GK a (hK'.1 x b))] at c
    simp[mH] at c
   .exact a
   have c:=h g.1
   rw[SU (L:=f::L) (λx b=>by
    rcases jG.1 b with rfl|b
    .exact a
    exact GK a (hL'.1 x b))] at c
   simp[mH] at c
  have a:f.2=g.2:=by have:=h f.1;rw[e] at this;simpa[mH,e] using this
  have b:f=g:=Prod.ext e a
  subst b
  congr 1
  refine Asc.ext hL'.2 hK'.2 λp=> ?_
  by_cases hp:f.1=p
  .subst hp
   rw[SU hL'.1,SU hK'.1]
  have:=h p
  simpa[mH,hp] using this
theorem NE{L:List bY}{p b:BA}{f:bY}(h:f∈oR L p b):f=(p,b)\/f∈L:=by
 induction L with
 |nil=>grind [oR]
 |cons g L a=>
  grind [oR]
theorem Asc.put{L:List bY}(h:Asc L)(p b:BA):Asc (oR L p b):=by
 induction L with
 |nil=>exact fC _ _
 |cons g L c=>
  have h':=jF.1 h
  simp only[oR]
  split
  .rename_i h1
   refine jF.2 ⟨λx a=> ?_,h⟩
   grind [GK]
  rename_i h1
  split
  .rename_i h2
   exact jF.2 ⟨λx a=>by grind,h'.2⟩
  rename_i h2
  refine jF.2 ⟨λx a=> ?_,c h'.2⟩
  rcases NE a with rfl|a
  .grind [TD]
  grind
theorem Asc.del{L:List bY}(h:Asc L)(p:BA):Asc (yW L p):=List.Pairwise.filter _ h
theorem SV(L:List bY)(p b:BA):(oR L p b).length<=L.length+1:=by
 induction L with
 |nil=>simp[oR]
 |cons g L a=>
  grind [oR]
def Qf(f:bY):Prop:=eU f.1.data.toList=true/\f.2.size<=16384
def WF(L:List bY):Prop:=L.length<=64/\Asc L/\∀f∈L,Qf f
theorem WF.put{L:List bY}(h:WF L){p b:BA}(e:eU p.data.toList=true)(c:b.size<=16384)(d:(oR L p b).length<=64):WF (oR L p b):=
 ⟨d,h.2.1.put p b,λf a=>by
  rcases NE a with rfl|a
  .exact⟨e,c⟩
  exact h.2.2 f a⟩
theorem WF.del{L:List bY}(h:WF L)(p:BA):WF (yW L p):=
 ⟨kM (List.length_filter_le _ _) h.1,h.2.1.del p,λf a=>h.2.2 f ((gL.1 a).1)⟩
def DE(q:Option BA)(p:BA):Bool:=match q with
 |some x=>blt p x
 |none=>false
def AS:Option BA->List bY->Int
 |_,[]=>0
 |q,f::L=>
  if eU f.1.data.toList=false then 6
  else if q=some f.1 then 10
  else if DE q f.1 then 6
  else if 16384<f.2.size then 2
  else AS (some f.1) L
def fP(L:List bY):Int:=if 64<L.length then 2 else AS none L
theorem Kl:∀{L:List bY} {q:Option BA},AS q L=0↔Asc L/\(∀f∈L,Qf f)/\∀x,q=some x->∀f∈L,blt x f.1=true
 |[],q=>by simp[AS,Asc]
 |f::L,q=>by
  have n:=Kl (L:=L) (q:=some f.1)
  simp only[AS]
  by_cases b:eU f.1.data.toList=false
  .rw[jB b]
   refine⟨λh=>by omega,λh=> ?_⟩
   have:=(h.2.1 f (jD ..)).1;grind
  rw[jA b]
  have b:eU f.1.data.toList=true:=by simpa using b
  by_cases h2:q=some f.1
  .grind [List.mem_cons_self,AA]
  rw[jA h2]
  by_cases d:DE q f.1=true
  .rw[jB d]
   refine⟨λh=>by omega,λh=> ?_⟩
   cases q with
   |none=>cases d
   |some x=>grind [DE,Kk]
  rw[jA d]
  by_cases h4:16384<f.2.size
  .rw[jB h4]
   refine⟨λh=>by omega,λh=> ?_⟩
   have:=(h.2.1 f (jD ..)).2;omega
  rw[jA h4,n]
  have o:∀x,q=some x->blt x f.1=true:=λx e=>by
   subst e
   rcases TD x f.1 with g|g|g
   .exact g
   .grind
   exact absurd g d
  constructor
  .rintro⟨a,k,l⟩
   refine⟨jF.2 ⟨l f.1 rfl,a⟩,λg c=> ?_,λx e g c=> ?_⟩
   .rcases jG.1 c with rfl|c
    .exact⟨b,by omega⟩
    grind
   grind [GK]
  rintro⟨a,k,l⟩
  have a:=jF.1 a
  exact⟨a.2,λg c=>k g (jC _ c),λx e=>by grind⟩
theorem wH{L:List bY}:fP L=0↔WF L:=by
 grind [fP,WF,Kl]
def Cp(c:Int):Unit⊕Int:=if c=0 then .inl () else .inr c
def vR(L:List bY)(i:Nat):Option BA:=if i=0 then none else(L[i-1]?).map (·.1)
theorem Hr{L:List bY}{f:Int->Option (Int⊕(Unit⊕Int))}
  (step:∀i:Nat,∀h:i<L.length,f (i:Int)=if eU L[i].1.data.toList=false then some (.inr (.inr 6)) else if vR L i=some L[i].1 then some (.inr (.inr 10)) else if DE (vR L i) L[i].1 then some (.inr (.inr 6)) else if 16384<L[i].2.size then some (.inr (.inr 2)) else some (.inl ((i:Int)+1)))
  (stop:f (L.length:Int)=some (.inr (.inl ()))):∀(d i M:Nat),i+d=L.length->d<M->aA f M (i:Int)=some (Cp (AS (vR L i) (L.drop i)))
 |_,_,0,_,h=>by omega
 |0,i,M+1,a,_=>by
  grind [aA,AS,Cp]
 |d+1,i,M+1,a,e=>by
  have hi:i<L.length:=by omega
  have g:=Hr step stop d (i+1) M aa aa
  have b:(i:Int)+1=((i+1:Nat):Int):=by omega
  have c:vR L (i+1)=some L[i].1:=by simp[vR,hi]
  simp only[aA,step i hi]
  rw[jN hi]
  simp only[AS]
  by_cases h1:eU L[i].1.data.toList=false
  .rw[jB h1,jB h1];rfl
  rw[jA h1,jA h1]
  by_cases h2:vR L i=some L[i].1
  .rw[jB h2,jB h2];rfl
  rw[jA h2,jA h2]
  by_cases h3:DE (vR L i) L[i].1=true
  .rw[jB h3,jB h3];rfl
  rw[jA h3,jA h3]
  by_cases h4:16384<L[i].2.size
  .rw[jB h4,jB h4];rfl
  grind
theorem sO(x y:BA):(x.toList==y.toList)=decide (x=y):=nY x y
theorem qFx{N:Nat}{L:List bY}{P:BA->Option Bool}{f:Int->Option (Int⊕(Unit⊕Int))}(d:∀g∈L,P g.1=some (eU g.1.data.toList))
  (k:∀s1,f s1=if(decide (s1<(List.length L:Int)))then((aO L s1).bind λa=>(P a.1).bind λy1=>if(!y1)then(some (.inr (.inr (6)))) else((if(decide (s1>0))then((aO L (wI (s1-1))).bind λn=>some (a.1.toList==n.1.toList)) else(some false):Option (Bool)).bind λo2=>if o2 then(some (.inr (.inr (10)))) else((if(decide (s1>0))then((aO L (wI (s1-1))).bind λo=>some (Op.bytesLess a.1.toList o.1.toList)) else(some false):Option (Bool)).bind λl=>if l then(some (.inr (.inr (6)))) else(if(decide ((ByteArray.size a.2:Int)>16384))then(some (.inr (.inr (2)))) else(some (.inl (wI (s1+1)))))))) else(some (.inr (.inl ()))))
  (p:100<N):(if(decide ((List.length L:Int)>64))then(some 2) else((aA f N 0).bind λb=>(match b with| .inl _=>some 0| .inr z=>some z)):Option Int)=some (fP L):=by
 unfold fP
 by_cases h:64<L.length
 .grind
 rw[jA h,jA (by simp only[jR];omega)]
 have key:=Hr (L:=L) (f:=f) (λi hi=>by
  rw[k,jB (by grind),cD hi]
  simp only[j0,d _ (jI hi)]
  by_cases h1:eU L[i].1.data.toList=false
  .grind
  have h1':eU L[i].1.data.toList=true:=by simpa using h1
  rw[jA (by rw[h1'];simp),jA h1]
  by_cases h0:0<i
  .have c:i-1<L.length:=by omega
   have ew:wI ((i:Int)-1)=((i-1:Nat):Int):=by grind [bA]
   have eq:vR L i=some (L[i-1]).1:=by grind [vR]
   rw[ew,cD c,eq]
   have ed:decide ((i:Int)>0)=true:=by grind
   simp only[j0,sO,ed,jJ,jR,jM]
   by_cases h2:L[i].1=(L[i-1]).1
   .grind
   rw[jA h2,jA (show ¬(L[i-1]).1=L[i].1 from λe=>h2 e.symm)]
   have el:DE (some (L[i-1]).1) L[i].1=Op.bytesLess L[i].1.toList (L[i-1]).1.toList:=rfl
   grind [bA]
  grind [vR,DE,bA]) (by grind) L.length 0 N aa aa
 grind [vR,Cp]
theorem wE{N:Nat}{L:List bY}(a:100<N):tM N L=some (fP L):=
 qFx (f:=WI N L) (P:=uR N) (λ_ _=>FZ a) (λ_=>rfl) a
end
section
open Go Go.Dc Go.Proofs
def iQ:BA:=⟨#[]⟩
def Ro(o:Option BA):BA×Bool:=match o with
 |some b=>(b,true)
 |none=>(iQ,false)
def qO(L:List bY)(p:BA):BA×Bool:=if fP L=0 then Ro (mH L p) else(iQ,false)
theorem Fz{N:Nat}{L:List bY}{p:BA}(e:L.length<1000000):∀(d i M:Nat),i+d=L.length->d<M->aA (KU N L p) M (i:Int)=some (match mH (L.drop i) p with|some b=> .inr (b,true)|none=> .inl ())
 |_,_,0,_,h=>by omega
 |0,i,M+1,c,_=>by
  simp only[aA,KU]
  rw[jA (by grind),jZ aa]
  rfl
 |d+1,i,M+1,c,f=>by
  have hi:i<L.length:=by omega
  simp only[aA,KU]
  rw[jB (by grind),cD hi,jN hi]
  simp only[j0,sO,jR,mH]
  by_cases he:(L[i]).1=p
  .grind
  rw[jA he,jA he,bA aa aa]
  have a:(i:Int)+1=((i+1:Nat):Int):=by omega
  simp only[j0]
  rw[a,Fz e d (i+1) M aa aa]
theorem GJ{N:Nat}{L:List bY}(p:BA)(a:100<N):rI N L p=some (qO L p):=by
 simp only[rI,wE a,j0]
 unfold qO
 by_cases hc:fP L=0
 .rw[jA (by simp[hc]),jB hc]
  have b:=(wH.1 hc).1
  have:=Fz (N:=N) (L:=L) (p:=p) aa L.length 0 N aa aa
  rw[show((0:Nat):Int)=0 from rfl,kP] at this
  rw[this]
  cases mH L p<;>rfl
 rw[jB (by simpa using hc),jA hc];rfl
def uU(s:BA):Bool:=eU s.data.toList&&decide (4<s.size)&&decide (s.extract (s.size-4) s.size=(⟨#[46,115,114,99]⟩:BA))
theorem Xu{N:Nat}{s:BA}(a:100<N):QU N s=some (uU s):=by
 grind [QU,FZ,uU,eU,mN,bA,TM,Int.toNat_natCast,sO]
section
variable {κ ν:Type} [DecidableEq κ]
theorem Hs:∀(l:List (κ×ν)) (k:κ) (v:ν) (c:κ),dX (pK l k v) c=if c=k then some v else dX l c
 |[],k,v,c=>by simp[pK,dX]
 |p::l,k,v,c=>by
  simp only[pK]
  by_cases h:k=p.1
  .grind [dX]
  rw[jA h]
  simp only[dX]
  rw[Hs l k v c]
  grind
theorem qAu[KOrd κ]{l:List (κ×ν)}(a:(l.map (·.1)).Nodup)(k:κ)(v:ν)(c:κ):dX (mset l k v) c=if c=k then some v else dX l c:=by
 rw[<-YK (GN (.refl l) a k v) (FV a k v) c,Hs]
theorem Zc[KOrd κ]{l:List (κ×ν)}(a:(l.map (·.1)).Nodup)(k:κ)(v:ν):((mset l k v).map (·.1)).Nodup:=
 ((GN (.refl l) a k v).map _).nodup_iff.1 (FV a k v)
end
end
section
open Go Go.Dc
instance decMemB(s:BA)(l:List BA):Decidable (s∈l):=@List.instDecidableMemOfLawfulBEq BA instBEqOfDecidableEq inferInstance s l
abbrev Ex:=Int×Int×Int×BA×List Int
abbrev Dl:=Int×BA×List BA×List Ex
abbrev Sr:=BA×List BA×List Dl
abbrev cU:=Int×Int
abbrev Ps:=Nat×List Ex
abbrev PM(α:Type):=cU⊕(Ps×α)
def aV(ts:List cO)(i:Nat):cO:=ts.getD i (5,⟨#[]⟩,0,0)
def eR{α:Type}(t:cO)(e:Int):cU⊕α:= .inl (t.2.2.2,e)
def bZ{α β:Type}(x:cU⊕α)(f:α->cU⊕β):cU⊕β:=
 match x with
 | .inl z=> .inl z
 | .inr a=>f a
def dK(ts:List cO)(k:Int)(s:BA)(i:Nat):Bool:=(aV ts i).1==k&&decide ((aV ts i).2.1=s)
def eN(ts:List cO)(s:BA)(i:Nat):cU⊕Nat:=if dK ts 4 s i then .inr (i+1) else eR (aV ts i) 9
def yQ(ts:List cO)(s:BA)(i:Nat):cU⊕Nat:=if dK ts 1 s i then .inr (i+1) else eR (aV ts i) 9
def oG(ts:List cO)(k:Int)(i:Nat):cU⊕(Nat×cO):=if(aV ts i).1=k then .inr (i+1,aV ts i) else eR (aV ts i) 9
def ZY:BA:=⟨#[112,97,99,107,97,103,101]⟩
def NQ:BA:=⟨#[105,109,112,111,114,116]⟩
def Cg:BA:=⟨#[102,117,110,99]⟩
def Bw:BA:=⟨#[116,101,115,116]⟩
def Cv:BA:=⟨#[103,101,110]⟩
def sIf:BA:=⟨#[105,102]⟩
def Bt:BA:=⟨#[116,104,101,110]⟩
def Bv:BA:=⟨#[101,108,115,101]⟩
def wW:BA:=⟨#[114,101,97,100]⟩
def wU:BA:=⟨#[115,105,122,101]⟩
def xA:BA:=⟨#[104,97,115]⟩
def xC:BA:=⟨#[101,110,118]⟩
def yR:BA:=⟨#[102,108,105,112]⟩
def qX:BA:=⟨#[40]⟩
def nF:BA:=⟨#[41]⟩
def sX:BA:=⟨#[44]⟩
def vC:BA:=⟨#[59]⟩
def DV:BA:=⟨#[61]⟩
def Qv:BA:=⟨#[45]⟩
def wordsR:List BA:=[ZY,NQ,Cg,Bw,Cv,sIf,Bt,Bv,wW,wU,xA,xC,yR]
def yZ(s:BA):Bool:=decide (s∈wordsR)
def oM(ts:List cO)(i:Nat):cU⊕(Nat×cO):=bZ (oG ts 1 i) λp=>if yZ p.2.2.1 then eR p.2 9 else .inr p
def qL(ts:List cO)(i:Nat):cU⊕(Nat×cO):=bZ (oG ts 3 i) λp=>if eU p.2.2.1.data.toList then .inr p else eR p.2 9
def yI(ts:List cO)(i:Nat):cU⊕(Nat×cO):=bZ (oG ts 3 i) λp=>if lC p.2.2.1 then .inr p else eR p.2 9
def nO(t:cO)(x:Ex)(p:Ps):PM Nat:=if p.2.length=256 then eR t 2 else .inr ((p.1,p.2++[x]),p.2.length)
def opsC:List (Int×BA):=[(1,⟨#[43]⟩),(2,⟨#[45]⟩),(3,⟨#[42]⟩),(4,⟨#[47]⟩),(5,⟨#[37]⟩),(6,⟨#[60]⟩),(7,⟨#[61,61]⟩)]
def VN(op:Int):Nat:=if op=6\/op=7 then 1 else if op=1\/op=2 then 2 else 3
def HZ(ts:List cO)(level:Nat)(i:Nat)(o:Int×BA):Bool:=dK ts 4 o.2 i&&decide (VN o.1=level)
def nS(ts:List cO)(level:Nat)(i:Nat):Int:=
 match opsC.find? (HZ ts level i) with
 |some o=>o.1
 |none=>0
variable (ts:List cO) (params:List BA) (E:Ps->PM Nat)
def wT:Nat->List Int->Ps->PM (List Int)
 |0,_,p=>eR (aV ts p.1) 9
 |n+1,l,p=>bZ (E p) λq=>
  if dK ts 4 sX q.1.1 then wT n (l++[(q.2:Int)]) (q.1.1+1,q.1.2)
  else bZ (eN ts nF q.1.1) λi=> .inr ((i,q.1.2),l++[(q.2:Int)])
def GE(p:Ps):PM (List Int):=
 bZ (eN ts qX p.1) λi=>if dK ts 4 nF i then .inr ((i+1,p.2),[]) else wT ts E (ts.length+1) [] (i,p.2)
def wK(t:cO)(p:Ps):PM Nat:=
 bZ (eN ts qX p.1) λi=>
 bZ (if t.2.1=wW then
   bZ (qL ts i) λa=>bZ (eN ts sX a.1) λi=>bZ (E (i,p.2)) λq=> .inr (q.1,((6,0,0,a.2.2.1,[(q.2:Int)]):Ex))
  else if t.2.1=wU then bZ (qL ts i) λa=> .inr ((a.1,p.2),((7,0,0,a.2.2.1,[]):Ex))
  else if t.2.1=xA then bZ (qL ts i) λa=> .inr ((a.1,p.2),((8,0,0,a.2.2.1,[]):Ex))
  else if t.2.1=xC then bZ (yI ts i) λa=> .inr ((a.1,p.2),((9,0,0,a.2.2.1,[]):Ex))
  else bZ (oG ts 2 i) λa=>if a.2.2.2.1>=64 then eR a.2 9 else .inr ((a.1,p.2),((10,a.2.2.2.1,0,⟨#[]⟩,[]):Ex))) λq=>
 bZ (eN ts nF q.1.1) λi=>nO t q.2 (i,q.1.2)
def sU(p:Ps):PM Nat:=
 let t:=aV ts p.1
 if t.1=2 then nO t (1,t.2.2.1,0,⟨#[]⟩,[]) (p.1+1,p.2)
 else if dK ts 4 Qv p.1 then bZ (oG ts 2 (p.1+1)) λa=>nO t (1,wI (0-a.2.2.2.1),0,⟨#[]⟩,[]) (a.1,p.2)
 else if dK ts 4 qX p.1 then bZ (E (p.1+1,p.2)) λq=>bZ (eN ts nF q.1.1) λi=> .inr ((i,q.1.2),q.2)
 else if t.1≠1 then eR t 9
 else if t.2.1∈[wW,wU,xA,xC,yR] then wK ts E t (p.1+1,p.2)
 else if yZ t.2.1 then eR t 9
 else if dK ts 4 qX (p.1+1) then bZ (GE ts E (p.1+1,p.2)) λq=>nO t (3,0,0,t.2.1,q.2) q.1
 else match params.findIdx? (λx=>decide (x=t.2.1)) with
  |some i=>nO t (2,(i:Int),0,⟨#[]⟩,[]) (p.1+1,p.2)
  |none=>eR t 9
def pL(level:Nat)(S:Ps->PM Nat):Nat->Nat->Ps->PM Nat
 |0,_,p=>eR (aV ts p.1) 9
 |n+1,x,p=>
  if nS ts level p.1=0 then .inr (p,x)
  else bZ (S (p.1+1,p.2)) λq=>bZ (nO (aV ts p.1) (4,0,nS ts level p.1,⟨#[]⟩,[(x:Int),(q.2:Int)]) q.1) λr=>
   if level=1 then .inr r else pL level S n r.2 r.1
def sD(level:Nat)(S:Ps->PM Nat)(p:Ps):PM Nat:=bZ (S p) λq=>pL ts level S (ts.length+1) q.2 q.1
def UZ:Ps->PM Nat:=sD ts 3 (sU ts params E)
def zB:Ps->PM Nat:=sD ts 2 (UZ ts params E)
def ZX:Ps->PM Nat:=sD ts 1 (zB ts params E)
def iM(ts:List cO)(params:List BA):Nat->Ps->PM Nat
 |0,p=>eR (aV ts p.1) 2
 |k+1,p=>
  if dK ts 1 sIf p.1 then
   bZ (iM ts params k (p.1+1,p.2)) λa=>bZ (yQ ts Bt a.1.1) λi=>
   bZ (iM ts params k (i,a.1.2)) λb=>bZ (yQ ts Bv b.1.1) λj=>
   bZ (iM ts params k (j,b.1.2)) λc=>nO (aV ts p.1) (5,0,0,⟨#[]⟩,[(a.2:Int),(b.2:Int),(c.2:Int)]) c.1
  else ZX ts params (iM ts params k) p
def wN(ts:List cO):Nat->List BA->Nat->cU⊕(Nat×List BA)
 |0,_,i=>eR (aV ts i) 9
 |n+1,l,i=>bZ (oM ts i) λa=>
  if l.length=8 then eR a.2 2
  else if a.2.2.1∈l then eR a.2 10
  else if dK ts 4 sX a.1 then wN ts n (l++[a.2.2.1]) (a.1+1)
  else bZ (eN ts nF a.1) λj=> .inr (j,l++[a.2.2.1])
def zZ(ts:List cO)(i:Nat):cU⊕(Nat×List BA):=
 bZ (eN ts qX i) λj=>if dK ts 4 nF j then .inr (j+1,[]) else wN ts (ts.length+1) [] j
def DD(s:BA):Int:=if s=Cg then 1 else if s=Bw then 2 else if s=Cv then 3 else 0
def pI(ts:List cO)(before:List Dl)(i:Nat):cU⊕(Nat×Dl):=
 let t:=aV ts i
 let k:=DD t.2.1
 if t.1≠1\/k=0 then eR t 9
 else if before.length=64 then eR t 2
 else bZ (if k=3 then qL ts (i+1) else oM ts (i+1)) λa=>
  if before.any (λd=>d.1==k&&decide (d.2.1=a.2.2.1)) then eR a.2 10
  else bZ (if k=1 then zZ ts a.1 else .inr (a.1,[])) λb=>
   bZ (eN ts DV b.1) λj=>bZ (iM ts b.2 32 (j,[])) λc=>
   bZ (eN ts vC c.1.1) λm=> .inr (m,(k,a.2.2.1,b.2,c.1.2))
def rK(ts:List cO)(pkg:BA):Nat->List BA->Nat->cU⊕(Nat×List BA)
 |0,_,i=>eR (aV ts i) 9
 |n+1,l,i=>
  if dK ts 1 NQ i then
   if l.length=8 then eR (aV ts i) 2
   else bZ (oM ts (i+1)) λa=>
    if a.2.2.1=pkg\/a.2.2.1∈l then eR a.2 10
    else bZ (eN ts vC a.1) λj=>rK ts pkg n (l++[a.2.2.1]) j
  else .inr (i,l)
def sZ(ts:List cO):Nat->List Dl->Nat->cU⊕List Dl
 |0,_,i=>eR (aV ts i) 9
 |n+1,l,i=>if(aV ts i).1=5 then .inr l else bZ (pI ts l i) λa=>sZ ts n (l++[a.2]) a.1
def uZ(ts:List cO):cU⊕Sr:=
 bZ (yQ ts ZY 0) λi=>bZ (oM ts i) λa=>bZ (eN ts vC a.1) λj=>
 bZ (rK ts a.2.2.1 (ts.length+1) [] j) λb=>bZ (sZ ts (ts.length+1) [] b.1) λl=> .inr (a.2.2.1,b.2,l)
def rQ:Sr:=(⟨#[]⟩,[],[])
def lN(s:BA):Sr×Int×Int:=
 if(lP s).2.2≠0 then(rQ,(lP s).2.1,(lP s).2.2)
 else match uZ (lP s).1 with
  | .inl z=>(rQ,z.1,z.2)
  | .inr f=>(f,0,0)
def OkT(ts:List cO):Prop:=ts≠[]/\∀i,i<ts.length->((aV ts i).1=5↔i+1=ts.length)
theorem dF{α β:Type}{x:cU⊕α}{f:α->cU⊕β}{b:β}(h:bZ x f= .inr b):∃a,x= .inr a/\f a= .inr b:=by
 cases x with
 |inl z=>cases h
 |inr a=>exact⟨a,rfl,h⟩
end
section
open Go Go.Dc
variable {ts:List cO} {params:List BA} {E S:Ps->PM Nat}
theorem OkT.next(h:OkT ts){i:Nat}(hi:i<ts.length)(a:(aV ts i).1≠5):i+1<ts.length:=by
 have b:¬i+1=ts.length:=λe=>a ((h.2 i hi).2 e)
 omega
theorem Ae{k:Int}{s:BA}{i:Nat}(h:dK ts k s i=true):(aV ts i).1=k:=by
 grind [dK]
theorem oE(h:OkT ts){k:Int}{s:BA}{i:Nat}(hi:i<ts.length)(b:k≠5)(a:dK ts k s i=true):i+1<ts.length:=h.next hi (by grind [Ae])
theorem nZ(h:OkT ts){s:BA}{i j:Nat}(hi:i<ts.length)(a:eN ts s i= .inr j):j=i+1/\j<ts.length/\dK ts 4 s i=true:=by
 unfold eN at a
 split at a
 .rename_i h2
  obtain rfl:=Sum.inr.inj a
  exact⟨rfl,oE h hi ac h2,h2⟩
 cases a
theorem TR(h:OkT ts){s:BA}{i j:Nat}(hi:i<ts.length)(a:yQ ts s i= .inr j):j=i+1/\j<ts.length/\dK ts 1 s i=true:=by
 unfold yQ at a
 split at a
 .rename_i h2
  obtain rfl:=Sum.inr.inj a
  exact⟨rfl,oE h hi ac h2,h2⟩
 cases a
theorem CR(h:OkT ts){k:Int}(c:k≠5){i:Nat}{a:Nat×cO}(hi:i<ts.length)(b:oG ts k i= .inr a):a=(i+1,aV ts i)/\i+1<ts.length/\(aV ts i).1=k:=by
 unfold oG at b
 split at b
 .rename_i h2
  obtain rfl:=Sum.inr.inj b
  exact⟨rfl,h.next hi (by grind),h2⟩
 cases b
theorem wL(h:OkT ts){i:Nat}{a:Nat×cO}(hi:i<ts.length)(d:oM ts i= .inr a):a=(i+1,aV ts i)/\i+1<ts.length/\(aV ts i).1=1/\yZ (aV ts i).2.1=false:=by
 obtain⟨b,e,c⟩:=dF d
 obtain⟨rfl,f,g⟩:=CR h ac hi e
 split at c
 .cases c
 grind
theorem AI(h:OkT ts){i:Nat}{a:Nat×cO}(hi:i<ts.length)(d:qL ts i= .inr a):a=(i+1,aV ts i)/\i+1<ts.length/\(aV ts i).1=3/\eU (aV ts i).2.1.data.toList=true:=by
 obtain⟨b,e,c⟩:=dF d
 obtain⟨rfl,f,g⟩:=CR h ac hi e
 split at c
 .grind
 cases c
theorem Ju(h:OkT ts){i:Nat}{a:Nat×cO}(hi:i<ts.length)(d:yI ts i= .inr a):a=(i+1,aV ts i)/\i+1<ts.length/\(aV ts i).1=3/\lC (aV ts i).2.1=true:=by
 obtain⟨b,e,c⟩:=dF d
 obtain⟨rfl,f,g⟩:=CR h ac hi e
 split at c
 .grind
 cases c
theorem Ns{t:cO}{x:Ex}{p q:Ps}{i:Nat}(h:nO t x p= .inr (q,i)):q=(p.1,p.2++[x])/\i=p.2.length/\p.2.length≠256:=by
 unfold nO at h
 split at h
 .cases h
 grind
def JD(ts:List cO)(p q:Ps):Prop:=p.1<q.1/\q.1<ts.length/\p.2.length<=q.2.length/\q.2.length<=256
def oH(ts:List cO)(S:Ps->PM Nat):Prop:=∀(p q:Ps) (x:Nat),p.1<ts.length->p.2.length<=256->S p= .inr (q,x)->JD ts p q/\x<q.2.length
theorem AJ{t:cO}{x:Ex}{p r q:Ps}{i:Nat}(b:p.1<r.1)(c:r.1<ts.length)(d:p.2.length<=r.2.length)(a:r.2.length<=256)(h:nO t x r= .inr (q,i)):JD ts p q/\i<q.2.length:=by
 obtain⟨rfl,rfl,g⟩:=Ns h
 refine⟨⟨b,c,?_,?_⟩,?_⟩<;>simp only[jP,jS,kH]<;>omega
theorem YQ(h:OkT ts)(f:oH ts E):∀(n:Nat) (l:List Int) (p q:Ps) (x:List Int),p.1<ts.length->p.2.length<=256->wT ts E n l p= .inr (q,x)->JD ts p q
 |0,_,_,_,_,_,_,b=>by cases b
 |n+1,l,p,q,x,v,t,b=>by
  obtain⟨a,s,c⟩:=dF (show bZ (E p) _=_ from b)
  obtain⟨⟨A,d,k,e⟩,B⟩:=f p a.1 a.2 v t s
  split at c
  .rename_i hc
   have g:=oE h d ac hc
   obtain⟨D,y,F,z⟩:=YQ h f n _ (a.1.1+1,a.1.2) q x g e c
   exact⟨by grind,y,by grind,z⟩
  obtain⟨j,u,r⟩:=dF c
  obtain⟨rfl,o,-⟩:=nZ h d u
  obtain⟨rfl,-⟩:=Prod.mk.inj (Sum.inr.inj r)
  exact⟨by simp only;omega,o,k,e⟩
theorem Xs(h:OkT ts)(e:oH ts E){p q:Ps}{x:List Int}(f:p.1<ts.length)(c:p.2.length<=256)(d:GE ts E p= .inr (q,x)):JD ts p q:=by
 obtain⟨i,hi,a⟩:=dF d
 obtain⟨rfl,b,-⟩:=nZ h f hi
 split at a
 .rename_i hc
  obtain⟨rfl,-⟩:=Prod.mk.inj (Sum.inr.inj a)
  exact⟨by simp only;omega,oE h b ac hc,jH _,c⟩
 obtain⟨n,g,k,l⟩:=YQ h e _ _ (p.1+1,p.2) q x b c a
 exact⟨by grind,g,k,l⟩
theorem Yk(h:OkT ts)(K:oH ts E){t:cO}{p q:Ps}{x:Nat}(R:p.1<ts.length)(n:p.2.length<=256)(D:wK ts E t p= .inr (q,x)):JD ts p q/\x<q.2.length:=by
 obtain⟨i,hi,F⟩:=dF D
 obtain⟨rfl,l,-⟩:=nZ h R hi
 obtain⟨a,g,G⟩:=dF F
 obtain⟨j,M,H⟩:=dF G
 have key:JD ts (p.1+1,p.2) a.1:=by
  split at g
  .obtain⟨b,f,e⟩:=dF g
   obtain⟨rfl,k,-⟩:=AI h l f
   obtain⟨c,v,y⟩:=dF e
   obtain⟨rfl,S,-⟩:=nZ h k v
   obtain⟨d,z,A⟩:=dF y
   obtain⟨⟨B,o,s,u⟩,-⟩:=K (p.1+1+1+1,p.2) d.1 d.2 S n z
   obtain rfl:=Sum.inr.inj A
   exact⟨by grind,o,s,u⟩
  split at g
  .obtain⟨b,f,e⟩:=dF g
   obtain⟨rfl,k,-⟩:=AI h l f
   obtain rfl:=Sum.inr.inj e
   exact⟨by simp only;omega,k,jH _,n⟩
  split at g
  .obtain⟨b,f,e⟩:=dF g
   obtain⟨rfl,k,-⟩:=AI h l f
   obtain rfl:=Sum.inr.inj e
   exact⟨by simp only;omega,k,jH _,n⟩
  split at g
  .obtain⟨b,f,e⟩:=dF g
   obtain⟨rfl,k,-⟩:=Ju h l f
   obtain rfl:=Sum.inr.inj e
   exact⟨by simp only;omega,k,jH _,n⟩
  obtain⟨b,f,e⟩:=dF g
  obtain⟨rfl,k,-⟩:=CR h ac l f
  split at e
  .cases e
  obtain rfl:=Sum.inr.inj e
  exact⟨by simp only;omega,k,jH _,n⟩
 obtain⟨B,o,s,u⟩:=key
 obtain⟨rfl,e,-⟩:=nZ h o M
 exact AJ (r:=(a.1.1+1,a.1.2)) (by grind) e s u H
theorem Gm(h:OkT ts)(t:oH ts E):oH ts (sU ts params E):=by
 intro p q x n c b
 unfold sU at b
 dsimp only at b
 split at b
 .rename_i hk
  exact AJ (r:=(p.1+1,p.2)) ai (h.next n (by rw[hk];decide)) (jH _) c b
 split at b
 .rename_i hc
  have g:=oE h n ac hc
  obtain⟨a,l,k⟩:=dF b
  obtain⟨rfl,s,-⟩:=CR h ac g l
  exact AJ (r:=(p.1+1+1,p.2)) ai s (jH _) c k
 split at b
 .rename_i hc
  have g:=oE h n ac hc
  obtain⟨a,l,k⟩:=dF b
  obtain⟨⟨u,d,e,f⟩,o⟩:=t (p.1+1,p.2) a.1 a.2 g c l
  obtain⟨j,y,v⟩:=dF k
  obtain⟨rfl,s,-⟩:=nZ h d y
  obtain⟨rfl,rfl⟩:=Prod.mk.inj (Sum.inr.inj v)
  exact⟨⟨by grind,s,e,f⟩,o⟩
 split at b
 .cases b
 rename_i hk
 have g:=h.next n (show(aV ts p.1).1≠5 by grind)
 split at b
 .obtain⟨⟨u,d,e,f⟩,o⟩:=Yk h t (p:=(p.1+1,p.2)) g c b
  exact⟨⟨by grind,d,e,f⟩,o⟩
 split at b
 .cases b
 split at b
 .obtain⟨a,l,k⟩:=dF b
  obtain⟨u,d,e,f⟩:=Xs h t (p:=(p.1+1,p.2)) g c l
  exact AJ (by grind) d e f k
 split at b
 .exact AJ (r:=(p.1+1,p.2)) ai g (jH _) c b
 cases b
theorem Jw(h:OkT ts){level:Nat}(d:oH ts S):∀(n x:Nat) (p q:Ps) (y:Nat),p.1<ts.length->p.2.length<=256->x<p.2.length->pL ts level S n x p= .inr (q,y)->p.1<=q.1/\q.1<ts.length/\p.2.length<=q.2.length/\q.2.length<=256/\y<q.2.length
 |0,_,_,_,_,_,_,_,b=>by cases b
 |n+1,x,p,q,y,u,s,F,b=>by
  unfold pL at b
  split at b
  .grind
  rename_i hop
  have t:(aV ts p.1).1≠5:=by
   grind [nS,HZ,Ae]
  have g:=h.next u t
  obtain⟨a,o,l⟩:=dF b
  obtain⟨⟨D,e,f,k⟩,E⟩:=d (p.1+1,p.2) a.1 a.2 g s o
  obtain⟨r,v,c⟩:=dF l
  obtain⟨⟨U,z,V,A⟩,B⟩:=AJ (ts:=ts) (p:=p) (by grind) e f k v
  split at c
  .grind
  obtain⟨G,H,K,M,R⟩:=Jw h d n _ _ q y z A B c
  grind
theorem MU(h:OkT ts){level:Nat}(b:oH ts S):oH ts (sD ts level S):=by
 intro p q x n l f
 obtain⟨a,k,g⟩:=dF f
 obtain⟨⟨t,c,u,d⟩,e⟩:=b p a.1 a.2 n l k
 obtain⟨v,o,y,r,s⟩:=Jw h b _ _ _ q x c d e g
 exact⟨⟨by omega,o,by omega,r⟩,s⟩
theorem AH(h:OkT ts):∀k,oH ts (iM ts params k)
 |0=>λ_ _ _ _ _ d=>by cases d
 |k+1=>by
  intro p q x n e d
  unfold iM at d
  split at d
  .rename_i hc
   have g:=oE h n ac hc
   obtain⟨a,U,H⟩:=dF d
   obtain⟨⟨o,r,s,t⟩,-⟩:=AH h k (p.1+1,p.2) a.1 a.2 g e U
   obtain⟨i,hi,K⟩:=dF H
   obtain⟨rfl,F,-⟩:=TR h r hi
   obtain⟨b,f,M⟩:=dF K
   obtain⟨⟨u,v,y,z⟩,-⟩:=AH h k (a.1.1+1,a.1.2) b.1 b.2 F t f
   obtain⟨j,V,R⟩:=dF M
   obtain⟨rfl,G,-⟩:=TR h v V
   obtain⟨c,l,S⟩:=dF R
   obtain⟨⟨A,B,D,E⟩,-⟩:=AH h k (b.1.1+1,b.1.2) c.1 c.2 G z l
   simp only at o s u y A D
   exact AJ aa B aa E S
  exact MU h (MU h (MU h (Gm h (AH h k)))) p q x n e d
theorem qJv{ts:List cO}{i:Nat}(hi:i<ts.length):aO ts (i:Int)=some (aV ts i):=by
 grind [cD,aV]
theorem yH{i:Nat}(h:i<1000000):wI ((i:Int)+1)=((i+1:Nat):Int):=by grind [bA]
end
section
open Go Go.Dc
section
variable {N:Nat} {ts:List cO} {pr:List BA} {b:List Ex}
theorem XR(h:OkT ts):∀(n:Nat) (l:List BA) (i:Nat) (a:Nat×List BA),i<ts.length->l.length<=8->wN ts n l i= .inr a->i<a.1/\a.1<ts.length/\a.2.length<=8
 |0,_,_,_,_,_,c=>by cases c
 |n+1,l,i,a,hi,o,c=>by
  obtain⟨x,g,b⟩:=dF (show bZ (oM ts i) _=_ from c)
  obtain⟨rfl,d,-⟩:=wL h hi g
  split at b
  .cases b
  rename_i k1
  split at b
  .cases b
  split at b
  .rename_i k3
   have e:=oE h d ac k3
   obtain⟨p,q,r⟩:=XR h n _ _ a e (by grind) b
   grind
  obtain⟨j,f,k⟩:=dF b
  obtain⟨rfl,e,-⟩:=nZ h d f
  grind
theorem Fb(h:OkT ts){i:Nat}{a:Nat×List BA}(hi:i<ts.length)(c:zZ ts i= .inr a):i<a.1/\a.1<ts.length/\a.2.length<=8:=by
 obtain⟨j,d,b⟩:=dF c
 obtain⟨rfl,g,-⟩:=nZ h hi d
 split at b
 .rename_i k
  obtain rfl:=Sum.inr.inj b
  exact⟨by simp only;omega,oE h g ac k,by simp⟩
 obtain⟨e,f,l⟩:=XR h _ _ _ a g ad b
 grind
theorem TL(h:OkT ts){before:List Dl}{i:Nat}{a:Nat×Dl}(hi:i<ts.length)(b:pI ts before i= .inr a):i<a.1/\a.1<ts.length/\before.length≠64:=by
 unfold pI at b
 dsimp only at b
 split at b
 .cases b
 rename_i k1
 split at b
 .cases b
 rename_i k2
 have g:=h.next hi (show(aV ts i).1≠5 by grind)
 obtain⟨x,f,e⟩:=dF b
 have gx:x.1=i+1+1/\x.1<ts.length:=by
  split at f
  .obtain⟨rfl,d,-⟩:=AI h g f;exact⟨rfl,d⟩
  obtain⟨rfl,d,-⟩:=wL h g f;exact⟨rfl,d⟩
 split at e
 .cases e
 obtain⟨y,k,n⟩:=dF e
 have gy:x.1<=y.1/\y.1<ts.length:=by
  split at k
  .obtain⟨d,l,-⟩:=Fb h gx.2 k;grind
  grind
 obtain⟨j,r,o⟩:=dF n
 obtain⟨rfl,l,-⟩:=nZ h gy.2 r
 obtain⟨c,q,p⟩:=dF o
 obtain⟨⟨t,d,u,v⟩,-⟩:=AH h 32 (y.1+1,[]) c.1 c.2 l ad q
 obtain⟨m,s,A⟩:=dF p
 obtain⟨rfl,z,-⟩:=nZ h d s
 grind
theorem SS(h:OkT ts){pkg:BA}:∀(n:Nat) (l:List BA) (i:Nat) (a:Nat×List BA),i<ts.length->l.length<=8->rK ts pkg n l i= .inr a->i<=a.1/\a.1<ts.length/\a.2.length<=8
 |0,_,_,_,_,_,b=>by cases b
 |n+1,l,i,a,hi,q,b=>by
  unfold rK at b
  split at b
  .rename_i k
   have g:=oE h hi ac k
   split at b
   .cases b
   rename_i k2
   obtain⟨x,p,c⟩:=dF b
   obtain⟨rfl,d,-⟩:=wL h g p
   split at c
   .cases c
   obtain⟨j,o,f⟩:=dF c
   obtain⟨rfl,e,-⟩:=nZ h d o
   obtain⟨r,s,t⟩:=SS h n _ _ a e (by grind) f
   grind
  grind
end
theorem Mt{s:BA}:∀(l:List cO) (e:Int),0<=e->Bx s e l->∀i,i<l.length->((aV l i).1=5↔i+1=l.length)/\((aV l i).2.1.size:Int)<=s.size/\0<=(aV l i).2.2.2
 |[],_,_,_,i,hi=>by simp at hi
 |t::r,e,k,h,i,hi=>by
  obtain⟨c,d,f,g,b⟩:=h
  have a:0<=AZ t:=by grind [AZ]
  cases i with
  |zero=>
   refine⟨?_,?_,?_⟩
   .show t.1=5↔0+1=r.length+1
    grind
   .show((t.2.1.size:Nat):Int)<=s.size
    omega
   show 0<=t.2.2.2
   omega
  |succ i=>
   have:=Mt r _ a b i (by simpa using hi)
   grind [aV]
theorem MT{s:BA}(h:(lP s).2.2=0):OkT (lP s).1/\(lP s).1.length<=16385/\∀j,(aV (lP s).1 j).2.1.size<100000:=by
 unfold lP at h ⊢
 split at h
 .simp at h
 rename_i hs
 rw[jA hs]
 cases hG:oQ (s.data.toList.length+1) s 0 with
 |inl x=>
  obtain⟨_,_,a⟩:=ZS _ 0 x aa aa hG
  rw[hG] at h
  exact absurd h a
 |inr r=>
  obtain⟨a,b,f⟩:=XV _ 0 0 r aa aa aa hG
  simp only[DI,kT]
  have c:=Mt r 0 aa a
  refine⟨⟨b,λi hi=>(c i hi).1⟩,by omega,λj=> ?_⟩
  rcases Nat.lt_or_ge j r.length with d|d
  .grind [mN]
  have e:aV r j=(5,⟨#[]⟩,0,0):=by grind [aV]
  rw[e];decide
abbrev RT:=List cO×Int×Int×Int×List BA×List Ex×List Int
def gR(ts:List cO)(pr:List BA)(p:Ps):RT:=(ts,(p.1:Int),0,0,pr,p.2,[])
def bR(ts:List cO)(z:cU)(i:Nat)(pr:List BA)(b:List Ex):RT:=(ts,(i:Int),z.1,z.2,pr,b,[])
section
variable {N:Nat} {ts:List cO} {pr:List BA} {b:List Ex} {i:Nat} {z:cU}
theorem Sl{st:Int×Int×List BA×List Ex×List Int}(hi:i<ts.length):iS N (ts,(i:Int),st.1,st.2.1,st.2.2.1,st.2.2.2.1,st.2.2.2.2)=some ((ts,(i:Int),st.1,st.2.1,st.2.2.1,st.2.2.2.1,st.2.2.2.2),aV ts i):=by
 grind [iS,qJv]
theorem mT(p:Ps)(hi:p.1<ts.length):iS N (gR ts pr p)=some (gR ts pr p,aV ts p.1):=Sl (st:=(0,0,pr,p.2,[])) hi
theorem sF(hi:i<ts.length):iS N (bR ts z i pr b)=some (bR ts z i pr b,aV ts i):=Sl (st:=(z.1,z.2,pr,b,[])) hi
theorem rM(p:Ps)(hi:p.1<ts.length)(a:ts.length<1000000)(s:BA):pW N (gR ts pr p) s=some (if dK ts 1 s p.1 then(gR ts pr (p.1+1,p.2),true) else(gR ts pr p,false)):=by
 grind [mT,pW,gR,nY,dK,yH]
theorem As(a:z.2≠0)(s:BA):pW N (bR ts z i pr b) s=some (bR ts z i pr b,false):=by
 grind [pW,bR]
theorem qF(p:Ps)(hi:p.1<ts.length)(a:ts.length<1000000)(s:BA):pV N (gR ts pr p) s=some (if dK ts 4 s p.1 then(gR ts pr (p.1+1,p.2),true) else(gR ts pr p,false)):=by
 grind [mT,pV,gR,nY,dK,yH]
theorem UE(a:z.2≠0)(s:BA):pV N (bR ts z i pr b) s=some (bR ts z i pr b,false):=by
 grind [pV,bR]
theorem pH(p:Ps)(a e:Int):iW N (gR ts pr p) a e=some (bR ts (a,e) p.1 pr p.2):=by
 simp[iW,gR,bR]
theorem sV(c:z.2≠0)(a e:Int):iW N (bR ts z i pr b) a e=some (bR ts z i pr b):=by
 grind [iW,bR]
theorem sS(p:Ps)(hi:p.1<ts.length)(a:ts.length<1000000)(s:BA):iH N (gR ts pr p) s=some (match eN ts s p.1 with| .inl z=>bR ts z p.1 pr p.2| .inr j=>gR ts pr (j,p.2)):=by
 grind [qF,mT,pH,iH,eN,eR]
theorem sB(a:z.2≠0)(hi:i<ts.length)(s:BA):iH N (bR ts z i pr b) s=some (bR ts z i pr b):=by
 grind [UE,sF,sV,iH]
theorem Kp{s:BA}:∀(d k M:Nat),k+d=wordsR.length->d<M->aA (EL N s) M (k:Int)=some (if s∈wordsR.drop k then .inr true else .inl ())
 |d,k,0,_,h=>by omega
 |0,k,M+1,h,_=>by
  have:wordsR.drop k=[]:=jZ aa
  simp only[aA,EL,this]
  rw[jA (by simp only[jR];have:wordsR.length=13:=rfl;simp_all)]
  rfl
 |d+1,k,M+1,h,c=>by
  have a:k<wordsR.length:=by omega
  have g:=Kp (s:=s) d (k+1) M aa aa
  simp only[aA]
  have e:EL N s (k:Int)=some (if s=wordsR[k] then .inr (.inr true) else .inl (((k+1:Nat):Int))):=by
   have b:wordsR.length=13:=rfl
   have f:aO ([(⟨#[112,97,99,107,97,103,101]⟩:BA),(⟨#[105,109,112,111,114,116]⟩:BA),(⟨#[102,117,110,99]⟩:BA),(⟨#[116,101,115,116]⟩:BA),(⟨#[103,101,110]⟩:BA),(⟨#[105,102]⟩:BA),(⟨#[116,104,101,110]⟩:BA),(⟨#[101,108,115,101]⟩:BA),(⟨#[114,101,97,100]⟩:BA),(⟨#[115,105,122,101]⟩:BA),(⟨#[104,97,115]⟩:BA),(⟨#[101,110,118]⟩:BA),(⟨#[102,108,105,112]⟩:BA)]) (k:Int)=some wordsR[k]:=cD (l:=wordsR) a
   grind [EL,List.length_cons,nY,yH]
  grind [List.drop_eq_getElem_cons]
theorem Sq(a:100<N)(s:BA):KK N s=some (yZ s):=by
 have h:=Kp (N:=N) (s:=s) 13 0 N rfl aa
 grind [KK,yZ]
theorem HH(p:Ps)(hi:p.1<ts.length)(d:ts.length<1000000)(c:100<N):oJ N (gR ts pr p)=some (match oM ts p.1 with| .inl z=>(bR ts z p.1 pr p.2,⟨#[]⟩)| .inr a=>(gR ts pr (a.1,p.2),a.2.2.1)):=by
 have b:=mT (N:=N) (pr:=pr) p hi
 grind [pH,gR,oJ,Sq,oM,oG,bZ,eR,yH]
theorem UD(a:z.2≠0)(hi:i<ts.length):oJ N (bR ts z i pr b)=some (bR ts z i pr b,⟨#[]⟩):=by
 grind [sF,sV,bR,oJ]
theorem YW(p:Ps)(hi:p.1<ts.length)(b:ts.length<1000000):xR N (gR ts pr p)=some (match oG ts 2 p.1 with| .inl z=>(bR ts z p.1 pr p.2,0)| .inr a=>(gR ts pr (a.1,p.2),a.2.2.2.1)):=by
 grind [mT,pH,gR,xR,oG,yH,eR]
theorem qCl(a:z.2≠0)(hi:i<ts.length):xR N (bR ts z i pr b)=some (bR ts z i pr b,0):=by
 grind [sF,sV,bR,xR]
theorem Pp(t:cO)(x:Ex)(p:Ps)(a:p.2.length<=256):∃v,mR N (gR ts pr p) x t.2.2.2=some (match nO t x p with| .inl z=>(bR ts z p.1 pr p.2,v)| .inr q=>(gR ts pr q.1,(q.2:Int))):=by
 refine⟨wI ((p.2.length:Int)-1),?_⟩
 grind [pH,gR,mR,nO,bR,eR,bA,eT]
theorem Oc(c:z.2≠0)(x:Ex)(a:Int):∃v,mR N (bR ts z i pr b) x a=some (bR ts z i pr b,v):=by
 refine⟨wI ((b.length:Int)-1),?_⟩
 grind [mR,bR]
theorem Au(p:Ps)(hi:p.1<ts.length)(e:ts.length<1000000)(c:100<N)(pth:Bool):rE N (gR ts pr p) pth=some (match(if pth then qL ts p.1 else yI ts p.1) with| .inl z=>(bR ts z p.1 pr p.2,⟨#[]⟩)| .inr a=>(gR ts pr (a.1,p.2),a.2.2.1)):=by
 have b:=mT (N:=N) (pr:=pr) p hi
 have d:=pH (N:=N) (ts:=ts) (pr:=pr) p (aV ts p.1).2.2.2 9
 simp only[gR] at b d
 simp only[rE,gR,b,j0,FZ c,MR c,qL,yI,oG,bne_self_eq_false,j7,jE]
 grind [bZ,yH,eR]
theorem Am(a:z.2≠0)(hi:i<ts.length)(pth:Bool):rE N (bR ts z i pr b) pth=some (bR ts z i pr b,⟨#[]⟩):=by
 grind [sF,sV,bR,rE]
theorem Pi{i:Nat}(h:i<2000000):wI ((i:Int)+1)=((i+1:Nat):Int):=by grind [bA]
theorem Jg{s:BA}{l:List BA}(a:l.length<2000000):∀(d i M:Nat),i+d=l.length->d<M->
  aA (LF N l s) M (i:Int)=some (if s∈l.drop i then .inr true else .inl ())
 |d,i,0,_,h=>by omega
 |0,i,M+1,h,_=>by
  grind [aA,LF]
 |d+1,i,M+1,h,b=>by
  have hi:i<l.length:=by omega
  have c:=Jg (s:=s) a d (i+1) M aa aa
  grind [aA,LF,cD,List.drop_eq_getElem_cons,nY,Pi]
theorem OQ{s:BA}{l:List BA}(b:l.length<2000000)(a:l.length<N):rJ N l s=some (decide (s∈l)):=by
 have h:=Jg (N:=N) (s:=s) b l.length 0 N aa a
 grind [rJ]
theorem Hf{s:BA}{k:Int}{f:Sr}(a:f.2.2.length<2000000):∀(d i M:Nat),i+d=f.2.2.length->d<M->
  aA (KB N f k s) M (i:Int)=some (if(f.2.2.drop i).any (λd=>d.1==k&&decide (d.2.1=s))then .inr true else .inl ())
 |d,i,0,_,h=>by omega
 |0,i,M+1,h,_=>by
  grind [aA,KB]
 |d+1,i,M+1,h,b=>by
  have hi:i<f.2.2.length:=by omega
  have c:=Hf (s:=s) (k:=k) a d (i+1) M aa aa
  simp only[aA,KB]
  grind [cD,List.drop_eq_getElem_cons,nY,Pi]
theorem Qt{s:BA}{k:Int}{f:Sr}(b:f.2.2.length<2000000)(a:f.2.2.length<N):zU N f k s=some (f.2.2.any λd=>d.1==k&&decide (d.2.1=s)):=by
 have h:=Hf (N:=N) (s:=s) (k:=k) b f.2.2.length 0 N aa a
 grind [zU]
theorem op_3:nS ts 3 i=if dK ts 4 ⟨#[42]⟩ i then 3 else if dK ts 4 ⟨#[47]⟩ i then 4 else if dK ts 4 ⟨#[37]⟩ i then 5 else 0:=by
 unfold nS opsC
 simp only[List.find?,HZ,VN]
 grind
theorem op_2:nS ts 2 i=if dK ts 4 ⟨#[43]⟩ i then 1 else if dK ts 4 ⟨#[45]⟩ i then 2 else 0:=by
 unfold nS opsC
 simp only[List.find?,HZ,VN]
 grind
theorem op_1:nS ts 1 i=if dK ts 4 ⟨#[60]⟩ i then 6 else if dK ts 4 ⟨#[61,61]⟩ i then 7 else 0:=by
 unfold nS opsC
 simp only[List.find?,HZ,VN]
 grind
theorem HG{α:Type}{t:cO}{e:Int}(a:e≠0)(h:(eR t e:cU⊕α)= .inl z):z.2≠0:=by
 obtain rfl:=Sum.inl.inj h;exact a
theorem rL{s:BA}(h:eN ts s i= .inl z):z.2≠0:=by
 grind [eN,HG]
theorem NL{k:Int}(h:oG ts k i= .inl z):z.2≠0:=by
 grind [oG,HG]
theorem Bd{α β:Type}{x:cU⊕α}{f:α->cU⊕β}(h:bZ x f= .inl z):x= .inl z\/∃a,x= .inr a/\f a= .inl z:=by
 cases x with
 |inl y=>obtain rfl:=Sum.inl.inj h;exact .inl rfl
 |inr a=>exact .inr ⟨a,rfl,h⟩
theorem UB(h:oM ts i= .inl z):z.2≠0:=by
 rcases Bd h with h|⟨a,_,h⟩
 .exact NL h
 grind [HG]
theorem UG(h:qL ts i= .inl z):z.2≠0:=by
 rcases Bd h with h|⟨a,_,h⟩
 .exact NL h
 grind [HG]
theorem qEg(h:yI ts i= .inl z):z.2≠0:=by
 rcases Bd h with h|⟨a,_,h⟩
 .exact NL h
 grind [HG]
theorem Po{t:cO}{x:Ex}{p:Ps}(h:nO t x p= .inl z):z.2≠0:=by
 grind [nO,HG]
end
def uK(ts:List cO)(z:cU)(st:RT):Prop:=z.2≠0/\∃(i:Nat) (pr:List BA) (b:List Ex),i<ts.length/\st=bR ts z i pr b
def iV(ts:List cO)(pr:List BA)(r:PM Nat)(o:RT×Int):Prop:=
 match r with
 | .inl z=>uK ts z o.1
 | .inr q=>o=(gR ts pr q.1,(q.2:Int))
section
variable {N:Nat} {ts:List cO} {pr:List BA} {E S:Ps->PM Nat} {d:Int}
variable {r1 r2 r3 r4:RT->Int->Option (RT×Int)}
theorem wP{z:cU}{i:Nat}{pr':List BA}{b:List Ex}{v:Int}(a:z.2≠0)(hi:i<ts.length):iV ts pr (.inl z) (bR ts z i pr' b,v):=⟨a,i,pr',b,hi,rfl⟩
theorem CQ(t:cO)(x:Ex)(p:Ps)(b:p.1<ts.length)(a:p.2.length<=256):∃o,mR N (gR ts pr p) x t.2.2.2=some o/\iV ts pr (nO t x p) o:=by
 obtain⟨v,h⟩:=Pp (N:=N) (ts:=ts) (pr:=pr) t x p a
 cases hn:nO t x p with
 |inl z=>grind [wP,Po]
 |inr q=>rw[hn] at h;exact⟨_,h,rfl⟩
theorem GT{z:cU}{i:Nat}{pr':List BA}{b:List Ex}(c:z.2≠0)(hi:i<ts.length)(x:Ex)(a:Int):∃o,mR N (bR ts z i pr' b) x a=some o/\iV ts pr (.inl z) o:=by
 obtain⟨v,h⟩:=Oc (N:=N) (ts:=ts) (pr:=pr') (b:=b) (i:=i) c x a
 grind [wP]
theorem YH(t:cO)(x:Ex)(p:Ps)(b:OkT ts)(d:ts.length<1000000)(a:p.1<ts.length)(c:p.2.length<=256):∃o,
  ((iH N (gR ts pr p) (⟨#[41]⟩:BA)).bind λy=>mR N y x t.2.2.2)=some o/\iV ts pr (bZ (eN ts nF p.1) λi=>nO t x (i,p.2)) o:=by
 have e:=sS (N:=N) (pr:=pr) p a d ⟨#[41]⟩
 simp only[e,j0,nF]
 cases h:eN ts ⟨#[41]⟩ p.1 with
 |inl z=>exact GT (rL h) a x _
 |inr j=>
  obtain⟨rfl,g,-⟩:=nZ b a h
  exact CQ t x (p.1+1,p.2) g c
theorem CK{z:cU}{i:Nat}{pr':List BA}{b:List Ex}(c:z.2≠0)(hi:i<ts.length)(x:Ex)(a:Int):∃o,
  ((iH N (bR ts z i pr' b) (⟨#[41]⟩:BA)).bind λy=>mR N y x a)=some o/\iV ts pr (.inl z) o:=by
 simp only[sB c hi,j0]
 exact GT c hi x a
variable (hEg:∀p:Ps,p.1<ts.length->p.2.length<=256->∃o,r4 (gR ts pr p) (wI (d+1))=some o/\iV ts pr (E p) o)
variable (hEb:∀(z:cU) (i:Nat) (pr':List BA) (b:List Ex),z.2≠0->i<ts.length->∃v,r4 (bR ts z i pr' b) (wI (d+1))=some (bR ts z i pr' b,v))
def UP(ts:List cO)(E:Ps->PM Nat)(n:Nat)(l:List Int)(p:Ps):PM (List Int):=
 if dK ts 4 sX p.1 then wT ts E n l (p.1+1,p.2) else bZ (eN ts nF p.1) λi=> .inr ((i,p.2),l)
theorem TW(n:Nat)(l:List Int)(p:Ps):wT ts E (n+1) l p=bZ (E p) λq=>UP ts E n (l++[(q.2:Int)]) q.1:=rfl
def Sp(ts:List cO)(pr:List BA)(r:PM (List Int))(o:List Int×RT):Prop:=
 match r with
 | .inl z=>uK ts z o.2
 | .inr q=>o=(q.2,gR ts pr q.1)
theorem YT{z:cU}{i:Nat}{pr':List BA}{b:List Ex}(a:z.2≠0)(M:Nat)(l:List Int):aA (zL N r4 d) (M+1) (l,bR ts z i pr' b)=some (l,bR ts z i pr' b):=by
 grind [aA,zL,bR]
include hEg hEb in
theorem Hv(k:OkT ts)(s:ts.length<1000000)(u:oH ts E):∀(n M:Nat) (l:List Int) (p:Ps),l≠[]->p.1<ts.length->p.2.length<=256->l.length<=p.1->ts.length<p.1+n->ts.length+2<p.1+M->
  ∃o,aA (zL N r4 d) M (l,gR ts pr p)=some o/\Sp ts pr (UP ts E n l p) o
 |0,M,l,p,_,a,_,_,h,_=>by omega
 |n+1,0,l,p,_,a,_,_,_,h=>by omega
 |n+1,M+1,l,p,R,a,x,K,Y,V=>by
  have H:=qF (N:=N) (pr:=pr) p a s ⟨#[41]⟩
  have t:decide ((l.length:Int)>0)=true:=by
   grind [List.length_pos_iff]
  have F:((gR ts pr p).2.2.2.1==0)=true:=rfl
  simp only[aA,zL,Prod.eta,F,jJ,H,j0]
  rcases eX (dK ts 4 ⟨#[41]⟩ p.1) with e|e
  .simp only[e,jJ,kK,j7,jE]
   refine⟨_,rfl,?_⟩
   have c:dK ts 4 sX p.1=false:=by
    grind [dK,sX]
   have r:eN ts nF p.1= .inr (p.1+1):=by grind [eN,nF]
   simp only[UP,c,j7,jE,r,bZ]
   rfl
  simp only[e,j7,jE,kV,jJ,t,Prod.eta,sS p a s,j0]
  have y:dK ts 4 sX p.1=dK ts 4 ⟨#[44]⟩ p.1:=rfl
  simp only[UP,y,eN]
  rcases eX (dK ts 4 ⟨#[44]⟩ p.1) with c|c
  .have g:=oE k a ac c
   simp only[c,jJ]
   obtain⟨o,G,f⟩:=hEg (p.1+1,p.2) g x
   simp only[G,j0]
   cases hE:E (p.1+1,p.2) with
   |inl z=>
    rw[hE] at f
    obtain⟨B,i,pr',b,hi,A⟩:=f
    rw[eT (by grind) aa]
    simp only[j0,A]
    cases M with
    |zero=>omega
    |succ M=>
     refine⟨_,YT B M _,?_⟩
     rw[TW,hE]
     exact⟨B,i,pr',b,hi,rfl⟩
   |inr q=>
    rw[hE] at f
    obtain⟨⟨A,B,S,D⟩,U⟩:=u (p.1+1,p.2) q.1 q.2 g x hE
    simp only at A
    rw[eT (by grind) aa]
    have hr':o=(gR ts pr q.1,(q.2:Int)):=f
    simp only[j0,hr']
    rw[TW,hE]
    exact Hv k s u n M (l++[(q.2:Int)]) q.1 ad B D (by grind) aa aa
  simp only[c,j7,jE]
  have r:dK ts 4 nF p.1=false:=e
  simp only[r,j7,jE,eR,bZ]
  obtain⟨v,f⟩:=hEb ((aV ts p.1).2.2.2,9) p.1 pr p.2 (show(9:Int)≠0 by decide) a
  simp only[f,j0]
  rw[eT (by grind) aa]
  simp only[j0]
  cases M with
  |zero=>omega
  |succ M=>exact⟨_,YT (z:=((aV ts p.1).2.2.2,9)) (show(9:Int)≠0 by decide) M _,show(9:Int)≠0 by decide,p.1,pr,p.2,a,rfl⟩
include hEg hEb in
theorem qKt(n:OkT ts)(k:ts.length<1000000)(A:1000002<N)(g:oH ts E)(p:Ps)(f:p.1<ts.length)(h:p.2.length<=256):
  ∃o,aA (zL N r4 d) N ([],gR ts pr p)=some o/\Sp ts pr (if dK ts 4 nF p.1 then .inr ((p.1+1,p.2),[]) else wT ts E (ts.length+1) [] p) o:=by
 obtain⟨M,rfl⟩:∃M,N=M+1:=⟨N-1,by omega⟩
 have u:=qF (N:=M+1) (pr:=pr) p f k ⟨#[41]⟩
 have s:((gR ts pr p).2.2.2.1==0)=true:=rfl
 have e:decide ((([]:List Int).length:Int)>0)=false:=rfl
 simp only[aA,zL,Prod.eta,s,jJ,u,j0,nF]
 rcases eX (dK ts 4 ⟨#[41]⟩ p.1) with c|c
 .simp only[c,jJ,kK,j7,jE]
  exact⟨_,rfl,rfl⟩
 simp only[c,j7,jE,kV,jJ,e,Prod.eta,j0]
 obtain⟨o,t,a⟩:=hEg p f h
 simp only[t,j0]
 cases hE:E p with
 |inl z=>
  rw[hE] at a
  obtain⟨r,i,pr',b,hi,l⟩:=a
  rw[eT ad aa]
  simp only[j0,l]
  cases M with
  |zero=>omega
  |succ M=>
   refine⟨_,YT r M _,?_⟩
   rw[TW,hE]
   exact⟨r,i,pr',b,hi,rfl⟩
 |inr q=>
  rw[hE] at a
  obtain⟨⟨v,l,x,r⟩,y⟩:=g p q.1 q.2 f h hE
  rw[eT ad aa]
  have hr':o=(gR ts pr q.1,(q.2:Int)):=a
  simp only[j0,hr']
  rw[TW,hE]
  exact Hv hEg hEb n k g ts.length M ([]++[(q.2:Int)]) q.1 ad l r (by grind) aa aa
end
section
variable {N:Nat} {ts:List cO} {pr:List BA} {E S:Ps->PM Nat} {d:Int}
variable {r1 r2 r3 r4:RT->Int->Option (RT×Int)}
theorem Nj{y1:RT×cO}{y31:RT×BA}{p:Ps}(a:pr.length<1000):∀(k i M:Nat),i+k=pr.length->k<M->
  aA (zM N y1 y31 (gR ts pr p,false)) M (i:Int)=(match(pr.drop i).findIdx? (λx=>decide (x=y31.2)) with
   |some j=>(mR N (gR ts pr p) (2,((i+j:Nat):Int),0,⟨#[]⟩,[]) y1.2.2.2.2).bind λy=>some (.inr y)
   |none=>some (.inl ()))
 |k,i,0,_,h=>by omega
 |0,i,M+1,h,_=>by
  grind [gR,aA,zM]
 |k+1,i,M+1,h,d=>by
  have hi:i<pr.length:=by omega
  have e:=Nj (y1:=y1) (y31:=y31) (p:=p) a k (i+1) M aa aa
  have c:decide ((i:Int)<((gR ts pr p).2.2.2.2.1.length:Int))=true:=kE (by grind [gR])
  have x:aO (gR ts pr p).2.2.2.2.1 (i:Int)=some pr[i]:=cD hi
  have b:((gR ts pr p).2.2.2.1==0)=true:=rfl
  rw[jN hi,List.findIdx?_cons]
  simp only[aA,zM,b,Prod.eta,c,x,jJ,j0,nY,jR]
  by_cases hs:pr[i]=y31.2
  .grind
  grind [yH]
theorem ZR{y1:RT×cO}{y31:RT×BA}{z:cU}{j:Nat}{pr':List BA}{b:List Ex}(c:z.2≠0)(a:pr'.length<1000):∀(k i M:Nat),i+k=pr'.length->k<M->
  aA (zM N y1 y31 (bR ts z j pr' b,false)) M (i:Int)=some (.inl ())
 |k,i,0,_,h=>by omega
 |0,i,M+1,h,_=>by
  grind [bR,aA,zM]
 |k+1,i,M+1,h,d=>by
  have hi:i<pr'.length:=by omega
  have e:=ZR (y1:=y1) (y31:=y31) (j:=j) (b:=b) c a k (i+1) M aa aa
  grind [bR,cD,aA,zM,yH]
variable (hEg:∀p:Ps,p.1<ts.length->p.2.length<=256->∃o,r4 (gR ts pr p) (wI (d+1))=some o/\iV ts pr (E p) o)
variable (hEb:∀(z:cU) (i:Nat) (pr':List BA) (b:List Ex),z.2≠0->i<ts.length->∃v,r4 (bR ts z i pr' b) (wI (d+1))=some (bR ts z i pr' b,v))
include hEg hEb in
theorem qIe(e:OkT ts)(k:ts.length<1000000)(H:100<N)(G:oH ts E)(t:cO)(p:Ps)(f:p.1<ts.length)(A:p.2.length<=256):∃o,
  ((iH N (gR ts pr p) (⟨#[40]⟩:BA)).bind λD=>(rE N D true).bind λr=>(iH N r.1 (⟨#[44]⟩:BA)).bind λF=>(r4 F (wI (d+1))).bind λc=>(iH N c.1 (⟨#[41]⟩:BA)).bind λg=>mR N g (6,0,0,r.2,[c.2]) t.2.2.2)=some o/\
  iV ts pr (bZ (eN ts qX p.1) λi=>bZ (bZ (qL ts i) λa=>bZ (eN ts sX a.1) λi=>bZ (E (i,p.2)) λq=>(.inr (q.1,((6,0,0,a.2.2.1,[(q.2:Int)]):Ex)):cU⊕(Ps×Ex))) λq=>bZ (eN ts nF q.1.1) λi=>nO t q.2 (i,q.1.2)) o:=by
 have bad:∀{z:cU} {i:Nat} {pr':List BA} {b:List Ex} (x:BA),z.2≠0->i<ts.length->∃o,((r4 (bR ts z i pr' b) (wI (d+1))).bind λc=>(iH N c.1 (⟨#[41]⟩:BA)).bind λg=>mR N g (6,0,0,x,[c.2]) t.2.2.2)=some o/\iV ts pr (.inl z) o:=by
  intro z i pr' b x n hi
  obtain⟨v,h⟩:=hEb z i pr' b n hi
  simp only[h,j0]
  exact CK n hi _ _
 simp only[sS p f k,j0,qX]
 cases h1:eN ts ⟨#[40]⟩ p.1 with
 |inl z=>
  simp only[Am (rL h1) f,sB (rL h1) f,j0]
  exact bad _ (rL h1) f
 |inr i=>
  obtain⟨rfl,h,-⟩:=nZ e f h1
  simp only[Au (p.1+1,p.2) h k H,j0,jJ,bZ]
  cases h2:qL ts (p.1+1) with
  |inl z=>
   simp only[sB (UG h2) h,j0]
   exact bad _ (UG h2) h
  |inr a=>
   obtain⟨rfl,s,-⟩:=AI e h h2
   simp only[sS (p.1+1+1,p.2) s k,j0,sX]
   cases y:eN ts ⟨#[44]⟩ (p.1+1+1) with
   |inl z=>exact bad _ (rL y) s
   |inr j=>
    obtain⟨rfl,u,-⟩:=nZ e s y
    obtain⟨o,K,l⟩:=hEg (p.1+1+1+1,p.2) u A
    simp only[K,j0]
    cases h4:E (p.1+1+1+1,p.2) with
    |inl z=>
     rw[h4] at l
     obtain⟨n,i,pr',b,hi,B⟩:=l
     simp only[B]
     exact CK n hi _ _
    |inr q=>
     rw[h4] at l
     obtain⟨⟨M,n,R,B⟩,S⟩:=G (p.1+1+1+1,p.2) q.1 q.2 u A h4
     have hr':o=(gR ts pr q.1,(q.2:Int)):=l
     simp only[hr']
     exact YH t _ q.1 e k n B
theorem Bj(c:OkT ts)(f:ts.length<1000000)(n:100<N)(k:Int)(pth:Bool)(t:cO)(p:Ps)(b:p.1<ts.length)(r:p.2.length<=256):∃o,
  ((iH N (gR ts pr p) (⟨#[40]⟩:BA)).bind λh=>(rE N h pth).bind λd=>(iH N d.1 (⟨#[41]⟩:BA)).bind λl=>mR N l (k,0,0,d.2,[]) t.2.2.2)=some o/\
  iV ts pr (bZ (eN ts qX p.1) λi=>bZ (bZ (if pth then qL ts i else yI ts i) λa=>(.inr ((a.1,p.2),((k,0,0,a.2.2.1,[]):Ex)):cU⊕(Ps×Ex))) λq=>bZ (eN ts nF q.1.1) λi=>nO t q.2 (i,q.1.2)) o:=by
 simp only[sS p b f,j0,qX]
 cases h1:eN ts ⟨#[40]⟩ p.1 with
 |inl z=>
  simp only[Am (rL h1) b,j0]
  exact CK (rL h1) b _ _
 |inr i=>
  obtain⟨rfl,g,-⟩:=nZ c b h1
  simp only[Au (p.1+1,p.2) g f n,j0,bZ]
  cases h2:(if pth then qL ts (p.1+1) else yI ts (p.1+1)) with
  |inl z=>
   have e:z.2≠0:=by
    grind [UG,qEg]
   exact CK e g _ _
  |inr a=>
   have e:a=(p.1+1+1,aV ts (p.1+1))/\p.1+1+1<ts.length:=by
    grind [AI,Ju]
   obtain⟨rfl,e⟩:=e
   exact YH t _ (p.1+1+1,p.2) c f e r
theorem qHv(c:OkT ts)(h:ts.length<1000000)(t:cO)(p:Ps)(d:p.1<ts.length)(u:p.2.length<=256):∃o,
  ((iH N (gR ts pr p) (⟨#[40]⟩:BA)).bind λn=>(iS N n).bind λg=>(xR N g.1).bind λb=>(if(decide (b.2>=64))then((iW N b.1 g.2.2.2.2 9).bind λr=>some r) else(some b.1):Option RT).bind λv=>(iH N v (⟨#[41]⟩:BA)).bind λs=>mR N s (10,b.2,0,⟨#[]⟩,[]) t.2.2.2)=some o/\
  iV ts pr (bZ (eN ts qX p.1) λi=>bZ (bZ (oG ts 2 i) λa=>if a.2.2.2.1>=64 then eR a.2 9 else(.inr ((a.1,p.2),((10,a.2.2.2.1,0,⟨#[]⟩,[]):Ex)):cU⊕(Ps×Ex))) λq=>bZ (eN ts nF q.1.1) λi=>nO t q.2 (i,q.1.2)) o:=by
 have f:¬decide ((0:Int)>=64)=true:=by decide
 simp only[sS p d h,j0,qX]
 cases h1:eN ts ⟨#[40]⟩ p.1 with
 |inl z=>
  simp only[sF d,qCl (rL h1) d,j0,jA f]
  exact CK (rL h1) d _ _
 |inr i=>
  obtain⟨rfl,e,-⟩:=nZ c d h1
  simp only[mT (p.1+1,p.2) e,YW (p.1+1,p.2) e h,j0,bZ]
  cases h2:oG ts 2 (p.1+1) with
  |inl z=>
   simp only[jA f,j0]
   exact CK (NL h2) e _ _
  |inr a=>
   obtain⟨rfl,l,-⟩:=CR c ac e h2
   by_cases k:(aV ts (p.1+1)).2.2.1>=64
   .simp only[jB k,jR,jJ,pH,j0]
    exact CK (show(9:Int)≠0 by decide) l _ _
   simp only[jA k,jR,j0]
   exact YH t _ (p.1+1+1,p.2) c h l u
end
section
variable {N:Nat} {ts:List cO} {pr:List BA} {E S:Ps->PM Nat} {d:Int}
variable {r1 r2 r3 r4:RT->Int->Option (RT×Int)}
theorem Mi{s:BA}{i:Nat}(h:(aV ts i).1=1):dK ts 1 s i=decide ((aV ts i).2.1=s):=by simp[dK,h]
theorem Qj{k:Int}{s:BA}{i:Nat}(h:(aV ts i).1≠k):dK ts k s i=false:=by simp[dK,h]
theorem qV{α:Type}(x:Option α):(x.bind λy=>some y)=x:=by cases x<;>rfl
theorem qDn{z:cU}{i:Nat}{pr':List BA}{b:List Ex}(a:z.2≠0)(hi:i<ts.length):EG N r1 r2 r3 r4 (bR ts z i pr' b) d=some (bR ts z i pr' b,0):=by
 grind [bR,EG,sF]
variable (hEg:∀p:Ps,p.1<ts.length->p.2.length<=256->∃o,r4 (gR ts pr p) (wI (d+1))=some o/\iV ts pr (E p) o)
variable (hEb:∀(z:cU) (i:Nat) (pr':List BA) (b:List Ex),z.2≠0->i<ts.length->∃v,r4 (bR ts z i pr' b) (wI (d+1))=some (bR ts z i pr' b,v))
include hEg hEb in
theorem qGd(e:OkT ts)(f:ts.length<1000000)(H:pr.length<1000)(hN:1000002<N)(M:oH ts E)(p:Ps)(l:p.1<ts.length)(t:p.2.length<=256):
  ∃o,EG N r1 r2 r3 r4 (gR ts pr p) d=some o/\iV ts pr (sU ts pr E p) o:=by
 have Y:((gR ts pr p).2.2.2.1 !=0)=false:=rfl
 simp only[EG,Prod.eta,mT p l,j0,Y,j7,jE]
 unfold sU
 dsimp only
 by_cases k1:(aV ts p.1).1=2
 .have k1':((aV ts p.1).1==2)=true:=by simpa using k1
  have g:=e.next l (show(aV ts p.1).1≠5 by rw[k1];decide)
  rw[jB k1]
  simp only[k1',jJ,YW p l f,oG,jB k1,j0]
  obtain⟨o,k,c⟩:=CQ (N:=N) (pr:=pr) (aV ts p.1) (1,(aV ts p.1).2.2.1,0,⟨#[]⟩,[]) (p.1+1,p.2) g t
  simp only[k,j0]
  exact⟨_,rfl,c⟩
 have k1':((aV ts p.1).1==2)=false:=by simpa using k1
 rw[jA k1]
 simp only[k1',j7,jE,qF p l f,j0]
 rcases eX (dK ts 4 Qv p.1) with B|B
 .have c1':dK ts 4 ⟨#[45]⟩ p.1=true:=B
  have g:=oE e l ac B
  simp only[B,c1',jJ,YW (p.1+1,p.2) g f,j0]
  cases h:oG ts 2 (p.1+1) with
  |inl z=>
   obtain⟨o,k,c⟩:=GT (N:=N) (pr:=pr) (pr':=pr) (b:=p.2) (NL h) g (1,wI (0-0),0,⟨#[]⟩,[]) (aV ts p.1).2.2.2
   simp only[k,j0]
   exact⟨_,rfl,c⟩
  |inr a=>
   obtain⟨rfl,F,-⟩:=CR e ac g h
   obtain⟨o,k,c⟩:=CQ (N:=N) (pr:=pr) (aV ts p.1) (1,wI (0-(aV ts (p.1+1)).2.2.1),0,⟨#[]⟩,[]) (p.1+1+1,p.2) F t
   simp only[k,j0,bZ]
   exact⟨_,rfl,c⟩
 have c1':dK ts 4 ⟨#[45]⟩ p.1=false:=B
 simp only[B,c1',j7,jE,qF p l f,j0]
 rcases eX (dK ts 4 qX p.1) with D|D
 .have c2':dK ts 4 ⟨#[40]⟩ p.1=true:=D
  have g:=oE e l ac D
  obtain⟨o,k,c⟩:=hEg (p.1+1,p.2) g t
  simp only[D,c2',jJ,k,j0]
  cases h:E (p.1+1,p.2) with
  |inl z=>
   rw[h] at c
   obtain⟨r,i,pr',b,hi,G⟩:=c
   simp only[G,sB r hi,j0,bZ]
   exact⟨_,rfl,wP r hi⟩
  |inr q=>
   rw[h] at c
   obtain⟨⟨U,K,V,S⟩,v⟩:=M (p.1+1,p.2) q.1 q.2 g t h
   have hr':o=(gR ts pr q.1,(q.2:Int)):=c
   simp only[hr',sS q.1 K f,j0,bZ,nF]
   cases u:eN ts ⟨#[41]⟩ q.1.1 with
   |inl z=>exact⟨_,rfl,wP (rL u) K⟩
   |inr j=>exact⟨_,rfl,rfl⟩
 have c2':dK ts 4 ⟨#[40]⟩ p.1=false:=D
 simp only[D,c2',j7,jE,rM p l f,j0]
 by_cases k2:(aV ts p.1).1=1
 rotate_left
 .-- no name
  rw[jB k2]
  have n:∀s,dK ts 1 s p.1=false:=λs=>Qj k2
  have v:oM ts p.1= .inl ((aV ts p.1).2.2.2,9):=by simp[oM,oG,k2,bZ,eR]
  simp only[n,j7,jE,rM p l f,j0,HH p l f (by omega:100<N),v]
  have r:(((aV ts p.1).2.2.2,(9:Int)):cU).2≠0:=show(9:Int)≠0 by decide
  have u:=ZR (N:=N) (ts:=ts) (y1:=(gR ts pr p,aV ts p.1)) (y31:=(bR ts ((aV ts p.1).2.2.2,9) p.1 pr p.2,(⟨#[]⟩:BA))) (j:=p.1) (pr':=pr) (b:=p.2) r H pr.length 0 N aa aa
  rw[show((0:Nat):Int)=0 from rfl] at u
  simp only[UE r,j0,kV,jJ,u,sV r]
  exact⟨_,rfl,wP r l⟩
 rw[jA (show ¬(aV ts p.1).1≠1 by simpa using k2)]
 have g:=e.next l (show(aV ts p.1).1≠5 by rw[k2];decide)
 have n:∀s,dK ts 1 s p.1=decide ((aV ts p.1).2.1=s):=λs=>Mi k2
 simp only[n,rM p l f,j0]
 by_cases w1:(aV ts p.1).2.1=wW
 .rw[jB (show(aV ts p.1).2.1∈[wW,wU,xA,xC,yR] by rw[w1];simp)]
  have w1':decide ((aV ts p.1).2.1=(⟨#[114,101,97,100]⟩:BA))=true:=kE w1
  simp only[w1',jJ]
  obtain⟨o,k,c⟩:=qIe (N:=N) hEg hEb e f aa M (aV ts p.1) (p.1+1,p.2) g t
  refine⟨o,Eq.trans ?_ k,?_⟩
  .simp only[qV]
  simp only[wK,jB w1]
  exact c
 have w1':decide ((aV ts p.1).2.1=(⟨#[114,101,97,100]⟩:BA))=false:=kC w1
 simp only[w1',j7,jE,rM p l f,j0,n]
 by_cases w2:(aV ts p.1).2.1=wU
 .rw[jB (show(aV ts p.1).2.1∈[wW,wU,xA,xC,yR] by rw[w2];simp)]
  have w2':decide ((aV ts p.1).2.1=(⟨#[115,105,122,101]⟩:BA))=true:=kE w2
  have wx:((aV ts p.1).2.1.toList==(⟨#[104,97,115]⟩:BA).toList)=false:=by rw[nY,w2];decide
  have wy:((aV ts p.1).2.1.toList==(⟨#[101,110,118]⟩:BA).toList)=false:=by rw[nY,w2];decide
  simp only[w2',jJ,j0,wx,wy,j7,jE]
  obtain⟨o,k,c⟩:=Bj (N:=N) (pr:=pr) e f aa 7 true (aV ts p.1) (p.1+1,p.2) g t
  refine⟨o,Eq.trans ?_ k,?_⟩
  .simp only[qV];rfl
  simp only[wK,jA w1,jB w2]
  exact c
 have w2':decide ((aV ts p.1).2.1=(⟨#[115,105,122,101]⟩:BA))=false:=kC w2
 simp only[w2',j7,jE,rM p l f,j0,n]
 by_cases w3:(aV ts p.1).2.1=xA
 .rw[jB (show(aV ts p.1).2.1∈[wW,wU,xA,xC,yR] by rw[w3];simp)]
  have w3':decide ((aV ts p.1).2.1=(⟨#[104,97,115]⟩:BA))=true:=kE w3
  have wx:((aV ts p.1).2.1.toList==(⟨#[104,97,115]⟩:BA).toList)=true:=by rw[nY,w3']
  simp only[w3',jJ,j0,wx]
  obtain⟨o,k,c⟩:=Bj (N:=N) (pr:=pr) e f aa 8 true (aV ts p.1) (p.1+1,p.2) g t
  refine⟨o,Eq.trans ?_ k,?_⟩
  .simp only[qV];rfl
  simp only[wK,jA w1,jA w2,jB w3]
  exact c
 have w3':decide ((aV ts p.1).2.1=(⟨#[104,97,115]⟩:BA))=false:=kC w3
 simp only[w3',j7,jE,rM p l f,j0,n]
 by_cases w4:(aV ts p.1).2.1=xC
 .rw[jB (show(aV ts p.1).2.1∈[wW,wU,xA,xC,yR] by rw[w4];simp)]
  have w4':decide ((aV ts p.1).2.1=(⟨#[101,110,118]⟩:BA))=true:=kE w4
  have wx:((aV ts p.1).2.1.toList==(⟨#[104,97,115]⟩:BA).toList)=false:=by rw[nY,w4];decide
  have wy:((aV ts p.1).2.1.toList==(⟨#[101,110,118]⟩:BA).toList)=true:=by rw[nY,w4']
  simp only[w4',jJ,j0,wx,wy,j7,jE]
  obtain⟨o,k,c⟩:=Bj (N:=N) (pr:=pr) e f aa 9 false (aV ts p.1) (p.1+1,p.2) g t
  refine⟨o,Eq.trans ?_ k,?_⟩
  .simp only[qV];rfl
  simp only[wK,jA w1,jA w2,jA w3,jB w4]
  exact c
 have w4':decide ((aV ts p.1).2.1=(⟨#[101,110,118]⟩:BA))=false:=kC w4
 simp only[w4',j7,jE,rM p l f,j0,n]
 by_cases w5:(aV ts p.1).2.1=yR
 .rw[jB (show(aV ts p.1).2.1∈[wW,wU,xA,xC,yR] by rw[w5];simp)]
  have w5':decide ((aV ts p.1).2.1=(⟨#[102,108,105,112]⟩:BA))=true:=kE w5
  simp only[w5',jJ]
  obtain⟨o,k,c⟩:=qHv (N:=N) (pr:=pr) e f (aV ts p.1) (p.1+1,p.2) g t
  refine⟨o,Eq.trans ?_ k,?_⟩
  .simp only[qV]
  simp only[wK,jA w1,jA w2,jA w3,jA w4]
  exact c
 have w5':decide ((aV ts p.1).2.1=(⟨#[102,108,105,112]⟩:BA))=false:=kC w5
 rw[jA (show ¬(aV ts p.1).2.1∈[wW,wU,xA,xC,yR] by simp[w1,w2,w3,w4,w5])]
 simp only[w5',j7,jE,HH p l f (by omega:100<N),j0,oM,oG,jB k2,bZ]
 rcases eX (yZ (aV ts p.1).2.1) with R|R
 .simp only[R,jJ,eR]
  have r:(((aV ts p.1).2.2.2,(9:Int)):cU).2≠0:=show(9:Int)≠0 by decide
  have u:=ZR (N:=N) (ts:=ts) (y1:=(gR ts pr p,aV ts p.1)) (y31:=(bR ts ((aV ts p.1).2.2.2,9) p.1 pr p.2,(⟨#[]⟩:BA))) (j:=p.1) (pr':=pr) (b:=p.2) r H pr.length 0 N aa aa
  rw[show((0:Nat):Int)=0 from rfl] at u
  simp only[UE r,j0,kV,jJ,u,sV r]
  exact⟨_,rfl,wP r l⟩
 simp only[R,j7,jE,qF (p.1+1,p.2) g f,j0]
 rcases eX (dK ts 4 qX (p.1+1)) with A|A
 .have c4':dK ts 4 ⟨#[40]⟩ (p.1+1)=true:=A
  have F:=oE e g ac A
  simp only[A,c4',jJ,kK,j7,jE]
  have Z:eN ts qX (p.1+1)= .inr (p.1+1+1):=by simp[eN,A]
  simp only[GE,Z,bZ]
  obtain⟨o,k,c⟩:=qKt (N:=N) hEg hEb e f aa M (p.1+1+1,p.2) F t
  simp only[k,j0]
  cases ha:(if dK ts 4 nF (p.1+1+1)then .inr ((p.1+1+1+1,p.2),[]) else wT ts E (ts.length+1) [] (p.1+1+1,p.2):PM (List Int)) with
  |inl z=>
   rw[ha] at c
   obtain⟨r,i,pr',b,hi,G⟩:=c
   simp only[G]
   obtain⟨o2,v,y⟩:=GT (N:=N) (pr:=pr) (pr':=pr') (b:=b) r hi (3,0,0,(aV ts p.1).2.1,o.1) (aV ts p.1).2.2.2
   simp only[v,j0]
   exact⟨_,rfl,y⟩
  |inr q=>
   rw[ha] at c
   have hr':o=(q.2,gR ts pr q.1):=c
   have r:q.1.1<ts.length/\q.1.2.length<=256:=by
    split at ha
    .rename_i hc
     obtain rfl:=Sum.inr.inj ha
     exact⟨oE e F ac hc,t⟩
    obtain⟨U,K,V,S⟩:=YQ e M _ _ (p.1+1+1,p.2) q.1 q.2 F t ha
    exact⟨K,S⟩
   simp only[hr']
   obtain⟨o2,v,y⟩:=CQ (N:=N) (pr:=pr) (aV ts p.1) (3,0,0,(aV ts p.1).2.1,q.2) q.1 r.1 r.2
   simp only[v,j0]
   exact⟨_,rfl,y⟩
 have c4':dK ts 4 ⟨#[40]⟩ (p.1+1)=false:=A
 simp only[A,c4',j7,jE,kV,jJ]
 have u:=Nj (N:=N) (ts:=ts) (pr:=pr) (y1:=(gR ts pr p,aV ts p.1)) (y31:=(gR ts pr (p.1+1,p.2),(aV ts p.1).2.1)) (p:=(p.1+1,p.2)) H pr.length 0 N aa aa
 rw[show((0:Nat):Int)=0 from rfl] at u
 simp only[u,kP,gN]
 cases hi:pr.findIdx? (λx=>decide (x=(aV ts p.1).2.1)) with
 |none=>
  simp only[j0,pH]
  exact⟨_,rfl,wP (show(9:Int)≠0 by decide) g⟩
 |some j=>
  obtain⟨o2,v,y⟩:=CQ (N:=N) (pr:=pr) (aV ts p.1) (2,(j:Int),0,⟨#[]⟩,[]) (p.1+1,p.2) g t
  simp only[v,j0]
  exact⟨_,rfl,y⟩
end
section
variable {N:Nat} {ts:List cO} {pr:List BA} {E S:Ps->PM Nat} {d:Int}
variable {r r1 r2 r3 r4:RT->Int->Option (RT×Int)}
theorem Pr{L i:Nat}(h:nS ts L i≠0):(aV ts i).1=4:=by
 grind [nS,HZ,Ae]
theorem Rp{f:Int×RT->Option ((Int×RT)⊕(Int×RT))}{L:Nat}(t:OkT ts)(E:oH ts S)
  (k:∀p:Ps,p.1<ts.length->p.2.length<=256->∃o,r (gR ts pr p) d=some o/\iV ts pr (S p) o)
  (H:∀(z:cU) (i:Nat) (pr':List BA) (b:List Ex),z.2≠0->i<ts.length->∃v,r (bR ts z i pr' b) d=some (bR ts z i pr' b,v))
  (K:∀(z:cU) (i:Nat) (pr':List BA) (b:List Ex) (v:Int),z.2≠0->f (v,bR ts z i pr' b)=some (.inr (v,bR ts z i pr' b)))
  {n M x:Nat} {p:Ps} (G:p.1<ts.length) (l:p.2.length<=256) (Y:0<M) (V:L≠1) (u:nS ts L p.1≠0)
  (Z:∀(x:Nat) (q:Ps),q.1<ts.length->p.1<q.1->q.2.length<=256->x<q.2.length->∃o,aA f M ((x:Int),gR ts pr q)=some o/\iV ts pr (pL ts L S n x q) (o.2,o.1)):
  ∃o,((r (gR ts pr (p.1+1,p.2)) d).bind λA=>(mR N A.1 (4,0,nS ts L p.1,⟨#[]⟩,[(x:Int),A.2]) (aV ts p.1).2.2.2).bind λB=>aA f M (B.2,B.1))=some o/\iV ts pr (pL ts L S (n+1) x p) (o.2,o.1):=by
 have g:=t.next G (show(aV ts p.1).1≠5 by grind [Pr])
 obtain⟨o,F,a⟩:=k (p.1+1,p.2) g l
 obtain⟨M',rfl⟩:∃M',M=M'+1:=⟨M-1,by omega⟩
 have bad:∀(z:cU) (i:Nat) (pr':List BA) (b:List Ex) (v:Int),z.2≠0->aA f (M'+1) (v,bR ts z i pr' b)=some (v,bR ts z i pr' b):=by
  grind [aA]
 simp only[F,j0,pL]
 rw[jA u]
 cases h:S (p.1+1,p.2) with
 |inl z=>
  rw[h] at a
  obtain⟨y,i,pr',b,hi,e⟩:=a
  simp only[e,bZ]
  obtain⟨v,c⟩:=Oc (N:=N) (ts:=ts) (pr:=pr') (b:=b) (i:=i) y (4,0,nS ts L p.1,⟨#[]⟩,[(x:Int),o.2]) (aV ts p.1).2.2.2
  simp only[c,j0,bad _ _ _ _ _ y]
  grind [wP]
 |inr q=>
  rw[h] at a
  obtain⟨⟨R,y,D,e⟩,U⟩:=E (p.1+1,p.2) q.1 q.2 g l h
  have hr':o=(gR ts pr q.1,(q.2:Int)):=a
  simp only[hr',bZ]
  obtain⟨v,c⟩:=Pp (N:=N) (ts:=ts) (pr:=pr) (aV ts p.1) (4,0,nS ts L p.1,⟨#[]⟩,[(x:Int),(q.2:Int)]) q.1 e
  simp only[c,j0]
  cases hn:nO (aV ts p.1) (4,0,nS ts L p.1,⟨#[]⟩,[(x:Int),(q.2:Int)]) q.1 with
  |inl z=>
   grind [Po,wP]
  |inr s=>
   obtain⟨⟨k1,k2,k3,k4⟩,k5⟩:=AJ (ts:=ts) (p:=p) (r:=q.1) (by grind) y D e hn
   grind
theorem Rm{L n x:Nat}{p:Ps}(a:nS ts L p.1=0):iV ts pr (pL ts L S (n+1) x p) (gR ts pr p,(x:Int)):=by
 simp only[pL]
 rw[jB a]
 rfl
theorem ZO(z:cU)(i:Nat)(pr':List BA)(b:List Ex)(v:Int)(a:z.2≠0):vW N r d (v,bR ts z i pr' b)=some (.inr (v,bR ts z i pr' b)):=by
 grind [bR,vW]
theorem Ay(z:cU)(i:Nat)(pr':List BA)(b:List Ex)(v:Int)(a:z.2≠0):xQ N r d (v,bR ts z i pr' b)=some (.inr (v,bR ts z i pr' b)):=by
 grind [bR,xQ]
theorem Jd(A:OkT ts)(k:ts.length<1000000)(B:oH ts S)
  (y:∀p:Ps,p.1<ts.length->p.2.length<=256->∃o,r (gR ts pr p) d=some o/\iV ts pr (S p) o)
  (u:∀(z:cU) (i:Nat) (pr':List BA) (b:List Ex),z.2≠0->i<ts.length->∃v,r (bR ts z i pr' b) d=some (bR ts z i pr' b,v)):
  ∀(n M x:Nat) (p:Ps),p.1<ts.length->p.2.length<=256->x<p.2.length->ts.length<p.1+n->ts.length+1<p.1+M->
  ∃o,aA (vW N r d) M ((x:Int),gR ts pr p)=some o/\iV ts pr (pL ts 3 S n x p) (o.2,o.1)
 |0,M,x,p,c,_,_,h,_=>by omega
 |n+1,0,x,p,c,_,_,_,h=>by omega
 |n+1,M+1,x,p,c,G,V,U,R=>by
  have t:((gR ts pr p).2.2.2.1==0)=true:=rfl
  have H:∀(x:Nat) (q:Ps),q.1<ts.length->p.1<q.1->q.2.length<=256->x<q.2.length->∃o,aA (vW N r d) M ((x:Int),gR ts pr q)=some o/\iV ts pr (pL ts 3 S n x q) (o.2,o.1):=
   λx q E K a F=>Jd A k B y u n M x q E a F aa aa
  have go:=λD=>Rp (N:=N) (n:=n) (x:=x) A B y u (ZO (N:=N) (r:=r) (d:=d)) c G (show 0<M by omega) (show 3≠1 by decide) D H
  have a:=op_3 (ts:=ts) (i:=p.1)
  rcases eX (dK ts 4 ⟨#[42]⟩ p.1) with e|e
  .simp only[e,jJ] at a
   obtain⟨o,l,s⟩:=go (by rw[a];decide)
   refine⟨o,Eq.trans ?_ l,s⟩
   simp only[aA,vW,Prod.eta,t,jJ,mT p c,qF p c k,j0,e,a]
   grind
  rcases eX (dK ts 4 ⟨#[47]⟩ p.1) with f|f
  .simp only[e,f,jJ,j7,jE] at a
   obtain⟨o,l,s⟩:=go (by rw[a];decide)
   refine⟨o,Eq.trans ?_ l,s⟩
   simp only[aA,vW,Prod.eta,t,jJ,mT p c,qF p c k,j0,e,f,a,j7,jE]
   grind
  rcases eX (dK ts 4 ⟨#[37]⟩ p.1) with g|g
  .simp only[e,f,g,jJ,j7,jE] at a
   obtain⟨o,l,s⟩:=go (by rw[a];decide)
   refine⟨o,Eq.trans ?_ l,s⟩
   simp only[aA,vW,Prod.eta,t,jJ,mT p c,qF p c k,j0,e,f,g,a,j7,jE]
   grind
  simp only[e,f,g,j7,jE] at a
  simp only[aA,vW,Prod.eta,t,jJ,mT p c,qF p c k,j0,e,f,g,j7,jE]
  grind [Rm]
theorem Kx(s:OkT ts)(g:ts.length<1000000)(A:oH ts S)
  (l:∀p:Ps,p.1<ts.length->p.2.length<=256->∃o,r (gR ts pr p) d=some o/\iV ts pr (S p) o)
  (k:∀(z:cU) (i:Nat) (pr':List BA) (b:List Ex),z.2≠0->i<ts.length->∃v,r (bR ts z i pr' b) d=some (bR ts z i pr' b,v)):
  ∀(n M x:Nat) (p:Ps),p.1<ts.length->p.2.length<=256->x<p.2.length->ts.length<p.1+n->ts.length+1<p.1+M->
  ∃o,aA (xQ N r d) M ((x:Int),gR ts pr p)=some o/\iV ts pr (pL ts 2 S n x p) (o.2,o.1)
 |0,M,x,p,c,_,_,h,_=>by omega
 |n+1,0,x,p,c,_,_,_,h=>by omega
 |n+1,M+1,x,p,c,F,U,R,K=>by
  have t:((gR ts pr p).2.2.2.1==0)=true:=rfl
  have G:∀(x:Nat) (q:Ps),q.1<ts.length->p.1<q.1->q.2.length<=256->x<q.2.length->∃o,aA (xQ N r d) M ((x:Int),gR ts pr q)=some o/\iV ts pr (pL ts 2 S n x q) (o.2,o.1):=
   λx q D H a E=>Kx s g A l k n M x q D a E aa aa
  have go:=λB=>Rp (N:=N) (n:=n) (x:=x) s A l k (Ay (N:=N) (r:=r) (d:=d)) c F (show 0<M by omega) (show 2≠1 by decide) B G
  have a:=op_2 (ts:=ts) (i:=p.1)
  rcases eX (dK ts 4 ⟨#[43]⟩ p.1) with e|e
  .simp only[e,jJ] at a
   obtain⟨o,u,y⟩:=go (by rw[a];decide)
   refine⟨o,Eq.trans ?_ u,y⟩
   simp only[aA,xQ,Prod.eta,t,jJ,mT p c,qF p c g,j0,e,a]
   grind
  rcases eX (dK ts 4 ⟨#[45]⟩ p.1) with f|f
  .simp only[e,f,jJ,j7,jE] at a
   obtain⟨o,u,y⟩:=go (by rw[a];decide)
   refine⟨o,Eq.trans ?_ u,y⟩
   simp only[aA,xQ,Prod.eta,t,jJ,mT p c,qF p c g,j0,e,f,a,j7,jE]
   grind
  simp only[e,f,j7,jE] at a
  simp only[aA,xQ,Prod.eta,t,jJ,mT p c,qF p c g,j0,e,f,j7,jE]
  grind [Rm]
theorem qLi(g:OkT ts)(s:ts.length<1000000)(B:1000002<N)(e:oH ts S)
  (c:∀p:Ps,p.1<ts.length->p.2.length<=256->∃o,r1 (gR ts pr p) d=some o/\iV ts pr (S p) o)
  (h1b:∀(z:cU) (i:Nat) (pr':List BA) (b:List Ex),z.2≠0->i<ts.length->∃v,r1 (bR ts z i pr' b) d=some (bR ts z i pr' b,v))
  (p:Ps) (k:p.1<ts.length) (f:p.2.length<=256):∃o,EI N r1 r2 r3 r4 (gR ts pr p) d=some o/\iV ts pr (sD ts 3 S p) o:=by
 obtain⟨o,t,a⟩:=c p k f
 simp only[EI,Prod.eta,t,j0,sD]
 cases h:S p with
 |inl z=>
  rw[h] at a
  obtain⟨n,i,pr',b,hi,l⟩:=a
  obtain⟨M,rfl⟩:∃M,N=M+1:=⟨N-1,by omega⟩
  grind [bZ,aA,ZO]
 |inr q=>
  rw[h] at a
  obtain⟨⟨y,l,A,n⟩,r⟩:=e p q.1 q.2 k f h
  have hr':o=(gR ts pr q.1,(q.2:Int)):=a
  obtain⟨o2,u,x⟩:=Jd (N:=N) g s e c h1b (ts.length+1) N q.2 q.1 l n r aa aa
  grind [bZ]
theorem qHe(h1b:∀(z:cU) (i:Nat) (pr':List BA) (b:List Ex),z.2≠0->i<ts.length->∃v,r1 (bR ts z i pr' b) d=some (bR ts z i pr' b,v))(c:0<N)
  (z:cU) (i:Nat) (pr':List BA) (b:List Ex) (a:z.2≠0) (hi:i<ts.length):∃v,EI N r1 r2 r3 r4 (bR ts z i pr' b) d=some (bR ts z i pr' b,v):=by
 obtain⟨v,e⟩:=h1b z i pr' b a hi
 obtain⟨M,rfl⟩:∃M,N=M+1:=⟨N-1,by omega⟩
 grind [EI,aA,ZO]
theorem rsum(g:OkT ts)(s:ts.length<1000000)(B:1000002<N)(e:oH ts S)
  (c:∀p:Ps,p.1<ts.length->p.2.length<=256->∃o,r2 (gR ts pr p) d=some o/\iV ts pr (S p) o)
  (h2b:∀(z:cU) (i:Nat) (pr':List BA) (b:List Ex),z.2≠0->i<ts.length->∃v,r2 (bR ts z i pr' b) d=some (bR ts z i pr' b,v))
  (p:Ps) (k:p.1<ts.length) (f:p.2.length<=256):∃o,EJ N r1 r2 r3 r4 (gR ts pr p) d=some o/\iV ts pr (sD ts 2 S p) o:=by
 obtain⟨o,t,a⟩:=c p k f
 simp only[EJ,Prod.eta,t,j0,sD]
 cases h:S p with
 |inl z=>
  rw[h] at a
  obtain⟨n,i,pr',b,hi,l⟩:=a
  obtain⟨M,rfl⟩:∃M,N=M+1:=⟨N-1,by omega⟩
  grind [bZ,aA,Ay]
 |inr q=>
  rw[h] at a
  obtain⟨⟨y,l,A,n⟩,r⟩:=e p q.1 q.2 k f h
  have hr':o=(gR ts pr q.1,(q.2:Int)):=a
  obtain⟨o2,u,x⟩:=Kx (N:=N) g s e c h2b (ts.length+1) N q.2 q.1 l n r aa aa
  grind [bZ]
theorem qJk(h2b:∀(z:cU) (i:Nat) (pr':List BA) (b:List Ex),z.2≠0->i<ts.length->∃v,r2 (bR ts z i pr' b) d=some (bR ts z i pr' b,v))(c:0<N)
  (z:cU) (i:Nat) (pr':List BA) (b:List Ex) (a:z.2≠0) (hi:i<ts.length):∃v,EJ N r1 r2 r3 r4 (bR ts z i pr' b) d=some (bR ts z i pr' b,v):=by
 obtain⟨v,e⟩:=h2b z i pr' b a hi
 obtain⟨M,rfl⟩:∃M,N=M+1:=⟨N-1,by omega⟩
 grind [EJ,aA,Ay]
theorem qGx(z:cU)(i:Nat)(pr':List BA)(b:List Ex)(a:z.2≠0)(hi:i<ts.length):zN N r1 r2 r3 r4 (bR ts z i pr' b) d=some (bR ts z i pr' b,0):=by
 grind [bR,zN,sF,sV]
theorem qGw(c:d>32)(p:Ps)(a:p.1<ts.length):∃o,zN N r1 r2 r3 r4 (gR ts pr p) d=some o/\iV ts pr (iM ts pr 0 p) o:=by
 have hd':decide (d>32)=true:=by simpa using c
 simp only[zN,Prod.eta,mT p a,j0,hd',jJ,pH]
 have b:((bR ts ((aV ts p.1).2.2.2,2) p.1 pr p.2).2.2.2.1 !=0)=true:=by rfl
 simp only[b,jJ]
 exact⟨_,rfl,wP (show(2:Int)≠0 by decide) a⟩
theorem qLt{k:Nat}(t:OkT ts)(M:ts.length<1000000)(hd:d+k=32)(R:oH ts (iM ts pr k))(hS:oH ts (zB ts pr (iM ts pr k)))
  (G:∀p:Ps,p.1<ts.length->p.2.length<=256->∃o,r4 (gR ts pr p) (wI (d+1))=some o/\iV ts pr (iM ts pr k p) o)
  (s:∀(z:cU) (i:Nat) (pr':List BA) (b:List Ex),z.2≠0->i<ts.length->∃v,r4 (bR ts z i pr' b) (wI (d+1))=some (bR ts z i pr' b,v))
  (Z:∀p:Ps,p.1<ts.length->p.2.length<=256->∃o,r3 (gR ts pr p) d=some o/\iV ts pr (zB ts pr (iM ts pr k) p) o)
  (h3b:∀(z:cU) (i:Nat) (pr':List BA) (b:List Ex),z.2≠0->i<ts.length->∃v,r3 (bR ts z i pr' b) d=some (bR ts z i pr' b,v))
  (p:Ps) (H:p.1<ts.length) (K:p.2.length<=256):∃o,zN N r1 r2 r3 r4 (gR ts pr p) d=some o/\iV ts pr (iM ts pr (k+1) p) o:=by
 have hd':decide (d>32)=false:=kC aa
 have g0:((gR ts pr p).2.2.2.1 !=0)=false:=rfl
 simp only[zN,Prod.eta,mT p H,j0,hd',j7,jE,g0,rM p H M,iM]
 rcases eX (dK ts 1 sIf p.1) with l|l
 rotate_left
 .have c1':dK ts 1 ⟨#[105,102]⟩ p.1=false:=l
  simp only[l,c1',j7,jE]
  obtain⟨o,V,u⟩:=Z p H K
  simp only[V,j0,ZX,sD]
  cases h:zB ts pr (iM ts pr k) p with
  |inl z=>
   rw[h] at u
   obtain⟨e,i,pr',b,hi,f⟩:=u
   grind [sF,UE,bZ]
  |inr q=>
   rw[h] at u
   obtain⟨⟨f1,B,f3,D⟩,f5⟩:=hS p q.1 q.2 H K h
   have hr':o=(gR ts pr q.1,(q.2:Int)):=u
   simp only[hr',mT q.1 B,qF q.1 B M,j0,bZ,pL]
   have go:∀op,op≠0->nS ts 1 q.1.1=op->∃o,((r3 (gR ts pr (q.1.1+1,q.1.2)) d).bind λA=>(mR N A.1 (4,0,op,⟨#[]⟩,[(q.2:Int),A.2]) (aV ts q.1.1).2.2.2).bind λU=>some U)=some o/\
     iV ts pr (if nS ts 1 q.1.1=0 then .inr (q.1,q.2) else bZ (zB ts pr (iM ts pr k) (q.1.1+1,q.1.2)) λa=>bZ (nO (aV ts q.1.1) (4,0,nS ts 1 q.1.1,⟨#[]⟩,[(q.2:Int),(a.2:Int)]) a.1) λr=> .inr r) o:=by
    intro op E S
    have g:=t.next B (show(aV ts q.1.1).1≠5 by grind [Pr])
    obtain⟨o2,F,n⟩:=Z (q.1.1+1,q.1.2) g D
    rw[S,jA E]
    simp only[F,j0,qV]
    cases h2:zB ts pr (iM ts pr k) (q.1.1+1,q.1.2) with
    |inl z=>
     rw[h2] at n
     obtain⟨e,i,pr',b,hi,f⟩:=n
     simp only[f,bZ]
     exact GT e hi _ _
    |inr a=>
     rw[h2] at n
     obtain⟨⟨j1,Y,j3,j4⟩,j5⟩:=hS (q.1.1+1,q.1.2) a.1 a.2 g D h2
     have hr2':o2=(gR ts pr a.1,(a.2:Int)):=n
     simp only[hr2',bZ]
     obtain⟨o3,a0,a6⟩:=CQ (N:=N) (pr:=pr) (aV ts q.1.1) (4,0,op,⟨#[]⟩,[(q.2:Int),(a.2:Int)]) a.1 Y j4
     grind
   grind [op_1,bZ,qF]
 have c1':dK ts 1 ⟨#[105,102]⟩ p.1=true:=l
 have g:=oE t H ac l
 simp only[l,c1',jJ]
 -- behind an error
 have badN:∀{z:cU} {i:Nat} {pr':List BA} {b:List Ex} (x y w:Int),z.2≠0->i<ts.length->∃o,((mR N (bR ts z i pr' b) (5,0,0,⟨#[]⟩,[x,y,w]) (aV ts p.1).2.2.2).bind λb0=>some b0)=some o/\iV ts pr (.inl z) o:=by
  intro z i pr' b x y w e hi
  simp only[qV]
  exact GT e hi _ _
 have nf:∀b:Bool,(if(!b)then(0:Nat) else 1)=if b then 1 else 0:=by grind
 obtain⟨oa,a6,u⟩:=G (p.1+1,p.2) g K
 simp only[a6,j0]
 cases ha:iM ts pr k (p.1+1,p.2) with
 |inl z=>
  rw[ha] at u
  obtain⟨e,i,pr',b,hi,f⟩:=u
  obtain⟨v,n⟩:=s z i pr' b e hi
  simp only[f,As e,j0,kV,jJ,sF hi,sV e,n,bZ]
  exact badN _ _ _ e hi
 |inr a=>
  rw[ha] at u
  obtain⟨⟨a1,B,a3,S⟩,a5⟩:=R (p.1+1,p.2) a.1 a.2 g K ha
  have hra':oa=(gR ts pr a.1,(a.2:Int)):=u
  have a9:yQ ts Bt a.1.1=if dK ts 1 ⟨#[116,104,101,110]⟩ a.1.1 then .inr (a.1.1+1) else eR (aV ts a.1.1) 9:=rfl
  simp only[hra',rM a.1 B M,j0,bZ,a9]
  rcases eX (dK ts 1 ⟨#[116,104,101,110]⟩ a.1.1) with D|D
  rotate_left
  .have e:(((aV ts a.1.1).2.2.2,(9:Int)):cU).2≠0:=show(9:Int)≠0 by decide
   obtain⟨v,n⟩:=s ((aV ts a.1.1).2.2.2,9) a.1.1 pr a.1.2 e B
   simp only[D,j7,jE,kV,jJ,mT a.1 B,pH,j0,n,As e,sF B,sV e,eR]
   exact badN _ _ _ e B
  have V:=oE t B ac D
  obtain⟨ob,a7,A⟩:=G (a.1.1+1,a.1.2) V S
  simp only[D,jJ,kK,j7,jE,j0,a7]
  cases hb1:iM ts pr k (a.1.1+1,a.1.2) with
  |inl z=>
   rw[hb1] at A
   obtain⟨e,i,pr',b,hi,f⟩:=A
   obtain⟨v,n⟩:=s z i pr' b e hi
   simp only[f,As e,j0,kV,jJ,sF hi,sV e,n]
   exact badN _ _ _ e hi
  |inr b=>
   rw[hb1] at A
   obtain⟨⟨b1,E,b3,U⟩,b5⟩:=R (a.1.1+1,a.1.2) b.1 b.2 V S hb1
   have hrb':ob=(gR ts pr b.1,(b.2:Int)):=A
   have a0:yQ ts Bv b.1.1=if dK ts 1 ⟨#[101,108,115,101]⟩ b.1.1 then .inr (b.1.1+1) else eR (aV ts b.1.1) 9:=rfl
   simp only[hrb',rM b.1 E M,j0,a0]
   rcases eX (dK ts 1 ⟨#[101,108,115,101]⟩ b.1.1) with F|F
   rotate_left
   .have e:(((aV ts b.1.1).2.2.2,(9:Int)):cU).2≠0:=show(9:Int)≠0 by decide
    obtain⟨v,n⟩:=s ((aV ts b.1.1).2.2.2,9) b.1.1 pr b.1.2 e E
    simp only[F,j7,jE,kV,jJ,mT b.1 E,pH,j0,n,eR]
    exact badN _ _ _ e E
   have Y:=oE t E ac F
   obtain⟨oc,a8,n⟩:=G (b.1.1+1,b.1.2) Y U
   simp only[F,jJ,kK,j7,jE,j0,a8]
   cases hc1:iM ts pr k (b.1.1+1,b.1.2) with
   |inl z=>
    rw[hc1] at n
    obtain⟨e,i,pr',b',hi,f⟩:=n
    simp only[f]
    exact badN _ _ _ e hi
   |inr c=>
    rw[hc1] at n
    obtain⟨⟨l,D,F,e⟩,f⟩:=R (b.1.1+1,b.1.2) c.1 c.2 Y U hc1
    have hrc':oc=(gR ts pr c.1,(c.2:Int)):=n
    simp only[hrc',qV]
    exact CQ (N:=N) (pr:=pr) (aV ts p.1) (5,0,0,⟨#[]⟩,[(a.2:Int),(b.2:Int),(c.2:Int)]) c.1 D e
theorem Af(D:Nat)(c:1<=D)(d:Int)(z:cU)(i:Nat)(pr':List BA)(b:List Ex)(a:z.2≠0)(hi:i<ts.length):∃v,(iR N D).2.2.2 (bR ts z i pr' b) d=some (bR ts z i pr' b,v):=by
 obtain⟨D',rfl⟩:∃D',D=D'+1:=⟨D-1,by omega⟩
 simp only[iR]
 exact⟨_,qGx z i pr' b a hi⟩
theorem Jc(D:Nat)(c:1<=D)(d:Int)(z:cU)(i:Nat)(pr':List BA)(b:List Ex)(a:z.2≠0)(hi:i<ts.length):∃v,(iR N D).1 (bR ts z i pr' b) d=some (bR ts z i pr' b,v):=by
 obtain⟨D',rfl⟩:∃D',D=D'+1:=⟨D-1,by omega⟩
 simp only[iR]
 exact⟨_,qDn a hi⟩
theorem Na(c:0<N)(D:Nat)(e:2<=D)(d:Int)(z:cU)(i:Nat)(pr':List BA)(b:List Ex)(a:z.2≠0)(hi:i<ts.length):∃v,(iR N D).2.1 (bR ts z i pr' b) d=some (bR ts z i pr' b,v):=by
 obtain⟨D',rfl⟩:∃D',D=D'+1:=⟨D-1,by omega⟩
 simp only[iR]
 exact qHe (λz i pr' b a hi=>Jc D' aa d z i pr' b a hi) c z i pr' b a hi
theorem qIh(c:0<N)(D:Nat)(e:3<=D)(d:Int)(z:cU)(i:Nat)(pr':List BA)(b:List Ex)(a:z.2≠0)(hi:i<ts.length):∃v,(iR N D).2.2.1 (bR ts z i pr' b) d=some (bR ts z i pr' b,v):=by
 obtain⟨D',rfl⟩:∃D',D=D'+1:=⟨D-1,by omega⟩
 simp only[iR]
 exact qJk (λz i pr' b a hi=>Na c D' aa d z i pr' b a hi) c z i pr' b a hi
theorem Pw(a:OkT ts)(g:ts.length<1000000)(n:pr.length<1000)(l:1000002<N):∀(k D:Nat),k<=32->4*k+1<=D->∀p:Ps,p.1<ts.length->p.2.length<=256->
  ∃o,(iR N D).2.2.2 (gR ts pr p) (33-(k:Int))=some o/\iV ts pr (iM ts pr k p) o
 |0,0,_,h,_,_,_=>by omega
 |0,D+1,_,_,p,c,_=>by simp only[iR];exact qGw aa p c
 |k+1,D,A,f,p,c,d=>by
  have q:=AH (ts:=ts) (params:=pr) a k
  have s:=Gm (params:=pr) a q
  have t:oH ts (UZ ts pr (iM ts pr k)):=MU a s
  have y:oH ts (zB ts pr (iM ts pr k)):=MU a t
  have r:∀D,4*k+1<=D->∀p:Ps,p.1<ts.length->p.2.length<=256->∃o,(iR N D).2.2.2 (gR ts pr p) (wI (32-(k:Int)+1))=some o/\iV ts pr (iM ts pr k p) o:=by
   intro D f p c d
   rw[bA aa aa,show 32-(k:Int)+1=33-(k:Int) by omega]
   exact Pw a g n l k D aa f p c d
  have u:∀D,4*k+2<=D->∀p:Ps,p.1<ts.length->p.2.length<=256->∃o,(iR N D).1 (gR ts pr p) (32-(k:Int))=some o/\iV ts pr (sU ts pr (iM ts pr k) p) o:=by
   intro D f p c d
   obtain⟨D',rfl⟩:∃D',D=D'+1:=⟨D-1,by omega⟩
   simp only[iR]
   exact qGd (r D' aa) (λz i pr' b e hi=>Af D' aa _ z i pr' b e hi) a g n l q p c d
  have v:∀D,4*k+3<=D->∀p:Ps,p.1<ts.length->p.2.length<=256->∃o,(iR N D).2.1 (gR ts pr p) (32-(k:Int))=some o/\iV ts pr (UZ ts pr (iM ts pr k) p) o:=by
   intro D f p c d
   obtain⟨D',rfl⟩:∃D',D=D'+1:=⟨D-1,by omega⟩
   simp only[iR]
   exact qLi a g l s (u D' aa) (λz i pr' b e hi=>Jc D' aa _ z i pr' b e hi) p c d
  have x:∀D,4*k+4<=D->∀p:Ps,p.1<ts.length->p.2.length<=256->∃o,(iR N D).2.2.1 (gR ts pr p) (32-(k:Int))=some o/\iV ts pr (zB ts pr (iM ts pr k) p) o:=by
   intro D f p c d
   obtain⟨D',rfl⟩:∃D',D=D'+1:=⟨D-1,by omega⟩
   simp only[iR]
   exact rsum a g l t (v D' aa) (λz i pr' b e hi=>Na aa D' aa _ z i pr' b e hi) p c d
  obtain⟨D',rfl⟩:∃D',D=D'+1:=⟨D-1,by omega⟩
  rw[show(33:Int)-((k+1:Nat):Int)=32-(k:Int) by omega]
  simp only[iR]
  exact qLt a g aa q y (r D' aa) (λz i pr' b e hi=>Af D' aa _ z i pr' b e hi) (x D' aa) (λz i pr' b e hi=>qIh aa D' aa _ z i pr' b e hi) p c d
theorem qFh(a:OkT ts)(e:ts.length<1000000)(b:pr.length<1000)(c:1000002<N)(p:Ps)(f:p.1<ts.length)(d:p.2.length<=256):
 ∃o,zO N (gR ts pr p) 1=some o/\iV ts pr (iM ts pr 32 p) o:=Pw a e b c 32 N aa aa p f d
theorem YJ(a:1<=N)(z:cU)(i:Nat)(pr':List BA)(b:List Ex)(c:z.2≠0)(hi:i<ts.length):∃v,zO N (bR ts z i pr' b) 1=some (bR ts z i pr' b,v):=Af N a 1 z i pr' b c hi
abbrev RL:=List cO×Int×Int×Int×List BA×List Ex×List Int×List BA
def cN(st:RT)(l:List BA):RL:=(st.1,st.2.1,st.2.2.1,st.2.2.2.1,st.2.2.2.2.1,st.2.2.2.2.2.1,st.2.2.2.2.2.2,l)
def OE(ts:List cO)(n:Nat)(l:List BA)(i:Nat):cU⊕(Nat×List BA):=
 if dK ts 4 sX i then wN ts n l (i+1) else bZ (eN ts nF i) λj=> .inr (j,l)
theorem qAn(n:Nat)(l:List BA)(i:Nat):wN ts (n+1) l i=bZ (oM ts i) λa=>if l.length=8 then eR a.2 2 else if a.2.2.1∈l then eR a.2 10 else OE ts n (l++[a.2.2.1]) a.1:=rfl
def HU(ts:List cO)(pr:List BA)(b:List Ex)(r:cU⊕(Nat×List BA))(o:RL):Prop:=
 match r with
 | .inl z=>∃st l,uK ts z st/\o=cN st l
 | .inr q=>o=cN (gR ts pr (q.1,b)) q.2
theorem MQ{z:cU}{i:Nat}{pr':List BA}{b:List Ex}(a:z.2≠0)(M:Nat)(l:List BA):aA (qW N) (M+1) (cN (bR ts z i pr' b) l)=some (cN (bR ts z i pr' b) l):=by
 grind [cN,bR,aA,qW]
theorem It(A:ts.length<1000000)(E:1000002<N){i:Nat}{b:List Ex}{l:List BA}(hi:i<ts.length)(D:l.length<=8){G:RL->Option RL}{n:Nat}
  (e:∀(z:cU) (i:Nat) (pr':List BA) (b:List Ex) (l:List BA),z.2≠0->G (cN (bR ts z i pr' b) l)=some (cN (bR ts z i pr' b) l))
  (u:OkT ts)
  (B:∀(s:BA),i+1<ts.length->l.length<8->∃o,G (cN (gR ts pr (i+1,b)) (l++[s]))=some o/\HU ts pr b (OE ts n (l++[s]) (i+1)) o):
  ∃o,((iS N (gR ts pr (i,b))).bind λk=>(oJ N k.1).bind λd=>(if((l.length:Int)==8)then((iW N d.1 k.2.2.2.2 2).bind λv=>some v) else(some d.1):Option RT).bind λr=>(rJ N l d.2).bind λp=>(if p then((iW N r k.2.2.2.2 10).bind λy=>some y) else(some r):Option RT).bind λh=>(dS 16 l ([d.2])).bind λt=>G (cN h t))=some o/\
   HU ts pr b (wN ts (n+1) l i) o:=by
 rw[qAn]
 simp only[mT (i,b) hi,j0,HH (i,b) hi A (by omega:100<N),qV]
 have c:∀s:BA,dS 16 l [s]=some (l++[s]):=λs=>eT (by grind) aa
 have f:∀s,rJ N l s=some (decide (s∈l)):=λs=>OQ aa aa
 -- behind an error
 have q:∀(z:cU) (i:Nat) (pr':List BA) (b':List Ex) (s:BA) (a:Int),z.2≠0->i<ts.length->∃o,((rJ N l s).bind λp=>(if p then iW N (bR ts z i pr' b') a 10 else(some (bR ts z i pr' b')):Option RT).bind λh=>(dS 16 l ([s])).bind λt=>G (cN h t))=some o/\HU ts pr b (.inl z) o:=by
  intro z i pr' b' s a g hi
  simp only[f,j0,sV g]
  have:((if decide (s∈l)then some (bR ts z i pr' b') else some (bR ts z i pr' b')):Option RT)=some (bR ts z i pr' b'):=by split<;>rfl
  simp only[this,j0,c,e _ _ _ _ _ g]
  exact⟨_,rfl,bR ts z i pr' b',_,⟨g,i,pr',b',hi,rfl⟩,rfl⟩
 cases hx:oM ts i with
 |inl z=>
  have g:=UB hx
  have:((if((l.length:Int)==8)then iW N (bR ts z i pr b) (aV ts i).2.2.2 2 else some (bR ts z i pr b)):Option RT)=some (bR ts z i pr b):=by
   grind [sV]
  simp only[this,j0,bZ]
  exact q z i pr b _ _ g hi
 |inr x=>
  obtain⟨rfl,g,-⟩:=wL u hi hx
  simp only[bZ]
  by_cases k1:l.length=8
  .have k1':((l.length:Int)==8)=true:=by simp;omega
   rw[jB k1]
   simp only[k1',jJ,pH,j0,eR]
   exact q _ _ _ _ _ _ (show(2:Int)≠0 by decide) g
  have k1':((l.length:Int)==8)=false:=by simp;omega
  rw[jA k1]
  simp only[k1',j7,jE,j0,f]
  by_cases k2:(aV ts i).2.1∈l
  .rw[jB k2]
   simp only[kE k2,jJ,pH,j0,c,eR]
   refine⟨_,e _ _ _ _ _ (show(10:Int)≠0 by decide),bR ts ((aV ts i).2.2.2,10) (i+1) pr b,_,⟨show(10:Int)≠0 by decide,i+1,pr,b,g,rfl⟩,rfl⟩
  rw[jA k2]
  simp only[kC k2,j7,jE,j0,c]
  exact B _ g aa
theorem Yy(x:1000002<N){b:List Ex}{l:List BA}(v:l.length<=8){G:RL->Option RL}
  (g:∀(z:cU) (i:Nat) (pr':List BA) (b:List Ex) (l:List BA),z.2≠0->G (cN (bR ts z i pr' b) l)=some (cN (bR ts z i pr' b) l))
  {z:cU} {i:Nat} {pr':List BA} {b':List Ex} (d:z.2≠0) (hi:i<ts.length):
  ∃o,((iS N (bR ts z i pr' b')).bind λc=>(oJ N c.1).bind λa=>(if((l.length:Int)==8)then((iW N a.1 c.2.2.2.2 2).bind λn=>some n) else(some a.1):Option RT).bind λe=>(rJ N l a.2).bind λp=>(if p then((iW N e c.2.2.2.2 10).bind λq=>some q) else(some e):Option RT).bind λk=>(dS 16 l ([a.2])).bind λu=>G (cN k u))=some o/\
   HU ts pr b (.inl z) o:=by
 have f:∀s:BA,dS 16 l [s]=some (l++[s]):=λs=>eT (by grind) aa
 have h:∀s,rJ N l s=some (decide (s∈l)):=λs=>OQ aa aa
 have r:((if((l.length:Int)==8)then some (bR ts z i pr' b') else some (bR ts z i pr' b')):Option RT)=some (bR ts z i pr' b'):=by split<;>rfl
 have t:((if decide ((⟨#[]⟩:BA)∈l)then some (bR ts z i pr' b') else some (bR ts z i pr' b')):Option RT)=some (bR ts z i pr' b'):=by split<;>rfl
 simp only[sF hi,j0,UD d hi,qV,sV d,r,h,t,f,g _ _ _ _ _ d]
 exact⟨_,rfl,bR ts z i pr' b',_,⟨d,i,pr',b',hi,rfl⟩,rfl⟩
theorem Ge(c:OkT ts)(e:ts.length<1000000)(k:1000002<N){b:List Ex}:∀(n M:Nat) (l:List BA) (i:Nat),l≠[]->i<ts.length->l.length<=8->ts.length<i+n->ts.length+2<i+M->
  ∃o,aA (qW N) M (cN (gR ts pr (i,b)) l)=some o/\HU ts pr b (OE ts n l i) o
 |0,M,l,i,_,hi,_,h,_=>by omega
 |n+1,0,l,i,_,hi,_,_,h=>by omega
 |n+1,M+1,l,i,D,hi,f,H,F=>by
  have A:=qF (N:=N) (pr:=pr) (i,b) hi e ⟨#[41]⟩
  have q:decide ((l.length:Int)>0)=true:=by
   grind [List.length_pos_iff]
  have x:((cN (gR ts pr (i,b)) l).2.2.2.1==0)=true:=rfl
  have u:∀st:RT,∀l,((cN st l).1,(cN st l).2.1,(cN st l).2.2.1,(cN st l).2.2.2.1,(cN st l).2.2.2.2.1,(cN st l).2.2.2.2.2.1,(cN st l).2.2.2.2.2.2.1)=st:=λ_ _=>rfl
  have v:∀st:RT,∀l,(cN st l).2.2.2.2.2.2.2=l:=λ_ _=>rfl
  simp only[aA,qW,x,jJ,u,v,A,j0,q]
  rcases eX (dK ts 4 ⟨#[41]⟩ i) with d|d
  .simp only[d,jJ,kK,j7,jE]
   refine⟨_,rfl,?_⟩
   have a:dK ts 4 sX i=false:=by
    grind [dK,sX]
   have p:eN ts nF i= .inr (i+1):=by grind [eN,nF]
   simp only[OE,a,j7,jE,p,bZ]
   rfl
  have t:dK ts 4 sX i=dK ts 4 ⟨#[44]⟩ i:=rfl
  simp only[d,j7,jE,kV,jJ,Prod.eta,sS (i,b) hi e,j0,OE,t,eN]
  rcases eX (dK ts 4 ⟨#[44]⟩ i) with a|a
  .have g:=oE c hi ac a
   simp only[a,jJ]
   obtain⟨o,p,r⟩:=It (N:=N) (pr:=pr) (b:=b) (l:=l) (n:=n) (G:=aA (qW N) M) e k g f (λz i pr' b l B=>by
    obtain⟨M',rfl⟩:∃M',M=M'+1:=⟨M-1,by omega⟩
    grind [MQ]) c (λs y E=>Ge c e k n M (l++[s]) (i+1+1) ad y (by grind) aa aa)
   refine⟨o,Eq.trans ?_ p,r⟩
   simp only[fA,j0]
   rfl
  have c1':dK ts 4 nF i=false:=d
  simp only[a,c1',j7,jE,eR,bZ]
  obtain⟨o,p,r⟩:=Yy (N:=N) (pr:=pr) (b:=b) (l:=l) (z:=((aV ts i).2.2.2,9)) (i:=i) (pr':=pr) (b':=b) (G:=aA (qW N) M) k f (λz i pr' b l B=>by
   obtain⟨M',rfl⟩:∃M',M=M'+1:=⟨M-1,by omega⟩
   grind [MQ]) (show(9:Int)≠0 by decide) hi
  refine⟨o,Eq.trans ?_ p,r⟩
  simp only[fA,j0]
  rfl
theorem qGm(a:OkT ts)(d:ts.length<1000000)(u:1000005<N){b:List Ex}(i:Nat)(hi:i<ts.length):
  ∃o,aA (qW N) N (cN (gR ts pr (i,b)) [])=some o/\HU ts pr b (if dK ts 4 nF i then .inr (i+1,[]) else wN ts (ts.length+1) [] i) o:=by
 obtain⟨M,hM⟩:∃M,N=M+1:=⟨N-1,by omega⟩
 have r:=qF (N:=N) (pr:=pr) (i,b) hi d ⟨#[41]⟩
 have h:((cN (gR ts pr (i,b)) []).2.2.2.1==0)=true:=rfl
 have e:decide ((([]:List BA).length:Int)>0)=false:=rfl
 have f:∀st:RT,∀l,((cN st l).1,(cN st l).2.1,(cN st l).2.2.1,(cN st l).2.2.2.1,(cN st l).2.2.2.2.1,(cN st l).2.2.2.2.2.1,(cN st l).2.2.2.2.2.2.1)=st:=λ_ _=>rfl
 have g:∀st:RT,∀l,(cN st l).2.2.2.2.2.2.2=l:=λ_ _=>rfl
 have e0:aA (qW N) N (cN (gR ts pr (i,b)) [])=aA (qW N) (M+1) (cN (gR ts pr (i,b)) []):=by rw[<-hM]
 rw[e0]
 simp only[aA,qW,h,jJ,f,g,r,j0,e,nF]
 rcases eX (dK ts 4 ⟨#[41]⟩ i) with c|c
 .simp only[c,jJ,kK,j7,jE]
  exact⟨_,rfl,rfl⟩
 simp only[c,j7,jE,kV,jJ,Prod.eta,j0]
 obtain⟨o,p,q⟩:=It (N:=N) (pr:=pr) (b:=b) (l:=[]) (n:=ts.length) (G:=aA (qW N) M) d aa hi ad (λz i pr' b l v=>by
  obtain⟨M',rfl⟩:∃M',M=M'+1:=⟨M-1,by omega⟩
  grind [MQ]) a (λs k t=>Ge a d aa ts.length M ([]++[s]) (i+1) ad k ad aa aa)
 refine⟨o,Eq.trans ?_ p,q⟩
 simp only[fA,j0]
 rfl
end
end
end Go.Proofs.YtgboehjfofcogaaGreatDoor
