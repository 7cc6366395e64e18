/- No condition but those of each theorem. -/
import Derived.Test.YtndcdhopdbkikabGreatDoorK3e9
namespace Go.Proofs.YtndcdhopdbkikabGreatDoor
section
open Go Go.Dc Go.Proofs.Tryz
set_option maxHeartbeats 4000000
set_option maxRecDepth 100000
variable {N bp0 c1 c2 c3 c4 c5 c6 c7 c8 c9:Nat} {m:Mem} {O:List Piece} {w:World} {a1 a2 a3 a4 a5 a6 a7 a8 a9:Option Addr}
def QQ(N:Nat)(Re:dV->eR->(Int)->iM)(Rf:dV->mQ->Te->iM)(Rg:dV->eR->dZ->iM)(Rh:dV->eR->dZ->iM)(Ri:dV->eR->dZ->iM)(Rj:dV->eR->dZ->iM)(p0:dV)(p1:eR)(p2:Int):iM:=
 (wU N (p0.2.2.2.2.1==20000) 16).bind λy1=>(match y1 with| .inl a=>some (.inl (a,(p0.2.2.2.1,p0.2.2.2.2.1,p0.2.2.2.2.2.1,p0.2.2.2.2.2.2.1)))| .inr a=>(bC p1.2.1.2.2.2 p2).bind λa=>(((cR p0.2.2.2.2.2.2.2 a.1).getD (none:eM))).bind λb=>((if b=54 then QO N (p0.1,p0.2.1,p0.2.2.1,p0.2.2.2.1,wI (p0.2.2.2.2.1+1),p0.2.2.2.2.2.1,p0.2.2.2.2.2.2.1,p0.2.2.2.2.2.2.2) (p1.1,p1.2.1,p1.2.2) a else(if b=55 then FP N (p0.1,p0.2.1,p0.2.2.1,p0.2.2.2.1,wI (p0.2.2.2.2.1+1),p0.2.2.2.2.2.1,p0.2.2.2.2.2.2.1,p0.2.2.2.2.2.2.2) (p1.1,p1.2.1,p1.2.2) a else(if b=56 then Rg (p0.1,p0.2.1,p0.2.2.1,p0.2.2.2.1,wI (p0.2.2.2.2.1+1),p0.2.2.2.2.2.1,p0.2.2.2.2.2.2.1,p0.2.2.2.2.2.2.2) (p1.1,p1.2.1,p1.2.2) a else(if b=57 then Rh (p0.1,p0.2.1,p0.2.2.1,p0.2.2.2.1,wI (p0.2.2.2.2.1+1),p0.2.2.2.2.2.1,p0.2.2.2.2.2.2.1,p0.2.2.2.2.2.2.2) (p1.1,p1.2.1,p1.2.2) a else(if b=58 then Ri (p0.1,p0.2.1,p0.2.2.1,p0.2.2.2.1,wI (p0.2.2.2.2.1+1),p0.2.2.2.2.2.1,p0.2.2.2.2.2.2.1,p0.2.2.2.2.2.2.2) (p1.1,p1.2.1,p1.2.2) a else(if b=59 then Rj (p0.1,p0.2.1,p0.2.2.1,p0.2.2.2.1,wI (p0.2.2.2.2.1+1),p0.2.2.2.2.2.1,p0.2.2.2.2.2.2.1,p0.2.2.2.2.2.2.2) (p1.1,p1.2.1,p1.2.2) a else(if b=60 then FU N (p0.1,p0.2.1,p0.2.2.1,p0.2.2.2.1,wI (p0.2.2.2.2.1+1),p0.2.2.2.2.2.1,p0.2.2.2.2.2.2.1,p0.2.2.2.2.2.2.2) (p1.1,p1.2.1,p1.2.2) a else(if b=61 then GG N (p0.1,p0.2.1,p0.2.2.1,p0.2.2.2.1,wI (p0.2.2.2.2.1+1),p0.2.2.2.2.2.1,p0.2.2.2.2.2.2.1,p0.2.2.2.2.2.2.2) (p1.1,p1.2.1,p1.2.2) a else(if b=62 then EZ N (p0.1,p0.2.1,p0.2.2.1,p0.2.2.2.1,wI (p0.2.2.2.2.1+1),p0.2.2.2.2.2.1,p0.2.2.2.2.2.2.1,p0.2.2.2.2.2.2.2) (p1.1,p1.2.1,p1.2.2) a else(if b=63 then FX N (p0.1,p0.2.1,p0.2.2.1,p0.2.2.2.1,wI (p0.2.2.2.2.1+1),p0.2.2.2.2.2.1,p0.2.2.2.2.2.2.1,p0.2.2.2.2.2.2.2) (p1.1,p1.2.1,p1.2.2) a else none)))))))))):iM).bind λa=>(match a with| .inl a=>some (.inl (a.1,a.2))| .inr a=>some (.inr (a.1,a.2))))
def FJ(N:Nat)(Re:dV->eR->(Int)->iM)(Rf:dV->mQ->Te->iM)(Rg:dV->eR->dZ->iM)(Rh:dV->eR->dZ->iM)(Ri:dV->eR->dZ->iM)(Rj:dV->eR->dZ->iM)(p0:dV)(p1:mQ)(p2:Te):iM:=
 (wU N (p0.2.2.2.2.2.1==64) 17).bind λy1=>(match y1 with| .inl a=>some (.inl (a,(p0.2.2.2.1,p0.2.2.2.2.1,p0.2.2.2.2.2.1,p0.2.2.2.2.2.2.1)))| .inr a=>(bC (((cR p0.1.2.2.1 p1.2.2.2.1).getD ((⟨#[]⟩:BA),([]:Tb),([]:mI))).2.2) p1.2.2.2.2.1).bind λa=>(Re (p0.1,p0.2.1,p0.2.2.1,p0.2.2.2.1,p0.2.2.2.2.1,wI (p0.2.2.2.2.2.1+1),p0.2.2.2.2.2.2.1,p0.2.2.2.2.2.2.2) ((((cR p0.1.2.2.1 p1.2.2.2.1).getD ((⟨#[]⟩:BA),([]:Tb),([]:mI))).1,((cR p0.1.2.2.1 p1.2.2.2.1).getD ((⟨#[]⟩:BA),([]:Tb),([]:mI))).2.1,((cR p0.1.2.2.1 p1.2.2.2.1).getD ((⟨#[]⟩:BA),([]:Tb),([]:mI))).2.2),a,p2) (wI ((List.length a.2.2.2:Int)-1))).bind λa=>(match a with| .inl a=>some (.inl (a.1,a.2))| .inr a=>some (.inr ((a.1.1,a.1.2.1,wI (a.1.2.2.1-1),a.1.2.2.2),a.2))))
def wQ(N:Nat)(Re:dV->eR->(Int)->iM)(p0:dV)(p1:eR)(p2:dZ)(s1:T3s):Option (T3s⊕Te×T3r⊕xL):=
 if(decide (s1.2.1<(List.length p2.2.2.2.2:Int)))then((bC p2.2.2.2.2 s1.2.1).bind λa=>(Re (p0.1,p0.2.1,p0.2.2.1,s1.2.2.2.2.2,s1.2.2.1,s1.2.2.2.1,s1.2.2.2.2.1,p0.2.2.2.2.2.2.2) (p1.1,p1.2.1,p1.2.2) a).bind λy5=>(match y5 with| .inl a=>some (.inr (.inr (.inl (a.1,a.2))))| .inr a=>(iK 8 s1.1 ([a.2])).bind λb=>some (.inl (b,wI (s1.2.1+1),a.1.2.1,a.1.2.2.1,a.1.2.2.2,a.1.1)))) else(some (.inr (.inl (s1.1,s1.2.2.1,s1.2.2.2.1,s1.2.2.2.2.1,s1.2.2.2.2.2))))
def QV(N:Nat)(Re:dV->eR->(Int)->iM)(Rf:dV->mQ->Te->iM)(Rg:dV->eR->dZ->iM)(Rh:dV->eR->dZ->iM)(Ri:dV->eR->dZ->iM)(Rj:dV->eR->dZ->iM)(p0:dV)(p1:eR)(p2:dZ):iM:=
 (GU N p0.1 p1.1 p2.2.2.2.1).bind λy1=>(sK N (p0.1,p0.2.1,p0.2.2.1,p0.2.2.2.1,p0.2.2.2.2.1,p0.2.2.2.2.2.1,p0.2.2.2.2.2.2.1,p0.2.2.2.2.2.2.2) y1.2.1).bind λa=>(GV N y1.2.2).bind λb=>(match b with| .inl b=>some (.inl (b,a))| .inr b=>(aC (wQ N Re p0 p1 p2) N (([]:Te),0,a.2.1,a.2.2.1,a.2.2.2,a.1)).bind λa=>(match a with| .inl a=>(bC (((cR p0.1.2.2.1 y1.1.2.2.2.1).getD ((⟨#[]⟩:BA),([]:Tb),([]:mI))).2.2) y1.1.2.2.2.2.1).bind λb=>(wU N ((List.length a.1:Int) !=(List.length b.2.2.1:Int)) 13).bind λb=>(match b with| .inl b=>some (.inl (b,(a.2.2.2.2,a.2.1,a.2.2.1,a.2.2.2.1)))| .inr b=>(Rf (p0.1,p0.2.1,p0.2.2.1,a.2.2.2.2,a.2.1,a.2.2.1,a.2.2.2.1,p0.2.2.2.2.2.2.2) y1.1 a.1).bind λa=>(match a with| .inl a=>some (.inl (a.1,a.2))| .inr a=>some (.inr (a.1,a.2))))| .inr (z)=>some z))
def AP(N:Nat)(Re:dV->eR->(Int)->iM)(Rf:dV->mQ->Te->iM)(Rg:dV->eR->dZ->iM)(Rh:dV->eR->dZ->iM)(Ri:dV->eR->dZ->iM)(Rj:dV->eR->dZ->iM)(p0:dV)(p1:eR)(p2:dZ):iM:=
 (bC p2.2.2.2.2 0).bind λa=>(Re (p0.1,p0.2.1,p0.2.2.1,p0.2.2.2.1,p0.2.2.2.2.1,p0.2.2.2.2.2.1,p0.2.2.2.2.2.2.1,p0.2.2.2.2.2.2.2) (p1.1,p1.2.1,p1.2.2) a).bind λy1=>(match y1 with| .inl a=>some (.inl (a.1,a.2))| .inr b=>(bC p2.2.2.2.2 1).bind λa=>(Re (p0.1,p0.2.1,p0.2.2.1,b.1.1,b.1.2.1,b.1.2.2.1,b.1.2.2.2,p0.2.2.2.2.2.2.2) (p1.1,p1.2.1,p1.2.2) a).bind λa=>(match a with| .inl a=>some (.inl (a.1,a.2))| .inr a=>(if(p2.2.2.1==1)then(some (.inl (wI (b.2+a.2)))) else(if(p2.2.2.1==2)then(some (.inl (wI (b.2-a.2)))) else(if(p2.2.2.1==3)then((if(a.2 !=0)then((rK .i64 9007199254740992 (if(wI (0-a.2))>a.2 then(wI (0-a.2)) else a.2)).bind λc=>some (decide ((if(wI (0-b.2))>b.2 then(wI (0-b.2)) else b.2)>c))) else(some false):Tk).bind λo2=>(wU N o2 3).bind λy5=>(match y5 with| .inl c=>some (.inr (.inl (c,a.1)))| .inr c=>some (.inl (wI (b.2*a.2))))) else((if(p2.2.2.1==4)then(some (p2.2.2.1==4)) else(some (p2.2.2.1==5)):Tk).bind λc=>if c then((wU N (a.2==0) 4).bind λc=>(match c with| .inl c=>some (.inr (.inl (c,a.1)))| .inr c=>(rK .i64 b.2 a.2).bind λc=>if(p2.2.2.1==5)then((wH b.2 a.2).bind λd=>some (.inl d)) else(some (.inl c)))) else(if(p2.2.2.1==6)then((MC N (decide (b.2<a.2))).bind λc=>some (.inl c)) else((MC N (b.2==a.2)).bind λb=>some (.inl b)))))):Option (Int⊕xL)).bind λb=>(match b with| .inl b=>(AX N b).bind λc=>(wU N (!c) 3).bind λc=>(match c with| .inl c=>some (.inl (c,a.1))| .inr c=>some (.inr (a.1,b)))| .inr z=>some z)))
def FB(N:Nat)(Re:dV->eR->(Int)->iM)(Rf:dV->mQ->Te->iM)(Rg:dV->eR->dZ->iM)(Rh:dV->eR->dZ->iM)(Ri:dV->eR->dZ->iM)(Rj:dV->eR->dZ->iM)(p0:dV)(p1:eR)(p2:dZ):iM:=
 (bC p2.2.2.2.2 0).bind λa=>(Re (p0.1,p0.2.1,p0.2.2.1,p0.2.2.2.1,p0.2.2.2.2.1,p0.2.2.2.2.2.1,p0.2.2.2.2.2.2.1,p0.2.2.2.2.2.2.2) (p1.1,p1.2.1,p1.2.2) a).bind λy1=>(match y1 with| .inl a=>some (.inl (a.1,a.2))| .inr a=>if(a.2 !=0)then((bC p2.2.2.2.2 1).bind λb=>(Re (p0.1,p0.2.1,p0.2.2.1,a.1.1,a.1.2.1,a.1.2.2.1,a.1.2.2.2,p0.2.2.2.2.2.2.2) (p1.1,p1.2.1,p1.2.2) b).bind λb=>(match b with| .inl b=>some (.inl (b.1,b.2))| .inr b=>some (.inr (b.1,b.2)))) else((bC p2.2.2.2.2 2).bind λb=>(Re (p0.1,p0.2.1,p0.2.2.1,a.1.1,a.1.2.1,a.1.2.2.1,a.1.2.2.2,p0.2.2.2.2.2.2.2) (p1.1,p1.2.1,p1.2.2) b).bind λy5=>(match y5 with| .inl a=>some (.inl (a.1,a.2))| .inr a=>some (.inr (a.1,a.2)))))
def QU(N:Nat)(Re:dV->eR->(Int)->iM)(Rf:dV->mQ->Te->iM)(Rg:dV->eR->dZ->iM)(Rh:dV->eR->dZ->iM)(Ri:dV->eR->dZ->iM)(Rj:dV->eR->dZ->iM)(p0:dV)(p1:eR)(p2:dZ):iM:=
 (yW N (p0.1,p0.2.1,p0.2.2.1,p0.2.2.2.1,p0.2.2.2.2.1,p0.2.2.2.2.2.1,p0.2.2.2.2.2.2.1,p0.2.2.2.2.2.2.2) p2.2.2.2.1).bind λy1=>(GV N y1.2.2.2.2).bind λa=>(match a with| .inl a=>some (.inl (a,y1.1))| .inr a=>(if y1.2.1 then(some 1) else(some (ByteArray.size y1.2.2.2.1:Int)):Td).bind λb=>(bC p2.2.2.2.2 0).bind λa=>(Re (p0.1,p0.2.1,p0.2.2.1,y1.1.1,y1.1.2.1,y1.1.2.2.1,y1.1.2.2.2,p0.2.2.2.2.2.2.2) (p1.1,p1.2.1,p1.2.2) a).bind λa=>(match a with| .inl a=>some (.inl (a.1,a.2))| .inr y5=>(if(decide (y5.2<0))then(some true) else(some (decide (y5.2>=b))):Tk).bind λo2=>(wU N o2 3).bind λa=>(match a with| .inl a=>some (.inl (a,y5.1))| .inr a=>if(!y1.2.1)then((lH y1.2.2.2.1 y5.2).bind λa=>some (.inr (y5.1,wI (a.toNat:Int)))) else((Rf (p0.1,p0.2.1,p0.2.2.1,y5.1.1,y5.1.2.1,y5.1.2.2.1,y5.1.2.2.2,p0.2.2.2.2.2.2.2) y1.2.2.1 ([]:Te)).bind λa=>(match a with| .inl a=>some (.inl (a.1,a.2))| .inr a=>some (.inr (a.1,Int.tmod (wI ((Int.tmod a.2 256)+256)) 256)))))))
def lN(N:Nat):Nat->(dV->eR->(Int)->iM)×(((((List (BA×BA)))×Bool×(Option (List (BA×(BA×List BA×(List (Int×BA×List BA×(List (Int×Int×Int×BA×List Int))))))))×List BA×(Option (List ((Int×BA×BA)×(BA×BA×Int×BA×Int×Int)))))×((List (BA×Int)))×Int×(Option (List ((Int×BA×BA)×Bool)))×Int×Int×Bool×(Option (List (Int×Option Nat))))->mQ->Te->iM)×(((((List (BA×BA)))×Bool×(Option (List (BA×(BA×List BA×(List (Int×BA×List BA×(List (Int×Int×Int×BA×List Int))))))))×List BA×(Option (List ((Int×BA×BA)×(BA×BA×Int×BA×Int×Int)))))×((List (BA×Int)))×Int×(Option (List ((Int×BA×BA)×Bool)))×Int×Int×Bool×(Option (List (Int×Option Nat))))->eR->dZ->iM)×(((((List (BA×BA)))×Bool×(Option (List (BA×(BA×List BA×(List (Int×BA×List BA×(List (Int×Int×Int×BA×List Int))))))))×List BA×(Option (List ((Int×BA×BA)×(BA×BA×Int×BA×Int×Int)))))×((List (BA×Int)))×Int×(Option (List ((Int×BA×BA)×Bool)))×Int×Int×Bool×(Option (List (Int×Option Nat))))->eR->dZ->iM)×(((((List (BA×BA)))×Bool×(Option (List (BA×(BA×List BA×(List (Int×BA×List BA×(List (Int×Int×Int×BA×List Int))))))))×List BA×(Option (List ((Int×BA×BA)×(BA×BA×Int×BA×Int×Int)))))×((List (BA×Int)))×Int×(Option (List ((Int×BA×BA)×Bool)))×Int×Int×Bool×(Option (List (Int×Option Nat))))->eR->dZ->iM)×(((((List (BA×BA)))×Bool×(Option (List (BA×(BA×List BA×(List (Int×BA×List BA×(List (Int×Int×Int×BA×List Int))))))))×List BA×(Option (List ((Int×BA×BA)×(BA×BA×Int×BA×Int×Int)))))×((List (BA×Int)))×Int×(Option (List ((Int×BA×BA)×Bool)))×Int×Int×Bool×(Option (List (Int×Option Nat))))->eR->dZ->iM)
 |0=>((λ_ _ _=>none),(λ_ _ _=>none),(λ_ _ _=>none),(λ_ _ _=>none),(λ_ _ _=>none),(λ_ _ _=>none))
 |D+1=>(QQ N (lN N D).1 (lN N D).2.1 (lN N D).2.2.1 (lN N D).2.2.2.1 (lN N D).2.2.2.2.1 (lN N D).2.2.2.2.2,FJ N (lN N D).1 (lN N D).2.1 (lN N D).2.2.1 (lN N D).2.2.2.1 (lN N D).2.2.2.2.1 (lN N D).2.2.2.2.2,QV N (lN N D).1 (lN N D).2.1 (lN N D).2.2.1 (lN N D).2.2.2.1 (lN N D).2.2.2.2.1 (lN N D).2.2.2.2.2,AP N (lN N D).1 (lN N D).2.1 (lN N D).2.2.1 (lN N D).2.2.2.1 (lN N D).2.2.2.2.1 (lN N D).2.2.2.2.2,FB N (lN N D).1 (lN N D).2.1 (lN N D).2.2.1 (lN N D).2.2.2.1 (lN N D).2.2.2.2.1 (lN N D).2.2.2.2.2,QU N (lN N D).1 (lN N D).2.1 (lN N D).2.2.1 (lN N D).2.2.2.1 (lN N D).2.2.2.2.1 (lN N D).2.2.2.2.2)
def FS(N:Nat)(p0:dV)(p1:mQ)(p2:Te):iM:=(lN N N).2.1 p0 p1 p2
abbrev FI(F:dV->eR->(Int)->iM):Prop:=∀{m O w} {p0:dV} {p1:eR} {p2:Int} {l a z D f t o A E h u p B G b d c k x q} {y:Option Addr} {S H U K V M Y R Z r} (g:St m (aA f t o::aA h u p::cB a z D f A E h p0.1::aA b d c::aA k x q::nK l a B G b k p0::O) w) (r1:RepS C1 m z D p0.1.1) (r2:MapQ cZ C7 true m f t o p0.1.2.2.1) (r3:RepS aB m A E p0.1.2.2.2.1) (r4:MapQ aY C8 true m h u p p0.1.2.2.2.2) (r5:RepS C3 m B G p0.2.1) (r6:MapQ aY cO false m b d c p0.2.2.2.1) (c:MapQ cS iJ false m k x q p0.2.2.2.2.2.2.2) (c:RepS aB m y S p1.1.2.1) (c:RepS C6 m H U p1.1.2.2) (c:RepS aB m K V p1.2.1.2.2.1) (c:RepS C5 m M Y p1.2.1.2.2.2) (c:RepS (aG .i64) m R Z p1.2.2) (hr:F p0 p1 p2=some r),Calls prog 89 #[vP l 0,.agg (mK p1 y S H U K V M Y R Z),vI p2] w λe w'=>(∃(y:oZ),∃c d m',r= .inl y/\pM 171 m m' e y.1 (aA f t o::aA h u p::cB a z D f A E h p0.1::aA b c d::aA k x q::iB l a B G b k p0 y.2.2.1 y.2.2.2.1 y.2.2.2.2::O) w' (MapQ aY cO false m' b c d y.2.1))\/(∃(y:pA),r= .inr y/\∃c d m',bN m m' e (vI y.2) (aA f t o::aA h u p::cB a z D f A E h p0.1::aA b c d::aA k x q::iB l a B G b k p0 y.1.2.1 y.1.2.2.1 y.1.2.2.2::O) w' (MapQ aY cO false m' b c d y.1.1))
abbrev FD(F:dV->mQ->Te->iM):Prop:=∀{m O w} {p0:dV} {p1:mQ} {p2:Te} {l a z D f t o A E h u p B G b d c k x q} {y:Option Addr} {H r} (g:St m (aA f t o::aA h u p::cB a z D f A E h p0.1::aA b d c::aA k x q::nK l a B G b k p0::O) w) (K:RepS C1 m z D p0.1.1) (K:MapQ cZ C7 true m f t o p0.1.2.2.1) (K:RepS aB m A E p0.1.2.2.2.1) (K:MapQ aY C8 true m h u p p0.1.2.2.2.2) (K:RepS C3 m B G p0.2.1) (K:MapQ aY cO false m b d c p0.2.2.2.1) (c:MapQ cS iJ false m k x q p0.2.2.2.2.2.2.2) (c:RepS (aG .i64) m y H p2) (hr:F p0 p1 p2=some r),Calls prog 91 #[vP l 0,.agg (Ve p1),vS y p2 H] w λe w'=>(∃(y:oZ),∃c d m',r= .inl y/\pM 171 m m' e y.1 (aA f t o::aA h u p::cB a z D f A E h p0.1::aA b c d::aA k x q::iB l a B G b k p0 y.2.2.1 y.2.2.2.1 y.2.2.2.2::O) w' (MapQ aY cO false m' b c d y.2.1))\/(∃(y:pA),r= .inr y/\∃c d m',bN m m' e (vI y.2) (aA f t o::aA h u p::cB a z D f A E h p0.1::aA b c d::aA k x q::iB l a B G b k p0 y.1.2.1 y.1.2.2.1 y.1.2.2.2::O) w' (MapQ aY cO false m' b c d y.1.1))
abbrev FK(F:dV->eR->dZ->iM):Prop:=∀{m O w} {p0:dV} {p1:eR} {p2:dZ} {l a z D f t o A E h u p B G b d c k x q} {y:Option Addr} {U H V K Y M Z R c8 S c9 r} (g:St m (aA f t o::aA h u p::cB a z D f A E h p0.1::aA b d c::aA k x q::nK l a B G b k p0::O) w) (r1:RepS C1 m z D p0.1.1) (r2:MapQ cZ C7 true m f t o p0.1.2.2.1) (r3:RepS aB m A E p0.1.2.2.2.1) (r4:MapQ aY C8 true m h u p p0.1.2.2.2.2) (r5:RepS C3 m B G p0.2.1) (r6:MapQ aY cO false m b d c p0.2.2.2.1) (c:MapQ cS iJ false m k x q p0.2.2.2.2.2.2.2) (c:RepS aB m y U p1.1.2.1) (c:RepS C6 m H V p1.1.2.2) (c:RepS aB m K Y p1.2.1.2.2.1) (c:RepS C5 m M Z p1.2.1.2.2.2) (c:RepS (aG .i64) m R c8 p1.2.2) (c:RepS (aG .i64) m S c9 p2.2.2.2.2) (hr:F p0 p1 p2=some r),Calls prog 56 #[vP l 0,.agg (mK p1 y U H V K Y M Z R c8),.agg (Va p2 S c9)] w λe w'=>(∃(y:oZ),∃c d m',r= .inl y/\pM 171 m m' e y.1 (aA f t o::aA h u p::cB a z D f A E h p0.1::aA b c d::aA k x q::iB l a B G b k p0 y.2.2.1 y.2.2.2.1 y.2.2.2.2::O) w' (MapQ aY cO false m' b c d y.2.1))\/(∃(y:pA),r= .inr y/\∃c d m',bN m m' e (vI y.2) (aA f t o::aA h u p::cB a z D f A E h p0.1::aA b c d::aA k x q::iB l a B G b k p0 y.1.2.1 y.1.2.2.1 y.1.2.2.2::O) w' (MapQ aY cO false m' b c d y.1.1))
abbrev EX(F:dV->eR->dZ->iM):Prop:=∀{m O w} {p0:dV} {p1:eR} {p2:dZ} {l a z D f t o A E h u p B G b d c k x q} {y:Option Addr} {U H V K Y M Z R c8 S c9 r} (g:St m (aA f t o::aA h u p::cB a z D f A E h p0.1::aA b d c::aA k x q::nK l a B G b k p0::O) w) (r1:RepS C1 m z D p0.1.1) (r2:MapQ cZ C7 true m f t o p0.1.2.2.1) (r3:RepS aB m A E p0.1.2.2.2.1) (r4:MapQ aY C8 true m h u p p0.1.2.2.2.2) (r5:RepS C3 m B G p0.2.1) (r6:MapQ aY cO false m b d c p0.2.2.2.1) (c:MapQ cS iJ false m k x q p0.2.2.2.2.2.2.2) (c:RepS aB m y U p1.1.2.1) (c:RepS C6 m H V p1.1.2.2) (c:RepS aB m K Y p1.2.1.2.2.1) (c:RepS C5 m M Z p1.2.1.2.2.2) (c:RepS (aG .i64) m R c8 p1.2.2) (c:RepS (aG .i64) m S c9 p2.2.2.2.2) (hr:F p0 p1 p2=some r),Calls prog 57 #[vP l 0,.agg (mK p1 y U H V K Y M Z R c8),.agg (Va p2 S c9)] w λe w'=>(∃(y:oZ),∃c d m',r= .inl y/\pM 171 m m' e y.1 (aA f t o::aA h u p::cB a z D f A E h p0.1::aA b c d::aA k x q::iB l a B G b k p0 y.2.2.1 y.2.2.2.1 y.2.2.2.2::O) w' (MapQ aY cO false m' b c d y.2.1))\/(∃(y:pA),r= .inr y/\∃c d m',bN m m' e (vI y.2) (aA f t o::aA h u p::cB a z D f A E h p0.1::aA b c d::aA k x q::iB l a B G b k p0 y.1.2.1 y.1.2.2.1 y.1.2.2.2::O) w' (MapQ aY cO false m' b c d y.1.1))
abbrev EW(F:dV->eR->dZ->iM):Prop:=∀{m O w} {p0:dV} {p1:eR} {p2:dZ} {l a z D f t o A E h u p B G b d c k x q} {y:Option Addr} {U H V K Y M Z R c8 S c9 r} (g:St m (aA f t o::aA h u p::cB a z D f A E h p0.1::aA b d c::aA k x q::nK l a B G b k p0::O) w) (r1:RepS C1 m z D p0.1.1) (r2:MapQ cZ C7 true m f t o p0.1.2.2.1) (r3:RepS aB m A E p0.1.2.2.2.1) (r4:MapQ aY C8 true m h u p p0.1.2.2.2.2) (r5:RepS C3 m B G p0.2.1) (r6:MapQ aY cO false m b d c p0.2.2.2.1) (c:MapQ cS iJ false m k x q p0.2.2.2.2.2.2.2) (c:RepS aB m y U p1.1.2.1) (c:RepS C6 m H V p1.1.2.2) (c:RepS aB m K Y p1.2.1.2.2.1) (c:RepS C5 m M Z p1.2.1.2.2.2) (c:RepS (aG .i64) m R c8 p1.2.2) (c:RepS (aG .i64) m S c9 p2.2.2.2.2) (hr:F p0 p1 p2=some r),Calls prog 58 #[vP l 0,.agg (mK p1 y U H V K Y M Z R c8),.agg (Va p2 S c9)] w λe w'=>(∃(y:oZ),∃c d m',r= .inl y/\pM 171 m m' e y.1 (aA f t o::aA h u p::cB a z D f A E h p0.1::aA b c d::aA k x q::iB l a B G b k p0 y.2.2.1 y.2.2.2.1 y.2.2.2.2::O) w' (MapQ aY cO false m' b c d y.2.1))\/(∃(y:pA),r= .inr y/\∃c d m',bN m m' e (vI y.2) (aA f t o::aA h u p::cB a z D f A E h p0.1::aA b c d::aA k x q::iB l a B G b k p0 y.1.2.1 y.1.2.2.1 y.1.2.2.2::O) w' (MapQ aY cO false m' b c d y.1.1))
abbrev FH(F:dV->eR->dZ->iM):Prop:=∀{m O w} {p0:dV} {p1:eR} {p2:dZ} {l a z D f t o A E h u p B G b d c k x q} {y:Option Addr} {U H V K Y M Z R c8 S c9 r} (g:St m (aA f t o::aA h u p::cB a z D f A E h p0.1::aA b d c::aA k x q::nK l a B G b k p0::O) w) (r1:RepS C1 m z D p0.1.1) (r2:MapQ cZ C7 true m f t o p0.1.2.2.1) (r3:RepS aB m A E p0.1.2.2.2.1) (r4:MapQ aY C8 true m h u p p0.1.2.2.2.2) (r5:RepS C3 m B G p0.2.1) (r6:MapQ aY cO false m b d c p0.2.2.2.1) (c:MapQ cS iJ false m k x q p0.2.2.2.2.2.2.2) (c:RepS aB m y U p1.1.2.1) (c:RepS C6 m H V p1.1.2.2) (c:RepS aB m K Y p1.2.1.2.2.1) (c:RepS C5 m M Z p1.2.1.2.2.2) (c:RepS (aG .i64) m R c8 p1.2.2) (c:RepS (aG .i64) m S c9 p2.2.2.2.2) (hr:F p0 p1 p2=some r),Calls prog 59 #[vP l 0,.agg (mK p1 y U H V K Y M Z R c8),.agg (Va p2 S c9)] w λe w'=>(∃(y:oZ),∃c d m',r= .inl y/\pM 171 m m' e y.1 (aA f t o::aA h u p::cB a z D f A E h p0.1::aA b c d::aA k x q::iB l a B G b k p0 y.2.2.1 y.2.2.2.1 y.2.2.2.2::O) w' (MapQ aY cO false m' b c d y.2.1))\/(∃(y:pA),r= .inr y/\∃c d m',bN m m' e (vI y.2) (aA f t o::aA h u p::cB a z D f A E h p0.1::aA b c d::aA k x q::iB l a B G b k p0 y.1.2.1 y.1.2.2.1 y.1.2.2.2::O) w' (MapQ aY cO false m' b c d y.1.1))
theorem Ou{Re Rf Rg Rh Ri Rj}(b4:FI Re)(b0:FD Rf)(p:FK Rg)(b:EX Rh)(l:EW Ri)(u:FH Rj){p0:dV}{p1:eR}{p2:Int}{R q1 c0 b7 q2 d1 b8 q3 d4 d3 q4 d2 b9 r}(g:St m (aA q1 c0 b7::aA q2 d1 b8::cB R a1 c1 q1 a2 c2 q2 p0.1::aA q3 d4 d3::aA q4 d2 b9::nK bp0 R a3 c3 q3 q4 p0::O) w)(S:RepS C1 m a1 c1 p0.1.1)(U:MapQ cZ C7 true m q1 c0 b7 p0.1.d.1)(V:RepS aB m a2 c2 p0.1.e.1)(Y:MapQ aY C8 true m q2 d1 b8 p0.1.f)(Z:RepS C3 m a3 c3 p0.2.1)(K:MapQ aY cO false m q3 d4 d3 p0.e.1)(M:MapQ cS iJ false m q4 d2 b9 p0.k)(r8:RepS aB m a4 c4 p1.1.2.1)(r9:RepS C6 m a5 c5 p1.1.d)(B:RepS aB m a6 c6 p1.2.1.d.1)(A:RepS C5 m a7 c7 p1.2.1.e)(D:RepS (aG .i64) m a8 c8 p1.d)(hr:QQ N Re Rf Rg Rh Ri Rj p0 p1 p2=some r):Calls prog 89 #[vP bp0 0,.agg (mK p1 a4 c4 a5 c5 a6 c6 a7 c7 a8 c8),vI p2] w λe w'=>(∃(z0:oZ),∃b5 b6 m',r= .inl z0/\pM 171 m m' e z0.1 (aA q1 c0 b7::aA q2 d1 b8::cB R a1 c1 q1 a2 c2 q2 p0.1::aA q3 b5 b6::aA q4 d2 b9::iB bp0 R a3 c3 q3 q4 p0 z0.d.1 z0.e.1 z0.f::O) w' (MapQ aY cO false m' q3 b5 b6 z0.2.1))\/(∃(y0:pA),r= .inr y0/\∃b5 b6 m',bN m m' e (vI y0.2) (aA q1 c0 b7::aA q2 d1 b8::cB R a1 c1 q1 a2 c2 q2 p0.1::aA q3 b5 b6::aA q4 d2 b9::iB bp0 R a3 c3 q3 q4 p0 y0.1.2.1 y0.1.d.1 y0.1.e::O) w' (MapQ aY cO false m' q3 b5 b6 y0.1.1)):=by
 refine bH g func89 rfl ntmps89 λq=>aD (eC 4 156 (.agg (mK p1 a4 c4 a5 c5 a6 c6 a7 c7 a8 c8)) g λb1 m1 w1 H g d5=> ?_);have q:=q.t H;refine tH (aS 3 g.t.t.t.t.t.h (aX 1 (eG hr (zB g) ?_)));rintro y1 hr _ w2 (⟨z1,m3,rfl,rfl,e3,g⟩|⟨y2,rfl,m2,rfl,F,g⟩)
 .refine bQ ?_;obtain rfl:=sI hr;have g:=g.f5.f5.f5.f5.f5.f5;exact cU (.inl ⟨(z1,(p0.e.1,p0.f.1,p0.h.1,p0.j.1)),d4,d3,m3,rfl,rfl,q.t e3,g,(K.o H).o e3⟩)
 have r8:=(r8.o H).o F;have r9:=(r9.o H).o F;have B:=(B.o H).o F;have A:=(A.o H).o F;have D:=(D.o H).o F;have U:=(U.o H).o F;have Y:=(Y.o H).o F;have S:=(S.o H).o F;have V:=(V.o H).o F;have K:=(K.o H).o F;have M:=(M.o H).o F;have Z:=(Z.o H).o F;refine aI (aR 3 (bD g.t.t.t.t.t.h (aX 3 (lA #[vP R 0,vS a3 p0.2.1 c3,.int .u64 p0.d.1,.map q3,vI (wI (p0.f.1+1)),vI p0.h.1,vB p0.j.1,.map q4] g.f5 λw4 g=>aI (iG 2 g ((d5.o F).drop 6) (aX 1 (iP A hr ?_)))))));rintro E hr b2 f1 e9 ⟨_,_,rfl,rfl,⟨_,_,rfl,rfl,⟨_,_,rfl,rfl,⟨_,_,rfl,rfl,⟨a9,c9,rfl,G⟩⟩⟩⟩⟩ e6;refine dU g e6 (bX 7 158 (.agg #[vI 0,vI 0,vI 0,vT eB,v6]) g λb3 w5 g=>aZ (.agg (Va E a9 c9)) g λw6 g=>aI (aJ (cM [(12,λw'=>Inv m2 w'/\Piece.holds m2 w' (kB b3 (Va E a9 c9) 158)/\True),(10,λw'=>Inv m2 w'/\Piece.holds m2 w' (iB bp0 R a3 c3 q3 q4 p0 (wI (p0.f.1+1)) p0.h.1 p0.j.1)/\True)] kr g λw7 _ g=> ?_)));have o:=m2.le_refl
 refine⟨lI (aF g o) (aF g o),aU 4 [0,1,2,4] (bZ 5 cH (aN 7 (cN 8 (d5.o F) (bZ 9 cH (aK 3 kr (qEp 30 126 29 7 (.map q4) g.t.h ⟨lI (aF g o) (aF g o),aK 6 kr (tW (ek:=cS) (c:=iJ) (agg:=false) (k:=E.1) (zx:=(none:eM)) (zcs:=[.nilFunc]) (z:= .nilFunc) (kt:=3) (et:=124) (d:=33) (t:=126) (x:=(.tmp 30)) (y:=(.tmp 32)) (ok:=false) kr rfl (ev (.map q4)) (ev (vI E.1)) kr (mD kr) g.t.t.t.t.t.t.h M rfl rfl ?_)⟩))))))⟩;rintro f0 rfl;refine⟨lI (aF g o) (aF g o),?_⟩;have⟨f2,e0,hr⟩:=aM hr;rw[e0];have g:=g.f1.f6.f6.f6.f6.f6;have⟨y3,a,hr⟩:=aM hr
 refine aK 10 kr (tZ 37 f2 #[vP bp0 0,.agg (mK p1 a4 c4 a5 c5 a6 c6 a7 c7 a8 c8),.agg (Va E a9 c9)] (by(iterate 10 (rcases dynM a with rfl|a;exact kr));cases a) rfl ((yK a (λa=>Ot (p0:=(p0.1,p0.2.1,p0.d.1,p0.e.1,wI (p0.f.1+1),p0.h.1,p0.j.1,p0.k)) (p1:=p1) (p2:=E) g S U V Y Z K M r8 r9 B A D G a) (λa=>yK a (λa=>Pa (p0:=(p0.1,p0.2.1,p0.d.1,p0.e.1,wI (p0.f.1+1),p0.h.1,p0.j.1,p0.k)) (p1:=p1) (p2:=E) g S U V Y Z K M r8 r9 B A D G a) (λa=>yK a (λa=>p (p0:=(p0.1,p0.2.1,p0.d.1,p0.e.1,wI (p0.f.1+1),p0.h.1,p0.j.1,p0.k)) (p1:=p1) (p2:=E) g S U V Y Z K M r8 r9 B A D G a) (λa=>yK a (λa=>b (p0:=(p0.1,p0.2.1,p0.d.1,p0.e.1,wI (p0.f.1+1),p0.h.1,p0.j.1,p0.k)) (p1:=p1) (p2:=E) g S U V Y Z K M r8 r9 B A D G a) (λa=>yK a (λa=>l (p0:=(p0.1,p0.2.1,p0.d.1,p0.e.1,wI (p0.f.1+1),p0.h.1,p0.j.1,p0.k)) (p1:=p1) (p2:=E) g S U V Y Z K M r8 r9 B A D G a) (λa=>yK a (λa=>u (p0:=(p0.1,p0.2.1,p0.d.1,p0.e.1,wI (p0.f.1+1),p0.h.1,p0.j.1,p0.k)) (p1:=p1) (p2:=E) g S U V Y Z K M r8 r9 B A D G a) (λa=>yK a (λa=>Pl (p0:=(p0.1,p0.2.1,p0.d.1,p0.e.1,wI (p0.f.1+1),p0.h.1,p0.j.1,p0.k)) (p1:=p1) (p2:=E) g S U V Y Z K M r8 r9 B A D G a) (λa=>yK a (λa=>Pp (p0:=(p0.1,p0.2.1,p0.d.1,p0.e.1,wI (p0.f.1+1),p0.h.1,p0.j.1,p0.k)) (p1:=p1) (p2:=E) g S U V Y Z K M r8 r9 B A D G a) (λa=>yK a (λa=>Og (p0:=(p0.1,p0.2.1,p0.d.1,p0.e.1,wI (p0.f.1+1),p0.h.1,p0.j.1,p0.k)) (p1:=p1) (p2:=E) g S U V Y Z K M r8 r9 B A D G a) (λa=>yK a (λa=>Pm (p0:=(p0.1,p0.2.1,p0.d.1,p0.e.1,wI (p0.f.1+1),p0.h.1,p0.j.1,p0.k)) (p1:=p1) (p2:=E) g S U V Y Z K M r8 r9 B A D G a) (λa=>(by cases a)))))))))))).mono ?_))
 rintro _ w8 (⟨z2,d9,d7,m5,rfl,rfl,e5,g,e8⟩|⟨y4,rfl,d8,d6,m4,rfl,e4,g,e7⟩)
 .refine .inr ⟨_,rfl,?_⟩;have o:=o.t e5;exact bQ (cU (.inl (zH hr g.f6.t.f5.f5.f5.f5.f5.f5)))
 refine .inl ⟨_,rfl,?_⟩;have o:=o.t e4;refine⟨rJ (aF g o),aN 11 (bO kr (aV (aT ?_)))⟩;cases hr;exact lJ [6] [vI y4.2] (.inr ⟨_,rfl,d8,d6,m4,rfl,(q.t F).t e4,g.f6.t.f5.f5.f5.f5.f5.f5,e7⟩)
theorem Oj{Re Rf Rg Rh Ri Rj}(a:FI Re)(F:FD Rf)(K:FK Rg)(D:EX Rh)(E:EW Ri)(M:FH Rj){p0:dV}{p1:mQ}{p2:Te}{b R d1 b8 q2 d2 b9 B d7 d4 S d3 c0 r}(g:St m (aA R d1 b8::aA q2 d2 b9::cB b a1 c1 R a2 c2 q2 p0.1::aA B d7 d4::aA S d3 c0::nK bp0 b a3 c3 B S p0::O) w)(r1:RepS C1 m a1 c1 p0.1.1)(r2:MapQ cZ C7 true m R d1 b8 p0.1.d.1)(r3:RepS aB m a2 c2 p0.1.e.1)(r4:MapQ aY C8 true m q2 d2 b9 p0.1.f)(r5:RepS C3 m a3 c3 p0.2.1)(r6:MapQ aY cO false m B d7 d4 p0.e.1)(r7:MapQ cS iJ false m S d3 c0 p0.k)(r8:RepS (aG .i64) m a4 c4 p2)(hr:FJ N Re Rf Rg Rh Ri Rj p0 p1 p2=some r):Calls prog 91 #[vP bp0 0,.agg (Ve p1),vS a4 p2 c4] w λe w'=>(∃(z0:oZ),∃b6 b7 m',r= .inl z0/\pM 171 m m' e z0.1 (aA R d1 b8::aA q2 d2 b9::cB b a1 c1 R a2 c2 q2 p0.1::aA B b6 b7::aA S d3 c0::iB bp0 b a3 c3 B S p0 z0.d.1 z0.e.1 z0.f::O) w' (MapQ aY cO false m' B b6 b7 z0.2.1))\/(∃(y0:pA),r= .inr y0/\∃b6 b7 m',bN m m' e (vI y0.2) (aA R d1 b8::aA q2 d2 b9::cB b a1 c1 R a2 c2 q2 p0.1::aA B b6 b7::aA S d3 c0::iB bp0 b a3 c3 B S p0 y0.1.2.1 y0.1.d.1 y0.1.e::O) w' (MapQ aY cO false m' B b6 b7 y0.1.1)):=by
 refine bH g func91 rfl ntmps91 λq=>aD (eC 4 59 (.agg (Ve p1)) g λb1 m1 w1 u g b0=> ?_);have r6:=r6.o u;refine tH (aS 3 g.t.t.t.t.t.h (aX 1 (eG hr (zB g) ?_)));rintro y1 hr _ w2 (⟨z1,m3,rfl,rfl,e3,g⟩|⟨y2,rfl,m2,rfl,o,g⟩)
 .refine bQ ?_;obtain rfl:=sI hr;have g:=g.f5.f5.f5.f5.f5.f5;exact cU (.inl ⟨(z1,(p0.e.1,p0.f.1,p0.h.1,p0.j.1)),d7,d4,m3,rfl,rfl,(q.t u).t e3,g,r6.o e3⟩)
 have q:=(q.t u).t o;have b0:=b0.o o;have r2:=(r2.o u).o o;refine aI (aR 3 (bD g.t.t.t.t.t.h (aX 3 (lA #[vP b 0,vS a3 p0.2.1 c3,.int .u64 p0.d.1,.map B,vI p0.f.1,vI (wI (p0.h.1+1)),vB p0.j.1,.map S] g.f5 λw4 g=>aI (aJ (cM [(12,λw'=>Inv m2 w'/\Piece.holds m2 w' (iB bp0 b a3 c3 B S p0 p0.f.1 (wI (p0.h.1+1)) p0.j.1)/\Piece.holds m2 w' (cB b a1 c1 R a2 c2 q2 p0.1)/\True)] kr g λw5 _ g=> ?_))))));have A:=m2.le_refl;refine⟨aL (aF g A),aU 3 [0,1,2] (bZ 3 cH (aU 2 [4,5] (bZ 6 nV (aN 7 (cN 8 (b0.drop 3) (qZ [9,10] kr ae (rW ?_ ?_)))))))⟩
 .refine tW (ek:=cZ) (c:=C7) (agg:=true) (k:=p1.e.1) (zx:=(eB,([]:Tb),([]:mI))) (zcs:=[vT eB,v2,vd]) (z:=(.agg #[vT eB,v2,vd])) (kt:=9) (et:=81) (d:=32) (t:=65) (x:=(.tmp 29)) (y:=(.tmp 31)) (ok:=false) kr rfl (ev (.map R)) (ev (vT p1.e.1)) kr (yA kr) g.t.h r2 ⟨_,_,rfl,rfl,⟨_,_,rfl,(pO (RepS.nil _ _)),(pO (RepS.nil _ _))⟩⟩ rfl ?_;rintro f0 ⟨_,_,rfl,rfl,⟨_,_,rfl,⟨a5,c5,rfl,r9⟩,⟨U,Y,rfl,b5⟩⟩⟩;refine⟨aL (aF g A),aK 10 kr (pN 7 81 (.agg #[vT eB,v6,v6]) g λb2 w6 g=>⟨aL (aF g A),aK 11 kr (iV 81 7 32 (.agg #[vT (((cR p0.1.d.1 p1.e.1).getD (eB,([]:Tb),([]:mI))).1),.slice a5 (List.length (((cR p0.1.d.1 p1.e.1).getD (eB,([]:Tb),([]:mI))).2.1)) c5,.slice U (List.length (((cR p0.1.d.1 p1.e.1).getD (eB,([]:Tb),([]:mI))).2.2)) Y]) g λw7 g=>⟨aL (aF g A),bO kr (aV (aD (aS 1 g.h (mB 1 g (b0.drop 4) (iP b5 hr ?_)))))⟩)⟩)⟩;rintro l hr b3 f1 f3 ⟨_,_,rfl,rfl,⟨_,_,rfl,rfl,⟨_,_,rfl,⟨V,Z,rfl,e6⟩,⟨G,H,rfl,e7⟩⟩⟩⟩ e0
  refine dU g e0 (bX 8 111 (.agg #[vI 0,vT eB,v6,v6]) g λb4 w8 g=>aZ (.agg (V9 l V Z G H)) g λw9 g=>aI (aR 1 (bD g.t.h (bD g.h (aS 3 g.h (aX 2 (eG hr (a (p0:=(p0.1,p0.2.1,p0.d.1,p0.e.1,p0.f.1,wI (p0.h.1+1),p0.j.1,p0.k)) (p1:=(((cR p0.1.d.1 p1.e.1).getD (eB,([]:Tb),([]:mI))),l,p2)) g.f2.f7.f7.f7.f7.f7 ((r1.o u).o o) r2 ((r3.o u).o o) ((r4.o u).o o) ((r5.o u).o o) (r6.o o) ((r7.o u).o o) r9 b5 e6 e7 ((r8.o u).o o)) ?_)))))));rintro y3 hr _ f4 (⟨z2,d9,d6,m5,rfl,rfl,e5,g,e9⟩|⟨p,rfl,d8,d5,m4,rfl,e4,g,e8⟩)
  .exact bQ (cU (.inl (zH hr g.f6.t.f6.t.f5.f5.f5.f5.f5.f5)))
  cases hr;exact aW (aR 3 (bD g.t.t.t.t.t.h (aX 3 (lA #[vP b 0,vS a3 p0.2.1 c3,.int .u64 p0.d.1,.map B,vI p.1.2.1,vI (wI (p.1.d.1-1)),vB p.1.e,.map S] g.f5 λf8 g=>aI (bK (aT (lJ [6] [vI p.2] (.inr ⟨_,rfl,d8,d5,m4,rfl,q.t e4,g.f6.t.f6.t.f5.f5.f5.f5.f5,e8⟩))))))))
 refine pN 7 81 (.agg #[vT eB,v6,v6]) g λb2 w6 g=> ?_;refine⟨aL (aF g A),aK 9 kr (tW (ek:=cZ) (c:=C7) (agg:=true) (k:=p1.e.1) (zx:=(eB,([]:Tb),([]:mI))) (zcs:=[vT eB,v2,vd]) (z:=(.agg #[vT eB,v2,vd])) (kt:=9) (et:=81) (d:=32) (t:=65) (x:=(.tmp 29)) (y:=(.tmp 31)) (ok:=false) kr rfl (ev (.map R)) (ev (vT p1.e.1)) kr (yA kr) g.t.t.h r2 ⟨_,_,rfl,rfl,⟨_,_,rfl,(pO (RepS.nil _ _)),(pO (RepS.nil _ _))⟩⟩ rfl ?_)⟩;rintro f0 ⟨_,_,rfl,rfl,⟨_,_,rfl,⟨a5,c5,rfl,r9⟩,⟨U,Y,rfl,b5⟩⟩⟩;refine⟨aL (aF g A),aK 11 kr (iV 81 7 32 (.agg #[vT (((cR p0.1.d.1 p1.e.1).getD (eB,([]:Tb),([]:mI))).1),.slice a5 (List.length (((cR p0.1.d.1 p1.e.1).getD (eB,([]:Tb),([]:mI))).2.1)) c5,.slice U (List.length (((cR p0.1.d.1 p1.e.1).getD (eB,([]:Tb),([]:mI))).2.2)) Y]) g λw7 g=>⟨aL (aF g A),bO kr (aV (aD (aS 1 g.h (mB 1 g (b0.drop 4) (iP b5 hr ?_)))))⟩)⟩;rintro l hr b3 f1 f3 ⟨_,_,rfl,rfl,⟨_,_,rfl,rfl,⟨_,_,rfl,⟨V,Z,rfl,e6⟩,⟨G,H,rfl,e7⟩⟩⟩⟩ e0
 refine dU g e0 (bX 8 111 (.agg #[vI 0,vT eB,v6,v6]) g λb4 w8 g=>aZ (.agg (V9 l V Z G H)) g λw9 g=>aI (aR 1 (bD g.t.h (bD g.h (aS 3 g.h (aX 2 (eG hr (a (p0:=(p0.1,p0.2.1,p0.d.1,p0.e.1,p0.f.1,wI (p0.h.1+1),p0.j.1,p0.k)) (p1:=(((cR p0.1.d.1 p1.e.1).getD (eB,([]:Tb),([]:mI))),l,p2)) g.f2.f7.f7.f7.f7.f7 ((r1.o u).o o) r2 ((r3.o u).o o) ((r4.o u).o o) ((r5.o u).o o) (r6.o o) ((r7.o u).o o) r9 b5 e6 e7 ((r8.o u).o o)) ?_)))))));rintro y3 hr _ f4 (⟨z2,d9,d6,m5,rfl,rfl,e5,g,e9⟩|⟨p,rfl,d8,d5,m4,rfl,e4,g,e8⟩)
 .exact bQ (cU (.inl (zH hr g.f6.t.f6.t.f5.f5.f5.f5.f5.f5)))
 cases hr;exact aW (aR 3 (bD g.t.t.t.t.t.h (aX 3 (lA #[vP b 0,vS a3 p0.2.1 c3,.int .u64 p0.d.1,.map B,vI p.1.2.1,vI (wI (p.1.d.1-1)),vB p.1.e,.map S] g.f5 λf8 g=>aI (bK (aT (lJ [6] [vI p.2] (.inr ⟨_,rfl,d8,d5,m4,rfl,q.t e4,g.f6.t.f6.t.f5.f5.f5.f5.f5,e8⟩))))))))
theorem Ov{Re Rf Rg Rh Ri Rj}(D:FI Re)(u:FD Rf)(g8:FK Rg)(g4:EX Rh)(g5:EW Ri)(g9:FH Rj){p0:dV}{p1:eR}{p2:dZ}{o R d3 c0 Z d4 d1 S q7 q6 V d5 d2 r}(g:St m (aA R d3 c0::aA Z d4 d1::cB o a1 c1 R a2 c2 Z p0.1::aA S q7 q6::aA V d5 d2::nK bp0 o a3 c3 S V p0::O) w)(r1:RepS C1 m a1 c1 p0.1.1)(Y:MapQ cZ C7 true m R d3 c0 p0.1.d.1)(r3:RepS aB m a2 c2 p0.1.e.1)(r4:MapQ aY C8 true m Z d4 d1 p0.1.f)(r5:RepS C3 m a3 c3 p0.2.1)(r6:MapQ aY cO false m S q7 q6 p0.e.1)(r7:MapQ cS iJ false m V d5 d2 p0.k)(r8:RepS aB m a4 c4 p1.1.2.1)(r9:RepS C6 m a5 c5 p1.1.d)(g0:RepS aB m a6 c6 p1.2.1.d.1)(g1:RepS C5 m a7 c7 p1.2.1.e)(g2:RepS (aG .i64) m a8 c8 p1.d)(g3:RepS (aG .i64) m a9 c9 p2.f)(hr:QV N Re Rf Rg Rh Ri Rj p0 p1 p2=some r):Calls prog 56 #[vP bp0 0,.agg (mK p1 a4 c4 a5 c5 a6 c6 a7 c7 a8 c8),.agg (Va p2 a9 c9)] w λe w'=>(∃(z0:oZ),∃k3 k4 m',r= .inl z0/\pM 171 m m' e z0.1 (aA R d3 c0::aA Z d4 d1::cB o a1 c1 R a2 c2 Z p0.1::aA S k3 k4::aA V d5 d2::iB bp0 o a3 c3 S V p0 z0.d.1 z0.e.1 z0.f::O) w' (MapQ aY cO false m' S k3 k4 z0.2.1))\/(∃(y0:pA),r= .inr y0/\∃k3 k4 m',bN m m' e (vI y0.2) (aA R d3 c0::aA Z d4 d1::cB o a1 c1 R a2 c2 Z p0.1::aA S k3 k4::aA V d5 d2::iB bp0 o a3 c3 S V p0 y0.1.2.1 y0.1.d.1 y0.1.e::O) w' (MapQ aY cO false m' S k3 k4 y0.1.1)):=by
 refine bH g func56 rfl ntmps56 λq=>aD (eC 4 156 (.agg (mK p1 a4 c4 a5 c5 a6 c6 a7 c7 a8 c8)) g λb1 m1 w1 e1 g d6=>eC 5 158 (.agg (Va p2 a9 c9)) g λb2 m2 w2 e2 g n0=> ?_);have q:=(q.t e1).t e2;have r8:=(r8.o e1).o e2;have r9:=(r9.o e1).o e2;have d6:=d6.o e2;have Y:=(Y.o e1).o e2;have r4:=(r4.o e1).o e2;have r1:=(r1.o e1).o e2;have r3:=(r3.o e1).o e2;have r7:=(r7.o e1).o e2;have r5:=(r5.o e1).o e2;refine eI (cM [(17,λw'=>Inv m2 w'/\Piece.holds m2 w' (nK bp0 o a3 c3 S V p0)/\True)] kr g λw3 _ g=> ?_);have U:=m2.le_refl;refine⟨aL (aF g U),aU 3 [0,1,2] (bZ 3 cH (aN 4 (cN 5 d6 (aN 6 (cN 7 (n0.drop 3) (qZ [8,13] kr ae (rW ?_ ?_)))))))⟩
 .refine cY hr (λ_ h=>Ct (p1:=p1.1) g.f2.f2.f2 r1 Y r3 r4 r8 r9 h) ?_;rintro y1 hr _ w4 ⟨d7,d8,m3,rfl,b,g,o0⟩;refine⟨_,rfl,?_⟩;have U:=U.t b;refine⟨aL (aF g U),aU 4 [9,10,11,12] (aK 13 kr (pN 7 59 (.agg dW) g λb3 w5 g=>⟨aL (aF g U),aK 14 kr (iV 59 7 23 (.agg (Ve y1.1)) g λw6 g=>⟨aL (aF g U),aU 2 [15,16] (bO kr (aV (bA 2 hr (FG (p0:=p0) g.f7.f7.f7.f7.f7.f7 (r1.o b) (Y.o b) (r3.o b) (r4.o b) (r5.o b) (((r6.o e1).o e2).o b) (r7.o b) o0) ?_)))⟩)⟩))⟩;rintro y2 hr _ w7 ⟨h7,h6,m4,rfl,E,g,h8⟩;refine cX ?_;have g:=g.f7.t;refine oN 1 (eG hr (SG g) ?_);rintro y3 hr _ w8 (⟨z1,m6,rfl,rfl,e6,g⟩|⟨y4,rfl,m5,rfl,F,g⟩)
  .refine bQ ?_;obtain rfl:=sI hr;have g:=g.f6.t.f5.f5.f5.f5.f5.f5;exact cU (.inl ⟨(z1,y2),h7,h6,m6,rfl,rfl,((q.t b).t E).t e6,g,h8.o e6⟩)
  refine aI (cG (iG 1 g ((((n0.o b).o E).o F).drop 4) (mA ?_)));have⟨h0,hr,j1⟩:=aM hr;refine eS (.exit 0) (λL' w'=>∃(a:Te×T3r),∃b0 b8 f0 d9 H,(.inl a)=h0/\L'=[(0,vP bp0 0),(7,vP b3 0),(10,vS b0 a.1 b8)]/\m.le H/\St H (cB o a1 c1 R a2 c2 Z p0.1::iB bp0 o a3 c3 S V p0 a.2.1 a.d.1 a.e.1::kB b3 (Ve y1.1) 59::aA R d3 c0::aA Z d4 d1::aA S f0 d9::aA V d5 d2::kR b0 a.1 b8 3 1::O) w'/\RepS (aG .i64) H b0 b8 a.1/\RepS C1 H a1 c1 p0.1.1/\RepS aB H a2 c2 p0.1.e.1/\RepS C3 H a3 c3 p0.2.1/\MapQ cZ C7 true H R d3 c0 p0.1.d.1/\MapQ aY C8 true H Z d4 d1 p0.1.f/\MapQ aY cO false H S f0 d9 a.f/\MapQ cS iJ false H V d5 d2 p0.k) ?_ ?_
  .rintro _ t6 ⟨a,b0,b8,f0,d9,H,rfl,rfl,q,g,o3,r1,r3,r5,Y,r4,h9,r7⟩;have hr:=j1;refine eY (aJ (cM [(21,λw'=>Inv H w'/\Piece.holds H w' (cB o a1 c1 R a2 c2 Z p0.1)/\Piece.holds H w' (iB bp0 o a3 c3 S V p0 a.2.1 a.d.1 a.e.1)/\Piece.holds H w' (kB b3 (Ve y1.1) 59)/\True)] kr g λu1 _ g=> ?_));have M:=H.le_refl;refine⟨aL (aF g M),aU 5 [0,1,2,3,4] (bZ 5 nV (aU 2 [6,7] (bZ 8 cH (aN 9 (bZ 10 EG (aN 13 (bZ 14 EG (aK 11 kr (tW (ek:=cZ) (c:=C7) (agg:=true) (k:=y1.1.e.1) (zx:=(eB,([]:Tb),([]:mI))) (zcs:=[vT eB,v2,vd]) (z:=(.agg #[vT eB,v2,vd])) (kt:=9) (et:=81) (d:=57) (t:=65) (x:=(.tmp 54)) (y:=(.tmp 56)) (ok:=false) kr rfl (ev (.map R)) (ev (vT y1.1.e.1)) kr (yA kr) g.t.t.t.h Y ⟨_,_,rfl,rfl,⟨_,_,rfl,(pO (RepS.nil _ _)),(pO (RepS.nil _ _))⟩⟩ rfl ?_)))))))))⟩;rintro s5 ⟨_,_,rfl,rfl,⟨_,_,rfl,⟨q8,r0,rfl,t3⟩,⟨h3,h5,rfl,o9⟩⟩⟩;refine⟨aL (aF g M),aN 12 ?_⟩;have⟨x2,n3,hr⟩:=aM hr;refine nP (t:=79) (e:=111) (x:=(.tmp 58)) (y:=(.tmp 60)) 15 61 C6 kr rfl kr (.head _) (bU lR) (ev (.slice h3 (List.length (((cR p0.1.d.1 y1.1.e.1).getD (eB,([]:Tb),([]:mI))).2.2)) h5)) (ev (vI y1.1.f.1)) kr o9 n3 ?_;rintro b6 f2 s6 ⟨_,_,rfl,rfl,⟨_,_,rfl,rfl,⟨_,_,rfl,⟨l2,l3,rfl,t4⟩,⟨q9,s3,rfl,t5⟩⟩⟩⟩ n2;refine aN 16 (cN 17 (n2.drop 2) (aU 2 [18,19] ?_))
   have⟨y7,n4,hr⟩:=aM hr;refine aK 20 kr (tZ 66 90 #[vB ((a.1.length:Int) !=(x2.2.2.1.length:Int)),vI 13] kr rfl ((zB g n4).mono ?_));rintro _ u2 (⟨z3,n7,rfl,rfl,g6,g⟩|⟨y8,rfl,s8,rfl,B,g⟩)
   .refine .inr ⟨_,rfl,?_⟩;have M:=M.t g6;refine bQ ?_;obtain rfl:=sI hr;have g:=g.f2.t.f6.t.f1.f5.f5.f3.f5.f5;exact cU (.inl ⟨(z3,(a.f,a.2.1,a.d.1,a.e.1)),f0,d9,n7,rfl,rfl,q.t g6,g,h9.o g6⟩)
   refine .inl ⟨_,rfl,?_⟩;have M:=M.t B;refine⟨aL (aF g M),bO kr (oN 1 (bD g.t.t.h (aX 1 (eG hr (u (p0:=(p0.1,p0.2.1,p0.d.1,a.f,a.2.1,a.d.1,a.e.1,p0.k)) (p1:=y1.1) g.f1.f6.f6.f3.f6.f6 (r1.o B) (Y.o B) (r3.o B) (r4.o B) (r5.o B) (h9.o B) (r7.o B) (o3.o B)) ?_))))⟩;rintro y9 hr _ u3 (⟨z4,k9,k7,n9,rfl,rfl,l7,g,q5⟩|⟨k5,rfl,k8,k6,n8,rfl,l6,g,q0⟩)
   .exact bQ (cU (.inl (zH hr g.f6.t.f6.t.f5.f5.f5.f5.f5.f5)))
   refine eJ 1 ?_;have g:=g.f7.t;cases hr;exact aV (aT (lJ [6] [vI k5.2] (.inr ⟨_,rfl,k8,k6,n8,rfl,(q.t B).t l6,g.f6.t.f5.f5.f5.f5.f5.f5,q0⟩)))
  intro h1;have g:=(g.nilroom 3 1).front5.front5.front4.front4.front7.front7.front7
  refine eF (λk1 L' w'=>∃(s1:T3s),∃b7 b9 f9 e0 p,aC (wQ N Re p0 p1 p2) k1 s1=some h0/\L'=[(0,vP bp0 0),(4,vP b1 0),(7,vP b3 0),(10,vS b7 s1.1 b9),(32,vS a9 p2.f c9),(33,vI (p2.2.2.2.2.length:Int)),(34,vI s1.2.1)]/\m.le p/\St p (cB o a1 c1 R a2 c2 Z p0.1::iB bp0 o a3 c3 S V p0 s1.d.1 s1.e.1 s1.f.1::kB b3 (Ve y1.1) 59::aA R d3 c0::aA Z d4 d1::aA S f9 e0::aA V d5 d2::kR b7 s1.1 b9 3 1::O) w'/\MRow p b1 0 [vT p1.1.1,vS a4 p1.1.2.1 c4,vS a5 p1.1.d c5,vI p1.2.1.1,vT p1.2.1.2.1,vS a6 p1.2.1.d.1 c6,vS a7 p1.2.1.e c7,vS a8 p1.d c8]/\RepS aB p a4 c4 p1.1.2.1/\RepS C6 p a5 c5 p1.1.d/\RepS aB p a6 c6 p1.2.1.d.1/\RepS C5 p a7 c7 p1.2.1.e/\RepS (aG .i64) p a8 c8 p1.d/\RepS (aG .i64) p b7 b9 s1.1/\RepS (aG .i64) p a9 c9 p2.f/\RepS C1 p a1 c1 p0.1.1/\RepS aB p a2 c2 p0.1.e.1/\RepS C3 p a3 c3 p0.2.1/\MapQ cZ C7 true p R d3 c0 p0.1.d.1/\MapQ aY C8 true p Z d4 d1 p0.1.f/\MapQ aY cO false p S f9 e0 s1.h/\MapQ cS iJ false p V d5 d2 p0.k) N ⟨(([]:Te),0,y2.2.1,y2.d.1,y2.e,y2.1),none,0,h7,h6,m5,hr,rfl,((q.t b).t E).t F,g,((d6.o b).o E).o F,((r8.o b).o E).o F,((r9.o b).o E).o F,((((g0.o e1).o e2).o b).o E).o F,((((g1.o e1).o e2).o b).o E).o F,((((g2.o e1).o e2).o b).o E).o F,(RepS.nil _ _),((((g3.o e1).o e2).o b).o E).o F,((r1.o b).o E).o F,((r3.o b).o E).o F,((r5.o b).o E).o F,((Y.o b).o E).o F,((r4.o b).o E).o F,h8.o F,((r7.o b).o E).o F⟩ ?_
  rintro k1 _ t7 ⟨s1,b7,b9,f9,e0,p,hL,rfl,q,g,d6,r8,r9,g0,g1,g2,k0,g3,r1,r3,r5,Y,r4,k2,r7⟩;obtain⟨k1,s9,rfl,hr,l0,g7⟩:=eH hL;refine cG (aO hr ?_ ?_)<;>intro A hr
  .refine aQ (aJ (bJ (aD (iP g3 hr ?_))));rintro x1 hr b4 f1 s4 rfl n1;refine dU g n1 (aW (eQ 2 (dU g d6 (aX 1 (eG hr (D (p0:=(p0.1,p0.2.1,p0.d.1,s1.h,s1.d.1,s1.e.1,s1.f.1,p0.k)) (p1:=p1) g.f1.f6.f6.f3.f6.f6 r1 Y r3 r4 r5 k2 r7 r8 r9 g0 g1 g2) ?_)))));rintro y5 hr _ t8 (⟨z2,l9,l5,n5,rfl,rfl,e8,g,o6⟩|⟨y6,rfl,l8,l4,m9,rfl,K,g,o5⟩)
   .refine lU (bQ ?_);have ho:=g7 _ (sI hr);subst ho;have hr:=j1;exact bQ (lU (bQ (cU (.inl (zH hr g.f6.t.f6.t.f5.f5.f5.f5.f5.f5)))))
   refine iF 43 3 1 (aG .i64) [y6.2] g λb5 s7 t9 G g o7=>oB 44 22 22 3 8 38 43 g.f8 (.inl kr) ((k0.o K).o G) o7.src hr λl1 hr h2 h4 n6 u0 l g o8=>eJ 1 ?_;have g:=g.f1.t;refine sW (cP 2 ?_);have hL:=l0 _ (sI hr);exact dX ⟨(l1,wI (s1.2.1+1),y6.1.2.1,y6.1.d.1,y6.1.e,y6.1.1),h2,h4,l8,l4,n6,hL,rfl,((q.t K).t G).t l,g.f5.f5.f4.f4.f7.f7.f7,((d6.o K).o G).o l,((r8.o K).o G).o l,((r9.o K).o G).o l,((g0.o K).o G).o l,((g1.o K).o G).o l,((g2.o K).o G).o l,o8,((g3.o K).o G).o l,((r1.o K).o G).o l,((r3.o K).o G).o l,((r5.o K).o G).o l,((Y.o K).o G).o l,((r4.o K).o G).o l,(o5.o G).o l,((r7.o K).o G).o l⟩
  refine eE ?_;exact dY (h1 _ _ (zL g7 hr g.f7.f7.f7.f7.f7.f7.f7.f7))
 refine pN 7 59 (.agg dW) g λb3 w4 g=> ?_;refine⟨aL (aF g U),aK 8 kr (cY hr (λ_ h=>Ct (p1:=p1.1) g.f3.f3.f3 r1 Y r3 r4 r8 r9 h) ?_)⟩;rintro y1 hr _ w5 ⟨d7,d8,m3,rfl,b,g,o0⟩;refine⟨_,rfl,?_⟩;have U:=U.t b;refine⟨aL (aF g U),aU 4 [9,10,11,12] (aK 14 kr (iV 59 7 23 (.agg (Ve y1.1)) g.f4 λw6 g=>⟨aL (aF g U),aU 2 [15,16] (bO kr (aV (bA 2 hr (FG (p0:=p0) g.f7.f7.f7.f7.f7.f7 (r1.o b) (Y.o b) (r3.o b) (r4.o b) (r5.o b) (((r6.o e1).o e2).o b) (r7.o b) o0) ?_)))⟩))⟩;rintro y2 hr _ w7 ⟨h7,h6,m4,rfl,E,g,h8⟩;refine cX ?_;have g:=g.f7.t;refine oN 1 (eG hr (SG g) ?_);rintro y3 hr _ w8 (⟨z1,m6,rfl,rfl,e6,g⟩|⟨y4,rfl,m5,rfl,F,g⟩)
 .refine bQ ?_;obtain rfl:=sI hr;have g:=g.f6.t.f5.f5.f5.f5.f5.f5;exact cU (.inl ⟨(z1,y2),h7,h6,m6,rfl,rfl,((q.t b).t E).t e6,g,h8.o e6⟩)
 refine aI (cG (iG 1 g ((((n0.o b).o E).o F).drop 4) (mA ?_)));have⟨h0,hr,j1⟩:=aM hr;refine eS (.exit 0) (λL' w'=>∃(a:Te×T3r),∃b0 b8 f0 d9 H,(.inl a)=h0/\L'=[(0,vP bp0 0),(7,vP b3 0),(10,vS b0 a.1 b8)]/\m.le H/\St H (cB o a1 c1 R a2 c2 Z p0.1::iB bp0 o a3 c3 S V p0 a.2.1 a.d.1 a.e.1::kB b3 (Ve y1.1) 59::aA R d3 c0::aA Z d4 d1::aA S f0 d9::aA V d5 d2::kR b0 a.1 b8 3 1::O) w'/\RepS (aG .i64) H b0 b8 a.1/\RepS C1 H a1 c1 p0.1.1/\RepS aB H a2 c2 p0.1.e.1/\RepS C3 H a3 c3 p0.2.1/\MapQ cZ C7 true H R d3 c0 p0.1.d.1/\MapQ aY C8 true H Z d4 d1 p0.1.f/\MapQ aY cO false H S f0 d9 a.f/\MapQ cS iJ false H V d5 d2 p0.k) ?_ ?_
 .rintro _ t6 ⟨a,b0,b8,f0,d9,H,rfl,rfl,q,g,o3,r1,r3,r5,Y,r4,h9,r7⟩;have hr:=j1;refine eY (aJ (cM [(21,λw'=>Inv H w'/\Piece.holds H w' (cB o a1 c1 R a2 c2 Z p0.1)/\Piece.holds H w' (iB bp0 o a3 c3 S V p0 a.2.1 a.d.1 a.e.1)/\Piece.holds H w' (kB b3 (Ve y1.1) 59)/\True)] kr g λu1 _ g=> ?_));have M:=H.le_refl;refine⟨aL (aF g M),aU 5 [0,1,2,3,4] (bZ 5 nV (aU 2 [6,7] (bZ 8 cH (aN 9 (bZ 10 EG (aN 13 (bZ 14 EG (aK 11 kr (tW (ek:=cZ) (c:=C7) (agg:=true) (k:=y1.1.e.1) (zx:=(eB,([]:Tb),([]:mI))) (zcs:=[vT eB,v2,vd]) (z:=(.agg #[vT eB,v2,vd])) (kt:=9) (et:=81) (d:=57) (t:=65) (x:=(.tmp 54)) (y:=(.tmp 56)) (ok:=false) kr rfl (ev (.map R)) (ev (vT y1.1.e.1)) kr (yA kr) g.t.t.t.h Y ⟨_,_,rfl,rfl,⟨_,_,rfl,(pO (RepS.nil _ _)),(pO (RepS.nil _ _))⟩⟩ rfl ?_)))))))))⟩;rintro s5 ⟨_,_,rfl,rfl,⟨_,_,rfl,⟨q8,r0,rfl,t3⟩,⟨h3,h5,rfl,o9⟩⟩⟩;refine⟨aL (aF g M),aN 12 ?_⟩;have⟨x2,n3,hr⟩:=aM hr;refine nP (t:=79) (e:=111) (x:=(.tmp 58)) (y:=(.tmp 60)) 15 61 C6 kr rfl kr (.head _) (bU lR) (ev (.slice h3 (List.length (((cR p0.1.d.1 y1.1.e.1).getD (eB,([]:Tb),([]:mI))).2.2)) h5)) (ev (vI y1.1.f.1)) kr o9 n3 ?_;rintro b6 f2 s6 ⟨_,_,rfl,rfl,⟨_,_,rfl,rfl,⟨_,_,rfl,⟨l2,l3,rfl,t4⟩,⟨q9,s3,rfl,t5⟩⟩⟩⟩ n2;refine aN 16 (cN 17 (n2.drop 2) (aU 2 [18,19] ?_))
  have⟨y7,n4,hr⟩:=aM hr;refine aK 20 kr (tZ 66 90 #[vB ((a.1.length:Int) !=(x2.2.2.1.length:Int)),vI 13] kr rfl ((zB g n4).mono ?_));rintro _ u2 (⟨z3,n7,rfl,rfl,g6,g⟩|⟨y8,rfl,s8,rfl,B,g⟩)
  .refine .inr ⟨_,rfl,?_⟩;have M:=M.t g6;refine bQ ?_;obtain rfl:=sI hr;have g:=g.f2.t.f6.t.f1.f5.f5.f3.f5.f5;exact cU (.inl ⟨(z3,(a.f,a.2.1,a.d.1,a.e.1)),f0,d9,n7,rfl,rfl,q.t g6,g,h9.o g6⟩)
  refine .inl ⟨_,rfl,?_⟩;have M:=M.t B;refine⟨aL (aF g M),bO kr (oN 1 (bD g.t.t.h (aX 1 (eG hr (u (p0:=(p0.1,p0.2.1,p0.d.1,a.f,a.2.1,a.d.1,a.e.1,p0.k)) (p1:=y1.1) g.f1.f6.f6.f3.f6.f6 (r1.o B) (Y.o B) (r3.o B) (r4.o B) (r5.o B) (h9.o B) (r7.o B) (o3.o B)) ?_))))⟩;rintro y9 hr _ u3 (⟨z4,k9,k7,n9,rfl,rfl,l7,g,q5⟩|⟨k5,rfl,k8,k6,n8,rfl,l6,g,q0⟩)
  .exact bQ (cU (.inl (zH hr g.f6.t.f6.t.f5.f5.f5.f5.f5.f5)))
  refine eJ 1 ?_;have g:=g.f7.t;cases hr;exact aV (aT (lJ [6] [vI k5.2] (.inr ⟨_,rfl,k8,k6,n8,rfl,(q.t B).t l6,g.f6.t.f5.f5.f5.f5.f5.f5,q0⟩)))
 intro h1;have g:=(g.nilroom 3 1).front5.front5.front4.front4.front7.front7.front7
 refine eF (λk1 L' w'=>∃(s1:T3s),∃b7 b9 f9 e0 p,aC (wQ N Re p0 p1 p2) k1 s1=some h0/\L'=[(0,vP bp0 0),(4,vP b1 0),(7,vP b3 0),(10,vS b7 s1.1 b9),(32,vS a9 p2.f c9),(33,vI (p2.2.2.2.2.length:Int)),(34,vI s1.2.1)]/\m.le p/\St p (cB o a1 c1 R a2 c2 Z p0.1::iB bp0 o a3 c3 S V p0 s1.d.1 s1.e.1 s1.f.1::kB b3 (Ve y1.1) 59::aA R d3 c0::aA Z d4 d1::aA S f9 e0::aA V d5 d2::kR b7 s1.1 b9 3 1::O) w'/\MRow p b1 0 [vT p1.1.1,vS a4 p1.1.2.1 c4,vS a5 p1.1.d c5,vI p1.2.1.1,vT p1.2.1.2.1,vS a6 p1.2.1.d.1 c6,vS a7 p1.2.1.e c7,vS a8 p1.d c8]/\RepS aB p a4 c4 p1.1.2.1/\RepS C6 p a5 c5 p1.1.d/\RepS aB p a6 c6 p1.2.1.d.1/\RepS C5 p a7 c7 p1.2.1.e/\RepS (aG .i64) p a8 c8 p1.d/\RepS (aG .i64) p b7 b9 s1.1/\RepS (aG .i64) p a9 c9 p2.f/\RepS C1 p a1 c1 p0.1.1/\RepS aB p a2 c2 p0.1.e.1/\RepS C3 p a3 c3 p0.2.1/\MapQ cZ C7 true p R d3 c0 p0.1.d.1/\MapQ aY C8 true p Z d4 d1 p0.1.f/\MapQ aY cO false p S f9 e0 s1.h/\MapQ cS iJ false p V d5 d2 p0.k) N ⟨(([]:Te),0,y2.2.1,y2.d.1,y2.e,y2.1),none,0,h7,h6,m5,hr,rfl,((q.t b).t E).t F,g,((d6.o b).o E).o F,((r8.o b).o E).o F,((r9.o b).o E).o F,((((g0.o e1).o e2).o b).o E).o F,((((g1.o e1).o e2).o b).o E).o F,((((g2.o e1).o e2).o b).o E).o F,(RepS.nil _ _),((((g3.o e1).o e2).o b).o E).o F,((r1.o b).o E).o F,((r3.o b).o E).o F,((r5.o b).o E).o F,((Y.o b).o E).o F,((r4.o b).o E).o F,h8.o F,((r7.o b).o E).o F⟩ ?_
 rintro k1 _ t7 ⟨s1,b7,b9,f9,e0,p,hL,rfl,q,g,d6,r8,r9,g0,g1,g2,k0,g3,r1,r3,r5,Y,r4,k2,r7⟩;obtain⟨k1,s9,rfl,hr,l0,g7⟩:=eH hL;refine cG (aO hr ?_ ?_)<;>intro A hr
 .refine aQ (aJ (bJ (aD (iP g3 hr ?_))));rintro x1 hr b4 f1 s4 rfl n1;refine dU g n1 (aW (eQ 2 (dU g d6 (aX 1 (eG hr (D (p0:=(p0.1,p0.2.1,p0.d.1,s1.h,s1.d.1,s1.e.1,s1.f.1,p0.k)) (p1:=p1) g.f1.f6.f6.f3.f6.f6 r1 Y r3 r4 r5 k2 r7 r8 r9 g0 g1 g2) ?_)))));rintro y5 hr _ t8 (⟨z2,l9,l5,n5,rfl,rfl,e8,g,o6⟩|⟨y6,rfl,l8,l4,m9,rfl,K,g,o5⟩)
  .refine lU (bQ ?_);have ho:=g7 _ (sI hr);subst ho;have hr:=j1;exact bQ (lU (bQ (cU (.inl (zH hr g.f6.t.f6.t.f5.f5.f5.f5.f5.f5)))))
  refine iF 43 3 1 (aG .i64) [y6.2] g λb5 s7 t9 G g o7=>oB 44 22 22 3 8 38 43 g.f8 (.inl kr) ((k0.o K).o G) o7.src hr λl1 hr h2 h4 n6 u0 l g o8=>eJ 1 ?_;have g:=g.f1.t;refine sW (cP 2 ?_);have hL:=l0 _ (sI hr);exact dX ⟨(l1,wI (s1.2.1+1),y6.1.2.1,y6.1.d.1,y6.1.e,y6.1.1),h2,h4,l8,l4,n6,hL,rfl,((q.t K).t G).t l,g.f5.f5.f4.f4.f7.f7.f7,((d6.o K).o G).o l,((r8.o K).o G).o l,((r9.o K).o G).o l,((g0.o K).o G).o l,((g1.o K).o G).o l,((g2.o K).o G).o l,o8,((g3.o K).o G).o l,((r1.o K).o G).o l,((r3.o K).o G).o l,((r5.o K).o G).o l,((Y.o K).o G).o l,((r4.o K).o G).o l,(o5.o G).o l,((r7.o K).o G).o l⟩
 refine eE ?_;exact dY (h1 _ _ (zL g7 hr g.f7.f7.f7.f7.f7.f7.f7.f7))
theorem Od{Re Rf Rg Rh Ri Rj}(b:FI Re)(d6:FD Rf)(d8:FK Rg)(d4:EX Rh)(d5:EW Ri)(d9:FH Rj){p0:dV}{p1:eR}{p2:dZ}{H U b7 Z V b8 b0 R f9 f7 Y b9 b5 r}(g:St m (aA U b7 Z::aA V b8 b0::cB H a1 c1 U a2 c2 V p0.1::aA R f9 f7::aA Y b9 b5::nK bp0 H a3 c3 R Y p0::O) w)(z:RepS C1 m a1 c1 p0.1.1)(B:MapQ cZ C7 true m U b7 Z p0.1.d.1)(D:RepS aB m a2 c2 p0.1.e.1)(E:MapQ aY C8 true m V b8 b0 p0.1.f)(F:RepS C3 m a3 c3 p0.2.1)(r6:MapQ aY cO false m R f9 f7 p0.e.1)(G:MapQ cS iJ false m Y b9 b5 p0.k)(r8:RepS aB m a4 c4 p1.1.2.1)(r9:RepS C6 m a5 c5 p1.1.d)(g2:RepS aB m a6 c6 p1.2.1.d.1)(g3:RepS C5 m a7 c7 p1.2.1.e)(g4:RepS (aG .i64) m a8 c8 p1.d)(e0:RepS (aG .i64) m a9 c9 p2.f)(hr:AP N Re Rf Rg Rh Ri Rj p0 p1 p2=some r):Calls prog 57 #[vP bp0 0,.agg (mK p1 a4 c4 a5 c5 a6 c6 a7 c7 a8 c8),.agg (Va p2 a9 c9)] w λe w'=>(∃(z0:oZ),∃f0 f6 m',r= .inl z0/\pM 171 m m' e z0.1 (aA U b7 Z::aA V b8 b0::cB H a1 c1 U a2 c2 V p0.1::aA R f0 f6::aA Y b9 b5::iB bp0 H a3 c3 R Y p0 z0.d.1 z0.e.1 z0.f::O) w' (MapQ aY cO false m' R f0 f6 z0.2.1))\/(∃(y0:pA),r= .inr y0/\∃f0 f6 m',bN m m' e (vI y0.2) (aA U b7 Z::aA V b8 b0::cB H a1 c1 U a2 c2 V p0.1::aA R f0 f6::aA Y b9 b5::iB bp0 H a3 c3 R Y p0 y0.1.2.1 y0.1.d.1 y0.1.e::O) w' (MapQ aY cO false m' R f0 f6 y0.1.1)):=by
 refine bH g func57 rfl ntmps57 λq=>aD (eC 4 156 (.agg (mK p1 a4 c4 a5 c5 a6 c6 a7 c7 a8 c8)) g λb1 m1 w1 u g g0=>eC 5 158 (.agg (Va p2 a9 c9)) g λb2 m2 w2 p g d1=> ?_);have q:=(q.t u).t p;have B:=(B.o u).o p;have E:=(E.o u).o p;have z:=(z.o u).o p;have D:=(D.o u).o p;have G:=(G.o u).o p;have F:=(F.o u).o p;refine eI (cM [(8,λw'=>Inv m2 w'/\True)] kr g λw3 _ g=> ?_);have d2:=m2.le_refl;refine tA g d2 (aN 0 (cN 1 (g0.o p) (aN 2 (cN 3 (d1.drop 4) ?_))));have⟨x1,h1,hr⟩:=aM hr;refine nP (t:=22) (e:=3) (x:=(.tmp 13)) (y:=(.const (vI 0))) 4 14 (aG .i64) kr rfl kr (.head _) (bU lR) (ev (vS a9 p2.f c9)) (ev (vI 0)) kr ((e0.o u).o p) h1 ?_;rintro b3 f1 k3 rfl g9;refine cN 5 g9 ?_;have g:=g.f5.f5.f5.f5.f5.f5;have⟨y1,h2,hr⟩:=aM hr;refine aK 6 kr (tZ 16 89 #[vP bp0 0,.agg (mK p1 a4 c4 a5 c5 a6 c6 a7 c7 a8 c8),vI x1] kr rfl ((b (p0:=p0) (p1:=p1) g z B D E F ((r6.o u).o p) G ((r8.o u).o p) ((r9.o u).o p) ((g2.o u).o p) ((g3.o u).o p) ((g4.o u).o p) h2).mono ?_));rintro _ w4 (⟨z1,g7,g5,m4,rfl,rfl,e4,g,k0⟩|⟨l,rfl,k5,k2,m3,rfl,o,g,h9⟩)
 .refine .inr ⟨_,rfl,?_⟩;have d2:=d2.t e4;exact bQ (cU (.inl (zH hr g.f5.f5.f5.f5.f5.f5)))
 refine .inl ⟨_,rfl,?_⟩;have e0:=((e0.o u).o p).o o;have d2:=d2.t o;refine tA g d2 (aN 7 (bO kr (lG (cM [(8,λw'=>Inv m3 w'/\True)] kr g λw6 _ g=> ?_))));have d3:=m3.le_refl;refine tA g d3 (aN 0 (cN 1 ((g0.o p).o o) (aN 2 (cN 3 ((d1.o o).drop 4) ?_))));have⟨x2,h3,hr⟩:=aM hr;refine nP (t:=22) (e:=3) (x:=(.tmp 20)) (y:=(.const (vI 1))) 4 21 (aG .i64) kr rfl kr (.head _) (bU lR) (ev (vS a9 p2.f c9)) (ev (vI 1)) kr e0 h3 ?_;rintro b4 f2 k4 rfl h0;refine cN 5 h0 ?_;have g:=g.f5.f5.f5.f5.f5.f5;have⟨y3,h4,hr⟩:=aM hr;refine aK 6 kr (tZ 23 89 #[vP bp0 0,.agg (mK p1 a4 c4 a5 c5 a6 c6 a7 c7 a8 c8),vI x2] kr rfl ((b (p0:=(p0.1,p0.2.1,p0.d.1,l.1.1,l.1.2.1,l.1.d.1,l.1.e,p0.k)) (p1:=p1) g (z.o o) (B.o o) (D.o o) (E.o o) (F.o o) h9 (G.o o) (((r8.o u).o p).o o) (((r9.o u).o p).o o) (((g2.o u).o p).o o) (((g3.o u).o p).o o) (((g4.o u).o p).o o) h4).mono ?_));rintro _ w7 (⟨z2,g8,g6,m6,rfl,rfl,e6,g,k1⟩|⟨a,rfl,c0,b6,m5,rfl,e5,g,c⟩)
 .refine .inr ⟨_,rfl,?_⟩;have d3:=d3.t e6;exact bQ (cU (.inl (zH hr g.f5.f5.f5.f5.f5.f5)))
 refine .inl ⟨_,rfl,?_⟩;have q:=(q.t o).t e5;have d1:=(d1.o o).o e5;have B:=(B.o o).o e5;have E:=(E.o o).o e5;have z:=(z.o o).o e5;have D:=(D.o o).o e5;have G:=(G.o o).o e5;have F:=(F.o o).o e5;have d3:=d3.t e5;refine tA g d3 (aN 7 (bO kr (aV (cG (iG 1 g (d1.drop 2) (aI ?_))))));have⟨h8,hr,j1⟩:=aM hr;refine eS .normal (λL' w'=>∃(o1:Int),∃m7,(.inl o1:Int⊕xL)=h8/\L'=[(9,vI o1)]/\m.le m7/\St m7 (cB H a1 c1 U a2 c2 V p0.1::iB bp0 H a3 c3 R Y p0 a.1.2.1 a.1.d.1 a.1.e::aA U b7 Z::aA V b8 b0::aA R c0 b6::aA Y b9 b5::O) w'/\RepS C1 m7 a1 c1 p0.1.1/\RepS aB m7 a2 c2 p0.1.e.1/\RepS C3 m7 a3 c3 p0.2.1/\MapQ cZ C7 true m7 U b7 Z p0.1.d.1/\MapQ aY C8 true m7 V b8 b0 p0.1.f/\MapQ aY cO false m7 R c0 b6 a.1.1/\MapQ cS iJ false m7 Y b9 b5 p0.k) ?_ ?_
 .rintro _ w9 ⟨o1,m7,rfl,rfl,q,g,z,D,F,B,E,c,G⟩;have hr:=j1;refine aV (bA 1 hr (WE g) ?_);rintro h5 hr _ h7 ⟨h6,rfl,M,g⟩;refine aX 1 (eG hr (zB g) ?_);rintro k7 hr _ k6 (⟨z5,g1,rfl,rfl,d7,g⟩|⟨k8,rfl,f8,rfl,S,g⟩)
  .refine bQ ?_;obtain rfl:=sI hr;have g:=g.f1.f5.f5.f3.f5.f5;exact cU (.inl ⟨(z5,a.1),c0,b6,g1,rfl,rfl,(q.t M).t d7,g,(c.o M).o d7⟩)
  obtain rfl:=sI hr;exact aI (bK (aT (lJ [6] [vI o1] (.inr ⟨_,rfl,c0,b6,f8,rfl,(q.t M).t S,g.f1.f5.f5.f3.f5.f5,(c.o M).o S⟩))))
 intro d7;refine bJ (bV hr ?_ ?_)<;>intro A hr
 .refine cP 4 (iU ?_);have n1:=jE hr;exact xE (d7 _ _ (zA g.f4.f4.f3.f3.f5.f5))
 refine bV hr ?_ ?_<;>intro A hr
 .refine cP 4 (iU ?_);have n1:=jE hr;exact xE (d7 _ _ (zA g.f4.f4.f3.f3.f5.f5))
 refine bV hr ?_ ?_<;>intro A hr
 .refine aD (iY 14 hr (λo2 L' w'=>∃M,L'=[(7,vI l.2),(8,vI a.2),(55,vB o2)]/\m.le M/\St M (cB H a1 c1 U a2 c2 V p0.1::iB bp0 H a3 c3 R Y p0 a.1.2.1 a.1.d.1 a.1.e::aA U b7 Z::aA V b8 b0::aA R c0 b6::aA Y b9 b5::O) w'/\RepS C1 M a1 c1 p0.1.1/\RepS aB M a2 c2 p0.1.e.1/\RepS C3 M a3 c3 p0.2.1/\MapQ cZ C7 true M U b7 Z p0.1.d.1/\MapQ aY C8 true M V b8 b0 p0.1.f/\MapQ aY cO false M R c0 b6 a.1.1/\MapQ cS iJ false M Y b9 b5 p0.k) ?_ ?_)
  .rintro o2 hr _ g1 ⟨M,rfl,q,g,z,D,F,B,E,c,G⟩;refine eG hr (zB g) ?_;rintro y5 hr _ h5 (⟨z3,f8,rfl,rfl,e8,g⟩|⟨y6,rfl,m9,rfl,S,g⟩)
   .refine bQ (lU ?_);obtain rfl:=sI hr;have hr:=j1;refine bQ ?_;obtain rfl:=sI hr;have g:=g.f1.f5.f5.f3.f5.f5;exact cU (.inl ⟨(z3,a.1),c0,b6,f8,rfl,rfl,q.t e8,g,c.o e8⟩)
   refine aI (cP 4 (iU ?_));have n1:=jE hr;exact xE (d7 _ _ (zA g.f5.f5.f5.f5.f5.f5))
  intro o2 hr K;refine cW 3 44 hr ?_ ?_<;>intro A hr
  .refine aX 8 ?_;have⟨i1,S,hr⟩:=aM hr;exact bS (UD (d:=53) (t:=3) (t2:=3) (x:=(.const (vI 9007199254740992))) (y:=(.tmp 52)) kr rfl (ev (vI 9007199254740992)) (ev (vI (if(wI (0-a.2))>a.2 then(wI (0-a.2)) else a.2))) S (bG 2 (K hr (zA g.f4.f4.f3.f3.f5.f5))))
  exact bG 11 (K hr (zA g.f4.f4.f3.f3.f5.f5))
 refine aJ (bK (cE .normal hr (λo3 L' w'=>∃M,L'=[(5,vP b2 0),(7,vI l.2),(8,vI a.2),(25,vI p2.d.1),(60,vB o3)]/\m.le M/\St M (cB H a1 c1 U a2 c2 V p0.1::iB bp0 H a3 c3 R Y p0 a.1.2.1 a.1.d.1 a.1.e::aA U b7 Z::aA V b8 b0::aA R c0 b6::aA Y b9 b5::O) w'/\MRow M b2 0 (Vb p2 a9 c9)/\RepS (aG .i64) M a9 c9 p2.f/\RepS C1 M a1 c1 p0.1.1/\RepS aB M a2 c2 p0.1.e.1/\RepS C3 M a3 c3 p0.2.1/\MapQ cZ C7 true M U b7 Z p0.1.d.1/\MapQ aY C8 true M V b8 b0 p0.1.f/\MapQ aY cO false M R c0 b6 a.1.1/\MapQ cS iJ false M Y b9 b5 p0.k) ?_ ?_))
 .rintro o3 hr _ k6 ⟨M,rfl,q,g,d1,e0,z,D,F,B,E,c,G⟩;refine aV (aO hr ?_ ?_)<;>intro A hr
  .refine aR 2 (eG hr (zB g) ?_);rintro y7 hr _ k7 (⟨z4,h7,rfl,rfl,f8,g⟩|⟨y8,rfl,g1,rfl,S,g⟩)
   .refine bQ (lU ?_);obtain rfl:=sI hr;have hr:=j1;refine bQ ?_;obtain rfl:=sI hr;have g:=g.f1.f5.f5.f3.f5.f5;exact cU (.inl ⟨(z4,a.1),c0,b6,h7,rfl,rfl,q.t f8,g,c.o f8⟩)
   refine aI (aR 2 ?_);have⟨i2,h5,hr⟩:=aM hr;refine bS (UD (d:=68) (t:=3) (t2:=3) (x:=(.tmp 66)) (y:=(.tmp 67)) kr rfl (ev (vI l.2)) (ev (vI a.2)) h5 (aW (iG 1 g ((d1.o S).drop 2) (cV hr ?_ ?_))))<;>intro A hr
   .refine eQ 2 ?_;have⟨i3,h6,hr⟩:=aM hr;refine bS (ZZ (d:=74) (t:=3) (t2:=3) (x:=(.tmp 72)) (y:=(.tmp 73)) kr rfl (ev (vI l.2)) (ev (vI a.2)) h6 (eJ 1 (iU ?_)));have n1:=jE hr;exact xE (d7 _ _ (zA g.f5.f5.f5.f5.f5.f5))
   refine lB (iU ?_);have n1:=jE hr;exact xE (d7 _ _ (zA g.f5.f5.f5.f5.f5.f5))
  refine bV hr ?_ ?_<;>intro A hr
  .refine eQ 3 (bW hr (WL g) ?_);rintro y9 hr _ g1 ⟨f8,rfl,S,g⟩;refine eJ 1 (iU ?_);have n1:=jE hr;exact xE (d7 _ _ (zA g.f5.f5.f5.f5.f5.f5))
  refine eQ 3 (bW hr (WL g) ?_);rintro f8 hr _ h5 ⟨g1,rfl,S,g⟩;refine eJ 1 (iU ?_);have n1:=jE hr;exact xE (d7 _ _ (zA g.f5.f5.f5.f5.f5.f5))
 intro o3 hr S;refine aO hr ?_ ?_<;>intro A hr
 .exact iD (S hr ⟨m5,rfl,q,g.f4.f4.f3.f3.f5.f5,d1,e0.o e5,z,D,F,B,E,c,G⟩)
 exact cP 2 (xE (S hr ⟨m5,rfl,q,g.f4.f4.f3.f3.f5.f5,d1,e0.o e5,z,D,F,B,E,c,G⟩))
theorem Of{Re Rf Rg Rh Ri Rj}(a:FI Re)(B:FD Rf)(D:FK Rg)(u:EX Rh)(z:EW Ri)(E:FH Rj){p0:dV}{p1:eR}{p2:dZ}{F Z b8 b0 q2 b9 b6 G d3 d2 q4 c0 b7 r}(g:St m (aA Z b8 b0::aA q2 b9 b6::cB F a1 c1 Z a2 c2 q2 p0.1::aA G d3 d2::aA q4 c0 b7::nK bp0 F a3 c3 G q4 p0::O) w)(r1:RepS C1 m a1 c1 p0.1.1)(r2:MapQ cZ C7 true m Z b8 b0 p0.1.d.1)(r3:RepS aB m a2 c2 p0.1.e.1)(r4:MapQ aY C8 true m q2 b9 b6 p0.1.f)(r5:RepS C3 m a3 c3 p0.2.1)(r6:MapQ aY cO false m G d3 d2 p0.e.1)(r7:MapQ cS iJ false m q4 c0 b7 p0.k)(r8:RepS aB m a4 c4 p1.1.2.1)(r9:RepS C6 m a5 c5 p1.1.d)(M:RepS aB m a6 c6 p1.2.1.d.1)(R:RepS C5 m a7 c7 p1.2.1.e)(S:RepS (aG .i64) m a8 c8 p1.d)(U:RepS (aG .i64) m a9 c9 p2.f)(hr:FB N Re Rf Rg Rh Ri Rj p0 p1 p2=some r):Calls prog 58 #[vP bp0 0,.agg (mK p1 a4 c4 a5 c5 a6 c6 a7 c7 a8 c8),.agg (Va p2 a9 c9)] w λe w'=>(∃(z0:oZ),∃V Y m',r= .inl z0/\pM 171 m m' e z0.1 (aA Z b8 b0::aA q2 b9 b6::cB F a1 c1 Z a2 c2 q2 p0.1::aA G V Y::aA q4 c0 b7::iB bp0 F a3 c3 G q4 p0 z0.d.1 z0.e.1 z0.f::O) w' (MapQ aY cO false m' G V Y z0.2.1))\/(∃(y0:pA),r= .inr y0/\∃V Y m',bN m m' e (vI y0.2) (aA Z b8 b0::aA q2 b9 b6::cB F a1 c1 Z a2 c2 q2 p0.1::aA G V Y::aA q4 c0 b7::iB bp0 F a3 c3 G q4 p0 y0.1.2.1 y0.1.d.1 y0.1.e::O) w' (MapQ aY cO false m' G V Y y0.1.1)):=by
 refine bH g func58 rfl ntmps58 λq=>aD (eC 4 156 (.agg (mK p1 a4 c4 a5 c5 a6 c6 a7 c7 a8 c8)) g λb1 m1 w1 l g K=>eC 5 158 (.agg (Va p2 a9 c9)) g λb2 m2 w2 c g d1=> ?_);have r8:=(r8.o l).o c;have r9:=(r9.o l).o c;have M:=(M.o l).o c;have R:=(R.o l).o c;have S:=(S.o l).o c;have U:=(U.o l).o c;have K:=K.o c;have r2:=(r2.o l).o c;have r4:=(r4.o l).o c;have r1:=(r1.o l).o c;have r3:=(r3.o l).o c;have r7:=(r7.o l).o c;have r5:=(r5.o l).o c;refine eI (aJ (cM [(8,λw'=>Inv m2 w'/\True)] kr g λw3 _ g=> ?_));have o:=m2.le_refl;refine tA g o (aN 0 (cN 1 K (aN 2 (cN 3 (d1.drop 4) ?_))));have⟨x1,f4,hr⟩:=aM hr;refine nP (t:=22) (e:=3) (x:=(.tmp 10)) (y:=(.const (vI 0))) 4 11 (aG .i64) kr rfl kr (.head _) (bU (bU lR)) (ev (vS a9 p2.f c9)) (ev (vI 0)) kr U f4 ?_;rintro b3 f1 g3 rfl e9;refine cN 5 e9 ?_;have g:=g.f5.f5.f5.f5.f5.f5;have⟨y1,f6,hr⟩:=aM hr;refine aK 6 kr (tZ 13 89 #[vP bp0 0,.agg (mK p1 a4 c4 a5 c5 a6 c6 a7 c7 a8 c8),vI x1] kr rfl ((a (p0:=p0) (p1:=p1) g r1 r2 r3 r4 r5 ((r6.o l).o c) r7 r8 r9 M R S f6).mono ?_));rintro _ w4 (⟨z1,d9,d7,m4,rfl,rfl,e4,g,f9⟩|⟨H,rfl,g5,g2,m3,rfl,b,g,d4⟩)
 .refine .inr ⟨_,rfl,?_⟩;have o:=o.t e4;exact bQ (bQ (cU (.inl (zH hr g.f5.f5.f5.f5.f5.f5))))
 refine .inl ⟨_,rfl,?_⟩;have q:=((q.t l).t c).t b;have o:=o.t b;refine tA g o (aN 7 (bO kr (aV (aO hr ?_ ?_))))<;>intro A hr
 .refine aJ (cM [(8,λw'=>Inv m3 w'/\True)] kr g λw6 _ g=> ?_);have p:=m3.le_refl;refine tA g p (aN 0 (cN 1 (K.o b) (aN 2 (cN 3 ((d1.o b).drop 4) ?_))));have⟨x2,f7,hr⟩:=aM hr;refine nP (t:=22) (e:=3) (x:=(.tmp 18)) (y:=(.const (vI 1))) 4 19 (aG .i64) kr rfl kr (.head _) (bU (bU lR)) (ev (vS a9 p2.f c9)) (ev (vI 1)) kr (U.o b) f7 ?_;rintro b4 f2 g4 rfl f0;refine cN 5 f0 ?_;have g:=g.f5.f5.f5.f5.f5.f5;have⟨y3,f8,hr⟩:=aM hr;refine aK 6 kr (tZ 21 89 #[vP bp0 0,.agg (mK p1 a4 c4 a5 c5 a6 c6 a7 c7 a8 c8),vI x2] kr rfl ((a (p0:=(p0.1,p0.2.1,p0.d.1,H.1.1,H.1.2.1,H.1.d.1,H.1.e,p0.k)) (p1:=p1) g (r1.o b) (r2.o b) (r3.o b) (r4.o b) (r5.o b) d4 (r7.o b) (r8.o b) (r9.o b) (M.o b) (R.o b) (S.o b) f8).mono ?_));rintro _ w7 (⟨z2,e0,d6,m6,rfl,rfl,e6,g,g1⟩|⟨y4,rfl,d8,d5,m5,rfl,e5,g,g0⟩)
  .refine .inr ⟨_,rfl,?_⟩;have p:=p.t e6;exact bQ (bQ (cU (.inl (zH hr g.f5.f5.f5.f5.f5.f5))))
  refine .inl ⟨_,rfl,?_⟩;have p:=p.t e5;cases hr;exact tA g p (aN 7 (bO kr (aV (aT (bL (lJ [6] [vI y4.2] (.inr ⟨_,rfl,d8,d5,m5,rfl,q.t e5,g.f5.f5.f5.f5.f5.f5,g0⟩)))))))
 refine aQ (aJ (cM [(8,λw'=>Inv m3 w'/\True)] kr g λw9 _ g=> ?_));have p:=m3.le_refl;refine tA g p (aN 0 (cN 1 (K.o b) (aN 2 (cN 3 ((d1.o b).drop 4) ?_))));have⟨x3,f7,hr⟩:=aM hr;refine nP (t:=22) (e:=3) (x:=(.tmp 25)) (y:=(.const (vI 2))) 4 26 (aG .i64) kr rfl kr (.head _) (bU lR) (ev (vS a9 p2.f c9)) (ev (vI 2)) kr (U.o b) f7 ?_;rintro b5 f3 g4 rfl f0;refine cN 5 f0 ?_;have g:=g.f5.f5.f5.f5.f5.f5;have⟨y5,f8,hr⟩:=aM hr;refine aK 6 kr (tZ 28 89 #[vP bp0 0,.agg (mK p1 a4 c4 a5 c5 a6 c6 a7 c7 a8 c8),vI x3] kr rfl ((a (p0:=(p0.1,p0.2.1,p0.d.1,H.1.1,H.1.2.1,H.1.d.1,H.1.e,p0.k)) (p1:=p1) g (r1.o b) (r2.o b) (r3.o b) (r4.o b) (r5.o b) d4 (r7.o b) (r8.o b) (r9.o b) (M.o b) (R.o b) (S.o b) f8).mono ?_));rintro _ g6 (⟨z3,d6,d5,m8,rfl,rfl,e8,g,g1⟩|⟨y6,rfl,e0,d8,m7,rfl,e7,g,g0⟩)
 .refine .inr ⟨_,rfl,?_⟩;have p:=p.t e8;exact bQ (cU (.inl (zH hr g.f5.f5.f5.f5.f5.f5)))
 refine .inl ⟨_,rfl,?_⟩;have p:=p.t e7;cases hr;exact tA g p (aN 7 (bO kr (aV (aT (lJ [6] [vI y6.2] (.inr ⟨_,rfl,e0,d8,m7,rfl,q.t e7,g.f5.f5.f5.f5.f5.f5,g0⟩))))))
theorem Oq{Re Rf Rg Rh Ri Rj}(l:FI Re)(c:FD Rf)(b5:FK Rg)(Z:EX Rh)(b0:EW Ri)(b6:FH Rj){p0:dV}{p1:eR}{p2:dZ}{z F U M G V R D f7 f0 H Y S r}(g:St m (aA F U M::aA G V R::cB z a1 c1 F a2 c2 G p0.1::aA D f7 f0::aA H Y S::nK bp0 z a3 c3 D H p0::O) w)(r1:RepS C1 m a1 c1 p0.1.1)(r2:MapQ cZ C7 true m F U M p0.1.d.1)(r3:RepS aB m a2 c2 p0.1.e.1)(r4:MapQ aY C8 true m G V R p0.1.f)(r5:RepS C3 m a3 c3 p0.2.1)(r6:MapQ aY cO false m D f7 f0 p0.e.1)(r7:MapQ cS iJ false m H Y S p0.k)(r8:RepS aB m a4 c4 p1.1.2.1)(r9:RepS C6 m a5 c5 p1.1.d)(d5:RepS aB m a6 c6 p1.2.1.d.1)(d6:RepS C5 m a7 c7 p1.2.1.e)(d7:RepS (aG .i64) m a8 c8 p1.d)(d8:RepS (aG .i64) m a9 c9 p2.f)(hr:QU N Re Rf Rg Rh Ri Rj p0 p1 p2=some r):Calls prog 59 #[vP bp0 0,.agg (mK p1 a4 c4 a5 c5 a6 c6 a7 c7 a8 c8),.agg (Va p2 a9 c9)] w λe w'=>(∃(z0:oZ),∃c0 d1 m',r= .inl z0/\pM 171 m m' e z0.1 (aA F U M::aA G V R::cB z a1 c1 F a2 c2 G p0.1::aA D c0 d1::aA H Y S::iB bp0 z a3 c3 D H p0 z0.d.1 z0.e.1 z0.f::O) w' (MapQ aY cO false m' D c0 d1 z0.2.1))\/(∃(y0:pA),r= .inr y0/\∃c0 d1 m',bN m m' e (vI y0.2) (aA F U M::aA G V R::cB z a1 c1 F a2 c2 G p0.1::aA D c0 d1::aA H Y S::iB bp0 z a3 c3 D H p0 y0.1.2.1 y0.1.d.1 y0.1.e::O) w' (MapQ aY cO false m' D c0 d1 y0.1.1)):=by
 refine bH g func59 rfl ntmps59 λq=>aD (eC 4 156 (.agg (mK p1 a4 c4 a5 c5 a6 c6 a7 c7 a8 c8)) g λb1 m1 w1 p g d4=>eC 5 158 (.agg (Va p2 a9 c9)) g λb2 m2 w2 o g b8=> ?_);have r2:=(r2.o p).o o;have r4:=(r4.o p).o o;have r1:=(r1.o p).o o;have r3:=(r3.o p).o o;have r7:=(r7.o p).o o;have r5:=(r5.o p).o o;refine aW (iG 2 g (b8.drop 3) (bW hr (VL (p0:=p0) g.f5.f5.f5.f5.f5.f5 r1 r2 r3 r4 r5 ((r6.o p).o o) r7) ?_));rintro y1 hr _ w3 ⟨e0,d9,m3,rfl,b,g,b9⟩;have q:=((q.t p).t o).t b;refine aX 5 (bX 8 59 (.agg dW) g λb3 w4 g=>aX 1 (aZ (.agg (Ve y1.d.1)) g λw5 g=>aW (aR 1 (eG hr (SG g) ?_))));rintro y2 hr _ w6 (⟨z1,m5,rfl,rfl,e5,g⟩|⟨y3,rfl,m4,rfl,a,g⟩)
 .refine bQ ?_;obtain rfl:=sI hr;have g:=g.t.f5.f5.f5.f5.f5.f5;exact cU (.inl ⟨(z1,y1.1),e0,d9,m5,rfl,rfl,q.t e5,g,b9.o e5⟩)
 refine aI (cG (bK (cE .normal hr (λo1 L' w'=>∃u,L'=[(0,vP bp0 0),(4,vP b1 0),(5,vP b2 0),(7,vB y1.2.1),(8,vP b3 0),(9,vT y1.e.1),(11,vI o1)]/\m.le u/\St u (kB b3 (Ve y1.d.1) 59::cB z a1 c1 F a2 c2 G p0.1::iB bp0 z a3 c3 D H p0 y1.1.2.1 y1.1.d.1 y1.1.e::aA F U M::aA G V R::aA D e0 d9::aA H Y S::O) w'/\MRow u b1 0 [vT p1.1.1,vS a4 p1.1.2.1 c4,vS a5 p1.1.d c5,vI p1.2.1.1,vT p1.2.1.2.1,vS a6 p1.2.1.d.1 c6,vS a7 p1.2.1.e c7,vS a8 p1.d c8]/\RepS aB u a4 c4 p1.1.2.1/\RepS C6 u a5 c5 p1.1.d/\RepS aB u a6 c6 p1.2.1.d.1/\RepS C5 u a7 c7 p1.2.1.e/\RepS (aG .i64) u a8 c8 p1.d/\MRow u b2 0 (Vb p2 a9 c9)/\RepS (aG .i64) u a9 c9 p2.f/\RepS C1 u a1 c1 p0.1.1/\RepS aB u a2 c2 p0.1.e.1/\RepS C3 u a3 c3 p0.2.1/\MapQ cZ C7 true u F U M p0.1.d.1/\MapQ aY C8 true u G V R p0.1.f/\MapQ aY cO false u D e0 d9 y1.1.1/\MapQ cS iJ false u H Y S p0.k) ?_ ?_)))
 .rintro o1 hr _ w8 ⟨u,rfl,q,g,d4,r8,r9,d5,d6,d7,b8,d8,r1,r3,r5,r2,r4,b9,r7⟩;refine lG (cM [(8,λw'=>Inv u w'/\True)] kr g λw9 _ g=> ?_);have E:=u.le_refl;refine tA g E (aN 0 (cN 1 d4 (aN 2 (cN 3 (b8.drop 4) ?_))));have⟨x1,g7,hr⟩:=aM hr;refine nP (t:=22) (e:=3) (x:=(.tmp 30)) (y:=(.const (vI 0))) 4 31 (aG .i64) kr rfl kr (.head _) (bU lR) (ev (vS a9 p2.f c9)) (ev (vI 0)) kr d8 g7 ?_;rintro b4 f1 h6 rfl g6;refine cN 5 g6 ?_;have g:=g.f2.f6.f6.f4.f6.f6;have⟨y4,g8,hr⟩:=aM hr;refine aK 6 kr (tZ 33 89 #[vP bp0 0,.agg (mK p1 a4 c4 a5 c5 a6 c6 a7 c7 a8 c8),vI x1] kr rfl ((l (p0:=(p0.1,p0.2.1,p0.d.1,y1.1.1,y1.1.2.1,y1.1.d.1,y1.1.e,p0.k)) (p1:=p1) g r1 r2 r3 r4 r5 b9 r7 r8 r9 d5 d6 d7 g8).mono ?_));rintro _ h7 (⟨z2,g3,f8,m8,rfl,rfl,e7,g,h3⟩|⟨y5,rfl,d3,d2,m7,rfl,B,g,b7⟩)
  .refine .inr ⟨_,rfl,?_⟩;have E:=E.t e7;exact bQ (cU (.inl (zH hr g.f6.t.f5.f5.f5.f5.f5.f5)))
  refine .inl ⟨_,rfl,?_⟩;have E:=E.t B;refine tA g E (aN 7 (bO kr (aV (aD (iY 7 hr (λo2 L' w'=>∃m9,L'=[(0,vP bp0 0),(7,vB y1.2.1),(8,vP b3 0),(9,vT y1.e.1),(12,vI y5.2),(40,vB o2)]/\m.le m9/\St m9 (cB z a1 c1 F a2 c2 G p0.1::iB bp0 z a3 c3 D H p0 y5.1.2.1 y5.1.d.1 y5.1.e::kB b3 (Ve y1.d.1) 59::aA F U M::aA G V R::aA D d3 d2::aA H Y S::O) w'/\RepS C1 m9 a1 c1 p0.1.1/\RepS aB m9 a2 c2 p0.1.e.1/\RepS C3 m9 a3 c3 p0.2.1/\MapQ cZ C7 true m9 F U M p0.1.d.1/\MapQ aY C8 true m9 G V R p0.1.f/\MapQ aY cO false m9 D d3 d2 y5.1.1/\MapQ cS iJ false m9 H Y S p0.k) ?_ ?_)))))
  .rintro o2 hr _ h8 ⟨m9,rfl,q,g,r1,r3,r5,r2,r4,b7,r7⟩;refine eG hr (zB g) ?_;rintro y6 hr _ h9 (⟨z3,h0,rfl,rfl,e9,g⟩|⟨y7,rfl,g9,rfl,e8,g⟩)
   .refine bQ ?_;obtain rfl:=sI hr;have g:=g.f2.t.f1.f5.f5.f3.f5.f5;exact cU (.inl ⟨(z3,y5.1),d3,d2,h0,rfl,rfl,q.t e9,g,b7.o e9⟩)
   have q:=q.t e8;refine aI (aJ (bV hr ?_ ?_))<;>intro A hr
   .refine aR 2 (mP 46 hr λx2 hr=>aW (aT (bL ?_)));cases hr;exact lJ [6] [vI (wI (x2.toNat:Int))] (.inr ⟨_,rfl,d3,d2,g9,rfl,q,g.f2.t.f1.f5.f5.f3.f5.f5,b7.o e8⟩)
   refine aQ (aR 1 (bD g.t.t.h (eG hr (c (p0:=(p0.1,p0.2.1,p0.d.1,y5.1.1,y5.1.2.1,y5.1.d.1,y5.1.e,p0.k)) (p1:=y1.d.1) g.f1.f6.f6.f3.f6.f6 (r1.o e8) (r2.o e8) (r3.o e8) (r4.o e8) (r5.o e8) (b7.o e8) (r7.o e8) (RepS.nil _ _)) ?_)));rintro y8 hr _ k0 (⟨z4,g5,g0,h2,rfl,rfl,g2,g,h5⟩|⟨y9,rfl,g4,f9,h1,rfl,g1,g,h4⟩)
   .exact bQ (cU (.inl (zH hr g.f6.t.f5.f5.f5.f5.f5.f5)))
   cases hr;exact aW (aT (lJ [6] [vI (Int.tmod (wI ((Int.tmod y9.2 256)+256)) 256)] (.inr ⟨_,rfl,g4,f9,h1,rfl,q.t g1,g.f6.t.f5.f5.f5.f5.f5.f5,h4⟩)))
  intro o2 hr K;refine cW 3 36 hr ?_ ?_<;>intro A hr
  .exact bG 4 (K hr (zA g.f4.f4.f3.f3.f6.f6.f6))
  exact bG 4 (K hr (zA g.f4.f4.f3.f3.f6.f6.f6))
 intro o1 hr B;refine aO hr ?_ ?_<;>intro A hr
 .exact cP 1 (xE (B hr ⟨m4,rfl,q.t a,g.f5.f5.f4.f4.f6.f6.f6,((d4.o o).o b).o a,(((r8.o p).o o).o b).o a,(((r9.o p).o o).o b).o a,(((d5.o p).o o).o b).o a,(((d6.o p).o o).o b).o a,(((d7.o p).o o).o b).o a,(b8.o b).o a,(((d8.o p).o o).o b).o a,(r1.o b).o a,(r3.o b).o a,(r5.o b).o a,(r2.o b).o a,(r4.o b).o a,b9.o a,(r7.o b).o a⟩))
 exact iD (B hr ⟨m4,rfl,q.t a,g.f5.f5.f4.f4.f6.f6.f6,((d4.o o).o b).o a,(((r8.o p).o o).o b).o a,(((r9.o p).o o).o b).o a,(((d5.o p).o o).o b).o a,(((d6.o p).o o).o b).o a,(((d7.o p).o o).o b).o a,(b8.o b).o a,(((d8.o p).o o).o b).o a,(r1.o b).o a,(r3.o b).o a,(r5.o b).o a,(r2.o b).o a,(r4.o b).o a,b9.o a,(r7.o b).o a⟩)
theorem mS(N:Nat):∀D:Nat,(∀{m:Mem} {O:List Piece} {w:World} {p0:dV} {p1:eR} {p2:Int} {t:Nat} {a:Nat} {G:Option Addr} {M:Nat} {o:eM} {z:Array MapEntry} {u:Nat} {H:Option Addr} {R:Nat} {p:eM} {A:Array MapEntry} {x:Nat} {K:Option Addr} {S:Nat} {b:eM} {V:Array MapEntry} {U:Nat} {q:eM} {B:Array MapEntry} {y:Nat} {a4:Option Addr} {c4:Nat} {a5:Option Addr} {c5:Nat} {a6:Option Addr} {c6:Nat} {a7:Option Addr} {c7:Nat} {a8:Option Addr} {c8:Nat} {r:xL} (g:St m (aA o z u::aA p A x::cB a G M o H R p p0.1::aA b V U::aA q B y::nK t a K S b q p0::O) w) (r1:RepS C1 m G M p0.1.1) (r2:MapQ cZ C7 true m o z u p0.1.d.1) (r3:RepS aB m H R p0.1.e.1) (r4:MapQ aY C8 true m p A x p0.1.f) (r5:RepS C3 m K S p0.2.1) (r6:MapQ aY cO false m b V U p0.e.1) (r7:MapQ cS iJ false m q B y p0.k) (r8:RepS aB m a4 c4 p1.1.2.1) (r9:RepS C6 m a5 c5 p1.1.d) (Y:RepS aB m a6 c6 p1.2.1.d.1) (Z:RepS C5 m a7 c7 p1.2.1.e) (b0:RepS (aG .i64) m a8 c8 p1.d) (hr:(lN N D).1 p0 p1 p2=some r),Calls prog 89 #[vP t 0,.agg (mK p1 a4 c4 a5 c5 a6 c6 a7 c7 a8 c8),vI p2] w λe w'=>(∃(F:oZ),∃c l m',r= .inl F/\pM 171 m m' e F.1 (aA o z u::aA p A x::cB a G M o H R p p0.1::aA b c l::aA q B y::iB t a K S b q p0 F.d.1 F.e.1 F.f::O) w' (MapQ aY cO false m' b c l F.2.1))\/(∃(E:pA),r= .inr E/\∃c l m',bN m m' e (vI E.2) (aA o z u::aA p A x::cB a G M o H R p p0.1::aA b c l::aA q B y::iB t a K S b q p0 E.1.2.1 E.1.d.1 E.1.e::O) w' (MapQ aY cO false m' b c l E.1.1)))/\(∀{m:Mem} {O:List Piece} {w:World} {p0:dV} {p1:mQ} {p2:Te} {t:Nat} {a:Nat} {G:Option Addr} {M:Nat} {o:eM} {z:Array MapEntry} {u:Nat} {H:Option Addr} {R:Nat} {p:eM} {A:Array MapEntry} {x:Nat} {K:Option Addr} {S:Nat} {b:eM} {V:Array MapEntry} {U:Nat} {q:eM} {B:Array MapEntry} {y:Nat} {a4:Option Addr} {c4:Nat} {r:xL} (g:St m (aA o z u::aA p A x::cB a G M o H R p p0.1::aA b V U::aA q B y::nK t a K S b q p0::O) w) (r1:RepS C1 m G M p0.1.1) (r2:MapQ cZ C7 true m o z u p0.1.d.1) (r3:RepS aB m H R p0.1.e.1) (r4:MapQ aY C8 true m p A x p0.1.f) (r5:RepS C3 m K S p0.2.1) (r6:MapQ aY cO false m b V U p0.e.1) (r7:MapQ cS iJ false m q B y p0.k) (r8:RepS (aG .i64) m a4 c4 p2) (hr:(lN N D).2.1 p0 p1 p2=some r),Calls prog 91 #[vP t 0,.agg (Ve p1),vS a4 p2 c4] w λe w'=>(∃(F:oZ),∃c l m',r= .inl F/\pM 171 m m' e F.1 (aA o z u::aA p A x::cB a G M o H R p p0.1::aA b c l::aA q B y::iB t a K S b q p0 F.d.1 F.e.1 F.f::O) w' (MapQ aY cO false m' b c l F.2.1))\/(∃(E:pA),r= .inr E/\∃c l m',bN m m' e (vI E.2) (aA o z u::aA p A x::cB a G M o H R p p0.1::aA b c l::aA q B y::iB t a K S b q p0 E.1.2.1 E.1.d.1 E.1.e::O) w' (MapQ aY cO false m' b c l E.1.1)))/\(∀{m:Mem} {O:List Piece} {w:World} {p0:dV} {p1:eR} {p2:dZ} {t:Nat} {a:Nat} {G:Option Addr} {M:Nat} {o:eM} {z:Array MapEntry} {u:Nat} {H:Option Addr} {R:Nat} {p:eM} {A:Array MapEntry} {x:Nat} {K:Option Addr} {S:Nat} {b:eM} {V:Array MapEntry} {U:Nat} {q:eM} {B:Array MapEntry} {y:Nat} {a4:Option Addr} {c4:Nat} {a5:Option Addr} {c5:Nat} {a6:Option Addr} {c6:Nat} {a7:Option Addr} {c7:Nat} {a8:Option Addr} {c8:Nat} {a9:Option Addr} {c9:Nat} {r:xL} (g:St m (aA o z u::aA p A x::cB a G M o H R p p0.1::aA b V U::aA q B y::nK t a K S b q p0::O) w) (r1:RepS C1 m G M p0.1.1) (r2:MapQ cZ C7 true m o z u p0.1.d.1) (r3:RepS aB m H R p0.1.e.1) (r4:MapQ aY C8 true m p A x p0.1.f) (r5:RepS C3 m K S p0.2.1) (r6:MapQ aY cO false m b V U p0.e.1) (r7:MapQ cS iJ false m q B y p0.k) (r8:RepS aB m a4 c4 p1.1.2.1) (r9:RepS C6 m a5 c5 p1.1.d) (Y:RepS aB m a6 c6 p1.2.1.d.1) (Z:RepS C5 m a7 c7 p1.2.1.e) (b0:RepS (aG .i64) m a8 c8 p1.d) (b1:RepS (aG .i64) m a9 c9 p2.f) (hr:(lN N D).2.2.1 p0 p1 p2=some r),Calls prog 56 #[vP t 0,.agg (mK p1 a4 c4 a5 c5 a6 c6 a7 c7 a8 c8),.agg (Va p2 a9 c9)] w λe w'=>(∃(F:oZ),∃c l m',r= .inl F/\pM 171 m m' e F.1 (aA o z u::aA p A x::cB a G M o H R p p0.1::aA b c l::aA q B y::iB t a K S b q p0 F.d.1 F.e.1 F.f::O) w' (MapQ aY cO false m' b c l F.2.1))\/(∃(E:pA),r= .inr E/\∃c l m',bN m m' e (vI E.2) (aA o z u::aA p A x::cB a G M o H R p p0.1::aA b c l::aA q B y::iB t a K S b q p0 E.1.2.1 E.1.d.1 E.1.e::O) w' (MapQ aY cO false m' b c l E.1.1)))/\(∀{m:Mem} {O:List Piece} {w:World} {p0:dV} {p1:eR} {p2:dZ} {t:Nat} {a:Nat} {G:Option Addr} {M:Nat} {o:eM} {z:Array MapEntry} {u:Nat} {H:Option Addr} {R:Nat} {p:eM} {A:Array MapEntry} {x:Nat} {K:Option Addr} {S:Nat} {b:eM} {V:Array MapEntry} {U:Nat} {q:eM} {B:Array MapEntry} {y:Nat} {a4:Option Addr} {c4:Nat} {a5:Option Addr} {c5:Nat} {a6:Option Addr} {c6:Nat} {a7:Option Addr} {c7:Nat} {a8:Option Addr} {c8:Nat} {a9:Option Addr} {c9:Nat} {r:xL} (g:St m (aA o z u::aA p A x::cB a G M o H R p p0.1::aA b V U::aA q B y::nK t a K S b q p0::O) w) (r1:RepS C1 m G M p0.1.1) (r2:MapQ cZ C7 true m o z u p0.1.d.1) (r3:RepS aB m H R p0.1.e.1) (r4:MapQ aY C8 true m p A x p0.1.f) (r5:RepS C3 m K S p0.2.1) (r6:MapQ aY cO false m b V U p0.e.1) (r7:MapQ cS iJ false m q B y p0.k) (r8:RepS aB m a4 c4 p1.1.2.1) (r9:RepS C6 m a5 c5 p1.1.d) (Y:RepS aB m a6 c6 p1.2.1.d.1) (Z:RepS C5 m a7 c7 p1.2.1.e) (b0:RepS (aG .i64) m a8 c8 p1.d) (b1:RepS (aG .i64) m a9 c9 p2.f) (hr:(lN N D).2.2.2.1 p0 p1 p2=some r),Calls prog 57 #[vP t 0,.agg (mK p1 a4 c4 a5 c5 a6 c6 a7 c7 a8 c8),.agg (Va p2 a9 c9)] w λe w'=>(∃(F:oZ),∃c l m',r= .inl F/\pM 171 m m' e F.1 (aA o z u::aA p A x::cB a G M o H R p p0.1::aA b c l::aA q B y::iB t a K S b q p0 F.d.1 F.e.1 F.f::O) w' (MapQ aY cO false m' b c l F.2.1))\/(∃(E:pA),r= .inr E/\∃c l m',bN m m' e (vI E.2) (aA o z u::aA p A x::cB a G M o H R p p0.1::aA b c l::aA q B y::iB t a K S b q p0 E.1.2.1 E.1.d.1 E.1.e::O) w' (MapQ aY cO false m' b c l E.1.1)))/\(∀{m:Mem} {O:List Piece} {w:World} {p0:dV} {p1:eR} {p2:dZ} {t:Nat} {a:Nat} {G:Option Addr} {M:Nat} {o:eM} {z:Array MapEntry} {u:Nat} {H:Option Addr} {R:Nat} {p:eM} {A:Array MapEntry} {x:Nat} {K:Option Addr} {S:Nat} {b:eM} {V:Array MapEntry} {U:Nat} {q:eM} {B:Array MapEntry} {y:Nat} {a4:Option Addr} {c4:Nat} {a5:Option Addr} {c5:Nat} {a6:Option Addr} {c6:Nat} {a7:Option Addr} {c7:Nat} {a8:Option Addr} {c8:Nat} {a9:Option Addr} {c9:Nat} {r:xL} (g:St m (aA o z u::aA p A x::cB a G M o H R p p0.1::aA b V U::aA q B y::nK t a K S b q p0::O) w) (r1:RepS C1 m G M p0.1.1) (r2:MapQ cZ C7 true m o z u p0.1.d.1) (r3:RepS aB m H R p0.1.e.1) (r4:MapQ aY C8 true m p A x p0.1.f) (r5:RepS C3 m K S p0.2.1) (r6:MapQ aY cO false m b V U p0.e.1) (r7:MapQ cS iJ false m q B y p0.k) (r8:RepS aB m a4 c4 p1.1.2.1) (r9:RepS C6 m a5 c5 p1.1.d) (Y:RepS aB m a6 c6 p1.2.1.d.1) (Z:RepS C5 m a7 c7 p1.2.1.e) (b0:RepS (aG .i64) m a8 c8 p1.d) (b1:RepS (aG .i64) m a9 c9 p2.f) (hr:(lN N D).2.2.2.2.1 p0 p1 p2=some r),Calls prog 58 #[vP t 0,.agg (mK p1 a4 c4 a5 c5 a6 c6 a7 c7 a8 c8),.agg (Va p2 a9 c9)] w λe w'=>(∃(F:oZ),∃c l m',r= .inl F/\pM 171 m m' e F.1 (aA o z u::aA p A x::cB a G M o H R p p0.1::aA b c l::aA q B y::iB t a K S b q p0 F.d.1 F.e.1 F.f::O) w' (MapQ aY cO false m' b c l F.2.1))\/(∃(E:pA),r= .inr E/\∃c l m',bN m m' e (vI E.2) (aA o z u::aA p A x::cB a G M o H R p p0.1::aA b c l::aA q B y::iB t a K S b q p0 E.1.2.1 E.1.d.1 E.1.e::O) w' (MapQ aY cO false m' b c l E.1.1)))/\(∀{m:Mem} {O:List Piece} {w:World} {p0:dV} {p1:eR} {p2:dZ} {t:Nat} {a:Nat} {G:Option Addr} {M:Nat} {o:eM} {z:Array MapEntry} {u:Nat} {H:Option Addr} {R:Nat} {p:eM} {A:Array MapEntry} {x:Nat} {K:Option Addr} {S:Nat} {b:eM} {V:Array MapEntry} {U:Nat} {q:eM} {B:Array MapEntry} {y:Nat} {a4:Option Addr} {c4:Nat} {a5:Option Addr} {c5:Nat} {a6:Option Addr} {c6:Nat} {a7:Option Addr} {c7:Nat} {a8:Option Addr} {c8:Nat} {a9:Option Addr} {c9:Nat} {r:xL} (g:St m (aA o z u::aA p A x::cB a G M o H R p p0.1::aA b V U::aA q B y::nK t a K S b q p0::O) w) (r1:RepS C1 m G M p0.1.1) (r2:MapQ cZ C7 true m o z u p0.1.d.1) (r3:RepS aB m H R p0.1.e.1) (r4:MapQ aY C8 true m p A x p0.1.f) (r5:RepS C3 m K S p0.2.1) (r6:MapQ aY cO false m b V U p0.e.1) (r7:MapQ cS iJ false m q B y p0.k) (r8:RepS aB m a4 c4 p1.1.2.1) (r9:RepS C6 m a5 c5 p1.1.d) (Y:RepS aB m a6 c6 p1.2.1.d.1) (Z:RepS C5 m a7 c7 p1.2.1.e) (b0:RepS (aG .i64) m a8 c8 p1.d) (b1:RepS (aG .i64) m a9 c9 p2.f) (hr:(lN N D).2.2.2.2.2 p0 p1 p2=some r),Calls prog 59 #[vP t 0,.agg (mK p1 a4 c4 a5 c5 a6 c6 a7 c7 a8 c8),.agg (Va p2 a9 c9)] w λe w'=>(∃(F:oZ),∃c l m',r= .inl F/\pM 171 m m' e F.1 (aA o z u::aA p A x::cB a G M o H R p p0.1::aA b c l::aA q B y::iB t a K S b q p0 F.d.1 F.e.1 F.f::O) w' (MapQ aY cO false m' b c l F.2.1))\/(∃(E:pA),r= .inr E/\∃c l m',bN m m' e (vI E.2) (aA o z u::aA p A x::cB a G M o H R p p0.1::aA b c l::aA q B y::iB t a K S b q p0 E.1.2.1 E.1.d.1 E.1.e::O) w' (MapQ aY cO false m' b c l E.1.1)))
 |0=>⟨λ_ _ _ _ _ _ _ _ _ _ _ _ _ hr=>(by cases hr),λ_ _ _ _ _ _ _ _ _ hr=>(by cases hr),λ_ _ _ _ _ _ _ _ _ _ _ _ _ _ hr=>(by cases hr),λ_ _ _ _ _ _ _ _ _ _ _ _ _ _ hr=>(by cases hr),λ_ _ _ _ _ _ _ _ _ _ _ _ _ _ hr=>(by cases hr),λ_ _ _ _ _ _ _ _ _ _ _ _ _ _ hr=>(by cases hr)⟩
 |D+1=>⟨λg r1 r2 r3 r4 r5 r6 r7 r8 r9 Y Z b0 hr=>Ou (mS N D).1 (mS N D).2.1 (mS N D).2.2.1 (mS N D).2.2.2.1 (mS N D).2.2.2.2.1 (mS N D).2.2.2.2.2 g r1 r2 r3 r4 r5 r6 r7 r8 r9 Y Z b0 hr,λg r1 r2 r3 r4 r5 r6 r7 r8 hr=>Oj (mS N D).1 (mS N D).2.1 (mS N D).2.2.1 (mS N D).2.2.2.1 (mS N D).2.2.2.2.1 (mS N D).2.2.2.2.2 g r1 r2 r3 r4 r5 r6 r7 r8 hr,λg r1 r2 r3 r4 r5 r6 r7 r8 r9 Y Z b0 b1 hr=>Ov (mS N D).1 (mS N D).2.1 (mS N D).2.2.1 (mS N D).2.2.2.1 (mS N D).2.2.2.2.1 (mS N D).2.2.2.2.2 g r1 r2 r3 r4 r5 r6 r7 r8 r9 Y Z b0 b1 hr,λg r1 r2 r3 r4 r5 r6 r7 r8 r9 Y Z b0 b1 hr=>Od (mS N D).1 (mS N D).2.1 (mS N D).2.2.1 (mS N D).2.2.2.1 (mS N D).2.2.2.2.1 (mS N D).2.2.2.2.2 g r1 r2 r3 r4 r5 r6 r7 r8 r9 Y Z b0 b1 hr,λg r1 r2 r3 r4 r5 r6 r7 r8 r9 Y Z b0 b1 hr=>Of (N:=N) (mS N D).1 (mS N D).2.1 (mS N D).2.2.1 (mS N D).2.2.2.1 (mS N D).2.2.2.2.1 (mS N D).2.2.2.2.2 g r1 r2 r3 r4 r5 r6 r7 r8 r9 Y Z b0 b1 hr,λg r1 r2 r3 r4 r5 r6 r7 r8 r9 Y Z b0 b1 hr=>Oq (mS N D).1 (mS N D).2.1 (mS N D).2.2.1 (mS N D).2.2.2.1 (mS N D).2.2.2.2.1 (mS N D).2.2.2.2.2 g r1 r2 r3 r4 r5 r6 r7 r8 r9 Y Z b0 b1 hr⟩
theorem Oy{p0:dV}{p1:mQ}{p2:Te}{a:Nat}{o:eM}{y:Array MapEntry}{t:Nat}{p:eM}{z:Array MapEntry}{u:Nat}{b:eM}{F:Array MapEntry}{E:Nat}{q:eM}{A:Array MapEntry}{x:Nat}{r:xL}(g:St m (aA o y t::aA p z u::cB a a1 c1 o a2 c2 p p0.1::aA b F E::aA q A x::nK bp0 a a3 c3 b q p0::O) w)(G:RepS C1 m a1 c1 p0.1.1)(H:MapQ cZ C7 true m o y t p0.1.d.1)(K:RepS aB m a2 c2 p0.1.e.1)(M:MapQ aY C8 true m p z u p0.1.f)(R:RepS C3 m a3 c3 p0.2.1)(S:MapQ aY cO false m b F E p0.e.1)(U:MapQ cS iJ false m q A x p0.k)(V:RepS (aG .i64) m a4 c4 p2)(hr:FS N p0 p1 p2=some r):Calls prog 91 #[vP bp0 0,.agg (Ve p1),vS a4 p2 c4] w λe w'=>(∃(D:oZ),∃c l m',r= .inl D/\pM 171 m m' e D.1 (aA o y t::aA p z u::cB a a1 c1 o a2 c2 p p0.1::aA b c l::aA q A x::iB bp0 a a3 c3 b q p0 D.d.1 D.e.1 D.f::O) w' (MapQ aY cO false m' b c l D.2.1))\/(∃(B:pA),r= .inr B/\∃c l m',bN m m' e (vI B.2) (aA o y t::aA p z u::cB a a1 c1 o a2 c2 p p0.1::aA b c l::aA q A x::iB bp0 a a3 c3 b q p0 B.1.2.1 B.1.d.1 B.1.e::O) w' (MapQ aY cO false m' b c l B.1.1)):=
 (mS N N).2.1 g G H K M R S U V hr
def KP(N:Nat)(p0:dV)(p1:mQ)(p2:Te):Option (AI×yO):=
 (FS N (p0.1,p0.2.1,p0.2.2.1,p0.2.2.2.1,p0.2.2.2.2.1,p0.2.2.2.2.2.1,p0.2.2.2.2.2.2.1,p0.2.2.2.2.2.2.2) p1 p2).bind λy1=>(match y1 with| .inl a=>some (a.2,(3,0,a.1))| .inr a=>if(a.2==0)then(some (a.1,(2,0,0))) else(some (a.1,(1,a.2,0))))
theorem Oo{p0:dV}{p1:mQ}{p2:Te}{l F B x G D y p R K H E z}{r:AI×yO}(g:St m (aA F B x::aA G D y::cB l a1 c1 F a2 c2 G p0.1::aA p R K::aA H E z::nK bp0 l a3 c3 p H p0::O) w)(r1:RepS C1 m a1 c1 p0.1.1)(r2:MapQ cZ C7 true m F B x p0.1.d.1)(r3:RepS aB m a2 c2 p0.1.e.1)(r4:MapQ aY C8 true m G D y p0.1.f)(r5:RepS C3 m a3 c3 p0.2.1)(r6:MapQ aY cO false m p R K p0.e.1)(r7:MapQ cS iJ false m H E z p0.k)(r8:RepS (aG .i64) m a4 c4 p2)(hr:KP N p0 p1 p2=some r):Calls prog 64 #[vP bp0 0,.agg (Ve p1),vS a4 p2 c4] w λe w'=>∃U V m',bN m m' e (.agg (Vn r.2)) (aA F B x::aA G D y::cB l a1 c1 F a2 c2 G p0.1::aA p U V::aA H E z::iB bp0 l a3 c3 p H p0 r.1.2.1 r.1.d.1 r.1.e::O) w' (MapQ aY cO false m' p U V r.1.1):=by
 have q:=m.le_refl;refine Ir func64 rfl ntmps64 [(0,vP bp0 0),(1,.agg (Ve p1)),(2,vS a4 p2 c4)] kr rfl ?_;refine ID ?_;refine nO (eC 4 59 (.agg (Ve p1)) g λb1 m1 w1 b g a8=> ?_);have q:=q.t b;refine bX 6 42 (.agg (Vo 0 0 0)) g λc w2 g=>cX (HY (ID (eQ 1 (Ij ({target:= .fn (.func 95) #[vP c 0],args:= #[]}) kr kr (cX (HY (iG 1 g a8 (aX 1 (eG hr (Oy (p0:=p0) (p1:=p1) g.f6.f6.f6.f6.f6.f6 (r1.o b) (r2.o b) (r3.o b) (r4.o b) (r5.o b) (r6.o b) (r7.o b) (r8.o b)) ?_)))))))));rintro y1 hr _ w3 (⟨a,a7,Y,m3,rfl,rfl,e3,g,a9⟩|⟨u,rfl,S,M,m2,rfl,Z,g,r9⟩)
 .refine bQ (Lr [.cell 6 42] rfl (HF func95 kr) (MN (.panicking [{v:= .iface 171 (.agg #[vI a.1]),recovered:=false}]) func95 rfl ntmps95 [(0,vP c 0)] kr rfl (d:=4) kr kr [(1,.iface 171 (.agg #[vI a.1])),(4,.iface 171 (.agg #[vI a.1])),(0,vP c 0)] (.iface 171 (.agg #[vI a.1])) (.panicking [{v:= .iface 171 (.agg #[vI a.1]),recovered:=true}]) rfl kr (bK (rZ true kr ?_ (λh=>Bool.noConfusion h)))));intro _;refine aR 5 (bX 2 171 (.agg #[vI 0]) g λb3 w5 g=>aZ (.agg #[vI a.1]) g λw6 g=>eI (bK (rZ false kr (λh=>Bool.noConfusion h) ?_)));intro _;cases hr;exact aQ (nO (aS 1 g.h (aX 1 (aZ (.agg (Vo 3 0 a.1)) g.f7 λw7 g=>cX (rY [] [] rfl ResAll.nil ⟨_,rfl,⟨[.agg (Vo 3 0 a.1)],(ResAll.cons (ResAt.blk (v:= .agg (Vo 3 0 a.1)) (o:=0) kr g.h kr) ResAll.nil),⟨a7,Y,m3,rfl,q.t e3,g.t.t.f5.f5.f5.f5.f5.f5,a9⟩⟩⟩)))))
 refine eI (bV hr ?_ ?_)<;>intro A hr
 .refine aR 1 (aZ (.agg (Vo 2 0 0)) g.f6 λw8 g=>aI (aT (bL (Aq [.cell 6 42] rfl (HF func95 kr) (MN .returning func95 rfl ntmps95 [(0,vP c 0)] kr rfl (d:=4) kr kr [(1,.nilIface),(4,.nilIface),(0,vP c 0)] (.nilIface) .returning rfl kr (bK (rZ false kr (λh=>Bool.noConfusion h) ?_)))))));intro _;cases hr;exact lB (rY [] [] rfl ResAll.nil ⟨_,rfl,⟨[.agg (Vo 2 0 0)],(ResAll.cons (ResAt.blk (v:= .agg (Vo 2 0 0)) (o:=0) kr g.h kr) ResAll.nil),⟨S,M,m2,rfl,q.t Z,g.t.f5.f5.f5.f5.f5.f5,r9⟩⟩⟩)
 refine aQ (aR 2 (aZ (.agg (Vo 1 u.2 0)) g.f6 λw9 g=>aI (aT (Aq [.cell 6 42] rfl (HF func95 kr) (MN .returning func95 rfl ntmps95 [(0,vP c 0)] kr rfl (d:=4) kr kr [(1,.nilIface),(4,.nilIface),(0,vP c 0)] (.nilIface) .returning rfl kr (bK (rZ false kr (λh=>Bool.noConfusion h) ?_)))))));intro _;cases hr;exact lB (rY [] [] rfl ResAll.nil ⟨_,rfl,⟨[.agg (Vo 1 u.2 0)],(ResAll.cons (ResAt.blk (v:= .agg (Vo 1 u.2 0)) (o:=0) kr g.h kr) ResAll.nil),⟨S,M,m2,rfl,q.t Z,g.t.f5.f5.f5.f5.f5.f5,r9⟩⟩⟩)
def MI(N:Nat)(p0:Int):Tk:=
 some (p0 !=p0)
theorem Cw{p0:Int}{r:Bool}(g:St m (O) w)(hr:MI N p0=some r):Calls prog 140 #[vI p0] w λe w'=>∃m',iL m m' e (vB r) (O) w':=by
 exact bH g func140 rfl ntmps140 λq=>oA (iC (zH hr g))
def SH(N:Nat)(p0:Int)(p1:Int):Td:=
 (MI N p0).bind λy1=>(MI N p1).bind λa=>if y1 then(if a then(some 0) else(some (-1))) else(if a then(some 1) else(if(decide (p0<p1))then(some (-1)) else(if(decide (p0>p1))then(some 1) else(some 0))))
theorem Qz{p0:Int}{p1:Int}{r:Int}(g:St m (O) w)(hr:SH N p0 p1=some r):Calls prog 99 #[vI p0,vI p1] w λe w'=>∃m',iL m m' e (vI r) (O) w':=by
 refine bH g func99 rfl ntmps99 λq=>bK (bA 1 hr (Cw g) ?_);rintro y1 hr _ h ⟨f,rfl,c,g⟩;refine aW (bA 1 hr (Cw g) ?_);rintro b hr _ k ⟨a,rfl,d,g⟩;have q:=(q.t c).t d;refine eI (bV hr ?_ ?_)<;>intro A hr
 .refine aJ (bV hr ?_ ?_)<;>intro A hr
  .exact eD (zH hr g)
  exact aQ (eD (zH hr g))
 refine aQ (aJ (bV hr ?_ ?_))<;>intro A hr
 .exact eD (zH hr g)
 refine aQ (aJ (bV hr ?_ ?_))<;>intro A hr
 .exact eD (zH hr g)
 refine aQ (aJ (bV hr ?_ ?_))<;>intro A hr
 .exact eD (zH hr g)
 exact aQ (eD (zH hr g))
def VE(N:Nat)(p0:BA)(p1:BA):Td:=
 some (pH p0 p1)
theorem Nn{p0:BA}{p1:BA}{r:Int}(g:St m (O) w)(hr:VE N p0 p1=some r):Calls prog 141 (V3 p0 p1) w λe w'=>∃m',iL m m' e (vI r) (O) w':=by
 exact bH g func141 rfl ntmps141 λq=>bK (aR 2 (bS (Wi (d:=7) (f:=171) (x:=(.tmp 5)) (y:=(.tmp 6)) (ts:= #[9,9]) kr rfl (ev (vT p0)) (ev (vT p1)) func171 kr kr (iC (zH hr g)))))
def MA(N:Nat)(p0:BA)(p1:BA):Td:=
 (VE N p0 p1).bind λy1=>some y1
theorem Cr{p0:BA}{p1:BA}{r:Int}(g:St m (O) w)(hr:MA N p0 p1=some r):Calls prog 100 (V3 p0 p1) w λe w'=>∃m',iL m m' e (vI r) (O) w':=by
 refine bH g func100 rfl ntmps100 λq=>bK (bA 2 hr (Nn g) ?_);rintro y1 hr _ c ⟨b,rfl,a,g⟩;obtain rfl:=sI hr;exact iC (zA g)
def WT(N:Nat)(p0:Te)(s1:Int):JP:=
 if(decide (s1<(List.length p0:Int)))then((bC p0 s1).bind λa=>if(a !=0)then(some (.inr (.inr (a)))) else(some (.inl (wI (s1+1))))) else(some (.inr (.inl ())))
def SW(N:Nat)(p0:Te):Td:=
 (aC (WT N p0) N 0).bind λa=>(match a with| .inl a=>some 0| .inr (z)=>some z)
theorem Sl{p0:Te}{r:Int}(g:St m (O) w)(l:RepS (aG .i64) m a1 c1 p0)(hr:SW N p0=some r):Calls prog 98 #[vS a1 p0 c1] w λe w'=>∃m',iL m m' e (vI r) (O) w':=by
 refine bH g func98 rfl ntmps98 λq=>bK (cG (bK (bJ ?_)));have⟨c,hr,p⟩:=aM hr;refine eS (.exit 0) (λL' w'=>∃(s:Unit),∃k,(.inl s)=c/\L'=[(3,vI 0)]/\m.le k/\St k (O) w') ?_ ?_
 .rintro _ a ⟨s,k,rfl,rfl,q,g⟩;have hr:=p;cases hr;exact eY (eD (zA g))
 intro f;refine eF (λh L' w'=>∃(s1:Int),∃a,aC (WT N p0) h s1=some c/\L'=[(3,vI 0),(6,vS a1 p0 c1),(7,vI (p0.length:Int)),(8,vI s1)]/\m.le a/\St a (O) w'/\RepS (aG .i64) a a1 c1 p0) N ⟨0,m,hr,rfl,q,g,l⟩ ?_;rintro h _ y ⟨s1,a,hL,rfl,q,g,l⟩;obtain⟨h,v,rfl,hr,n,b⟩:=eH hL;refine cG (aO hr ?_ ?_)<;>intro A hr
 .refine aQ (aJ (bJ (aD (iP l hr ?_))));rintro d hr x t u rfl o;refine dU g o (aW (bV hr ?_ ?_))<;>intro A hr
  .refine bK (aT (cF (bL ?_)));have ho:=b _ (sI hr);subst ho;have hr:=p;obtain rfl:=sI hr;exact mH (zA g)
  refine lP (cP 2 ?_);exact dX (zL n hr g)
 refine eE ?_;exact dY (f _ _ (zL b hr g))
def WN(N:Nat)(p0:qW)(p1:qW):Td:=
 (SH N p0.1 p1.1).bind λy1=>(MA N p0.2.1 p1.2.1).bind λa=>(MA N p0.2.2 p1.2.2).bind λb=>(SW N ([y1,a,b])).bind λa=>some a
theorem Qu{p0:qW}{p1:qW}{r:Int}(g:St m (O) w)(hr:WN N p0 p1=some r):Calls prog 66 #[.agg (Vk p0),.agg (Vk p1)] w λe w'=>∃m',iL m m' e (vI r) (O) w':=by
 refine bH g func66 rfl ntmps66 λq=>aD (eC 2 75 (.agg (Vk p0)) g λf F R A g b=>eC 3 75 (.agg (Vk p1)) g λk y S o g c=> ?_);have b:=b.o o;refine eI (cM [(18,λw'=>Inv y w'/\True)] kr g λU _ g=> ?_);have a:=y.le_refl;refine tA g a (aN 0 (cN 1 b (aN 2 (cN 3 c (aN 5 (cN 6 (b.drop 1) (aN 7 (cN 8 (c.drop 1) (aN 10 (cN 11 (b.drop 2) (aN 12 (cN 13 (c.drop 2) (aK 4 kr (cY hr (λ_ h=>Qz g h) ?_))))))))))))));rintro y1 hr _ V ⟨G,rfl,p,g⟩;refine⟨_,rfl,?_⟩;have a:=a.t p;refine tA g a (aK 9 kr (cY hr (λ_ h=>Cr g h) ?_));rintro l hr _ Y ⟨H,rfl,s,g⟩;refine⟨_,rfl,?_⟩;have a:=a.t s;refine tA g a (aK 14 kr (cY hr (λ_ h=>Cr g h) ?_));rintro n hr _ Z ⟨K,rfl,u,g⟩;refine⟨_,rfl,?_⟩;have a:=a.t u;refine tA g a (aK 15 kr (qH (d:=20) (t:=22) (e:=3) (len:=3) (parts:= #[(0,(.tmp 9)),(1,(.tmp 14)),(2,(.tmp 19))]) (aG .i64) (xs:=[y1,l,n]) [vI y1,vI l,vI n] kr rfl (λ_=>qI kr _) rfl rfl g ⟨[vI y1],_,rfl,rfl,⟨[vI l],_,rfl,rfl,⟨[vI n],_,rfl,rfl,rfl⟩⟩⟩ λE M w7 v g D=> ?_));have a:=a.t v;refine tA g a (aK 16 kr (cY hr (λ_ h=>Sl g D h) ?_));rintro z hr _ w8 ⟨B,rfl,x,g⟩;refine⟨_,rfl,?_⟩;have a:=a.t x;refine tA g a (aN 17 (bO kr ?_));have g:=g.t;obtain rfl:=sI hr;exact nX (zA g)
def Sn:Go.Shelf.Ren:=⟨λ|6=>65|15=>97|14=>96|28=>138|29=>139|20=>130|21=>131|22=>132|23=>133|24=>134|25=>135|26=>136|27=>137|46=>166|47=>167|48=>168|49=>169|50=>170|57=>188|n=>n,λ|22=>43|24=>75|25=>131|3=>3|39=>108|0=>0|53=>211|55=>32|4=>4|46=>205|45=>204|50=>168|5=>5|9=>9|66=>227|70=>231|76=>240|77=>241|n=>n,λ|n=>n⟩
theorem Yz:Go.Proofs.SlLaysF0.n6 prog Sn where
 mixed:=kr
 f6:=⟨Tryz.f65.name,kr,func65.trans (kF some kr)⟩
 f14:=⟨Tryz.f96.name,kr,func96.trans (kF some kr)⟩
 f15:=func97.trans (kF some kr)
 f20:=⟨Tryz.f130.name,kr,func130.trans (kF some kr)⟩
 f21:=⟨Tryz.f131.name,kr,func131.trans (kF some kr)⟩
 f22:=⟨Tryz.f132.name,kr,func132.trans (kF some kr)⟩
 f23:=⟨Tryz.f133.name,kr,func133.trans (kF some kr)⟩
 f24:=⟨Tryz.f134.name,kr,func134.trans (kF some kr)⟩
 f25:=⟨Tryz.f135.name,kr,func135.trans (kF some kr)⟩
 f26:=⟨Tryz.f136.name,kr,func136.trans (kF some kr)⟩
 f27:=⟨Tryz.f137.name,kr,func137.trans (kF some kr)⟩
 f28:=func138.trans (kF some kr)
 f29:=func139.trans (kF some kr)
 f46:=⟨Tryz.f166.name,kr,func166.trans (kF some kr)⟩
 f47:=func167.trans (kF some kr)
 f48:=func168.trans (kF some kr)
 f49:=⟨Tryz.f169.name,kr,func169.trans (kF some kr)⟩
 f50:=⟨Tryz.f170.name,kr,func170.trans (kF some kr)⟩
 f57:=⟨Tryz.f188.name,kr,func188.trans (kF some kr)⟩
 t0:=Tryz.underlying0
 a0:=Tryz.isAgg0
 z0:=Tryz.sizeOf0
 v0:=Tryz.zeroValue0
 t3:=Tryz.underlying3
 a3:=Tryz.isAgg3
 z3:=Tryz.sizeOf3
 v3:=Tryz.zeroValue3
 t4:=Tryz.underlying4
 a4:=Tryz.isAgg4
 z4:=Tryz.sizeOf4
 v4:=Tryz.zeroValue4
 t5:=Tryz.underlying5
 a5:=Tryz.isAgg5
 z5:=Tryz.sizeOf5
 v5:=Tryz.zeroValue5
 t9:=Tryz.underlying9
 a9:=Tryz.isAgg9
 z9:=Tryz.sizeOf9
 v9:=Tryz.zeroValue9
 t22:=Tryz.underlying43
 a22:=Tryz.isAgg43
 z22:=Tryz.sizeOf43
 v22:=Tryz.zeroValue43
 t25:=Tryz.underlying131
 a25:=Tryz.isAgg131
 z25:=Tryz.sizeOf131
 v25:=Tryz.zeroValue131
 t39:=Tryz.underlying108
 a39:=Tryz.isAgg108
 z39:=Tryz.sizeOf108
 v39:=Tryz.zeroValue108
 t45:=Tryz.underlying204
 a45:=Tryz.isAgg204
 z45:=Tryz.sizeOf204
 v45:=Tryz.zeroValue204
 t46:=Tryz.underlying205
 a46:=Tryz.isAgg205
 z46:=Tryz.sizeOf205
 v46:=Tryz.zeroValue205
 t50:=Tryz.underlying168
 a50:=Tryz.isAgg168
 z50:=Tryz.sizeOf168
 v50:=Tryz.zeroValue168
 t53:=Tryz.underlying211
 a53:=Tryz.isAgg211
 z53:=Tryz.sizeOf211
 v53:=Tryz.zeroValue211
 t55:=Tryz.underlying32
 a55:=Tryz.isAgg32
 z55:=Tryz.sizeOf32
 v55:=Tryz.zeroValue32
 t66:=Tryz.underlying227
 a66:=Tryz.isAgg227
 z66:=Tryz.sizeOf227
 v66:=Tryz.zeroValue227
 t70:=Tryz.underlying231
 a70:=Tryz.isAgg231
 z70:=Tryz.sizeOf231
 v70:=Tryz.zeroValue231
 t76:=Tryz.underlying240
 a76:=Tryz.isAgg240
 z76:=Tryz.sizeOf240
 v76:=Tryz.zeroValue240
 t77:=Tryz.underlying241
 a77:=Tryz.isAgg241
 z77:=Tryz.sizeOf241
 v77:=Tryz.zeroValue241
theorem Si(x y:Int):SH N x y=some (sX x y):=by
 have h:∀z:Int,MI N z=some false:=λz=>by simp[MI]
 simp only[SH,h,j0,sX]
 by_cases h1:x<y
 .simp[h1]
 by_cases h2:x>y
 .simp[h1,h2]
 simp[h1,h2]
theorem Rp(x y:BA):MA N x y=some (pH x y):=by simp[MA,VE]
theorem Zl(hN:10<=N)(a b c:Int):SW N [a,b,c]=some (if a≠0 then a else if b≠0 then b else c):=by
 obtain⟨k,rfl⟩:∃k,N=k+4:=⟨N-4,by omega⟩;have e:wI 1=1:=by decide
 have g:wI 2=2:=by decide
 have l:wI 3=3:=by decide
 have h:bC [a,b,c] 0=some a:=rfl;have d:bC [a,b,c] 1=some b:=rfl;have f:bC [a,b,c] 2=some c:=rfl;simp only[SW,aC,WT,jC,jD,h,j0]
 by_cases ha:a=0
 .subst ha
  by_cases hb:b=0
  .subst hb
   by_cases A:c=0
   .subst A;simp[e,g,l,d,f]
   simp[e,g,d,f,A]
  simp[e,d,hb]
 simp[ha]
theorem Qy(hN:10<=N)(x y:qW):WN N x y=some (qQ sX (qQ pH pH) x y):=by
 simp only[WN,Si,Rp,Zl hN,j0]
 rfl
def CJ(N:Nat)(l:lY):Option lY:=if 10<=N/\l.length<4611686018427387904 then some (BL (Go.Proofs.ltOf (qQ sX (qQ pH pH))) l) else none
theorem Nj{l r:lY}(h:CJ N l=some r):r.length=l.length:=by
 unfold CJ at h
 split at h
 .simp only[jJ] at h;subst h;exact(CY l).length_eq
 cases h
theorem Nk{a:Option Addr}{nn cc:Nat}{T:List Value}{l r:lY}{e:TypeId}(g:St m (cT a (bM eK l T) e::O) w)(hs:OAS a nn cc 3 T)(hn:List.length l=nn)(h:CJ N l=some r):
  Calls prog 65 #[.slice a nn cc,.func (.func 66) #[] #[]] w λe' w'=>e'= .returned (.tuple #[])/\St m (cT a (bM eK r T) e::O) w':=by
 unfold CJ at h
 split at h
 .rename_i hb
  obtain⟨hN,hlen⟩:=hb;simp only[jJ] at h;subst h;subst hn;have hl:Lin (qQ sX (qQ pH pH)):=HN cmpI_lin (HN cmpS_lin cmpS_lin);rw[<-Xc hl];have:=Uq (f:=eK) (k:=3) Yz Tryz.isAgg75 Tryz.sizeOf75 (λ_=>rfl) (λ_ _ hv=>by simp only[jK,gJ,dQ] at hv;rcases hv with rfl|rfl|rfl<;>rfl) (qQ sX (qQ pH pH)) hl.swo hl.total 66 (enters_of func66 kr rfl) (λx y W=>by
   refine(Qu (La W) (Qy hN x y)).mono λe' w' h=> ?_;obtain⟨m',b,c,d⟩:=h;exact⟨m',b,c,d⟩) g hs hlen
  exact this
 cases h
def KM(N:Nat)(a:Option (qW×Bool))(s1:lY):Option (lY⊕lY):=
 (match a with|none=>some (.inr s1)|some a=>(iK 40 s1 ([a.1])).bind λa=>some (.inl a))
instance dec_evaluate_machine_run_L1:DecidableEq T3u:=(@instDecidableEqProd _ _ (@instDecidableEqProd _ _ (@Option.instDecidableEq _ (@instDecidableEqList _ (@instDecidableEqProd _ _ (@instDecidableEqProd _ _ inferInstance (@instDecidableEqProd _ _ inferInstance inferInstance)) inferInstance))) (@instDecidableEqProd _ _ inferInstance (@instDecidableEqProd _ _ inferInstance inferInstance))) (@instDecidableEqProd _ _ (@instDecidableEqProd _ _ inferInstance (@instDecidableEqProd _ _ inferInstance inferInstance)) (@instDecidableEqProd _ _ inferInstance (@instDecidableEqProd _ _ (@instDecidableEqList _ (@instDecidableEqProd _ _ inferInstance (@instDecidableEqProd _ _ inferInstance inferInstance))) inferInstance))))
def CR(N:Nat)(p0:dV)(p1:mQ)(p2:Te):Option T3u:=
 (KP N (p0.1,p0.2.1,p0.2.2.1,p0.2.2.2.1,p0.2.2.2.2.1,p0.2.2.2.2.2.1,p0.2.2.2.2.2.2.1,p0.2.2.2.2.2.2.2) p1 p2).bind λy1=>(PJ y1.1.1).bind λa=>IA (KM N) (Option.getD y1.1.1 []) ([]:lY) (λa=>(CJ N a).bind λa=>some (y1.1,(y1.2,y1.1.2.2.2,a,y1.1.2.1)))
theorem Cg{p0:dV}{p1:mQ}{p2:Te}{a v F A z G B q3 d4 d3 p H D}{r:T3u}(g:St m (aA v F A::aA z G B::cB a a1 c1 v a2 c2 z p0.1::aA q3 d4 d3::aA p H D::nK bp0 a a3 c3 q3 p p0::O) w)(r1:RepS C1 m a1 c1 p0.1.1)(r2:MapQ cZ C7 true m v F A p0.1.d.1)(r3:RepS aB m a2 c2 p0.1.e.1)(r4:MapQ aY C8 true m z G B p0.1.f)(r5:RepS C3 m a3 c3 p0.2.1)(r6:MapQ aY cO false m q3 d4 d3 p0.e.1)(r7:MapQ cS iJ false m p H D p0.k)(r8:RepS (aG .i64) m a4 c4 p2)(hr:CR N p0 p1 p2=some r):Calls prog 25 #[vP bp0 0,.agg (Ve p1),vS a4 p2 c4] w λe w'=>∃d7 d8 c0 c8 m',bN m m' e (.agg (Vq r.2.1.1 r.2.1.2.1 r.2.1.d r.d.1 c0 r.e.1 c8 r.f)) (kR c0 r.e.1 c8 75 3::aA v F A::aA z G B::cB a a1 c1 v a2 c2 z p0.1::aA q3 d7 d8::aA p H D::iB bp0 a a3 c3 q3 p p0 r.1.2.1 r.1.d.1 r.1.e::O) w' (MapQ aY cO false m' q3 d7 d8 r.1.1/\RepS C9 m' c0 c8 r.e.1):=by
 refine bH g func25 rfl ntmps25 λq=>aD (eC 4 59 (.agg (Ve p1)) g λb1 m1 w1 b g e0=>bX 6 45 (.agg #[vI 0,vI 0,vI 0,vB false,v6,vI 0]) g λb2 w2 g=>aI (iG 1 g e0 (iH 1 hr (Oo (p0:=p0) (p1:=p1) g.f6.f6.f6.f6.f6.f6 (r1.o b) (r2.o b) (r3.o b) (r4.o b) (r5.o b) (r6.o b) (r7.o b) (r8.o b)) ?_)));rintro y1 hr _ w3 ⟨M,E,m2,rfl,e2,g,r9⟩;refine bX 7 42 (.agg (Vo 0 0 0)) g λb3 w4 g=>aZ (.agg (Vn y1.2)) g λw5 g=>aI (cG (aD (aS 3 g.t.t.t.t.t.t.h ?_)));have⟨u1,e9,hr⟩:=aM hr;obtain⟨S,rfl⟩:=MapQ.at r9 e9;refine bS (YC (ek:=aY) (c:=cO) (agg:=false) (d:=18) (t:=123) (kt:=75) (et:=4) (x:=(.tmp 17)) kr rfl (ev (.map (some S))) kr g.f4 r9 λb5 w6 g e6=>aI (bJ ?_));have g:=ZK (f:=eK) (g.nilroom 75 3);obtain⟨PKu2,a9,hr⟩:=LoopP.start hr
 refine eS (.exit 0) (λL' w'=>∃(o1:lY),∃R Y T1,∃(d1:Array Nat) (c9:List (qW×Bool)),∃o,PKu2 o1/\L'=[(0,vP bp0 0),(6,vP b2 0),(7,vP b3 0),(8,vS R o1 Y)]/\m.le o/\St o (kB b3 (Vn y1.2) 42::cB a a1 c1 v a2 c2 z p0.1::kB bp0 #[vP a 0,vS a3 p0.2.1 c3,.int .u64 p0.d.1,.map (some S),vI y1.1.2.1,vI y1.1.d.1,vB y1.1.e,.map p] 128::kB b2 #[vI 0,vI 0,vI 0,vB false,vf,vI 0] 45::aA (some S) M E::aA v F A::aA z G B::aA p H D::cT R (bM eK o1 T1) 75::tF b5 (some S) E d1::O) w'/\RepS C1 o a1 c1 p0.1.1/\RepS aB o a2 c2 p0.1.e.1/\RepS C3 o a3 c3 p0.2.1/\MapQ aY cO false o (some S) M E y1.1.1/\MapQ cZ C7 true o v F A p0.1.d.1/\MapQ aY C8 true o z G B p0.1.f/\MapQ cS iJ false o p H D p0.k/\OAS R o1.length Y 3 T1/\ItR aY cO false o M d1 c9) ?_ ?_
 .rintro _ w7 ⟨o1,R,Y,T1,d1,c9,o,U,rfl,q,g,r1,r3,r5,r9,r2,r4,r7,b0,d5⟩;have hr:=a9 _ U;clear U a9;refine eY (aR 1 ?_);have⟨y2,b8,hr⟩:=aM hr;have g:=g.f8;refine bS (pP 28 65 #[vS R o1 Y,.func (.func 66) #[] #[]] kr rfl ((Nk g b0 rfl b8).mono ?_));rintro _ d6 ⟨rfl,g⟩;refine⟨_,rfl,?_⟩;have a8:=((Nj b8).trans rfl);refine cX ?_;have g:=g.f9.t;refine lG (cM [(12,λw'=>Inv o w'/\Piece.holds o w' (kB b3 (Vn y1.2) 42)/\Piece.holds o w' (kB bp0 #[vP a 0,vS a3 p0.2.1 c3,.int .u64 p0.d.1,.map (some S),vI y1.1.2.1,vI y1.1.d.1,vB y1.1.e,.map p] 128)/\True)] kr g λd9 _ g=> ?_);have Z:=o.le_refl;refine⟨aL (aF g Z),bZ 0 cH (aU 3 [1,2,3] (bZ 4 nV (aU 4 [5,6,7,8] (bZ 9 nV (aN 10 (aK 11 kr (iV 45 6 39 (.agg (Vq y1.2.1 y1.d.1 y1.e y1.1.e R o1 Y y1.1.2.1)) g.f4 λd2 g=>⟨aL (aF g Z),bO kr (aV (aT ?_))⟩)))))))⟩;obtain rfl:=sI hr;have g:=g.f1;obtain⟨m7,e5,g,b9⟩:=St.freezeM (c:=C9) (f:=eK) g b0 a8 (λ_=>rfl) (λ_ x=>⟨_,_,rfl,rfl,⟨_,_,rfl,rfl,rfl⟩⟩)
  have g:=(kF (λnn_:Nat=>St m7 (kR R y2 Y 75 3::kB b2 #[vI y1.2.1,vI y1.d.1,vI y1.e,vB y1.1.e,.slice R nn_ Y,vI y1.1.2.1] 45::kB b3 (Vn y1.2) 42::cB a a1 c1 v a2 c2 z p0.1::kB bp0 #[vP a 0,vS a3 p0.2.1 c3,.int .u64 p0.d.1,.map (some S),vI y1.1.2.1,vI y1.1.d.1,vB y1.1.e,.map p] 128::aA (some S) M E::aA v F A::aA z G B::aA p H D::O) d2) a8.symm).mp g;refine UP [(6,vP b2 0)] (by(try simp only[vS,a8]);kernel_rfl) ?_;exact lE g.t.h (zA g.f1.t.f1.t.f2.f6.f4.f4.f6.f6.f6)
 intro d2;refine eF (λk1 L' w'=>∃(s1:lY),∃a6 c6 T2,∃(b0:Array Nat) (a8:List (qW×Bool)),∃U,LoopP (KM N) a8 s1 PKu2 k1/\L'=[(0,vP bp0 0),(6,vP b2 0),(7,vP b3 0),(8,vS a6 s1 c6),(18,vP b5 0)]/\m.le U/\St U (kB b3 (Vn y1.2) 42::cB a a1 c1 v a2 c2 z p0.1::kB bp0 #[vP a 0,vS a3 p0.2.1 c3,.int .u64 p0.d.1,.map (some S),vI y1.1.2.1,vI y1.1.d.1,vB y1.1.e,.map p] 128::kB b2 #[vI 0,vI 0,vI 0,vB false,vf,vI 0] 45::aA (some S) M E::aA v F A::aA z G B::aA p H D::cT a6 (bM eK s1 T2) 75::tF b5 (some S) E b0::O) w'/\RepS C1 U a1 c1 p0.1.1/\RepS aB U a2 c2 p0.1.e.1/\RepS C3 U a3 c3 p0.2.1/\MapQ aY cO false U (some S) M E y1.1.1/\MapQ cZ C7 true U v F A p0.1.d.1/\MapQ aY C8 true U z G B p0.1.f/\MapQ cS iJ false U p H D p0.k/\OAS a6 s1.length c6 3 T2/\ItR aY cO false U M b0 a8) (List.length (Option.getD y1.1.1 [])+1) ⟨([]:lY),none,0,[],#[],(Option.getD y1.1.1 []),m2,hr,rfl,(q.t b).t e2,g.f1.f1.f7.f6.f6.f5.f9.f9.f9.f9,(r1.o b).o e2,(r3.o b).o e2,(r5.o b).o e2,r9,(r2.o b).o e2,(r4.o b).o e2,(r7.o b).o e2,(OAS.nil 3),e6⟩ ?_;rintro k1 _ w8 ⟨s1,a6,c6,T2,b0,a8,U,hL,rfl,q,g,r1,r3,r5,r9,r2,r4,r7,d6,d5⟩;rcases k1 with _|k1
 .exact LoopP.zero hL
 refine aD ?_;have g:=g.f4.f9;refine bS (ZL (ek:=aY) (c:=cO) (agg:=false) (d:=19) (x:=(.tmp 18)) kr rfl (ev (vP b5 0)) g r9 d5 ?_ ?_)
 .intro Z w9 g;obtain⟨g0,hr,b9,b8⟩:=hL.nil Z;clear hL;refine eI (rZ false kr (λh=>Bool.noConfusion h) ?_);intro _;refine eE ?_;obtain rfl:=sI hr;have ho:=b8 _ rfl;exact dY (d2 _ _ (zA g.f9.f9.f9.f9.f5.f9.f9.f9.f9))
 rintro Z d9 g2 g3 g4 f0 rfl g e7 e4;obtain⟨g0,hr,b9,b8⟩:=hL.cons f0;clear hL;refine eI (rZ true kr ?_ (λh=>Bool.noConfusion h));intro _;refine aQ (bJ (aD ?_));have g:=g.f1.f1;refine bS (YF (ek:=aY) (c:=cO) (agg:=false) (d:=21) (x:=(.tmp 18)) (K:= .agg (Vk Z.1)) (V:=vB Z.2) kr rfl (ev (vP b5 0)) g r9 e4 (aX 1 (bX 9 75 (.agg (Vj 0 eB eB)) g λb6 g5 g=>aZ (.agg (Vk Z.1)) g λg6 g=>aI (eQ 1 (bD g.h (iF 25 75 1 C9 [Z.1] g λb7 m5 g7 e3 g g1=> ?_))))));have g:=g.f11;have⟨l1,f3,hr⟩:=aM hr;refine bS (XC (d:=26) (t:=43) (u:=43) (e:=75) (by_:=40) (x:=(.tmp 23)) (y:=(.tmp 25)) (c:=C9) (f:=eK) (l:=s1) (λ_ _ _ h=>by obtain⟨_,_,rfl,rfl,⟨_,_,rfl,rfl,rfl⟩⟩:=h;rfl) (λ_=>rfl) kr rfl (ev (vS a6 s1 c6)) (ev (vS (aP b7) ([Z.1]) 1)) g d6 rfl kr (.inl kr) g1.src f3 λa7 c7 T3 g8 e8 g=>eJ 1 ?_);have g:=g.f1.t;refine iU ?_;obtain rfl:=sI hr;have hL:=b9 _ rfl;exact dX ⟨l1,a7,c7,T3,g2,d9,m5,hL,rfl,q.t e3,g.f1.t.f1.f1.f9.f9.f9.f5.f9.f9.f9.f9,r1.o e3,r3.o e3,r5.o e3,r9.o e3,r2.o e3,r4.o e3,r7.o e3,e8,e7.o e3⟩
def zD(N:Nat)(p0:Tr)(p1:nT)(p2:Int)(p3:Tq):Option JI:=
 (MU N p0).bind λy1=>(if(!y1.2.1)then(some true) else((CK N p1).bind λa=>some (!a)):Tk).bind λa=>if a then(some (((0,0,0),false,([]:lY),0),1)) else((xS N y1 2 p3.1 p3.2).bind λc=>if(c.2.2.2.2.2 !=1)then(some (((0,0,0),false,([]:lY),0),18)) else((iI (some []:Option (List (Int×eM))) 1 (some 54:eM)).bind λa=>(iI a 2 (some 55:eM)).bind λa=>(iI a 3 (some 56:eM)).bind λa=>(iI a 4 (some 57:eM)).bind λa=>(iI a 5 (some 58:eM)).bind λa=>(iI a 6 (some 59:eM)).bind λa=>(iI a 7 (some 60:eM)).bind λa=>(iI a 8 (some 61:eM)).bind λa=>(iI a 9 (some 62:eM)).bind λa=>(iI a 10 (some 63:eM)).bind λa=>(sK N (y1,p1,p2,(some []:wM),0,0,false,a) ([(2,p3.1,p3.2)])).bind λb=>(CR N (y1,p1,p2,b.1,b.2.1,b.2.2.1,b.2.2.2,a) c ([]:Te)).bind λy5=>some ((y5.2.1,y5.2.2.1,y5.2.2.2.1,y5.2.2.2.2),0)))
theorem Dd{p0:Tr}{p1:nT}{p2:Int}{p3:Tq}{r:JI}(g:St m (O) w)(r1:RepS C1 m a1 c1 p0)(H:RepS C3 m a2 c2 p1)(hr:zD N p0 p1 p2 p3=some r):Calls prog 7 #[.agg #[vS a1 p0 c1],.agg #[vS a2 p1 c2],.int .u64 p2,.agg (V2 p3)] w λe w'=>∃a8 a9 m',bN m m' e (.tuple #[.agg (Vq r.1.1.1 r.1.1.2.1 r.1.1.d r.1.2.1 a8 r.1.d.1 a9 r.1.e),vI r.2]) (kR a8 r.1.d.1 a9 75 3::O) w' (RepS C9 m' a8 a9 r.1.d.1):=by
 refine bH g func7 rfl ntmps7 λq=>aD (eC 4 28 (.agg #[vS a1 p0 c1]) g λb1 m1 w1 e1 g d6=>eC 5 31 (.agg #[vS a2 p1 c2]) g λb2 m2 w2 e2 g B=>eC 7 38 (.agg (V2 p3)) g λM m3 w3 R g D=>bX 8 45 (.agg #[vI 0,vI 0,vI 0,vB false,v6,vI 0]) g λb4 w4 g=>tH (dU g ((d6.o e2).o R) (bW hr (Dw g (((r1.o e1).o e2).o R)) ?_)));rintro y1 hr _ w5 ⟨F,a3,c3,q1,c7,b0,a4,c4,q2,c8,c0,m4,rfl,S,g,U,V,Y,Z⟩;have B:=(B.o R).o S;have H:=(((H.o e1).o e2).o R).o S;refine eI (aD (iY 10 hr (λo1 L' w'=>∃E,L'=[(2,.int .u64 p2),(5,vP b2 0),(7,vP M 0),(8,vP b4 0),(10,vP F 0),(24,vB o1)]/\m.le E/\St E (cB F a3 c3 q1 a4 c4 q2 y1::kB b4 #[vI 0,vI 0,vI 0,vB false,vf,vI 0] 45::aA q1 c7 b0::aA q2 c8 c0::O) w'/\MRow E b2 0 [vS a2 p1 c2]/\RepS C3 E a2 c2 p1/\MRow E M 0 [vT p3.1,vT p3.2]/\RepS C1 E a3 c3 y1.1/\RepS aB E a4 c4 y1.e.1/\MapQ cZ C7 true E q1 c7 b0 y1.d.1/\MapQ aY C8 true E q2 c8 c0 y1.f) ?_ ?_))
 .rintro o1 hr _ w6 ⟨E,rfl,q,g,B,H,D,U,Y,V,Z⟩;refine aI (aO hr ?_ ?_)<;>intro A hr
  .refine aR 1 (aZ (.agg #[vI 0,vI 0,vI 0,vB false,vf,vI 0]) g.f1 λa g=>aW (aT (bL ?_)));cases hr;refine tM 8 45 [9] [vI 1] g.h ?_;have g:=(g.nilroom 75 3).front1;exact⟨none,0,E,rfl,q,g.t.f1.t.f1.t.f1.t,(RepS.nil _ _)⟩
  refine aQ (iG 2 g D (mB 1 g (D.drop 1) (bW hr (LP g.f3.f3 U V Y Z) ?_)));rintro y3 hr _ w9 ⟨m7,rfl,a,g⟩;refine bX 11 59 (.agg dW) g λb6 n7 g=>aZ (.agg (Ve y3)) g λn8 g=>aI (aJ (aD (aS 1 g.h (cV hr ?_ ?_))))<;>intro A hr
  .refine aR 1 (aZ (.agg #[vI 0,vI 0,vI 0,vB false,vf,vI 0]) g.f4 λb g=>aW (aT (bL ?_)));cases hr;refine tM 8 45 [9] [vI 18] g.h ?_;have g:=(g.nilroom 75 3).front1;exact⟨none,0,m7,rfl,q.t a,g.t.f1.t.f1.t.f1.t.f1.t,(RepS.nil _ _)⟩
  refine aQ (iG 1 g (B.o a) (aX 1 (bS (pP 39 23 #[vP F 0,.agg #[vS a2 p1 c2],.int .u64 p2] kr rfl (pU func23 rfl ntmps23 (aD (eC 4 31 (.agg #[vS a2 p1 c2]) g λb7 m8 n9 b g d7=>aW (iG 1 g d7 (aX 1 (bS (rU (d:=10) (t:=123) kr rfl g λb8 o0 g=>bS (rU (d:=11) (t:=126) kr rfl g λo o3 g=> ?_))))))))))));have⟨l7,d8,hr⟩:=aM hr;refine bS (mN (ek:=cS) (c:=iJ) (agg:=false) (k:=1) (yv:=(some 54:eM)) (cs:=[.func (.func 54) #[] #[]]) (z:= .nilFunc) (v:=(.func (.func 54) #[] #[])) (kt:=3) (et:=124) (t:=126) (x:=(.tmp 11)) (y:=(.const (vI 1))) (u:=(.func 54)) kr (ev (.map (some o))) (ev (vI 1)) (ev (.func (.func 54) #[] #[])) kr (mD kr) g (MapQ.new cS iJ false _ _) rfl rfl d8 λk8 k1 o5 g r7=> ?_);have⟨l8,d9,hr⟩:=aM hr;refine bS (mN (ek:=cS) (c:=iJ) (agg:=false) (k:=2) (yv:=(some 55:eM)) (cs:=[.func (.func 55) #[] #[]]) (z:= .nilFunc) (v:=(.func (.func 55) #[] #[])) (kt:=3) (et:=124) (t:=126) (x:=(.tmp 11)) (y:=(.const (vI 2))) (u:=(.func 55)) kr (ev (.map (some o))) (ev (vI 2)) (ev (.func (.func 55) #[] #[])) kr (mD kr) g r7 rfl rfl d9 λk9 k2 o6 g r8=> ?_);have⟨l9,e0,hr⟩:=aM hr
  refine bS (mN (ek:=cS) (c:=iJ) (agg:=false) (k:=3) (yv:=(some 56:eM)) (cs:=[.func (.func 56) #[] #[]]) (z:= .nilFunc) (v:=(.func (.func 56) #[] #[])) (kt:=3) (et:=124) (t:=126) (x:=(.tmp 11)) (y:=(.const (vI 3))) (u:=(.func 56)) kr (ev (.map (some o))) (ev (vI 3)) (ev (.func (.func 56) #[] #[])) kr (mD kr) g r8 rfl rfl e0 λl0 k3 o7 g r9=> ?_);have⟨n0,e8,hr⟩:=aM hr;refine bS (mN (ek:=cS) (c:=iJ) (agg:=false) (k:=4) (yv:=(some 57:eM)) (cs:=[.func (.func 57) #[] #[]]) (z:= .nilFunc) (v:=(.func (.func 57) #[] #[])) (kt:=3) (et:=124) (t:=126) (x:=(.tmp 11)) (y:=(.const (vI 4))) (u:=(.func 57)) kr (ev (.map (some o))) (ev (vI 4)) (ev (.func (.func 57) #[] #[])) kr (mD kr) g r9 rfl rfl e8 λl1 k4 o8 g g1=> ?_);have⟨n1,f0,hr⟩:=aM hr;refine bS (mN (ek:=cS) (c:=iJ) (agg:=false) (k:=5) (yv:=(some 58:eM)) (cs:=[.func (.func 58) #[] #[]]) (z:= .nilFunc) (v:=(.func (.func 58) #[] #[])) (kt:=3) (et:=124) (t:=126) (x:=(.tmp 11)) (y:=(.const (vI 5))) (u:=(.func 58)) kr (ev (.map (some o))) (ev (vI 5)) (ev (.func (.func 58) #[] #[])) kr (mD kr) g g1 rfl rfl f0 λl2 k5 o9 g g2=> ?_);have⟨n2,f9,hr⟩:=aM hr
  refine bS (mN (ek:=cS) (c:=iJ) (agg:=false) (k:=6) (yv:=(some 59:eM)) (cs:=[.func (.func 59) #[] #[]]) (z:= .nilFunc) (v:=(.func (.func 59) #[] #[])) (kt:=3) (et:=124) (t:=126) (x:=(.tmp 11)) (y:=(.const (vI 6))) (u:=(.func 59)) kr (ev (.map (some o))) (ev (vI 6)) (ev (.func (.func 59) #[] #[])) kr (mD kr) g g2 rfl rfl f9 λl3 k6 q0 g g3=> ?_);have⟨n3,d1,hr⟩:=aM hr;refine bS (mN (ek:=cS) (c:=iJ) (agg:=false) (k:=7) (yv:=(some 60:eM)) (cs:=[.func (.func 60) #[] #[]]) (z:= .nilFunc) (v:=(.func (.func 60) #[] #[])) (kt:=3) (et:=124) (t:=126) (x:=(.tmp 11)) (y:=(.const (vI 7))) (u:=(.func 60)) kr (ev (.map (some o))) (ev (vI 7)) (ev (.func (.func 60) #[] #[])) kr (mD kr) g g3 rfl rfl d1 λl4 k7 q3 g g4=> ?_);have⟨n4,d2,hr⟩:=aM hr;refine bS (mN (ek:=cS) (c:=iJ) (agg:=false) (k:=8) (yv:=(some 61:eM)) (cs:=[.func (.func 61) #[] #[]]) (z:= .nilFunc) (v:=(.func (.func 61) #[] #[])) (kt:=3) (et:=124) (t:=126) (x:=(.tmp 11)) (y:=(.const (vI 8))) (u:=(.func 61)) kr (ev (.map (some o))) (ev (vI 8)) (ev (.func (.func 61) #[] #[])) kr (mD kr) g g4 rfl rfl d2 λh5 h0 q4 g g5=> ?_);have⟨n5,d3,hr⟩:=aM hr
  refine bS (mN (ek:=cS) (c:=iJ) (agg:=false) (k:=9) (yv:=(some 62:eM)) (cs:=[.func (.func 62) #[] #[]]) (z:= .nilFunc) (v:=(.func (.func 62) #[] #[])) (kt:=3) (et:=124) (t:=126) (x:=(.tmp 11)) (y:=(.const (vI 9))) (u:=(.func 62)) kr (ev (.map (some o))) (ev (vI 9)) (ev (.func (.func 62) #[] #[])) kr (mD kr) g g5 rfl rfl d3 λh6 h1 q5 g g6=> ?_);have⟨a7,d4,hr⟩:=aM hr;refine bS (mN (ek:=cS) (c:=iJ) (agg:=false) (k:=10) (yv:=(some 63:eM)) (cs:=[.func (.func 63) #[] #[]]) (z:= .nilFunc) (v:=(.func (.func 63) #[] #[])) (kt:=3) (et:=124) (t:=126) (x:=(.tmp 11)) (y:=(.const (vI 10))) (u:=(.func 63)) kr (ev (.map (some o))) (ev (vI 10)) (ev (.func (.func 63) #[] #[])) kr (mD kr) g g6 rfl rfl d4 λh7 h2 q6 g c9=>aX 2 (bS (sO 14 128 13 (.agg #[vP F 0,vS a2 p1 c2,.int .u64 p2,.map (some b8),vI 0,vI 0,vB false,.map (some o)]) g λG q7 g=>aW (aT (lJ [6] [vP G 0] ⟨_,rfl,aW (iG 2 g ((D.o a).o b) (mB 1 g (((D.o a).o b).drop 1) (aX 1 (iF 46 75 1 C9 [(2,p3.1,p3.2)] g λk0 l5 q8 l g g7=>bW hr (FG (p0:=(y1,p1,p2,(some []:wM),0,0,false,a7)) g.f1.f2.f3.f7.f7.f7 (((U.o a).o b).o l) (((V.o a).o b).o l) (((Y.o a).o b).o l) (((Z.o a).o b).o l) (((H.o a).o b).o l) (MapQ.new aY cO false _ _) (c9.o l) g7) ?_))))⟩)))));rintro y4 hr _ q9 ⟨h8,h3,l6,rfl,p,g,g8⟩;refine cX ?_;have g:=g.f6.t
  refine oN 1 (bD g.t.t.t.t.t.t.h (bW hr (Cg (p0:=(y1,p1,p2,y4.1,y4.2.1,y4.d.1,y4.e,a7)) (p1:=y3) g.f5.f5.f5.f5.f5.f5 ((((U.o a).o b).o l).o p) ((((V.o a).o b).o l).o p) ((((Y.o a).o b).o l).o p) ((((Z.o a).o b).o l).o p) ((((H.o a).o b).o l).o p) g8 ((c9.o l).o p) (RepS.nil _ _)) ?_));rintro y5 hr _ r0 ⟨h9,h4,a5,c5,g0,rfl,d5,g,n6,g9⟩;cases hr;exact aZ (.agg (Vq y5.2.1.1 y5.2.1.2.1 y5.2.1.d y5.d.1 a5 y5.e.1 c5 y5.f)) g.f8 λs3 g=>aW (aT (lE g.h (zE g.t.f1.t.f1.t.f1.t.f1.t.f1.t.f1.t.f1.t (((((q.t a).t b).t l).t p).t d5))))
 intro o1 hr K;refine aS 3 g.t.t.h (cW 2 20 hr ?_ ?_)<;>intro A hr
 .exact bG 4 (K hr ⟨m4,rfl,(((q.t e1).t e2).t R).t S,g.f1.f1.f3.f3,B,H,D.o S,U,Y,V,Z⟩)
 refine dU g B (bW hr (Ca g H) ?_);rintro l hr _ o ⟨b,rfl,a,g⟩;exact bG 2 (K hr ⟨b,rfl,((((q.t e1).t e2).t R).t S).t a,g.f1.f1.f3.f3,B.o a,H.o a,(D.o S).o a,U.o a,Y.o a,V.o a,Z.o a⟩)
def Bt(N:Nat)(p0:nT)(s1:Int):Tj:=
 if(decide (s1<(List.length p0:Int)))then((bC p0 s1).bind λa=>((GK N a.1).bind λy1=>if(!y1)then(some true) else(if(decide (a.2<(-9007199254740992)))then(some true) else(if(decide (a.2>9007199254740992))then(some true) else(if(decide (s1>0))then((bC p0 (wI (s1-1))).bind λb=>some (Op.bytesLess a.1.toList b.1.toList||(a.1.toList==b.1.toList))) else(some false)))):Tk).bind λo2=>if o2 then(some (.inr (.inr (false)))) else(some (.inl (wI (s1+1))))) else(some (.inr (.inl ())))
def EQ(N:Nat)(p0:nT):Tk:=
 if(decide ((List.length p0:Int)>16))then(some false) else((aC (Bt N p0) N 0).bind λa=>(match a with| .inl a=>some true| .inr (z)=>some z))
theorem Nl{p0:nT}{r:Bool}(g:St m (O) w)(d:RepS C3 m a1 c1 p0)(hr:EQ N p0=some r):Calls prog 27 #[.agg #[vS a1 p0 c1]] w λe w'=>∃m',iL m m' e (vB r) (O) w':=by
 refine bH g func27 rfl ntmps27 λq=>aD (eC 1 31 (.agg #[vS a1 p0 c1]) g λl V w1 F g c=>eI (iG 1 g c (cV hr ?_ ?_)))<;>intro A hr
 .exact eD (zH hr g)
 refine aQ (aJ (iG 1 g c (mA ?_)));have⟨v,hr,U⟩:=aM hr;refine eS (.exit 0) (λL' w'=>∃(Y:Unit),∃E,(.inl Y)=v/\L'=[]/\m.le E/\St E (O) w') ?_ ?_
 .rintro _ a ⟨Y,E,rfl,rfl,q,g⟩;have hr:=U;exact eY (eD (zH hr g))
 intro z;refine eF (λD L' w'=>∃(s1:Int),∃k,aC (Bt N p0) D s1=some v/\L'=[(1,vP l 0),(10,vS a1 p0 c1),(11,vI (p0.length:Int)),(12,vI s1)]/\m.le k/\St k (O) w'/\MRow k l 0 [vS a1 p0 c1]/\RepS C3 k a1 c1 p0) N ⟨0,V,hr,rfl,q.t F,g,c,d.o F⟩ ?_;rintro D _ w3 ⟨s1,k,hL,rfl,q,g,c,d⟩;obtain⟨D,a9,rfl,hr,G,s⟩:=eH hL;refine cG (aO hr ?_ ?_)<;>intro A hr
 .refine aQ (aJ (bJ (aR 1 (iP d hr ?_))));rintro a hr b2 f1 a7 ⟨_,_,rfl,rfl,rfl⟩ M;refine dU g M (bX 4 107 (.agg #[vT eB,vI 0]) g λp w4 g=>aX 1 (aZ (.agg (Vl a)) g λw5 g=>aI (aJ (cE .normal hr (λo2 L' w'=>∃n,L'=[(1,vP l 0),(10,vS a1 p0 c1),(11,vI (p0.length:Int)),(12,vI s1),(46,vB o2)]/\m.le n/\St n (kB p (Vl a) 107::O) w'/\MRow n l 0 [vS a1 p0 c1]/\RepS C3 n a1 c1 p0) ?_ ?_))))
  .rintro o2 hr _ f ⟨n,rfl,q,g,c,d⟩;refine aV (aO hr ?_ ?_)<;>intro A hr
   .refine bK (aT (cF (bL ?_)));have ho:=s _ (sI hr);subst ho;have hr:=U;exact mH (zH hr g.t)
   refine lP (cP 2 ?_);exact dX (zL G hr g.t)
  intro o2 hr K;refine cM [(30,λw'=>Inv k w'/\Piece.holds k w' (kB p (Vl a) 107)/\True)] kr g λw7 _ g=> ?_;have f:=k.le_refl;refine⟨aL (aF g f),?_⟩;have hb1S:=c;have r1S:=d;refine aN 0 (bZ 1 cH (aK 2 kr (cY hr (λ_ h=>VX g h) ?_)));rintro y1 hr _ w8 ⟨u,rfl,B,g⟩;refine⟨_,rfl,?_⟩;have q:=q.t B;have c:=c.o B;have d:=d.o B;have f:=f.t B;refine⟨aL (aF g f),aU 2 [3,4] ?_⟩;rcases eX (!y1) with A|A
  .rw[jB A] at hr;exact mO (t:=21) (b:=true) (!y1) kr A (aU 25 [5,6,7,8,9,10,11,12,13,14,15,16,17,18,19,20,21,22,23,24,25,26,27,28,29] (bO kr (xE (K hr (zA g)))))
  rw[jA (not_true A)] at hr;refine mO (t:=21) (b:=false) (!y1) kr A (aN 5 (bZ 6 cH (aU 3 [7,8,9] ?_)));rcases eX (decide (a.2<(-9007199254740992))) with A|A
  .rw[jB A] at hr;exact mO (t:=26) (b:=true) (decide (a.2<(-9007199254740992))) kr A (aU 20 [10,11,12,13,14,15,16,17,18,19,20,21,22,23,24,25,26,27,28,29] (bO kr (xE (K hr (zA g)))))
  rw[jA (not_true A)] at hr;refine mO (t:=26) (b:=false) (decide (a.2<(-9007199254740992))) kr A (aN 10 (bZ 11 cH (aU 3 [12,13,14] ?_)));rcases eX (decide (a.2>9007199254740992)) with A|A
  .rw[jB A] at hr;exact mO (t:=31) (b:=true) (decide (a.2>9007199254740992)) kr A (aU 15 [15,16,17,18,19,20,21,22,23,24,25,26,27,28,29] (bO kr (xE (K hr (zA g)))))
  rw[jA (not_true A)] at hr;refine mO (t:=31) (b:=false) (decide (a.2>9007199254740992)) kr A (aU 3 [15,16,17] ?_);rcases eX (decide (s1>0)) with A|A
  .rw[jB A] at hr;refine mO (t:=34) (b:=true) (decide (s1>0)) kr A (aN 18 (bZ 19 cH (aN 20 (cN 21 hb1S (aU 2 [22,23] ?_)))));have⟨o,S,hr⟩:=aM hr;refine nP (t:=29) (e:=107) (x:=(.tmp 38)) (y:=(.tmp 40)) 24 41 C3 kr rfl kr (.head _) (bU (iQ (bU (bU (iQ (bU lR)))))) (ev (vS a1 p0 c1)) (ev (vI (wI (s1-1)))) kr r1S S ?_;rintro Z H a8 ⟨_,_,rfl,rfl,rfl⟩ R;have hq2S:=R;exact aN 25 (cN 26 hq2S (aU 3 [27,28,29] (bO kr (xE (K hr (zA g))))))
  rw[jA (not_true A)] at hr;exact mO (t:=34) (b:=false) (decide (s1>0)) kr A (aU 12 [18,19,20,21,22,23,24,25,26,27,28,29] (bO kr (xE (K hr (zA g)))))
 refine eE ?_;exact dY (z _ _ (zL s hr g))
def GM(N:Nat)(p0:Tr)(p1:Int)(p2:BA)(p3:BA):Option mQ:=
 (CV N p0).bind λy1=>if(y1 !=0)then(some ((⟨#[]⟩:BA),(⟨#[]⟩:BA),0,(⟨#[]⟩:BA),0,0)) else((GO N p0).bind λa=>(yZ N a p1 p2 p3).bind λa=>some a)
theorem Qf{p0:Tr}{p1:Int}{p2:BA}{p3:BA}{r}(g:St m (O) w)(d:RepS C1 m a1 c1 p0)(hr:GM N p0 p1 p2 p3=some r):Calls prog 28 #[.agg #[vS a1 p0 c1],vI p1,vT p2,vT p3] w λe w'=>∃m',iL m m' e (.agg (Ve r)) (O) w':=by
 refine bH g func28 rfl ntmps28 λq=>aD (eC 4 28 (.agg #[vS a1 p0 c1]) g λy E G a g c=>bX 8 59 (.agg dW) g λz H g=>aI (aJ (aD (dU g c (bW hr (KT g (d.o a)) ?_)))));rintro y1 hr _ K ⟨l,rfl,b,g⟩;refine cV hr ?_ ?_<;>intro A hr
 .cases hr;exact aR 1 (aZ (.agg dW) g λf g=>aI (aT (bL (lE g.h (zA g.t)))))
 refine aQ (aD (dU g (c.o b) (bW hr (VZ g ((d.o a).o b)) ?_)));rintro s hr _ M ⟨v,B,x,D,F,rfl,f,g,o,p⟩;refine iH 3 hr (QW (p0:=s) g o p) ?_;rintro u hr _ R ⟨n,rfl,k,g⟩;refine aZ (.agg (Ve u)) g.f2 λS g=>cX ?_;have g:=g.f1.t.f1.t;obtain rfl:=sI hr;exact aV (aT (lE g.h (zA g.t)))
def RZ(N:Nat)(p0:Tr)(p1:mQ):Option (iE×Int×Bool):=
 (LH N p0 p1.2.2.2.1).bind λy1=>(if(!y1.2)then(some true) else(if(decide (p1.2.2.2.2.1<0))then(some true) else(if(decide (p1.2.2.2.2.1>=(List.length y1.1.2.2:Int)))then(some true) else((bC y1.1.2.2 p1.2.2.2.2.1).bind λa=>if(a.1 !=p1.2.2.1)then(some true) else((bC y1.1.2.2 p1.2.2.2.2.1).bind λa=>some (!(a.2.1.toList==p1.2.1.toList)))))):Tk).bind λa=>if a then(some (((⟨#[]⟩:BA),([]:Tb),([]:mI)),0,false)) else(some (y1.1,p1.2.2.2.2.1,true))
theorem Qc{p0:Tr}{p1:mQ}{r:iE×Int×Bool}(g:St m (O) w)(r1:RepS C1 m a1 c1 p0)(hr:RZ N p0 p1=some r):Calls prog 29 #[.agg #[vS a1 p0 c1],.agg (Ve p1)] w λe w'=>∃D F E G m',bN m m' e (.tuple #[.agg (V8 r.1 D F E G),vI r.2.1,vB r.d]) (kR D r.1.2.1 F 9 1::kR E r.1.d G 111 4::O) w' (P4 m' D F E G r.1.2):=by
 refine bH g func29 rfl ntmps29 λq=>aD (eC 2 28 (.agg #[vS a1 p0 c1]) g λb1 m1 w1 V g a8=>eC 3 59 (.agg (Ve p1)) g λn m2 w2 H g a=>bX 4 81 (.agg #[vT eB,v6,v6]) g λU w3 g=>tH (dU g (a8.o H) (mB 1 g (a.drop 3) (bW hr (Ce g ((r1.o V).o H)) ?_))));rintro y1 hr _ w4 ⟨l,o,c,k,u,rfl,Y,g,z,s⟩;have q:=((q.t V).t H).t Y;have a:=a.o Y;refine aX 3 (bX 7 81 (.agg #[vT eB,v6,v6]) g λv w5 g=>aZ (.agg (V8 y1.1 l o c k)) g λw6 g=>eI (aJ (cE .normal hr (λR L' w'=>∃p,L'=[(3,vP n 0),(4,vP U 0),(7,vP v 0),(54,vB R)]/\m.le p/\St p (kB v (V8 y1.1 l o c k) 81::kB U #[vT eB,v2,vd] 81::kR l y1.1.2.1 o 9 1::kR c y1.1.d k 111 4::O) w'/\MRow p n 0 (Vg p1)/\P4 p l o c k y1.1.2) ?_ ?_)))
 .rintro R hr _ Z ⟨p,rfl,q,g,a,z,s⟩;refine aV (aO hr ?_ ?_)<;>intro A hr
  .refine aR 1 (aZ (.agg #[vT eB,v2,vd]) g.f1 λB g=>aW (aT (bL ?_)));cases hr;refine tM 4 81 [5,6] [vI 0,vB false] g.h ?_;have g:=(g.nilroom 9 1).nilroom 111 4;exact⟨none,0,none,0,p,rfl,q,g.f2.t.f2.t.f2.t.f2.t.f1,(RepS.nil _ _),(RepS.nil _ _)⟩
  refine aQ (aJ (cM [(6,λw'=>Inv p w'/\Piece.holds p w' (kB v (V8 y1.1 l o c k) 81)/\True)] kr g λM _ g=> ?_));have B:=p.le_refl;refine⟨aL (aF g B),bZ 0 cH (aN 1 (cN 2 (a.drop 4) (aK 3 kr (iV 81 4 56 (.agg (V8 y1.1 l o c k)) g.f1 λS g=>⟨aL (aF g B),aU 2 [4,5] (bO kr (aV (aT ?_)))⟩))))⟩;exact lE g.h (zH hr g.t.t.f1.f1)
 intro R hr K;refine cM [(39,λw'=>Inv u w'/\Piece.holds u w' (kB v (V8 y1.1 l o c k) 81)/\True)] kr g λw8 _ g=> ?_;have M:=u.le_refl;refine⟨aL (aF g M),aU 3 [0,1,2] ?_⟩;rcases eX (!y1.2) with A|A
 .rw[jB A] at hr;exact mO (t:=18) (b:=true) (!y1.2) kr A (aU 36 [3,4,5,6,7,8,9,10,11,12,13,14,15,16,17,18,19,20,21,22,23,24,25,26,27,28,29,30,31,32,33,34,35,36,37,38] (bO kr (xE (K hr ⟨u,rfl,q,g.f2.f2.f3.f3,a,z,s⟩))))
 rw[jA (not_true A)] at hr;refine mO (t:=18) (b:=false) (!y1.2) kr A (aN 3 (cN 4 (a.drop 4) (aU 3 [5,6,7] ?_)));rcases eX (decide (p1.f.1<0)) with A|A
 .rw[jB A] at hr;exact mO (t:=23) (b:=true) (decide (p1.f.1<0)) kr A (aU 31 [8,9,10,11,12,13,14,15,16,17,18,19,20,21,22,23,24,25,26,27,28,29,30,31,32,33,34,35,36,37,38] (bO kr (xE (K hr ⟨u,rfl,q,g.f2.f2.f3.f3,a,z,s⟩))))
 rw[jA (not_true A)] at hr;refine mO (t:=23) (b:=false) (decide (p1.f.1<0)) kr A (aN 8 (cN 9 (a.drop 4) (aN 10 (bZ 11 cH (aU 4 [12,13,14,15] ?_)))));rcases eX (decide (p1.f.1>=(y1.1.2.2.length:Int))) with A|A
 .rw[jB A] at hr;exact mO (t:=31) (b:=true) (decide (p1.f.1>=(y1.1.2.2.length:Int))) kr A (aU 23 [16,17,18,19,20,21,22,23,24,25,26,27,28,29,30,31,32,33,34,35,36,37,38] (bO kr (xE (K hr ⟨u,rfl,q,g.f2.f2.f3.f3,a,z,s⟩))))
 rw[jA (not_true A)] at hr;refine mO (t:=31) (b:=false) (decide (p1.f.1>=(y1.1.2.2.length:Int))) kr A (aN 16 (bZ 17 cH (aN 18 (cN 19 (a.drop 4) ?_))));have⟨B,b7,hr⟩:=aM hr;refine nP (t:=79) (e:=111) (x:=(.tmp 33)) (y:=(.tmp 35)) 20 36 C6 kr rfl kr (.head _) (bU (bU lR)) (ev (vS c y1.1.d k)) (ev (vI p1.f.1)) kr s b7 ?_;rintro b5 Z b9 ⟨_,_,rfl,rfl,⟨_,_,rfl,rfl,⟨_,_,rfl,⟨a4,c4,rfl,r4⟩,⟨a5,c5,rfl,r5⟩⟩⟩⟩ a9;refine aN 21 (cN 22 a9 (aN 23 (cN 24 (a.drop 2) (aU 3 [25,26,27] ?_))));rcases eX (B.1 !=p1.d.1) with A|A
 .rw[jB A] at hr;exact mO (t:=43) (b:=true) (B.1 !=p1.d.1) kr A (aU 11 [28,29,30,31,32,33,34,35,36,37,38] (bO kr (xE (K hr ⟨u,rfl,q,g.f2.f2.f3.f3,a,z,s⟩))))
 rw[jA (not_true A)] at hr;refine mO (t:=43) (b:=false) (B.1 !=p1.d.1) kr A (aN 28 (bZ 29 cH (aN 30 (cN 31 (a.drop 4) ?_))));have⟨S,b8,hr⟩:=aM hr;refine nP (t:=79) (e:=111) (x:=(.tmp 45)) (y:=(.tmp 47)) 32 48 C6 kr rfl kr (.head _) (bU (bU lR)) (ev (vS c y1.1.d k)) (ev (vI p1.f.1)) kr s b8 ?_;rintro b6 f2 c0 ⟨_,_,rfl,rfl,⟨_,_,rfl,rfl,⟨_,_,rfl,⟨a6,c6,rfl,r6⟩,⟨a7,c7,rfl,r7⟩⟩⟩⟩ b0;exact aN 33 (cN 34 (b0.drop 1) (aN 35 (cN 36 (a.drop 1) (aU 2 [37,38] (bO kr (xE (K hr ⟨u,rfl,q,g.f2.f2.f3.f3,a,z,s⟩)))))))
def SA(N:Nat)(p0:qW)(p1:qW):Tk:=
 if(p0.1 !=p1.1)then(some (decide (p0.1<p1.1))) else(if(!(p0.2.1.toList==p1.2.1.toList))then(some (Op.bytesLess p0.2.1.toList p1.2.1.toList)) else(some (Op.bytesLess p0.2.2.toList p1.2.2.toList)))
theorem Qg{p0:qW}{p1:qW}{r:Bool}(g:St m (O) w)(hr:SA N p0 p1=some r):Calls prog 106 #[.agg (Vk p0),.agg (Vk p1)] w λe w'=>∃m',iL m m' e (vB r) (O) w':=by
 refine bH g func106 rfl ntmps106 λq=>aD (eC 2 75 (.agg (Vk p0)) g λc n o l g a=>eC 3 75 (.agg (Vk p1)) g λf h p k g b=> ?_);have q:=(q.t l).t k;have a:=a.o k;refine eI (iG 1 g a (mB 1 g b (cV hr ?_ ?_)))<;>intro A hr
 .exact iG 1 g a (mB 1 g b (iC (zH hr g)))
 refine aQ (aJ (iG 1 g (a.drop 1) (mB 1 g (b.drop 1) (cV hr ?_ ?_))))<;>intro A hr
 .exact iG 1 g (a.drop 1) (mB 1 g (b.drop 1) (iC (zH hr g)))
 exact aQ (iG 1 g (a.drop 2) (mB 1 g (b.drop 2) (iC (zH hr g))))
def KR(N:Nat)(p0:lY)(p1:qW)(s1:Int):Option (Int⊕Int):=
 (if(decide (s1<((List.length p0):Int)))then((bC p0 s1).bind λa=>(SA N a p1).bind λy1=>some y1) else(some false):Tk).bind λo2=>if o2 then(some (.inl (wI (s1+1)))) else(some (.inr s1))
def RR(N:Nat)(p0:lY)(p1:qW):Option lY:=
 (aC (KR N p0 p1) N 0).bind λa=>(if(decide (a<((List.length p0):Int)))then((bC p0 a).bind λb=>some ((b.1==p1.1)&&((b.2.1.toList==p1.2.1.toList)&&((b.2.2.toList==p1.2.2.toList)&&true)))) else(some false):Tk).bind λb=>if b then(some p0) else((iK 40 p0 ([(0,(⟨#[]⟩:BA),(⟨#[]⟩:BA))])).bind λb=>(qB b (wI (a+1)) (List.length b:Int)).bind λc=>(qB b a (List.length b:Int)).bind λc=>(vL b (wI (a+1)) a).bind λb=>(bC b a).bind λc=>some (List.set b (Int.toNat a) p1))
theorem Pr{p0:lY}{p1:qW}{T1:List Value}{r:lY}(g:St m (cT a1 (bM eK p0 T1) 75::O) w)(D:OAS a1 p0.length c1 3 T1)(hr:RR N p0 p1=some r):Calls prog 70 #[vS a1 p0 c1,.agg (Vk p1)] w λe w'=>∃U b0 a9 m',bN m m' e (vS U r b0) (cT U (bM eK r a9) 75::O) w' (OAS U r.length b0 3 a9):=by
 refine bH g func70 rfl ntmps70 λq=>aD (eC 3 75 (.agg (Vk p1)) g λH m1 w1 e1 g n=>aW (cG (bJ (cE (.exit 0) hr (λG L' w'=>∃(a:Int),∃F,a=G/\L'=[(0,vS a1 p0 c1),(3,vP H 0),(5,vI a)]/\m.le F/\St F (cT a1 (bM eK p0 T1) 75::O) w'/\MRow F H 0 (Vp p1)) ?_ ?_))))
 .rintro G hr _ w2 ⟨a,F,rfl,rfl,q,g,n⟩;refine eY (aJ (aJ (cE .normal hr (λo3 L' w'=>∃S,L'=[(0,vS a1 p0 c1),(3,vP H 0),(5,vI a),(31,vB o3)]/\m.le S/\St S (cT a1 (bM eK p0 T1) 75::O) w'/\MRow S H 0 (Vp p1)) ?_ ?_)))
  .rintro o3 hr _ w7 ⟨S,rfl,q,g,n⟩;refine aV (aO hr ?_ ?_)<;>intro A hr
   .exact eD (zH hr g)
   refine aQ (aR 2 (iF 35 75 1 C9 [(0,eB,eB)] g λb2 m7 w9 e3 g r1=> ?_));have g:=g.f1;have⟨p,b3,hr⟩:=aM hr;refine bS (XC (d:=36) (t:=43) (u:=43) (e:=75) (by_:=40) (x:=(.tmp 33)) (y:=(.tmp 35)) (c:=C9) (f:=eK) (l:=p0) (λ_ _ _ h=>by obtain⟨_,_,rfl,rfl,⟨_,_,rfl,rfl,rfl⟩⟩:=h;rfl) (λ_=>rfl) kr rfl (ev (vS a1 p0 c1)) (ev (vS (aP b2) ([(0,eB,eB)]) 1)) g D rfl kr (.inl kr) r1.src b3 λB s T2 b6 E g=>eJ 1 ?_);have g:=g.f1.t;refine lG (cM [(8,λw'=>Inv m7 w'/\True)] kr g λb7 _ g=> ?_);have M:=m7.le_refl;refine tA g M (aU 3 [0,1,2] ?_);have⟨u2,Y,hr⟩:=aM hr;refine TN (t:=43) (e:=75) (k:=3) (x:=(.tmp 37)) (lo:=(some (.tmp 39))) (hi:=none) (li:=wI (a+1)) (hix:=(p.length:Int)) 3 40 kr rfl kr (.head _) (bU lR) (ev (vS B p s)) kr (.inr ⟨_,_,rfl,(ev (vI (wI (a+1))))⟩) (.inl ⟨rfl,kF Nat.cast rfl⟩) E rfl Y ?_;have b4:=UT Y rfl;refine aU 2 [4,5] ?_;have⟨u3,Z,hr⟩:=aM hr;refine TN (t:=43) (e:=75) (k:=3) (x:=(.tmp 41)) (lo:=(some (.tmp 42))) (hi:=none) (li:=a) (hix:=(p.length:Int)) 6 43 kr rfl kr (.head _) (bU lR) (ev (vS B p s)) kr (.inr ⟨_,_,rfl,(ev (vI a))⟩) (.inl ⟨rfl,kF Nat.cast rfl⟩) E rfl Z ?_;have b5:=UT Z rfl;have⟨l2,a7,hr⟩:=aM hr
   refine aK 7 kr (Hj (d:=44) (t:=43) (u:=43) (e:=75) (k:=3) (x:=(.tmp 40)) (y:=(.tmp 43)) (f:=eK) (l:=p) (d0:=wI (a+1)) (s0:=a) (λ_=>rfl) (λ_ _ hv=>by simp only[jK,gJ,dQ] at hv;rcases hv with rfl|rfl|rfl<;>rfl) ac kr rfl (ev (.slice (tB B s (Int.toNat (wI (a+1))) 3) (Int.toNat (p.length:Int)-Int.toNat (wI (a+1))) (s-Int.toNat (wI (a+1))))) (ev (.slice (tB B s (Int.toNat a) 3) (Int.toNat (p.length:Int)-Int.toNat a) (s-Int.toNat a))) rfl rfl kr g E rfl a7 λv1 b8 g=> ?_);have R:=((Gs a7).trans rfl);refine tA g M (bO kr (aV (iG 2 g (n.o e3) ?_)));have⟨x3,a8,hr⟩:=aM hr;refine bS (Di (d:=48) (t:=43) (e:=75) (x:=(.tmp 45)) (y:=(.tmp 46)) (k:=3) kr rfl (ev (vS B p s)) (ev (vI a)) kr E R a8 (bS (Dk (t:=75) (x:=(.tmp 48)) (y:=(.tmp 47)) (o:=0) (f:=eK) (z:=x3) (u:=p1) (v:= .agg (Vk p1)) (λ_=>rfl) (Int.toNat a*3) rfl kr (ev (.pointer (some ⟨ab B,Int.toNat a*3,none⟩))) (ev (.agg (Vk p1))) g E R a8 kr rfl λb9 g=> ?_)));have V:List.length (List.set l2 (Int.toNat a) p1)=p.length:=TV R _ _;obtain rfl:=sI hr;refine aI (aD ?_);exact iC ⟨B,s,T2,m7,(by(try unfold vS);rw[V]<;>rfl),q.t e3,g,(OAS.cast E V)⟩
  intro o3 hr K;refine cM [(12,λw'=>Inv F w'/\Piece.holds F w' (cT a1 (bM eK p0 T1) 75)/\True)] kr g λE _ g=> ?_;have s:=F.le_refl;refine⟨aL (aF g s),aU 5 [0,1,2,3,4] ?_⟩;rcases eX (decide (a<(p0.length:Int))) with A|A
  .rw[jB A] at hr;refine mO (t:=24) (b:=true) (decide (a<(p0.length:Int))) kr A (aU 2 [5,6] ?_);have⟨p,B,hr⟩:=aM hr;refine SO (t:=43) (e:=75) (x:=(.tmp 25)) (y:=(.tmp 26)) (k:=3) 7 27 kr rfl kr (.head _) (bU (bU lR)) (ev (vS a1 p0 c1)) (ev (vI a)) kr D rfl B ?_;refine SQ (t:=75) (x:=(.tmp 27)) (o:=0) (f:=eK) (z:=p) (v:= .agg (Vk p)) 8 28 (λ_=>rfl) (Int.toNat a*3) rfl kr rfl kr (.head _) (bU (bU lR)) cH (ev (.pointer (some ⟨ab a1,Int.toNat a*3,none⟩))) D rfl B kr ?_;exact cN 9 n (aK 10 kr (YQ (d:=30) (t:=75) (t2:=75) (x:=(.tmp 28)) (y:=(.tmp 29)) (xs:=(Vk p)) (ys:=(Vk p1)) ((p.1==p1.1)&&((p.2.1.toList==p1.2.1.toList)&&((p.2.2.toList==p1.2.2.toList)&&true))) kr rfl (ev (.agg (Vk p))) (ev (.agg (Vk p1))) kr kr kr ⟨aL (aF g s),aN 11 (bO kr (xE (K hr ⟨F,rfl,q,g,n⟩)))⟩))
  rw[jA (not_true A)] at hr;exact mO (t:=24) (b:=false) (decide (a<(p0.length:Int))) kr A (aU 7 [5,6,7,8,9,10,11] (bO kr (xE (K hr (zA g)))))
 intro G hr E;refine eF (λM L' w'=>∃(s1:Int),∃s,aC (KR N p0 p1) M s1=some G/\L'=[(0,vS a1 p0 c1),(3,vP H 0),(5,vI s1)]/\m.le s/\St s (cT a1 (bM eK p0 T1) 75::O) w'/\MRow s H 0 (Vp p1)) N ⟨0,m1,hr,rfl,q.t e1,g,n⟩ ?_;rintro M _ w3 ⟨s1,s,hL,rfl,q,g,n⟩;obtain⟨M,a7,rfl,hr,Y,V⟩:=eH hL;refine aJ (aJ (cE .normal hr (λo2 L' w'=>∃B,L'=[(0,vS a1 p0 c1),(3,vP H 0),(5,vI s1),(17,vB o2)]/\m.le B/\St B (cT a1 (bM eK p0 T1) 75::O) w'/\MRow B H 0 (Vp p1)) ?_ ?_))
 .rintro o2 hr _ p ⟨B,rfl,q,g,n⟩;refine aV (aO hr ?_ ?_)<;>intro A hr
  .refine aQ (bJ (cP 3 (iU ?_)));exact dX (zL Y hr g)
  refine eE ?_;exact dY (E rfl (zL V hr g))
 intro o2 hr K;refine cM [(12,λw'=>Inv s w'/\Piece.holds s w' (cT a1 (bM eK p0 T1) 75)/\True)] kr g λw5 _ g=> ?_;have p:=s.le_refl;refine⟨aL (aF g p),aU 5 [0,1,2,3,4] ?_⟩;rcases eX (decide (s1<(p0.length:Int))) with A|A
 .rw[jB A] at hr;refine mO (t:=10) (b:=true) (decide (s1<(p0.length:Int))) kr A (aU 2 [5,6] ?_);have⟨Z,R,hr⟩:=aM hr;refine SO (t:=43) (e:=75) (x:=(.tmp 11)) (y:=(.tmp 12)) (k:=3) 7 13 kr rfl kr (.head _) (bU (bU (bU (iQ (bU lR))))) (ev (vS a1 p0 c1)) (ev (vI s1)) kr D rfl R ?_;refine SQ (t:=75) (x:=(.tmp 13)) (o:=0) (f:=eK) (z:=Z) (v:= .agg (Vk Z)) 8 14 (λ_=>rfl) (Int.toNat s1*3) rfl kr rfl kr (.head _) (bU (bU (bU (iQ (bU lR))))) cH (ev (.pointer (some ⟨ab a1,Int.toNat s1*3,none⟩))) D rfl R kr ?_;refine cN 9 n (aK 10 kr (cY hr (λ_ h=>Qg (p0:=Z) (p1:=p1) g h) ?_));rintro y1 hr _ w6 ⟨m5,rfl,S,g⟩;refine⟨_,rfl,?_⟩;have p:=p.t S;exact⟨aL (aF g p),aN 11 (bO kr (xE (K hr ⟨m5,rfl,q.t S,g,n.o S⟩)))⟩
 rw[jA (not_true A)] at hr;exact mO (t:=10) (b:=false) (decide (s1<(p0.length:Int))) kr A (aU 7 [5,6,7,8,9,10,11] (bO kr (xE (K hr (zA g)))))
def EU(N:Nat)(p1:lY)(s1:T3m):Option (T3m⊕lY):=
 if(decide (s1.1<(List.length p1:Int)))then((bC p1 s1.1).bind λa=>(RR N s1.2 a).bind λy1=>some (.inl (wI (s1.1+1),y1))) else(some (.inr s1.2))
def pX(N:Nat)(p0:lL)(p1:lY):Option T3w:=
 (aC (EU N p1) N (0,p0.2.2.2.2.1.2.2.1)).bind λa=>some ((p0.2.2.2.2.1.1,p0.2.2.2.2.1.2.1,a,p0.2.2.2.2.1.2.2.2),p0.2.2.2.2.2.1,p0.2.2.2.2.2.2)
theorem xQ{p0:lL}{p1:lY}{T1:List Value}{r:T3w}(g:St m (iW bp0 a1 c1 a2 c2 a3 c3 a4 c4 p0 p0.f.1 a5 c5 p0.h.1 p0.j::cT a5 (bM eK p0.f.1.d.1 T1) 75::O) w)(u:RepS C1 m a1 c1 p0.1)(v:RepS aB m a2 c2 p0.2.1.1)(y:RepS C7 m a3 c3 p0.2.1.2)(z:RepS C3 m a4 c4 p0.d.1)(b0:OAS a5 p0.2.2.2.2.1.2.2.1.length c5 3 T1)(G:RepS C9 m a6 c6 p1)(hr:pX N p0 p1=some r):Calls prog 31 #[vP bp0 0,vS a6 p1 c6] w λe w'=>∃B R M m',bN m m' e (.tuple #[]) (iW bp0 a1 c1 a2 c2 a3 c3 a4 c4 p0 r.1 B R r.2.1 r.d::cT B (bM eK r.1.d.1 M) 75::O) w' (OAS B r.1.2.2.1.length R 3 M):=by
 refine bH g func31 rfl ntmps31 λq=>bK (bJ (cE (.exit 0) hr (λc L' w'=>∃(s:lY),∃p E T2 k,s=c/\L'=[]/\m.le k/\St k (vK bp0 a1 c1 a2 c2 a3 c3 a4 c4 p0 p0.f.1.1.1 p0.f.1.1.2.1 p0.f.1.1.d p0.f.1.2.1 p s E p0.f.1.e p0.h.1 p0.j::cT p (bM eK s T2) 75::O) w'/\RepS C1 k a1 c1 p0.1/\RepS aB k a2 c2 p0.2.1.1/\RepS C7 k a3 c3 p0.2.1.2/\RepS C3 k a4 c4 p0.d.1/\OAS p s.length E 3 T2) ?_ ?_))
 .rintro c hr _ b ⟨s,p,E,T2,k,rfl,rfl,q,g,u,v,y,z,a⟩;exact rV (rY [] [] rfl ResAll.nil (zH hr g.f1.f1))
 intro c hr D;refine eF (λF L' w'=>∃(s1:T3m),∃l o T3 b,aC (EU N p1) F s1=some c/\L'=[(0,vP bp0 0),(6,vS a6 p1 c6),(7,vI (p1.length:Int)),(8,vI s1.1)]/\m.le b/\St b (vK bp0 a1 c1 a2 c2 a3 c3 a4 c4 p0 p0.f.1.1.1 p0.f.1.1.2.1 p0.f.1.1.d p0.f.1.2.1 l s1.2 o p0.f.1.e p0.h.1 p0.j::cT l (bM eK s1.2 T3) 75::O) w'/\RepS C9 b a6 c6 p1/\RepS C1 b a1 c1 p0.1/\RepS aB b a2 c2 p0.2.1.1/\RepS C7 b a3 c3 p0.2.1.2/\RepS C3 b a4 c4 p0.d.1/\OAS l s1.2.length o 3 T3) N ⟨(0,p0.f.1.d.1),a5,c5,T1,m,hr,rfl,q,g.f1.f1,G,u,v,y,z,b0⟩ ?_;rintro F _ w2 ⟨s1,l,o,T3,b,hL,rfl,q,g,G,u,v,y,z,K⟩;obtain⟨F,b5,rfl,hr,Y,V⟩:=eH hL;refine cG (aO hr ?_ ?_)<;>intro A hr
 .refine aQ (aJ (bJ (aD (iP G hr ?_))));rintro H hr b1 f1 b4 ⟨_,_,rfl,rfl,⟨_,_,rfl,rfl,rfl⟩⟩ Z;refine dU g Z (bX 5 75 (.agg (Vj 0 eB eB)) g λb2 w3 g=>aZ (.agg (Vk H)) g λw4 g=>aI (cM [(12,λw'=>Inv b w'/\Piece.holds b w' (kB b2 (Vk H) 75)/\True),(11,λw'=>Inv b w'/\Piece.holds b w' (vK bp0 a1 c1 a2 c2 a3 c3 a4 c4 p0 p0.f.1.1.1 p0.f.1.1.2.1 p0.f.1.1.d p0.f.1.2.1 l s1.2 o p0.f.1.e p0.h.1 p0.j)/\True)] kr g λw5 _ g=> ?_));have a:=b.le_refl;refine⟨lI (aF g a) (aF g a),aU 5 [0,1,2,3,4] (rF 43 16 5 17 9 (vS l s1.2 o) (.tail _ (.head _)) cH (bZ 6 cH (aK 7 kr (cY hr (λ_ h=>Pr g.f2 K h) ?_))))⟩;rintro y1 hr _ w6 ⟨S,U,T4,m3,rfl,n,g,b3⟩;refine⟨_,rfl,?_⟩;have a:=a.t n;refine⟨lI (aF g a) (aF g a),aU 3 [8,9,10] (aK 11 kr (tI 43 22 19 9 (vS S y1 U) #[vS a1 p0.1 c1,vS a2 p0.2.1.1 c2,vS a3 p0.2.1.2 c3,vS a4 p0.d.1 c4,.int .u64 p0.e.1,vI p0.f.1.1.1,vI p0.f.1.1.2.1,vI p0.f.1.1.d,vB p0.f.1.2.1,vS S y1 U,vI p0.f.1.e,vI p0.h.1,vI p0.j] g.f2 λw7 g=>⟨rJ (aF g a),bO kr (sW (cP 2 ?_))⟩))⟩;exact dX (zL Y hr g.f2.t.f1.f1)
 refine eE ?_;exact dY (D rfl (zL V hr g.f1.f1))
def oT(N:Nat)(p0:lL)(p1:Int):nI:=
 (if(p0.2.2.2.2.2.1==0)then(some p1) else(some p0.2.2.2.2.2.1):Td).bind λa=>some (((p0.2.2.2.2.1.1,p0.2.2.2.2.1.2.1,p0.2.2.2.2.1.2.2.1,p0.2.2.2.2.1.2.2.2),a,p0.2.2.2.2.2.2),0)
theorem rO{p0:lL}{p1:Int}{T1:List Value}{r:sG}(g:St m (iW bp0 a1 c1 a2 c2 a3 c3 a4 c4 p0 p0.f.1 a5 c5 p0.h.1 p0.j::cT a5 (bM eK p0.f.1.d.1 T1) 75::O) w)(o:RepS C1 m a1 c1 p0.1)(p:RepS aB m a2 c2 p0.2.1.1)(s:RepS C7 m a3 c3 p0.2.1.2)(t:RepS C3 m a4 c4 p0.d.1)(u:OAS a5 p0.2.2.2.2.1.2.2.1.length c5 3 T1)(hr:oT N p0 p1=some r):Calls prog 71 #[vP bp0 0,vI p1] w λe w'=>∃b l k m',bN m m' e (vI r.2) (iW bp0 a1 c1 a2 c2 a3 c3 a4 c4 p0 r.1.1 b l r.1.2.1 r.1.d::cT b (bM eK r.1.1.d.1 k) 75::O) w' (OAS b r.1.1.2.2.1.length l 3 k):=by
 refine bH g func71 rfl ntmps71 λq=>cG (aD (aS 3 g.h (aW (cE .normal hr (λn L' w'=>∃a,L'=[]/\m.le a/\St a (iW bp0 a1 c1 a2 c2 a3 c3 a4 c4 p0 p0.f.1 a5 c5 n p0.j::cT a5 (bM eK p0.f.1.d.1 T1) 75::O) w'/\P9 a a1 c1 a2 c2 a3 c3 a4 c4 p0) ?_ ?_))))
 .rintro n hr _ c ⟨a,rfl,q,g,o,p,s,t⟩;exact aV (eD (zH hr g.f1.f1))
 intro n hr c;refine aO hr ?_ ?_<;>intro A hr
 .exact eQ 4 (lA #[vS a1 p0.1 c1,vS a2 p0.2.1.1 c2,vS a3 p0.2.1.2 c3,vS a4 p0.d.1 c4,.int .u64 p0.e.1,vI p0.f.1.1.1,vI p0.f.1.1.2.1,vI p0.f.1.1.d,vB p0.f.1.2.1,vS a5 p0.f.1.d.1 c5,vI p0.f.1.e,vI p1,vI p0.j] g λv g=>qM (c hr (zA g.f1.f1)))
 exact iD (c hr (zA g.f1.f1))
def KO(N:Nat)(p0:pW)(p2:BA)(a:Tb)(s1:OS):Option (OS⊕lY⊕IX):=
 if(decide (s1.2<(List.length a:Int)))then((bC a s1.2).bind λb=>(iK 40 s1.1 ([(1,b,p2)])).bind λa=>(yZ N p0 1 b p2).bind λy1=>if(y1.2.2.2.2.2==1)then(some (.inr (.inr ((y1,a,0))))) else(if(decide (y1.2.2.2.2.2>1))then(some (.inr (.inr ((((⟨#[]⟩:BA),(⟨#[]⟩:BA),0,(⟨#[]⟩:BA),0,0),a,12))))) else(some (.inl (a,wI (s1.2+1)))))) else(some (.inr (.inl s1.1)))
def LL(N:Nat)(p0:pW)(p1:iE)(p2:BA):Option IX:=
 (iK 16 ([p1.1]) p1.2.1).bind λa=>(aC (KO N p0 p2 a) N (([]:lY),0)).bind λa=>(match a with| .inl a=>some (((⟨#[]⟩:BA),(⟨#[]⟩:BA),0,(⟨#[]⟩:BA),0,0),a,11)| .inr (z)=>some z)
theorem Ch{p0:pW}{p1:iE}{p2:BA}{r:IX}(g:St m (O) w)(r1:RepS aB m a1 c1 p0.1)(r2:RepS C7 m a2 c2 p0.2)(r3:RepS aB m a3 c3 p1.2.1)(r4:RepS C6 m a4 c4 p1.d)(hr:LL N p0 p1 p2=some r):Calls prog 150 #[.agg (Vd p0 a1 c1 a2 c2),.agg (V8 p1 a3 c3 a4 c4),vT p2] w λe w'=>∃H K m',bN m m' e (.tuple #[.agg (Ve r.1),vS H r.2.1 K,vI r.d]) (kR H r.2.1 K 75 3::O) w' (RepS C9 m' H K r.2.1):=by
 refine bH g func150 rfl ntmps150 λq=>aD (eC 3 87 (.agg (Vd p0 a1 c1 a2 c2)) g λb1 m1 w1 Y g x=>eC 4 81 (.agg (V8 p1 a3 c3 a4 c4)) g λb2 m2 w2 E g a9=>bX 6 59 (.agg dW) g λU w3 g=>aW (cG (iG 1 g a9 (iF 15 9 1 aB [p1.1] g λb4 m3 w4 B g r5=>mB 1 g ((a9.o B).drop 1) (oB 18 61 61 9 16 15 17 g (.inl kr) r5 (((r3.o Y).o E).o B).src hr λo hr S V m4 w5 Z g r6=>mA ?_)))));have⟨G,hr,j1⟩:=aM hr;refine eS (.exit 0) (λL' w'=>∃(s:lY),∃k l F,(.inl s)=G/\L'=[(6,vP U 0),(9,vS k s l)]/\m.le F/\St F (kB U dW 59::kR S o V 9 1::kR k s l 75 3::O) w'/\RepS C9 F k l s) ?_ ?_
 .rintro _ c ⟨s,k,l,F,rfl,rfl,q,g,a⟩;have hr:=j1;refine eY (aR 2 (aZ (.agg dW) g λb g=>eJ 2 ?_));have g:=g.f1.t;exact aV (aT (lE g.h (zH hr g.t)))
 intro R;have g:=(g.nilroom 75 3).front1.front2;refine eF (λk1 L' w'=>∃(s1:OS),∃y z f,aC (KO N p0 p2 o) k1 s1=some G/\L'=[(2,vT p2),(3,vP b1 0),(6,vP U 0),(9,vS y s1.1 z),(18,vS S o V),(19,vI (o.length:Int)),(20,vI s1.2)]/\m.le f/\St f (kB U dW 59::kR S o V 9 1::kR y s1.1 z 75 3::O) w'/\MRow f b1 0 [vS a1 p0.1 c1,vS a2 p0.2 c2]/\RepS aB f a1 c1 p0.1/\RepS C7 f a2 c2 p0.2/\RepS C9 f y z s1.1/\RepS aB f S V o) N ⟨(([]:lY),0),none,0,m4,hr,rfl,(((q.t Y).t E).t B).t Z,g,((x.o E).o B).o Z,(((r1.o Y).o E).o B).o Z,(((r2.o Y).o E).o B).o Z,(RepS.nil _ _),r6⟩ ?_;rintro k1 _ w7 ⟨s1,y,z,f,hL,rfl,q,g,x,r1,r2,r8,r6⟩;obtain⟨k1,c0,rfl,hr,b0,v⟩:=eH hL;refine cG (aO hr ?_ ?_)<;>intro A hr
 .refine aQ (aJ (bJ (aD (iP r6 hr ?_))));rintro M hr b5 f1 b9 rfl b8;refine dU g b8 (aW (aR 4 (iF 28 75 1 C9 [(1,M,p2)] g λb6 m7 w8 c g r9=>oB 29 43 43 75 40 24 28 g.f3 (.inl kr) (r8.o c) r9.src hr λp hr a b m8 w9 n g u=>eJ 1 ?_)));have g:=g.f1.t;refine aV (aD (dU g ((x.o c).o n) (iH 2 hr (QW (p0:=p0) g ((r1.o c).o n) ((r2.o c).o n)) ?_)));rintro y1 hr _ c9 ⟨m9,rfl,D,g⟩;have q:=((q.t c).t n).t D;have u:=u.o D;refine bX 12 59 (.agg dW) g λb7 d1 g=>aZ (.agg (Ve y1)) g λd2 g=>aI (aJ (aD (aS 1 g.h (cV hr ?_ ?_))))<;>intro A hr
  .refine aD (bD g.h (aX 1 (aZ (.agg (Ve y1)) g.f2 λd3 g=>eJ 2 ?_)));have g:=g.f3.t;refine aV (aT (bL (cF (bL ?_))));have ho:=v _ (sI hr);subst ho;have hr:=j1;exact bL (cF (bL (lE g.h (zH hr g.t.t))))
  refine aQ (aD (aS 1 g.h (cV hr ?_ ?_)))<;>intro A hr
  .refine aR 2 (aZ (.agg dW) g.f2 λd3 g=>eJ 2 ?_);have g:=g.f3.t;refine aV (aT (cF (bL ?_)));have ho:=v _ (sI hr);subst ho;have hr:=j1;exact bL (cF (bL (lE g.h (zH hr g.t.t))))
  refine lP (cP 2 ?_);have hL:=b0 _ (sI hr);exact dX ⟨(p,wI (s1.2+1)),a,b,m9,hL,rfl,q,g.t.f2.f2,((x.o c).o n).o D,((r1.o c).o n).o D,((r2.o c).o n).o D,u,((r6.o c).o n).o D⟩
 refine eE ?_;exact dY (R _ _ (zL v hr g.f2.f2.f2))
def KN(N:Nat)(p0:pW)(p1:mQ)(s1:Int):Option (Int⊕Unit⊕iE×Int):=
 if(decide (s1<(List.length p0.1:Int)))then((bC p0.1 s1).bind λa=>if(a.toList==p1.2.2.2.1.toList)then((bC p0.2 s1).bind λa=>some (.inr (.inr ((a,p1.2.2.2.2.1))))) else(some (.inl (wI (s1+1))))) else(some (.inr (.inl ())))
def CQ(N:Nat)(p0:pW)(p1:mQ):Option (iE×Int):=
 (aC (KN N p0 p1) N 0).bind λa=>(match a with| .inl a=>some (((⟨#[]⟩:BA),([]:Tb),([]:mI)),0)| .inr (z)=>some z)
theorem AR{p0:pW}{p1:mQ}{r:iE×Int}(g:St m (O) w)(B:RepS aB m a1 c1 p0.1)(D:RepS C7 m a2 c2 p0.2)(hr:CQ N p0 p1=some r):Calls prog 151 #[.agg (Vd p0 a1 c1 a2 c2),.agg (Ve p1)] w λe w'=>∃E G F H m',bN m m' e (.tuple #[.agg (V8 r.1 E G F H),vI r.2]) (O) w' (P4 m' E G F H r.1.2):=by
 refine bH g func151 rfl ntmps151 λq=>aD (eC 2 87 (.agg (Vd p0 a1 c1 a2 c2)) g λd m1 w1 U g b=>eC 3 59 (.agg (Ve p1)) g λs m2 w2 k g c=>bX 4 81 (.agg #[vT eB,v6,v6]) g λu w3 g=>eI (iG 1 g (b.o k) (mA ?_)));have⟨o,hr,j1⟩:=aM hr;refine eS (.exit 0) (λL' w'=>∃(o1:Unit),∃z,(.inl o1)=o/\L'=[(4,vP u 0)]/\m.le z/\St z (kB u #[vT eB,v2,vd] 81::O) w') ?_ ?_
 .rintro _ a ⟨o1,z,rfl,rfl,q,g⟩;have hr:=j1;exact eY (aR 1 (aZ (.agg #[vT eB,v2,vd]) g λl g=>aW (aT (lE g.h (zH hr g.t)))))
 intro p;refine eF (λv L' w'=>∃(s1:Int),∃a,aC (KN N p0 p1) v s1=some o/\L'=[(2,vP d 0),(3,vP s 0),(4,vP u 0),(9,vI (p0.1.length:Int)),(10,vI s1)]/\m.le a/\St a (kB u #[vT eB,v2,vd] 81::O) w'/\MRow a d 0 [vS a1 p0.1 c1,vS a2 p0.2 c2]/\RepS aB a a1 c1 p0.1/\RepS C7 a a2 c2 p0.2/\MRow a s 0 (Vg p1)) N ⟨0,m2,hr,rfl,(q.t U).t k,g,b.o k,(B.o U).o k,(D.o U).o k,c⟩ ?_;rintro v _ w5 ⟨s1,a,hL,rfl,q,g,b,B,D,c⟩;obtain⟨v,b6,rfl,hr,V,l⟩:=eH hL;refine cG (aO hr ?_ ?_)<;>intro A hr
 .refine aQ (aJ (bJ (cG (cM [(8,λw'=>Inv a w'/\True)] kr g λw6 _ g=> ?_))));have Y:=a.le_refl;refine tA g Y (aN 0 (cN 1 b (aN 2 ?_)));have⟨x1,a7,hr⟩:=aM hr;refine nP (t:=61) (e:=9) (x:=(.tmp 14)) (y:=(.tmp 15)) 3 16 aB kr rfl kr (.head _) (bU (iQ (bU (bU (iQ (bU lR)))))) (ev (vS a1 p0.1 c1)) (ev (vI s1)) kr B a7 ?_;rintro b4 f1 a9 rfl Z;refine cN 4 Z (aN 5 (cN 6 (c.drop 3) (aN 7 (bO kr (aV (aO hr ?_ ?_))))))<;>intro A hr
  .refine aJ (cM [(9,λw'=>Inv a w'/\True)] kr g λw7 _ g=> ?_);have n:=a.le_refl;refine tA g n (aN 0 (cN 1 (b.drop 1) (aN 2 ?_)));have⟨x2,a8,hr⟩:=aM hr;refine nP (t:=85) (e:=81) (x:=(.tmp 22)) (y:=(.tmp 23)) 3 24 C7 kr rfl kr (.head _) (bU (iQ (bU (bU (iQ (bU lR)))))) (ev (vS a2 p0.2 c2)) (ev (vI s1)) kr D a8 ?_;rintro b5 f2 b0 ⟨_,_,rfl,rfl,⟨_,_,rfl,⟨K,R,rfl,r3⟩,⟨M,S,rfl,r4⟩⟩⟩ a6;refine cN 4 a6 (aN 5 (cN 6 (c.drop 4) (aK 7 kr (iV 81 4 25 (.agg (V8 x2 K R M S)) g λw8 g=>tA g n (aN 8 (bO kr (aV (aT (cF (bL ?_))))))))));have ho:=l _ (sI hr);subst ho;have hr:=j1;exact bL (cF (bL (lE g.h (zH hr g.t))))
  refine lP (cP 2 ?_);exact dX (zL V hr g)
 refine eE ?_;exact dY (p _ _ (zL l hr g))
def JZ(N:Nat)(p0:lL)(p1:Int):nI:=
 (if(decide (p1<(-9007199254740992)))then(some true) else(some (decide (p1>9007199254740992))):Tk).bind λa=>if a then((oT N (p0.1,p0.2.1,p0.2.2.1,p0.2.2.2.1,(p0.2.2.2.2.1.1,p0.2.2.2.2.1.2.1,p0.2.2.2.2.1.2.2.1,p0.2.2.2.2.1.2.2.2),p0.2.2.2.2.2.1,p0.2.2.2.2.2.2) 3).bind λy1=>some (((y1.1.1.1,y1.1.1.2.1,y1.1.1.2.2.1,y1.1.1.2.2.2),y1.1.2.1,y1.1.2.2),y1.2)) else(some (((p0.2.2.2.2.1.1,p0.2.2.2.2.1.2.1,p0.2.2.2.2.1.2.2.1,p0.2.2.2.2.1.2.2.2),p0.2.2.2.2.2.1,p0.2.2.2.2.2.2),p1))
theorem Bv{p0:lL}{p1:Int}{T1:List Value}{r:sG}(g:St m (iW bp0 a1 c1 a2 c2 a3 c3 a4 c4 p0 p0.f.1 a5 c5 p0.h.1 p0.j::cT a5 (bM eK p0.f.1.d.1 T1) 75::O) w)(c:RepS C1 m a1 c1 p0.1)(k:RepS aB m a2 c2 p0.2.1.1)(l:RepS C7 m a3 c3 p0.2.1.2)(n:RepS C3 m a4 c4 p0.d.1)(o:OAS a5 p0.2.2.2.2.1.2.2.1.length c5 3 T1)(hr:JZ N p0 p1=some r):Calls prog 152 #[vP bp0 0,vI p1] w λe w'=>∃b s p m',bN m m' e (vI r.2) (iW bp0 a1 c1 a2 c2 a3 c3 a4 c4 p0 r.1.1 b s r.1.2.1 r.1.d::cT b (bM eK r.1.1.d.1 p) 75::O) w' (OAS b r.1.1.2.2.1.length s 3 p):=by
 refine bH g func152 rfl ntmps152 λq=>cG (aD (iY 6 hr (λu L' w'=>∃a,L'=[(0,vP bp0 0),(1,vI p1),(10,vB u)]/\m.le a/\St a (iW bp0 a1 c1 a2 c2 a3 c3 a4 c4 p0 p0.f.1 a5 c5 p0.h.1 p0.j::cT a5 (bM eK p0.f.1.d.1 T1) 75::O) w'/\P9 a a1 c1 a2 c2 a3 c3 a4 c4 p0) ?_ ?_))
 .rintro u hr _ E ⟨a,rfl,q,g,c,k,l,n⟩;refine aI (aO hr ?_ ?_)<;>intro A hr
  .refine bA 1 hr (rO (p0:=p0) g.f1.f1 c k l n o) ?_;rintro y1 hr _ F ⟨y,z,T2,D,rfl,B,g,v⟩;exact iC (zH hr g.f1.f1)
  exact aQ (eD (zH hr g.f1.f1))
 intro u hr K;refine cW 3 7 hr ?_ ?_<;>intro A hr
 .exact bG 3 (K hr (zA g.f1.f1))
 exact bG 3 (K hr (zA g.f1.f1))
def VG(N:Nat)(p0:lL)(p1:Int)(p2:Int):nI:=
 (if(p1==0)then(some true) else(some (p2==0)):Tk).bind λa=>if a then(some (((p0.2.2.2.2.1.1,p0.2.2.2.2.1.2.1,p0.2.2.2.2.1.2.2.1,p0.2.2.2.2.1.2.2.2),p0.2.2.2.2.2.1,p0.2.2.2.2.2.2),0)) else((if(decide (p1<0))then(some (wI (0-p1))) else(some p1):Td).bind λo2=>(if(decide (p2<0))then(some (wI (0-p2))) else(some p2):Td).bind λa=>(rK .i64 9007199254740992 a).bind λa=>if(decide (o2>a))then((oT N (p0.1,p0.2.1,p0.2.2.1,p0.2.2.2.1,(p0.2.2.2.2.1.1,p0.2.2.2.2.1.2.1,p0.2.2.2.2.1.2.2.1,p0.2.2.2.2.1.2.2.2),p0.2.2.2.2.2.1,p0.2.2.2.2.2.2) 3).bind λy1=>some (((y1.1.1.1,y1.1.1.2.1,y1.1.1.2.2.1,y1.1.1.2.2.2),y1.1.2.1,y1.1.2.2),y1.2)) else(some (((p0.2.2.2.2.1.1,p0.2.2.2.2.1.2.1,p0.2.2.2.2.1.2.2.1,p0.2.2.2.2.1.2.2.2),p0.2.2.2.2.2.1,p0.2.2.2.2.2.2),wI (p1*p2))))
theorem Ns{p0:lL}{p1:Int}{p2:Int}{T1:List Value}{r:sG}(g:St m (iW bp0 a1 c1 a2 c2 a3 c3 a4 c4 p0 p0.f.1 a5 c5 p0.h.1 p0.j::cT a5 (bM eK p0.f.1.d.1 T1) 75::O) w)(a:RepS C1 m a1 c1 p0.1)(b:RepS aB m a2 c2 p0.2.1.1)(c:RepS C7 m a3 c3 p0.2.1.2)(k:RepS C3 m a4 c4 p0.d.1)(o:OAS a5 p0.2.2.2.2.1.2.2.1.length c5 3 T1)(hr:VG N p0 p1 p2=some r):Calls prog 153 #[vP bp0 0,vI p1,vI p2] w λe w'=>∃u B z m',bN m m' e (vI r.2) (iW bp0 a1 c1 a2 c2 a3 c3 a4 c4 p0 r.1.1 u B r.1.2.1 r.1.d::cT u (bM eK r.1.1.d.1 z) 75::O) w' (OAS u r.1.1.2.2.1.length B 3 z):=by
 refine bH g func153 rfl ntmps153 λq=>cG (aD (iY 6 hr (λD L' w'=>∃l,L'=[(0,vP bp0 0),(1,vI p1),(2,vI p2),(14,vB D)]/\m.le l/\St l (iW bp0 a1 c1 a2 c2 a3 c3 a4 c4 p0 p0.f.1 a5 c5 p0.h.1 p0.j::cT a5 (bM eK p0.f.1.d.1 T1) 75::O) w'/\P9 l a1 c1 a2 c2 a3 c3 a4 c4 p0) ?_ ?_))
 .rintro D hr _ S ⟨l,rfl,q,g,a,b,c,k⟩;refine aI (aO hr ?_ ?_)<;>intro A hr
  .exact eD (zH hr g.f1.f1)
  refine aQ (cG (bK (cE .normal hr (λo2 L' w'=>∃n,L'=[(0,vP bp0 0),(1,vI p1),(2,vI p2),(7,vI o2),(8,vI p2)]/\m.le n/\St n (iW bp0 a1 c1 a2 c2 a3 c3 a4 c4 p0 p0.f.1 a5 c5 p0.h.1 p0.j::cT a5 (bM eK p0.f.1.d.1 T1) 75::O) w'/\P9 n a1 c1 a2 c2 a3 c3 a4 c4 p0) ?_ ?_)))
  .rintro o2 hr _ U ⟨n,rfl,q,g,a,b,c,k⟩;refine lG (bK (cE .normal hr (λs L' w'=>∃p,L'=[(0,vP bp0 0),(1,vI p1),(2,vI p2),(7,vI o2),(8,vI s)]/\m.le p/\St p (iW bp0 a1 c1 a2 c2 a3 c3 a4 c4 p0 p0.f.1 a5 c5 p0.h.1 p0.j::cT a5 (bM eK p0.f.1.d.1 T1) 75::O) w'/\P9 p a1 c1 a2 c2 a3 c3 a4 c4 p0) ?_ ?_))
   .rintro s hr _ V ⟨p,rfl,q,g,a,b,c,k⟩;refine lG (aR 2 ?_);have⟨M,E,hr⟩:=aM hr;refine bS (UD (d:=27) (t:=3) (t2:=3) (x:=(.const (vI 9007199254740992))) (y:=(.tmp 26)) kr rfl (ev (vI 9007199254740992)) (ev (vI s)) E (cV hr ?_ ?_))<;>intro A hr
    .refine bA 1 hr (rO (p0:=p0) g.f1.f1 a b c k o) ?_;rintro y1 hr _ Y ⟨F,G,T2,R,rfl,H,g,v⟩;exact iC (zH hr g.f1.f1)
    exact aQ (eD (zH hr g.f1.f1))
   intro s hr v;refine aO hr ?_ ?_<;>intro A hr
   .exact cP 3 (xE (v hr (zA g.f1.f1)))
   exact iD (v hr (zA g.f1.f1))
  intro o2 hr p;refine aO hr ?_ ?_<;>intro A hr
  .exact cP 3 (xE (p hr (zA g.f1.f1)))
  exact iD (p hr (zA g.f1.f1))
 intro D hr K;refine cW 3 11 hr ?_ ?_<;>intro A hr
 .exact bG 3 (K hr (zA g.f1.f1))
 exact bG 3 (K hr (zA g.f1.f1))
def PZ(N:Nat)(p0:lL)(p1:Int)(p2:Int)(p3:Int):nI:=
 if(p1==1)then((JZ N (p0.1,p0.2.1,p0.2.2.1,p0.2.2.2.1,(p0.2.2.2.2.1.1,p0.2.2.2.2.1.2.1,p0.2.2.2.2.1.2.2.1,p0.2.2.2.2.1.2.2.2),p0.2.2.2.2.2.1,p0.2.2.2.2.2.2) (wI (p2+p3))).bind λy1=>some (((y1.1.1.1,y1.1.1.2.1,y1.1.1.2.2.1,y1.1.1.2.2.2),y1.1.2.1,y1.1.2.2),y1.2)) else(if(p1==2)then((JZ N (p0.1,p0.2.1,p0.2.2.1,p0.2.2.2.1,(p0.2.2.2.2.1.1,p0.2.2.2.2.1.2.1,p0.2.2.2.2.1.2.2.1,p0.2.2.2.2.1.2.2.2),p0.2.2.2.2.2.1,p0.2.2.2.2.2.2) (wI (p2-p3))).bind λa=>some (((a.1.1.1,a.1.1.2.1,a.1.1.2.2.1,a.1.1.2.2.2),a.1.2.1,a.1.2.2),a.2)) else(if(p1==3)then((VG N (p0.1,p0.2.1,p0.2.2.1,p0.2.2.2.1,(p0.2.2.2.2.1.1,p0.2.2.2.2.1.2.1,p0.2.2.2.2.1.2.2.1,p0.2.2.2.2.1.2.2.2),p0.2.2.2.2.2.1,p0.2.2.2.2.2.2) p2 p3).bind λa=>some (((a.1.1.1,a.1.1.2.1,a.1.1.2.2.1,a.1.1.2.2.2),a.1.2.1,a.1.2.2),a.2)) else(if(p1==6)then(if(decide (p2<p3))then(some (((p0.2.2.2.2.1.1,p0.2.2.2.2.1.2.1,p0.2.2.2.2.1.2.2.1,p0.2.2.2.2.1.2.2.2),p0.2.2.2.2.2.1,p0.2.2.2.2.2.2),1)) else(some (((p0.2.2.2.2.1.1,p0.2.2.2.2.1.2.1,p0.2.2.2.2.1.2.2.1,p0.2.2.2.2.1.2.2.2),p0.2.2.2.2.2.1,p0.2.2.2.2.2.2),0))) else(if(p1==7)then(if(p2==p3)then(some (((p0.2.2.2.2.1.1,p0.2.2.2.2.1.2.1,p0.2.2.2.2.1.2.2.1,p0.2.2.2.2.1.2.2.2),p0.2.2.2.2.2.1,p0.2.2.2.2.2.2),1)) else(some (((p0.2.2.2.2.1.1,p0.2.2.2.2.1.2.1,p0.2.2.2.2.1.2.2.1,p0.2.2.2.2.1.2.2.2),p0.2.2.2.2.2.1,p0.2.2.2.2.2.2),0))) else(if(p3==0)then((oT N (p0.1,p0.2.1,p0.2.2.1,p0.2.2.2.1,(p0.2.2.2.2.1.1,p0.2.2.2.2.1.2.1,p0.2.2.2.2.1.2.2.1,p0.2.2.2.2.1.2.2.2),p0.2.2.2.2.2.1,p0.2.2.2.2.2.2) 4).bind λa=>some (((a.1.1.1,a.1.1.2.1,a.1.1.2.2.1,a.1.1.2.2.2),a.1.2.1,a.1.2.2),a.2)) else(if(p1==4)then((rK .i64 p2 p3).bind λa=>some (((p0.2.2.2.2.1.1,p0.2.2.2.2.1.2.1,p0.2.2.2.2.1.2.2.1,p0.2.2.2.2.1.2.2.2),p0.2.2.2.2.2.1,p0.2.2.2.2.2.2),a)) else((wH p2 p3).bind λa=>some (((p0.2.2.2.2.1.1,p0.2.2.2.2.1.2.1,p0.2.2.2.2.1.2.2.1,p0.2.2.2.2.1.2.2.2),p0.2.2.2.2.2.1,p0.2.2.2.2.2.2),a))))))))
theorem Nv{p0:lL}{p1:Int}{p2:Int}{p3:Int}{T1:List Value}{r:sG}(g:St m (iW bp0 a1 c1 a2 c2 a3 c3 a4 c4 p0 p0.f.1 a5 c5 p0.h.1 p0.j::cT a5 (bM eK p0.f.1.d.1 T1) 75::O) w)(c:RepS C1 m a1 c1 p0.1)(k:RepS aB m a2 c2 p0.2.1.1)(l:RepS C7 m a3 c3 p0.2.1.2)(n:RepS C3 m a4 c4 p0.d.1)(a:OAS a5 p0.2.2.2.2.1.2.2.1.length c5 3 T1)(hr:PZ N p0 p1 p2 p3=some r):Calls prog 108 #[vP bp0 0,vI p1,vI p2,vI p3] w λe w'=>∃b p o m',bN m m' e (vI r.2) (iW bp0 a1 c1 a2 c2 a3 c3 a4 c4 p0 r.1.1 b p r.1.2.1 r.1.d::cT b (bM eK r.1.1.d.1 o) 75::O) w' (OAS b r.1.1.2.2.1.length p 3 o):=by
 refine bH g func108 rfl ntmps108 λq=>cG (bK (bJ (bV hr ?_ ?_)))<;>intro A hr
 .refine bA 4 hr (Bv (p0:=p0) g.f1.f1 c k l n a) ?_;rintro y1 hr _ D ⟨u,v,T2,B,rfl,z,g,s⟩;exact iC (zH hr g.f1.f1)
 refine bV hr ?_ ?_<;>intro A hr
 .refine bA 4 hr (Bv (p0:=p0) g.f1.f1 c k l n a) ?_;rintro u hr _ E ⟨v,z,T3,D,rfl,B,g,s⟩;exact iC (zH hr g.f1.f1)
 refine bV hr ?_ ?_<;>intro A hr
 .refine bA 3 hr (Ns (p0:=p0) g.f1.f1 c k l n a) ?_;rintro u hr _ E ⟨v,z,T4,D,rfl,B,g,s⟩;exact iC (zH hr g.f1.f1)
 refine bV hr ?_ ?_<;>intro A hr
 .refine aJ (bV hr ?_ ?_)<;>intro A hr
  .exact eD (zH hr g.f1.f1)
  exact aQ (eD (zH hr g.f1.f1))
 refine bV hr ?_ ?_<;>intro A hr
 .refine aJ (bV hr ?_ ?_)<;>intro A hr
  .exact eD (zH hr g.f1.f1)
  exact aQ (eD (zH hr g.f1.f1))
 refine lP (aJ (bV hr ?_ ?_))<;>intro A hr
 .refine bA 1 hr (rO (p0:=p0) g.f1.f1 c k l n a) ?_;rintro u hr _ E ⟨v,z,T5,D,rfl,B,g,s⟩;exact iC (zH hr g.f1.f1)
 refine aQ (aJ (bV hr ?_ ?_))<;>intro A hr
 .refine aR 2 ?_;have⟨u,s,hr⟩:=aM hr;exact bS (UD (d:=48) (t:=3) (t2:=3) (x:=(.tmp 46)) (y:=(.tmp 47)) kr rfl (ev (vI p2)) (ev (vI p3)) s (iC (zH hr g.f1.f1)))
 refine aQ (aR 2 ?_);have⟨u,s,hr⟩:=aM hr;exact bS (ZZ (d:=51) (t:=3) (t2:=3) (x:=(.tmp 49)) (y:=(.tmp 50)) kr rfl (ev (vI p2)) (ev (vI p3)) s (iC (zH hr g.f1.f1)))
def rS(N:Nat)(p0:Tr)(p1:pW)(p2:BA):Option T3q:=
 (vW N p0 p2).bind λy1=>if y1.2 then(some (1,((⟨#[]⟩:BA),(⟨#[]⟩:BA),0,(⟨#[]⟩:BA),0,0),[(4,p2,(⟨#[]⟩:BA))],0)) else((iK 40 ([(4,p2,(⟨#[]⟩:BA))]) ([(3,p2,(⟨#[]⟩:BA))])).bind λa=>(yZ N p1 3 (⟨#[]⟩:BA) p2).bind λb=>if(b.2.2.2.2.2==1)then(some (2,b,a,0)) else(if(decide (b.2.2.2.2.2>1))then(some (3,((⟨#[]⟩:BA),(⟨#[]⟩:BA),0,(⟨#[]⟩:BA),0,0),a,12)) else(some (0,((⟨#[]⟩:BA),(⟨#[]⟩:BA),0,(⟨#[]⟩:BA),0,0),a,14))))
theorem FN{p0:Tr}{p1:pW}{p2:BA}{r:T3q}(g:St m (O) w)(S:RepS C1 m a1 c1 p0)(U:RepS aB m a2 c2 p1.1)(V:RepS C7 m a3 c3 p1.2)(hr:rS N p0 p1 p2=some r):Calls prog 110 #[.agg #[vS a1 p0 c1],.agg (Vd p1 a2 c2 a3 c3),vT p2] w λe w'=>∃B D m',bN m m' e (.tuple #[vI r.1,.agg (Ve r.2.1),vS B r.d.1 D,vI r.e]) (kR B r.d.1 D 75 3::O) w' (RepS C9 m' B D r.d.1):=by
 refine bH g func110 rfl ntmps110 λq=>aD (eC 3 28 (.agg #[vS a1 p0 c1]) g λb1 m1 w1 u g G=>eC 4 87 (.agg (Vd p1 a2 c2 a3 c3)) g λb2 m2 w2 p g H=>aX 1 (bX 7 59 (.agg dW) g λb3 w3 g=>aW (aR 2 (iF 15 75 1 C9 [(4,p2,eB)] g λn m3 w4 k g K=>eI (aD (dU g ((G.o p).o k) (iH 1 hr (FW g (((S.o u).o p).o k)) ?_)))))));rintro y1 hr _ w5 ⟨R,rfl,l,g⟩;refine aW (bV hr ?_ ?_)<;>intro A hr
 .refine aR 3 (aZ (.agg dW) g.f1 λa g=>aW (aT (bL ?_)));obtain rfl:=sI hr;refine pG [.tmp 6,.cell 7 59,.tmp 8,.tmp 9] [vI 1,.agg dW,vS (aP n) ([(4,p2,eB)]) 1,vI 0] rfl (ResAll.cons (ResAt.tmp kr) (ResAll.cons (ResAt.blk (v:= .agg dW) (o:=0) kr g.h kr) (ResAll.cons (ResAt.tmp kr) (ResAll.cons (ResAt.tmp kr) ResAll.nil)))) ?_;exact⟨(aP n),1,R,rfl,(((q.t u).t p).t k).t l,g.t,K.o l⟩
 refine aQ (aR 3 (iF 28 75 1 C9 [(3,p2,eB)] g λb5 m5 w7 x g Y=>oB 29 43 43 75 40 25 28 g.f1 (.inl kr) ((K.o l).o x) Y.src hr λc hr a b m6 w8 E g z=>eJ 1 ?_));have g:=g.f1.t;refine aV (aD (dU g ((((H.o k).o l).o x).o E) (iH 1 hr (QW (p0:=p1) g ((((((U.o u).o p).o k).o l).o x).o E) ((((((V.o u).o p).o k).o l).o x).o E)) ?_)));rintro f hr _ w9 ⟨s,rfl,F,g⟩;have q:=((((((q.t u).t p).t k).t l).t x).t E).t F;have z:=z.o F;refine bX 12 59 (.agg dW) g λM Z g=>aZ (.agg (Ve f)) g λa6 g=>aI (aJ (bJ (aD (aS 1 g.h (cV hr ?_ ?_)))))<;>intro A hr
 .refine aJ (cM [(6,λw'=>Inv s w'/\Piece.holds s w' (kB M (Ve f) 59)/\True)] kr g λa7 _ g=> ?_);have y:=s.le_refl;refine⟨aL (aF g y),bZ 0 cH (aU 2 [1,2] (aK 3 kr (iV 59 7 37 (.agg (Ve f)) g.f2 λa8 g=>⟨aL (aF g y),aU 2 [4,5] (bO kr (aV (aT (cF (bL ?_)))))⟩)))⟩;obtain rfl:=sI hr;refine pG [.tmp 6,.cell 7 59,.tmp 8,.tmp 9] [vI 2,.agg (Ve f),vS a c b,vI 0] rfl (ResAll.cons (ResAt.tmp kr) (ResAll.cons (ResAt.blk (v:= .agg (Ve f)) (o:=0) kr g.h kr) (ResAll.cons (ResAt.tmp kr) (ResAll.cons (ResAt.tmp kr) ResAll.nil)))) ?_;exact(zA g.t.t)
 refine aD (aS 1 g.h (cV hr ?_ ?_))<;>intro A hr
 .refine aR 3 (aZ (.agg dW) g.f2 λy g=>aW (aT (cF (bL ?_))));obtain rfl:=sI hr;refine pG [.tmp 6,.cell 7 59,.tmp 8,.tmp 9] [vI 3,.agg dW,vS a c b,vI 12] rfl (ResAll.cons (ResAt.tmp kr) (ResAll.cons (ResAt.blk (v:= .agg dW) (o:=0) kr g.h kr) (ResAll.cons (ResAt.tmp kr) (ResAll.cons (ResAt.tmp kr) ResAll.nil)))) ?_;exact(zA g.t.t)
 refine lP (aR 3 (aZ (.agg dW) g.f2 λy g=>aW (aT ?_)));obtain rfl:=sI hr;refine pG [.tmp 6,.cell 7 59,.tmp 8,.tmp 9] [vI 0,.agg dW,vS a c b,vI 14] rfl (ResAll.cons (ResAt.tmp kr) (ResAll.cons (ResAt.blk (v:= .agg dW) (o:=0) kr g.h kr) (ResAll.cons (ResAt.tmp kr) (ResAll.cons (ResAt.tmp kr) ResAll.nil)))) ?_;exact(zA g.t.t)
def KF(N:Nat)(p0:nT)(p1:BA)(s1:Int):Option (Int⊕Unit⊕Int×Bool):=
 if(decide (s1<(List.length p0:Int)))then((bC p0 s1).bind λa=>if(a.1.toList==p1.toList)then(some (.inr (.inr ((a.2,true))))) else(some (.inl (wI (s1+1))))) else(some (.inr (.inl ())))
def KV(N:Nat)(p0:nT)(p1:BA):Option (Int×Bool):=
 (aC (KF N p0 p1) N 0).bind λa=>(match a with| .inl a=>some (0,false)| .inr (z)=>some z)
theorem Ph{p0:nT}{p1:BA}{r:Int×Bool}(g:St m (O) w)(n:RepS C3 m a1 c1 p0)(hr:KV N p0 p1=some r):Calls prog 111 #[.agg #[vS a1 p0 c1],vT p1] w λe w'=>∃m',iL m m' e (.tuple #[vI r.1,vB r.2]) (O) w':=by
 refine bH g func111 rfl ntmps111 λq=>aD (eC 2 31 (.agg #[vS a1 p0 c1]) g λy B H p g s=>eI (iG 1 g s (mA ?_)));have⟨d,hr,v⟩:=aM hr;refine eS (.exit 0) (λL' w'=>∃(x:Unit),∃l,(.inl x)=d/\L'=[]/\m.le l/\St l (O) w') ?_ ?_
 .rintro _ a ⟨x,l,rfl,rfl,q,g⟩;have hr:=v;exact eY (eD (zH hr g))
 intro f;refine eF (λk L' w'=>∃(s1:Int),∃a,aC (KF N p0 p1) k s1=some d/\L'=[(1,vT p1),(9,vS a1 p0 c1),(10,vI (p0.length:Int)),(11,vI s1)]/\m.le a/\St a (O) w'/\RepS C3 a a1 c1 p0) N ⟨0,B,hr,rfl,q.t p,g,n.o p⟩ ?_;rintro k _ K ⟨s1,a,hL,rfl,q,g,n⟩;obtain⟨k,E,rfl,hr,o,c⟩:=eH hL;refine cG (aO hr ?_ ?_)<;>intro A hr
 .refine aQ (aJ (bJ (aD (iP n hr ?_))));rintro b hr F z D ⟨_,_,rfl,rfl,rfl⟩ u;refine dU g u (bX 7 107 (.agg #[vT eB,vI 0]) g λG M g=>aZ (.agg (Vl b)) g λR g=>aI (aD (aS 1 g.h (cV hr ?_ ?_))))<;>intro A hr
  .refine aD (aS 1 g.h (aW (aT (cF (bL ?_)))));have ho:=c _ (sI hr);subst ho;have hr:=v;exact mH (zH hr g.t)
  refine lP (cP 2 ?_);exact dX (zL o hr g.t)
 refine eE ?_;exact dY (f _ _ (zL c hr g))
variable {c10:Nat} {a10:Option Addr}
def tS(N:Nat)(Rk:lL->iE->lK->(Int)->Te->nI)(p0:lL)(p1:iE)(p2:lK)(p3:dZ)(p4:Te)(s1:T41):Option (T41⊕Te×T40):=
 if(decide (s1.2.1<(List.length p3.2.2.2.2:Int)))then((bC p3.2.2.2.2 s1.2.1).bind λa=>(Rk (p0.1,p0.2.1,p0.2.2.1,p0.2.2.2.1,((s1.2.2.1,s1.2.2.2.1,s1.2.2.2.2.1),s1.2.2.2.2.2.1,s1.2.2.2.2.2.2.1,s1.2.2.2.2.2.2.2.1),s1.2.2.2.2.2.2.2.2.1,s1.2.2.2.2.2.2.2.2.2) p1 p2 a p4).bind λa=>(iK 8 s1.1 ([a.2])).bind λb=>some (.inl (b,wI (s1.2.1+1),a.1.1.1.1,a.1.1.1.2.1,a.1.1.1.2.2,a.1.1.2.1,a.1.1.2.2.1,a.1.1.2.2.2,a.1.2.1,a.1.2.2))) else(some (.inr (s1.1,s1.2.2.1,s1.2.2.2.1,s1.2.2.2.2.1,s1.2.2.2.2.2.1,s1.2.2.2.2.2.2.1,s1.2.2.2.2.2.2.2.1,s1.2.2.2.2.2.2.2.2.1,s1.2.2.2.2.2.2.2.2.2)))
def QF(N:Nat)(Rl:lL->iE->lK->dZ->Te->nI)(Rm:lL->iE->lK->dZ->Te->nI)(Rk:lL->iE->lK->(Int)->Te->nI)(Rn:lL->iE->(Int)->Te->nI)(p0:lL)(p1:iE)(p2:lK)(p3:dZ)(p4:Te):nI:=
 (LL N p0.2.1 p1 p3.2.2.2.1).bind λy1=>(pX N (p0.1,p0.2.1,p0.2.2.1,p0.2.2.2.1,(p0.2.2.2.2.1.1,p0.2.2.2.2.1.2.1,p0.2.2.2.2.1.2.2.1,p0.2.2.2.2.1.2.2.2),p0.2.2.2.2.2.1,p0.2.2.2.2.2.2) y1.2.1).bind λa=>if(y1.2.2 !=0)then((oT N (p0.1,p0.2.1,p0.2.2.1,p0.2.2.2.1,(a.1.1,a.1.2.1,a.1.2.2.1,a.1.2.2.2),a.2.1,a.2.2) y1.2.2).bind λb=>some (((b.1.1.1,b.1.1.2.1,b.1.1.2.2.1,b.1.1.2.2.2),b.1.2.1,b.1.2.2),b.2)) else((aC (tS N Rk p0 p1 p2 p3 p4) N (([]:Te),0,a.1.1.1,a.1.1.2.1,a.1.1.2.2,a.1.2.1,a.1.2.2.1,a.1.2.2.2,a.2.1,a.2.2)).bind λa=>if(a.2.2.2.2.2.2.2.1 !=0)then(some ((((a.2.1,a.2.2.1,a.2.2.2.1),a.2.2.2.2.1,a.2.2.2.2.2.1,a.2.2.2.2.2.2.1),a.2.2.2.2.2.2.2.1,a.2.2.2.2.2.2.2.2),0)) else((CQ N p0.2.1 y1.1).bind λy5=>(bC y5.1.2.2 y5.2).bind λb=>if((List.length b.2.2.1:Int) !=(List.length a.1:Int))then((oT N (p0.1,p0.2.1,p0.2.2.1,p0.2.2.2.1,((a.2.1,a.2.2.1,a.2.2.2.1),a.2.2.2.2.1,a.2.2.2.2.2.1,a.2.2.2.2.2.2.1),a.2.2.2.2.2.2.2.1,a.2.2.2.2.2.2.2.2) 13).bind λb=>some (((b.1.1.1,b.1.1.2.1,b.1.1.2.2.1,b.1.1.2.2.2),b.1.2.1,b.1.2.2),b.2)) else((Rn (p0.1,p0.2.1,p0.2.2.1,p0.2.2.2.1,((a.2.1,a.2.2.1,a.2.2.2.1),a.2.2.2.2.1,a.2.2.2.2.2.1,a.2.2.2.2.2.2.1),a.2.2.2.2.2.2.2.1,a.2.2.2.2.2.2.2.2) y5.1 y5.2 a.1).bind λa=>some (((a.1.1.1,a.1.1.2.1,a.1.1.2.2.1,a.1.1.2.2.2),a.1.2.1,a.1.2.2),a.2))))
def QE(N:Nat)(Rl:lL->iE->lK->dZ->Te->nI)(Rm:lL->iE->lK->dZ->Te->nI)(Rk:lL->iE->lK->(Int)->Te->nI)(Rn:lL->iE->(Int)->Te->nI)(p0:lL)(p1:iE)(p2:lK)(p3:dZ)(p4:Te):nI:=
 (rS N p0.1 p0.2.1 p3.2.2.2.1).bind λy1=>(pX N (p0.1,p0.2.1,p0.2.2.1,p0.2.2.2.1,(p0.2.2.2.2.1.1,p0.2.2.2.2.1.2.1,p0.2.2.2.2.1.2.2.1,p0.2.2.2.2.1.2.2.2),p0.2.2.2.2.2.1,p0.2.2.2.2.2.2) y1.2.2.1).bind λa=>if(y1.2.2.2 !=0)then((oT N (p0.1,p0.2.1,p0.2.2.1,p0.2.2.2.1,(a.1.1,a.1.2.1,a.1.2.2.1,a.1.2.2.2),a.2.1,a.2.2) y1.2.2.2).bind λb=>some (((b.1.1.1,b.1.1.2.1,b.1.1.2.2.1,b.1.1.2.2.2),b.1.2.1,b.1.2.2),b.2)) else((bC p3.2.2.2.2 0).bind λb=>(Rk (p0.1,p0.2.1,p0.2.2.1,p0.2.2.2.1,(a.1.1,a.1.2.1,a.1.2.2.1,a.1.2.2.2),a.2.1,a.2.2) p1 p2 b p4).bind λa=>if(a.1.2.1 !=0)then(some (((a.1.1.1,a.1.1.2.1,a.1.1.2.2.1,a.1.1.2.2.2),a.1.2.1,a.1.2.2),0)) else((vW N p0.1 p3.2.2.2.1).bind λy5=>(if(y1.1==2)then(some 1) else(some (ByteArray.size y5.1:Int)):Td).bind λb=>(if(decide (a.2<0))then(some true) else(some (decide (a.2>=b))):Tk).bind λo2=>if o2 then((oT N (p0.1,p0.2.1,p0.2.2.1,p0.2.2.2.1,(a.1.1.1,a.1.1.2.1,a.1.1.2.2.1,a.1.1.2.2.2),a.1.2.1,a.1.2.2) 3).bind λb=>some (((b.1.1.1,b.1.1.2.1,b.1.1.2.2.1,b.1.1.2.2.2),b.1.2.1,b.1.2.2),b.2)) else(if(y1.1==1)then((lH y5.1 a.2).bind λb=>some (((a.1.1.1,a.1.1.2.1,a.1.1.2.2.1,a.1.1.2.2.2),a.1.2.1,a.1.2.2),wI (b.toNat:Int))) else((CQ N p0.2.1 y1.2.1).bind λb=>(Rn (p0.1,p0.2.1,p0.2.2.1,p0.2.2.2.1,(a.1.1.1,a.1.1.2.1,a.1.1.2.2.1,a.1.1.2.2.2),a.1.2.1,a.1.2.2) b.1 b.2 ([]:Te)).bind λa=>(if(decide ((Int.tmod a.2 256)<0))then(some (wI ((Int.tmod a.2 256)+256))) else(some (Int.tmod a.2 256)):Td).bind λb=>some (((a.1.1.1,a.1.1.2.1,a.1.1.2.2.1,a.1.1.2.2.2),a.1.2.1,a.1.2.2),b)))))
def ET(N:Nat)(Rl:lL->iE->lK->dZ->Te->nI)(Rm:lL->iE->lK->dZ->Te->nI)(Rk:lL->iE->lK->(Int)->Te->nI)(Rn:lL->iE->(Int)->Te->nI)(p0:lL)(p1:iE)(p2:lK)(p3:Int)(p4:Te):nI:=
 if(p0.2.2.2.2.2.1 !=0)then(some (((p0.2.2.2.2.1.1,p0.2.2.2.2.1.2.1,p0.2.2.2.2.1.2.2.1,p0.2.2.2.2.1.2.2.2),p0.2.2.2.2.2.1,p0.2.2.2.2.2.2),0)) else(if(p0.2.2.2.2.1.2.2.2==20000)then((oT N (p0.1,p0.2.1,p0.2.2.1,p0.2.2.2.1,(p0.2.2.2.2.1.1,p0.2.2.2.2.1.2.1,p0.2.2.2.2.1.2.2.1,p0.2.2.2.2.1.2.2.2),p0.2.2.2.2.2.1,p0.2.2.2.2.2.2) 16).bind λy1=>some (((y1.1.1.1,y1.1.1.2.1,y1.1.1.2.2.1,y1.1.1.2.2.2),y1.1.2.1,y1.1.2.2),y1.2)) else((bC p2 p3).bind λb=>if(b.1==1)then(some (((p0.2.2.2.2.1.1,p0.2.2.2.2.1.2.1,p0.2.2.2.2.1.2.2.1,wI (p0.2.2.2.2.1.2.2.2+1)),p0.2.2.2.2.2.1,p0.2.2.2.2.2.2),b.2.1)) else(if(b.1==2)then((bC p4 b.2.1).bind λa=>some (((p0.2.2.2.2.1.1,p0.2.2.2.2.1.2.1,p0.2.2.2.2.1.2.2.1,wI (p0.2.2.2.2.1.2.2.2+1)),p0.2.2.2.2.2.1,p0.2.2.2.2.2.2),a)) else(if(b.1==3)then((Rl (p0.1,p0.2.1,p0.2.2.1,p0.2.2.2.1,(p0.2.2.2.2.1.1,p0.2.2.2.2.1.2.1,p0.2.2.2.2.1.2.2.1,wI (p0.2.2.2.2.1.2.2.2+1)),p0.2.2.2.2.2.1,p0.2.2.2.2.2.2) p1 p2 b p4).bind λa=>some (((a.1.1.1,a.1.1.2.1,a.1.1.2.2.1,a.1.1.2.2.2),a.1.2.1,a.1.2.2),a.2)) else(if(b.1==4)then((bC b.2.2.2.2 0).bind λa=>(Rk (p0.1,p0.2.1,p0.2.2.1,p0.2.2.2.1,(p0.2.2.2.2.1.1,p0.2.2.2.2.1.2.1,p0.2.2.2.2.1.2.2.1,wI (p0.2.2.2.2.1.2.2.2+1)),p0.2.2.2.2.2.1,p0.2.2.2.2.2.2) p1 p2 a p4).bind λc=>(bC b.2.2.2.2 1).bind λa=>(Rk (p0.1,p0.2.1,p0.2.2.1,p0.2.2.2.1,(c.1.1.1,c.1.1.2.1,c.1.1.2.2.1,c.1.1.2.2.2),c.1.2.1,c.1.2.2) p1 p2 a p4).bind λa=>if(a.1.2.1 !=0)then(some (((a.1.1.1,a.1.1.2.1,a.1.1.2.2.1,a.1.1.2.2.2),a.1.2.1,a.1.2.2),0)) else((PZ N (p0.1,p0.2.1,p0.2.2.1,p0.2.2.2.1,(a.1.1.1,a.1.1.2.1,a.1.1.2.2.1,a.1.1.2.2.2),a.1.2.1,a.1.2.2) b.2.2.1 c.2 a.2).bind λy5=>some (((y5.1.1.1,y5.1.1.2.1,y5.1.1.2.2.1,y5.1.1.2.2.2),y5.1.2.1,y5.1.2.2),y5.2))) else(if(b.1==5)then((bC b.2.2.2.2 0).bind λa=>(Rk (p0.1,p0.2.1,p0.2.2.1,p0.2.2.2.1,(p0.2.2.2.2.1.1,p0.2.2.2.2.1.2.1,p0.2.2.2.2.1.2.2.1,wI (p0.2.2.2.2.1.2.2.2+1)),p0.2.2.2.2.2.1,p0.2.2.2.2.2.2) p1 p2 a p4).bind λa=>if(a.1.2.1 !=0)then(some (((a.1.1.1,a.1.1.2.1,a.1.1.2.2.1,a.1.1.2.2.2),a.1.2.1,a.1.2.2),0)) else(if(a.2 !=0)then((bC b.2.2.2.2 1).bind λc=>(Rk (p0.1,p0.2.1,p0.2.2.1,p0.2.2.2.1,(a.1.1.1,a.1.1.2.1,a.1.1.2.2.1,a.1.1.2.2.2),a.1.2.1,a.1.2.2) p1 p2 c p4).bind λc=>some (((c.1.1.1,c.1.1.2.1,c.1.1.2.2.1,c.1.1.2.2.2),c.1.2.1,c.1.2.2),c.2)) else((bC b.2.2.2.2 2).bind λc=>(Rk (p0.1,p0.2.1,p0.2.2.1,p0.2.2.2.1,(a.1.1.1,a.1.1.2.1,a.1.1.2.2.1,a.1.1.2.2.2),a.1.2.1,a.1.2.2) p1 p2 c p4).bind λa=>some (((a.1.1.1,a.1.1.2.1,a.1.1.2.2.1,a.1.1.2.2.2),a.1.2.1,a.1.2.2),a.2)))) else(if(b.1==6)then((Rm (p0.1,p0.2.1,p0.2.2.1,p0.2.2.2.1,(p0.2.2.2.2.1.1,p0.2.2.2.2.1.2.1,p0.2.2.2.2.1.2.2.1,wI (p0.2.2.2.2.1.2.2.2+1)),p0.2.2.2.2.2.1,p0.2.2.2.2.2.2) p1 p2 b p4).bind λa=>some (((a.1.1.1,a.1.1.2.1,a.1.1.2.2.1,a.1.1.2.2.2),a.1.2.1,a.1.2.2),a.2)) else(if(b.1==7)then((rS N p0.1 p0.2.1 b.2.2.2.1).bind λd=>(pX N (p0.1,p0.2.1,p0.2.2.1,p0.2.2.2.1,(p0.2.2.2.2.1.1,p0.2.2.2.2.1.2.1,p0.2.2.2.2.1.2.2.1,wI (p0.2.2.2.2.1.2.2.2+1)),p0.2.2.2.2.2.1,p0.2.2.2.2.2.2) d.2.2.1).bind λa=>if(d.2.2.2 !=0)then((oT N (p0.1,p0.2.1,p0.2.2.1,p0.2.2.2.1,(a.1.1,a.1.2.1,a.1.2.2.1,a.1.2.2.2),a.2.1,a.2.2) d.2.2.2).bind λc=>some (((c.1.1.1,c.1.1.2.1,c.1.1.2.2.1,c.1.1.2.2.2),c.1.2.1,c.1.2.2),c.2)) else(if(d.1==2)then(some (((a.1.1,a.1.2.1,a.1.2.2.1,a.1.2.2.2),a.2.1,a.2.2),1)) else((vW N p0.1 b.2.2.2.1).bind λc=>some (((a.1.1,a.1.2.1,a.1.2.2.1,a.1.2.2.2),a.2.1,a.2.2),(ByteArray.size c.1:Int))))) else(if(b.1==8)then((rS N p0.1 p0.2.1 b.2.2.2.1).bind λc=>(pX N (p0.1,p0.2.1,p0.2.2.1,p0.2.2.2.1,(p0.2.2.2.2.1.1,p0.2.2.2.2.1.2.1,p0.2.2.2.2.1.2.2.1,wI (p0.2.2.2.2.1.2.2.2+1)),p0.2.2.2.2.2.1,p0.2.2.2.2.2.2) c.2.2.1).bind λa=>if(c.1 !=0)then(some (((a.1.1,a.1.2.1,a.1.2.2.1,a.1.2.2.2),a.2.1,a.2.2),1)) else(some (((a.1.1,a.1.2.1,a.1.2.2.1,a.1.2.2.2),a.2.1,a.2.2),0))) else(if(b.1==9)then((pX N (p0.1,p0.2.1,p0.2.2.1,p0.2.2.2.1,(p0.2.2.2.2.1.1,p0.2.2.2.2.1.2.1,p0.2.2.2.2.1.2.2.1,wI (p0.2.2.2.2.1.2.2.2+1)),p0.2.2.2.2.2.1,p0.2.2.2.2.2.2) ([(5,b.2.2.2.1,(⟨#[]⟩:BA))])).bind λa=>(KV N p0.2.2.1 b.2.2.2.1).bind λd=>if(!d.2)then((oT N (p0.1,p0.2.1,p0.2.2.1,p0.2.2.2.1,(a.1.1,a.1.2.1,a.1.2.2.1,a.1.2.2.2),a.2.1,a.2.2) 15).bind λc=>some (((c.1.1.1,c.1.1.2.1,c.1.1.2.2.1,c.1.1.2.2.2),c.1.2.1,c.1.2.2),c.2)) else(some (((a.1.1,a.1.2.1,a.1.2.2.1,a.1.2.2.2),a.2.1,a.2.2),d.1))) else((wK .u64 p0.2.2.2.1 b.2.1).bind λa=>some (((p0.2.2.2.2.1.1,true,p0.2.2.2.2.1.2.2.1,wI (p0.2.2.2.2.1.2.2.2+1)),p0.2.2.2.2.2.1,p0.2.2.2.2.2.2),wI (IU .u64 a 1)))))))))))))
def QA(N:Nat)(Rl:lL->iE->lK->dZ->Te->nI)(Rm:lL->iE->lK->dZ->Te->nI)(Rk:lL->iE->lK->(Int)->Te->nI)(Rn:lL->iE->(Int)->Te->nI)(p0:lL)(p1:iE)(p2:Int)(p3:Te):nI:=
 if(p0.2.2.2.2.2.2==64)then((oT N (p0.1,p0.2.1,p0.2.2.1,p0.2.2.2.1,(p0.2.2.2.2.1.1,p0.2.2.2.2.1.2.1,p0.2.2.2.2.1.2.2.1,p0.2.2.2.2.1.2.2.2),p0.2.2.2.2.2.1,p0.2.2.2.2.2.2) 17).bind λy1=>some (((y1.1.1.1,y1.1.1.2.1,y1.1.1.2.2.1,y1.1.1.2.2.2),y1.1.2.1,y1.1.2.2),y1.2)) else((bC p1.2.2 p2).bind λa=>(Rk (p0.1,p0.2.1,p0.2.2.1,p0.2.2.2.1,(p0.2.2.2.2.1.1,p0.2.2.2.2.1.2.1,p0.2.2.2.2.1.2.2.1,p0.2.2.2.2.1.2.2.2),p0.2.2.2.2.2.1,wI (p0.2.2.2.2.2.2+1)) p1 a.2.2.2 (wI ((List.length a.2.2.2:Int)-1)) p3).bind λa=>some (((a.1.1.1,a.1.1.2.1,a.1.1.2.2.1,a.1.1.2.2.2),a.1.2.1,wI (a.1.2.2-1)),a.2))
def pB(N:Nat):Nat->(lL->iE->lK->dZ->Te->nI)×((((List (BA×BA)))×(List BA×(List (BA×List BA×(List (Int×BA×List BA×(List (Int×Int×Int×BA×List Int)))))))×((List (BA×Int)))×Int×((Int×Int×Int)×Bool×(List (Int×BA×BA))×Int)×Int×Int)->iE->lK->dZ->Te->nI)×((((List (BA×BA)))×(List BA×(List (BA×List BA×(List (Int×BA×List BA×(List (Int×Int×Int×BA×List Int)))))))×((List (BA×Int)))×Int×((Int×Int×Int)×Bool×(List (Int×BA×BA))×Int)×Int×Int)->iE->lK->(Int)->Te->nI)×((((List (BA×BA)))×(List BA×(List (BA×List BA×(List (Int×BA×List BA×(List (Int×Int×Int×BA×List Int)))))))×((List (BA×Int)))×Int×((Int×Int×Int)×Bool×(List (Int×BA×BA))×Int)×Int×Int)->iE->(Int)->Te->nI)
 |0=>((λ_ _ _ _ _=>none),(λ_ _ _ _ _=>none),(λ_ _ _ _ _=>none),(λ_ _ _ _=>none))
 |D+1=>(QF N (pB N D).1 (pB N D).2.1 (pB N D).2.2.1 (pB N D).2.2.2,QE N (pB N D).1 (pB N D).2.1 (pB N D).2.2.1 (pB N D).2.2.2,ET N (pB N D).1 (pB N D).2.1 (pB N D).2.2.1 (pB N D).2.2.2,QA N (pB N D).1 (pB N D).2.1 (pB N D).2.2.1 (pB N D).2.2.2)
def Cb(N:Nat)(p0:lL)(p1:iE)(p2:Int)(p3:Te):nI:=(pB N N).2.2.2 p0 p1 p2 p3
abbrev PX(F:lL->iE->lK->dZ->Te->nI):Prop:=∀{m O w} {p0:lL} {p1:iE} {p2:lK} {p3:dZ} {p4:Te} {a f n h o k p l q d y} {T1:List Value} {s z t A u B v D b c} {r:sG} (g:St m (iW a f n h o k p l q p0 p0.2.2.2.2.1 d y p0.2.2.2.2.2.1 p0.2.2.2.2.2.2::cT d (bM eK p0.2.2.2.2.1.2.2.1 T1) 75::O) w) (E:RepS C1 m f n p0.1) (E:RepS aB m h o p0.2.1.1) (E:RepS C7 m k p p0.2.1.2) (E:RepS C3 m l q p0.2.2.1) (E:OAS d p0.2.2.2.2.1.2.2.1.length y 3 T1) (d:RepS aB m s z p1.2.1) (d:RepS C6 m t A p1.2.2) (d:RepS C5 m u B p2) (d:RepS (aG .i64) m v D p3.2.2.2.2) (d:RepS (aG .i64) m b c p4) (hr:F p0 p1 p2 p3 p4=some r),Calls prog 107 #[vP a 0,.agg (V8 p1 s z t A),vS u p2 B,.agg (Va p3 v D),vS b p4 c] w λe w'=>∃b d c m',bN m m' e (vI r.2) (iW a f n h o k p l q p0 r.1.1 b d r.1.2.1 r.1.2.2::cT b (bM eK r.1.1.2.2.1 c) 75::O) w' (OAS b r.1.1.2.2.1.length d 3 c)
abbrev PY(F:lL->iE->lK->dZ->Te->nI):Prop:=∀{m O w} {p0:lL} {p1:iE} {p2:lK} {p3:dZ} {p4:Te} {a f n h o k p l q d y} {T1:List Value} {s z t A u B v D b c} {r:sG} (g:St m (iW a f n h o k p l q p0 p0.2.2.2.2.1 d y p0.2.2.2.2.2.1 p0.2.2.2.2.2.2::cT d (bM eK p0.2.2.2.2.1.2.2.1 T1) 75::O) w) (E:RepS C1 m f n p0.1) (E:RepS aB m h o p0.2.1.1) (E:RepS C7 m k p p0.2.1.2) (E:RepS C3 m l q p0.2.2.1) (E:OAS d p0.2.2.2.2.1.2.2.1.length y 3 T1) (d:RepS aB m s z p1.2.1) (d:RepS C6 m t A p1.2.2) (d:RepS C5 m u B p2) (d:RepS (aG .i64) m v D p3.2.2.2.2) (d:RepS (aG .i64) m b c p4) (hr:F p0 p1 p2 p3 p4=some r),Calls prog 109 #[vP a 0,.agg (V8 p1 s z t A),vS u p2 B,.agg (Va p3 v D),vS b p4 c] w λe w'=>∃b d c m',bN m m' e (vI r.2) (iW a f n h o k p l q p0 r.1.1 b d r.1.2.1 r.1.2.2::cT b (bM eK r.1.1.2.2.1 c) 75::O) w' (OAS b r.1.1.2.2.1.length d 3 c)
abbrev PV(F:lL->iE->lK->(Int)->Te->nI):Prop:=∀{m O w} {p0:lL} {p1:iE} {p2:lK} {p3:Int} {p4:Te} {a f n h o k p l q b u} {T1:List Value} {c v d y s z t A} {r:sG} (g:St m (iW a f n h o k p l q p0 p0.2.2.2.2.1 b u p0.2.2.2.2.2.1 p0.2.2.2.2.2.2::cT b (bM eK p0.2.2.2.2.1.2.2.1 T1) 75::O) w) (B:RepS C1 m f n p0.1) (B:RepS aB m h o p0.2.1.1) (B:RepS C7 m k p p0.2.1.2) (B:RepS C3 m l q p0.2.2.1) (B:OAS b p0.2.2.2.2.1.2.2.1.length u 3 T1) (b:RepS aB m c v p1.2.1) (b:RepS C6 m d y p1.2.2) (b:RepS C5 m s z p2) (b:RepS (aG .i64) m t A p4) (hr:F p0 p1 p2 p3 p4=some r),Calls prog 72 #[vP a 0,.agg (V8 p1 c v d y),vS s p2 z,vI p3,vS t p4 A] w λe w'=>∃b d c m',bN m m' e (vI r.2) (iW a f n h o k p l q p0 r.1.1 b d r.1.2.1 r.1.2.2::cT b (bM eK r.1.1.2.2.1 c) 75::O) w' (OAS b r.1.1.2.2.1.length d 3 c)
abbrev PW(F:lL->iE->(Int)->Te->nI):Prop:=∀{m O w} {p0:lL} {p1:iE} {p2:Int} {p3:Te} {a f n h o k p l q b t} {T1:List Value} {c u d v s y} {r:sG} (g:St m (iW a f n h o k p l q p0 p0.2.2.2.2.1 b t p0.2.2.2.2.2.1 p0.2.2.2.2.2.2::cT b (bM eK p0.2.2.2.2.1.2.2.1 T1) 75::O) w) (z:RepS C1 m f n p0.1) (z:RepS aB m h o p0.2.1.1) (z:RepS C7 m k p p0.2.1.2) (z:RepS C3 m l q p0.2.2.1) (z:OAS b p0.2.2.2.2.1.2.2.1.length t 3 T1) (b:RepS aB m c u p1.2.1) (b:RepS C6 m d v p1.2.2) (b:RepS (aG .i64) m s y p3) (hr:F p0 p1 p2 p3=some r),Calls prog 33 #[vP a 0,.agg (V8 p1 c u d v),vI p2,vS s p3 y] w λe w'=>∃b d c m',bN m m' e (vI r.2) (iW a f n h o k p l q p0 r.1.1 b d r.1.2.1 r.1.2.2::cT b (bM eK r.1.1.2.2.1 c) 75::O) w' (OAS b r.1.1.2.2.1.length d 3 c)
theorem Nu{Rl Rm Rk Rn}(d7:PX Rl)(d8:PY Rm)(n:PV Rk)(b:PW Rn){p0:lL}{p1:iE}{p2:lK}{p3:dZ}{p4:Te}{T1:List Value}{r:sG}(g:St m (iW bp0 a1 c1 a2 c2 a3 c3 a4 c4 p0 p0.f.1 a5 c5 p0.h.1 p0.j::cT a5 (bM eK p0.f.1.d.1 T1) 75::O) w)(F:RepS C1 m a1 c1 p0.1)(o:RepS aB m a2 c2 p0.2.1.1)(p:RepS C7 m a3 c3 p0.2.1.2)(G:RepS C3 m a4 c4 p0.d.1)(n3:OAS a5 p0.2.2.2.2.1.2.2.1.length c5 3 T1)(r5:RepS aB m a6 c6 p1.2.1)(r6:RepS C6 m a7 c7 p1.d)(r7:RepS C5 m a8 c8 p2)(r8:RepS (aG .i64) m a9 c9 p3.f)(r9:RepS (aG .i64) m a10 c10 p4)(hr:QF N Rl Rm Rk Rn p0 p1 p2 p3 p4=some r):Calls prog 107 #[vP bp0 0,.agg (V8 p1 a6 c6 a7 c7),vS a8 p2 c8,.agg (Va p3 a9 c9),vS a10 p4 c10] w λe w'=>∃l7 n5 n4 m',bN m m' e (vI r.2) (iW bp0 a1 c1 a2 c2 a3 c3 a4 c4 p0 r.1.1 l7 n5 r.1.2.1 r.1.d::cT l7 (bM eK r.1.1.d.1 n4) 75::O) w' (OAS l7 r.1.1.2.2.1.length n5 3 n4):=by
 refine bH g func107 rfl ntmps107 λq=>aD (eC 6 81 (.agg (V8 p1 a6 c6 a7 c7)) g λb1 m1 w1 e1 g d1=>eC 8 158 (.agg (Va p3 a9 c9)) g λb2 m2 w2 e2 g k5=> ?_);have q:=(q.t e1).t e2;have r5:=(r5.o e1).o e2;have r6:=(r6.o e1).o e2;have d1:=d1.o e2;have o:=(o.o e1).o e2;have p:=(p.o e1).o e2;refine eI (cM [(16,λw'=>Inv m2 w'/\Piece.holds m2 w' (iW bp0 a1 c1 a2 c2 a3 c3 a4 c4 p0 p0.f.1 a5 c5 p0.h.1 p0.j)/\True)] kr g λw3 _ g=> ?_);have S:=m2.le_refl;refine⟨aL (aF g S),aU 3 [0,1,2] (bZ 3 cH (cN 4 d1 (aN 5 (cN 6 (k5.drop 3) (qZ [7,12] kr ae (rW ?_ ?_))))))⟩
 .refine cY hr (λ_ h=>Ch (p0:=p0.2.1) (p1:=p1) g o p r5 r6 h) ?_;rintro y1 hr _ w4 ⟨d4,d5,m3,rfl,D,g,l2⟩;refine⟨_,rfl,?_⟩;have o:=o.o D;have p:=p.o D;have F:=((F.o e1).o e2).o D;have G:=((G.o e1).o e2).o D;have S:=S.t D;refine⟨aL (aF g S),aU 4 [8,9,10,11] (aK 12 kr (pN 11 59 (.agg dW) g λb3 w5 g=>⟨aL (aF g S),aK 13 kr (iV 59 11 28 (.agg (Ve y1.1)) g λw6 g=>⟨aL (aF g S),aU 2 [14,15] (bO kr (aV (bA 2 hr (xQ (p0:=p0) g.f3.f3 F o p G n3 l2) ?_)))⟩)⟩))⟩;rintro E hr _ w7 ⟨h5,h9,T2,m4,rfl,v,g,g9⟩;refine cX ?_;have g:=g.f3.t;refine lG (bV hr ?_ ?_)<;>intro A hr
  .refine bA 2 hr (rO (p0:=(p0.1,p0.2.1,p0.d.1,p0.e.1,E.1,E.2.1,E.d)) g.f1.f1 (F.o v) (o.o v) (p.o v) (G.o v) g9) ?_;rintro y3 hr _ w8 ⟨h6,k0,T3,m5,rfl,e5,g,k7⟩;exact iC (zH hr g.f2.t.f1.f1)
  refine aQ (cG (iG 1 g (((k5.o D).o v).drop 4) (mA (cE (.exit 0) hr (λb8 L' w'=>∃(a:Te×T40),∃U Z V c0 T4 H,a=b8/\L'=[(0,vP bp0 0),(11,vP b3 0),(14,vS U a.1 Z)]/\m.le H/\St H (vK bp0 a1 c1 a2 c2 a3 c3 a4 c4 p0 a.2.1 a.d.1 a.e.1 a.f.1 V a.h.1 c0 a.j.1 a.k.1 a.2.2.2.2.2.2.2.2::kB b3 (Ve y1.1) 59::cT V (bM eK a.h.1 T4) 75::kR U a.1 Z 3 1::O) w'/\RepS (aG .i64) H U Z a.1/\RepS C1 H a1 c1 p0.1/\RepS aB H a2 c2 p0.2.1.1/\RepS C7 H a3 c3 p0.2.1.2/\RepS C3 H a4 c4 p0.d.1/\OAS V a.2.2.2.2.2.1.length c0 3 T4) ?_ ?_))))
  .rintro b8 hr _ w9 ⟨a,U,Z,V,c0,T4,H,rfl,rfl,q,g,h1,F,o,p,G,d2⟩;refine eY (aJ (aD (aS 3 g.h (cV hr ?_ ?_))))<;>intro A hr
   .refine aR 1 (cX ?_);have g:=g.f3.t;exact nX (zH hr g.f1.t.f1.f1)
   refine aQ (aJ (cM [(12,λw'=>Inv H w'/\Piece.holds H w' (vK bp0 a1 c1 a2 c2 a3 c3 a4 c4 p0 a.2.1 a.d.1 a.e.1 a.f.1 V a.h.1 c0 a.j.1 a.k.1 a.2.2.2.2.2.2.2.2)/\Piece.holds H w' (kB b3 (Ve y1.1) 59)/\True)] kr g λo5 _ g=> ?_));have l:=H.le_refl;refine⟨aL (aF g l),aU 3 [0,1,2] (bZ 3 cH (bZ 4 nV (qZ [5,9] kr ae (rW ?_ ?_))))⟩
   .refine cY hr (λ_ h=>AR (p0:=p0.2.1) (p1:=y1.1) g o p h) ?_;rintro y5 hr _ l8 ⟨z,B,s,u,l0,rfl,c,g,g5,d3⟩;refine⟨_,rfl,?_⟩;have l:=l.t c;refine⟨aL (aF g l),aU 3 [6,7,8] (aK 9 kr (pN 17 81 (.agg #[vT eB,v6,v6]) g λb6 l9 g=>⟨aL (aF g l),aK 10 kr (iV 81 17 68 (.agg (V8 y5.1 z B s u)) g λn0 g=>⟨aL (aF g l),aN 11 (bO kr (lG (aD (aS 1 g.h (aX 1 (iP d3 hr ?_))))))⟩)⟩))⟩;rintro x2 hr b7 f2 k4 ⟨_,_,rfl,rfl,⟨_,_,rfl,rfl,⟨_,_,rfl,⟨d9,f5,rfl,l5⟩,⟨h8,k3,rfl,l6⟩⟩⟩⟩ g0;refine mB 1 g (g0.drop 2) (cV hr ?_ ?_)<;>intro A hr
    .refine bA 1 hr (rO (p0:=(p0.1,p0.2.1,p0.d.1,p0.e.1,((a.2.1,a.d.1,a.e.1),a.f.1,a.h.1,a.j.1),a.k.1,a.2.2.2.2.2.2.2.2)) g.f3.f2 (F.o c) (o.o c) (p.o c) (G.o c) d2) ?_;rintro y6 hr _ n1 ⟨e0,f6,T7,g3,rfl,f8,g,g1⟩;refine eJ 1 ?_;have g:=g.f4.t;exact nX (zH hr g.f2.t.f2.t.f1.f1)
    refine aQ (aR 1 (bD g.h (iH 2 hr (b (p0:=(p0.1,p0.2.1,p0.d.1,p0.e.1,((a.2.1,a.d.1,a.e.1),a.f.1,a.h.1,a.j.1),a.k.1,a.2.2.2.2.2.2.2.2)) (p1:=y5.1) g.f3.f2 (F.o c) (o.o c) (p.o c) (G.o c) d2 g5 d3 (h1.o c)) ?_)));rintro y7 hr _ n2 ⟨f0,f7,T8,g4,rfl,f9,g,g2⟩;refine eJ 1 ?_;have g:=g.f4.t;exact nX (zH hr g.f2.t.f2.t.f1.f1)
   refine pN 17 81 (.agg #[vT eB,v6,v6]) g λb6 l8 g=> ?_;refine⟨aL (aF g l),aK 5 kr (cY hr (λ_ h=>AR (p0:=p0.2.1) (p1:=y1.1) g o p h) ?_)⟩;rintro y5 hr _ l9 ⟨z,B,s,u,l0,rfl,c,g,g5,d3⟩;refine⟨_,rfl,?_⟩;have l:=l.t c;refine⟨aL (aF g l),aU 3 [6,7,8] (aK 10 kr (iV 81 17 68 (.agg (V8 y5.1 z B s u)) g λn0 g=>⟨aL (aF g l),aN 11 (bO kr (lG (aD (aS 1 g.h (aX 1 (iP d3 hr ?_))))))⟩))⟩;rintro x2 hr b7 f2 k4 ⟨_,_,rfl,rfl,⟨_,_,rfl,rfl,⟨_,_,rfl,⟨d9,f5,rfl,l5⟩,⟨h8,k3,rfl,l6⟩⟩⟩⟩ g0;refine mB 1 g (g0.drop 2) (cV hr ?_ ?_)<;>intro A hr
   .refine bA 1 hr (rO (p0:=(p0.1,p0.2.1,p0.d.1,p0.e.1,((a.2.1,a.d.1,a.e.1),a.f.1,a.h.1,a.j.1),a.k.1,a.2.2.2.2.2.2.2.2)) g.f3.f2 (F.o c) (o.o c) (p.o c) (G.o c) d2) ?_;rintro y6 hr _ n1 ⟨e0,f6,T7,g3,rfl,f8,g,g1⟩;refine eJ 1 ?_;have g:=g.f4.t;exact nX (zH hr g.f2.t.f2.t.f1.f1)
   refine aQ (aR 1 (bD g.h (iH 2 hr (b (p0:=(p0.1,p0.2.1,p0.d.1,p0.e.1,((a.2.1,a.d.1,a.e.1),a.f.1,a.h.1,a.j.1),a.k.1,a.2.2.2.2.2.2.2.2)) (p1:=y5.1) g.f3.f2 (F.o c) (o.o c) (p.o c) (G.o c) d2 g5 d3 (h1.o c)) ?_)));rintro y7 hr _ n2 ⟨f0,f7,T8,g4,rfl,f9,g,g2⟩;refine eJ 1 ?_;have g:=g.f4.t;exact nX (zH hr g.f2.t.f2.t.f1.f1)
  intro b8 hr g6;have g:=(g.nilroom 3 1).front2.front3.front3;refine eF (λk1 L' w'=>∃(s1:T41),∃Y b0 b9 d6 T5 y,aC (tS N Rk p0 p1 p2 p3 p4) k1 s1=some b8/\L'=[(0,vP bp0 0),(2,vS a8 p2 c8),(4,vS a10 p4 c10),(6,vP b1 0),(11,vP b3 0),(14,vS Y s1.1 b0),(40,vS a9 p3.f c9),(41,vI (p3.2.2.2.2.length:Int)),(42,vI s1.2.1)]/\m.le y/\St y (vK bp0 a1 c1 a2 c2 a3 c3 a4 c4 p0 s1.d.1 s1.e.1 s1.f.1 s1.h.1 b9 s1.j.1 d6 s1.k.1 s1.2.2.2.2.2.2.2.2.1 s1.2.2.2.2.2.2.2.2.2::kB b3 (Ve y1.1) 59::cT b9 (bM eK s1.j.1 T5) 75::kR Y s1.1 b0 3 1::O) w'/\RepS C5 y a8 c8 p2/\RepS (aG .i64) y a10 c10 p4/\MRow y b1 0 (Vc p1 a6 c6 a7 c7)/\RepS aB y a6 c6 p1.2.1/\RepS C6 y a7 c7 p1.d/\RepS (aG .i64) y Y b0 s1.1/\RepS (aG .i64) y a9 c9 p3.f/\RepS C1 y a1 c1 p0.1/\RepS aB y a2 c2 p0.2.1.1/\RepS C7 y a3 c3 p0.2.1.2/\RepS C3 y a4 c4 p0.d.1/\OAS b9 s1.2.2.2.2.2.2.1.length d6 3 T5) N ⟨(([]:Te),0,E.1.1.1,E.1.1.2.1,E.1.1.d,E.1.2.1,E.1.d.1,E.1.e,E.2.1,E.d),none,0,h5,h9,T2,m4,hr,rfl,(q.t D).t v,g,(((r7.o e1).o e2).o D).o v,(((r9.o e1).o e2).o D).o v,(d1.o D).o v,(r5.o D).o v,(r6.o D).o v,(RepS.nil _ _),(((r8.o e1).o e2).o D).o v,F.o v,o.o v,p.o v,G.o v,g9⟩ ?_;rintro k1 _ n8 ⟨s1,Y,b0,b9,d6,T5,y,hL,rfl,q,g,r7,r9,d1,r5,r6,h2,r8,F,o,p,G,h0⟩;obtain⟨k1,n7,rfl,hr,h4,h3⟩:=eH hL;refine cG (aO hr ?_ ?_)<;>intro A hr
  .refine aQ (aJ (bJ (aD (iP r8 hr ?_))));rintro x1 hr b4 f1 n6 rfl k6;refine dU g k6 (aW (eQ 2 (dU g d1 (iH 3 hr (n (p0:=(p0.1,p0.2.1,p0.d.1,p0.e.1,((s1.d.1,s1.e.1,s1.f.1),s1.h.1,s1.j.1,s1.k.1),s1.2.2.2.2.2.2.2.2.1,s1.2.2.2.2.2.2.2.2.2)) (p1:=p1) g.f2.f1 F o p G h0 r5 r6 r7 r9) ?_))));rintro y4 hr _ n9 ⟨h7,k2,T6,m8,rfl,K,g,k8⟩;refine iF 53 3 1 (aG .i64) [y4.2] g λb5 m9 o0 M g l3=>oB 54 22 22 3 8 46 53 g.f4 (.inl kr) ((h2.o K).o M) l3.src hr λl1 hr g7 g8 k9 o3 R g l4=>eJ 1 ?_;have g:=g.f1.t;refine sW (cP 2 ?_);have hL:=h4 _ (sI hr);exact dX ⟨(l1,wI (s1.2.1+1),y4.1.1.1.1,y4.1.1.1.2.1,y4.1.1.1.d,y4.1.1.2.1,y4.1.1.d.1,y4.1.1.e,y4.1.2.1,y4.1.d),g7,g8,h7,k2,T6,k9,hL,rfl,((q.t K).t M).t R,g.f2.f3.f3,((r7.o K).o M).o R,((r9.o K).o M).o R,((d1.o K).o M).o R,((r5.o K).o M).o R,((r6.o K).o M).o R,l4,((r8.o K).o M).o R,((F.o K).o M).o R,((o.o K).o M).o R,((p.o K).o M).o R,((G.o K).o M).o R,k8⟩
  refine eE ?_;exact dY (g6 rfl (zL h3 hr g.f3.f3.f3.f3))
 refine pN 11 59 (.agg dW) g λb3 w4 g=> ?_;refine⟨aL (aF g S),aK 7 kr (cY hr (λ_ h=>Ch (p0:=p0.2.1) (p1:=p1) g o p r5 r6 h) ?_)⟩;rintro y1 hr _ w5 ⟨d4,d5,m3,rfl,D,g,l2⟩;refine⟨_,rfl,?_⟩;have o:=o.o D;have p:=p.o D;have F:=((F.o e1).o e2).o D;have G:=((G.o e1).o e2).o D;have S:=S.t D;refine⟨aL (aF g S),aU 4 [8,9,10,11] (aK 13 kr (iV 59 11 28 (.agg (Ve y1.1)) g.f1 λw6 g=>⟨aL (aF g S),aU 2 [14,15] (bO kr (aV (bA 2 hr (xQ (p0:=p0) g.f3.f3 F o p G n3 l2) ?_)))⟩))⟩;rintro E hr _ w7 ⟨h5,h9,T2,m4,rfl,v,g,g9⟩;refine cX ?_;have g:=g.f3.t;refine lG (bV hr ?_ ?_)<;>intro A hr
 .refine bA 2 hr (rO (p0:=(p0.1,p0.2.1,p0.d.1,p0.e.1,E.1,E.2.1,E.d)) g.f1.f1 (F.o v) (o.o v) (p.o v) (G.o v) g9) ?_;rintro y3 hr _ w8 ⟨h6,k0,T3,m5,rfl,e5,g,k7⟩;exact iC (zH hr g.f2.t.f1.f1)
 refine aQ (cG (iG 1 g (((k5.o D).o v).drop 4) (mA (cE (.exit 0) hr (λb8 L' w'=>∃(a:Te×T40),∃U Z V c0 T4 H,a=b8/\L'=[(0,vP bp0 0),(11,vP b3 0),(14,vS U a.1 Z)]/\m.le H/\St H (vK bp0 a1 c1 a2 c2 a3 c3 a4 c4 p0 a.2.1 a.d.1 a.e.1 a.f.1 V a.h.1 c0 a.j.1 a.k.1 a.2.2.2.2.2.2.2.2::kB b3 (Ve y1.1) 59::cT V (bM eK a.h.1 T4) 75::kR U a.1 Z 3 1::O) w'/\RepS (aG .i64) H U Z a.1/\RepS C1 H a1 c1 p0.1/\RepS aB H a2 c2 p0.2.1.1/\RepS C7 H a3 c3 p0.2.1.2/\RepS C3 H a4 c4 p0.d.1/\OAS V a.2.2.2.2.2.1.length c0 3 T4) ?_ ?_))))
 .rintro b8 hr _ w9 ⟨a,U,Z,V,c0,T4,H,rfl,rfl,q,g,h1,F,o,p,G,d2⟩;refine eY (aJ (aD (aS 3 g.h (cV hr ?_ ?_))))<;>intro A hr
  .refine aR 1 (cX ?_);have g:=g.f3.t;exact nX (zH hr g.f1.t.f1.f1)
  refine aQ (aJ (cM [(12,λw'=>Inv H w'/\Piece.holds H w' (vK bp0 a1 c1 a2 c2 a3 c3 a4 c4 p0 a.2.1 a.d.1 a.e.1 a.f.1 V a.h.1 c0 a.j.1 a.k.1 a.2.2.2.2.2.2.2.2)/\Piece.holds H w' (kB b3 (Ve y1.1) 59)/\True)] kr g λo5 _ g=> ?_));have l:=H.le_refl;refine⟨aL (aF g l),aU 3 [0,1,2] (bZ 3 cH (bZ 4 nV (qZ [5,9] kr ae (rW ?_ ?_))))⟩
  .refine cY hr (λ_ h=>AR (p0:=p0.2.1) (p1:=y1.1) g o p h) ?_;rintro y5 hr _ l8 ⟨z,B,s,u,l0,rfl,c,g,g5,d3⟩;refine⟨_,rfl,?_⟩;have l:=l.t c;refine⟨aL (aF g l),aU 3 [6,7,8] (aK 9 kr (pN 17 81 (.agg #[vT eB,v6,v6]) g λb6 l9 g=>⟨aL (aF g l),aK 10 kr (iV 81 17 68 (.agg (V8 y5.1 z B s u)) g λn0 g=>⟨aL (aF g l),aN 11 (bO kr (lG (aD (aS 1 g.h (aX 1 (iP d3 hr ?_))))))⟩)⟩))⟩;rintro x2 hr b7 f2 k4 ⟨_,_,rfl,rfl,⟨_,_,rfl,rfl,⟨_,_,rfl,⟨d9,f5,rfl,l5⟩,⟨h8,k3,rfl,l6⟩⟩⟩⟩ g0;refine mB 1 g (g0.drop 2) (cV hr ?_ ?_)<;>intro A hr
   .refine bA 1 hr (rO (p0:=(p0.1,p0.2.1,p0.d.1,p0.e.1,((a.2.1,a.d.1,a.e.1),a.f.1,a.h.1,a.j.1),a.k.1,a.2.2.2.2.2.2.2.2)) g.f3.f2 (F.o c) (o.o c) (p.o c) (G.o c) d2) ?_;rintro y6 hr _ n1 ⟨e0,f6,T7,g3,rfl,f8,g,g1⟩;refine eJ 1 ?_;have g:=g.f4.t;exact nX (zH hr g.f2.t.f2.t.f1.f1)
   refine aQ (aR 1 (bD g.h (iH 2 hr (b (p0:=(p0.1,p0.2.1,p0.d.1,p0.e.1,((a.2.1,a.d.1,a.e.1),a.f.1,a.h.1,a.j.1),a.k.1,a.2.2.2.2.2.2.2.2)) (p1:=y5.1) g.f3.f2 (F.o c) (o.o c) (p.o c) (G.o c) d2 g5 d3 (h1.o c)) ?_)));rintro y7 hr _ n2 ⟨f0,f7,T8,g4,rfl,f9,g,g2⟩;refine eJ 1 ?_;have g:=g.f4.t;exact nX (zH hr g.f2.t.f2.t.f1.f1)
  refine pN 17 81 (.agg #[vT eB,v6,v6]) g λb6 l8 g=> ?_;refine⟨aL (aF g l),aK 5 kr (cY hr (λ_ h=>AR (p0:=p0.2.1) (p1:=y1.1) g o p h) ?_)⟩;rintro y5 hr _ l9 ⟨z,B,s,u,l0,rfl,c,g,g5,d3⟩;refine⟨_,rfl,?_⟩;have l:=l.t c;refine⟨aL (aF g l),aU 3 [6,7,8] (aK 10 kr (iV 81 17 68 (.agg (V8 y5.1 z B s u)) g λn0 g=>⟨aL (aF g l),aN 11 (bO kr (lG (aD (aS 1 g.h (aX 1 (iP d3 hr ?_))))))⟩))⟩;rintro x2 hr b7 f2 k4 ⟨_,_,rfl,rfl,⟨_,_,rfl,rfl,⟨_,_,rfl,⟨d9,f5,rfl,l5⟩,⟨h8,k3,rfl,l6⟩⟩⟩⟩ g0;refine mB 1 g (g0.drop 2) (cV hr ?_ ?_)<;>intro A hr
  .refine bA 1 hr (rO (p0:=(p0.1,p0.2.1,p0.d.1,p0.e.1,((a.2.1,a.d.1,a.e.1),a.f.1,a.h.1,a.j.1),a.k.1,a.2.2.2.2.2.2.2.2)) g.f3.f2 (F.o c) (o.o c) (p.o c) (G.o c) d2) ?_;rintro y6 hr _ n1 ⟨e0,f6,T7,g3,rfl,f8,g,g1⟩;refine eJ 1 ?_;have g:=g.f4.t;exact nX (zH hr g.f2.t.f2.t.f1.f1)
  refine aQ (aR 1 (bD g.h (iH 2 hr (b (p0:=(p0.1,p0.2.1,p0.d.1,p0.e.1,((a.2.1,a.d.1,a.e.1),a.f.1,a.h.1,a.j.1),a.k.1,a.2.2.2.2.2.2.2.2)) (p1:=y5.1) g.f3.f2 (F.o c) (o.o c) (p.o c) (G.o c) d2 g5 d3 (h1.o c)) ?_)));rintro y7 hr _ n2 ⟨f0,f7,T8,g4,rfl,f9,g,g2⟩;refine eJ 1 ?_;have g:=g.f4.t;exact nX (zH hr g.f2.t.f2.t.f1.f1)
 intro b8 hr g6;have g:=(g.nilroom 3 1).front2.front3.front3;refine eF (λk1 L' w'=>∃(s1:T41),∃Y b0 b9 d6 T5 y,aC (tS N Rk p0 p1 p2 p3 p4) k1 s1=some b8/\L'=[(0,vP bp0 0),(2,vS a8 p2 c8),(4,vS a10 p4 c10),(6,vP b1 0),(11,vP b3 0),(14,vS Y s1.1 b0),(40,vS a9 p3.f c9),(41,vI (p3.2.2.2.2.length:Int)),(42,vI s1.2.1)]/\m.le y/\St y (vK bp0 a1 c1 a2 c2 a3 c3 a4 c4 p0 s1.d.1 s1.e.1 s1.f.1 s1.h.1 b9 s1.j.1 d6 s1.k.1 s1.2.2.2.2.2.2.2.2.1 s1.2.2.2.2.2.2.2.2.2::kB b3 (Ve y1.1) 59::cT b9 (bM eK s1.j.1 T5) 75::kR Y s1.1 b0 3 1::O) w'/\RepS C5 y a8 c8 p2/\RepS (aG .i64) y a10 c10 p4/\MRow y b1 0 (Vc p1 a6 c6 a7 c7)/\RepS aB y a6 c6 p1.2.1/\RepS C6 y a7 c7 p1.d/\RepS (aG .i64) y Y b0 s1.1/\RepS (aG .i64) y a9 c9 p3.f/\RepS C1 y a1 c1 p0.1/\RepS aB y a2 c2 p0.2.1.1/\RepS C7 y a3 c3 p0.2.1.2/\RepS C3 y a4 c4 p0.d.1/\OAS b9 s1.2.2.2.2.2.2.1.length d6 3 T5) N ⟨(([]:Te),0,E.1.1.1,E.1.1.2.1,E.1.1.d,E.1.2.1,E.1.d.1,E.1.e,E.2.1,E.d),none,0,h5,h9,T2,m4,hr,rfl,(q.t D).t v,g,(((r7.o e1).o e2).o D).o v,(((r9.o e1).o e2).o D).o v,(d1.o D).o v,(r5.o D).o v,(r6.o D).o v,(RepS.nil _ _),(((r8.o e1).o e2).o D).o v,F.o v,o.o v,p.o v,G.o v,g9⟩ ?_;rintro k1 _ n8 ⟨s1,Y,b0,b9,d6,T5,y,hL,rfl,q,g,r7,r9,d1,r5,r6,h2,r8,F,o,p,G,h0⟩;obtain⟨k1,n7,rfl,hr,h4,h3⟩:=eH hL;refine cG (aO hr ?_ ?_)<;>intro A hr
 .refine aQ (aJ (bJ (aD (iP r8 hr ?_))));rintro x1 hr b4 f1 n6 rfl k6;refine dU g k6 (aW (eQ 2 (dU g d1 (iH 3 hr (n (p0:=(p0.1,p0.2.1,p0.d.1,p0.e.1,((s1.d.1,s1.e.1,s1.f.1),s1.h.1,s1.j.1,s1.k.1),s1.2.2.2.2.2.2.2.2.1,s1.2.2.2.2.2.2.2.2.2)) (p1:=p1) g.f2.f1 F o p G h0 r5 r6 r7 r9) ?_))));rintro y4 hr _ n9 ⟨h7,k2,T6,m8,rfl,K,g,k8⟩;refine iF 53 3 1 (aG .i64) [y4.2] g λb5 m9 o0 M g l3=>oB 54 22 22 3 8 46 53 g.f4 (.inl kr) ((h2.o K).o M) l3.src hr λl1 hr g7 g8 k9 o3 R g l4=>eJ 1 ?_;have g:=g.f1.t;refine sW (cP 2 ?_);have hL:=h4 _ (sI hr);exact dX ⟨(l1,wI (s1.2.1+1),y4.1.1.1.1,y4.1.1.1.2.1,y4.1.1.1.d,y4.1.1.2.1,y4.1.1.d.1,y4.1.1.e,y4.1.2.1,y4.1.d),g7,g8,h7,k2,T6,k9,hL,rfl,((q.t K).t M).t R,g.f2.f3.f3,((r7.o K).o M).o R,((r9.o K).o M).o R,((d1.o K).o M).o R,((r5.o K).o M).o R,((r6.o K).o M).o R,l4,((r8.o K).o M).o R,((F.o K).o M).o R,((o.o K).o M).o R,((p.o K).o M).o R,((G.o K).o M).o R,k8⟩
 refine eE ?_;exact dY (g6 rfl (zL h3 hr g.f3.f3.f3.f3))
theorem Nt{Rl Rm Rk Rn}(d5:PX Rl)(d6:PY Rm)(B:PV Rk)(b:PW Rn){p0:lL}{p1:iE}{p2:lK}{p3:dZ}{p4:Te}{T1:List Value}{r:sG}(g:St m (iW bp0 a1 c1 a2 c2 a3 c3 a4 c4 p0 p0.f.1 a5 c5 p0.h.1 p0.j::cT a5 (bM eK p0.f.1.d.1 T1) 75::O) w)(l:RepS C1 m a1 c1 p0.1)(n:RepS aB m a2 c2 p0.2.1.1)(o:RepS C7 m a3 c3 p0.2.1.2)(s:RepS C3 m a4 c4 p0.d.1)(h1:OAS a5 p0.2.2.2.2.1.2.2.1.length c5 3 T1)(r5:RepS aB m a6 c6 p1.2.1)(r6:RepS C6 m a7 c7 p1.d)(r7:RepS C5 m a8 c8 p2)(r8:RepS (aG .i64) m a9 c9 p3.f)(r9:RepS (aG .i64) m a10 c10 p4)(hr:QE N Rl Rm Rk Rn p0 p1 p2 p3 p4=some r):Calls prog 109 #[vP bp0 0,.agg (V8 p1 a6 c6 a7 c7),vS a8 p2 c8,.agg (Va p3 a9 c9),vS a10 p4 c10] w λe w'=>∃g4 h3 h2 m',bN m m' e (vI r.2) (iW bp0 a1 c1 a2 c2 a3 c3 a4 c4 p0 r.1.1 g4 h3 r.1.2.1 r.1.d::cT g4 (bM eK r.1.1.d.1 h2) 75::O) w' (OAS g4 r.1.1.2.2.1.length h3 3 h2):=by
 refine bH g func109 rfl ntmps109 λq=>aD (eC 6 81 (.agg (V8 p1 a6 c6 a7 c7)) g λb1 m1 w1 e1 g h0=>eC 8 158 (.agg (Va p3 a9 c9)) g λb2 m2 w2 e2 g d9=> ?_);have q:=(q.t e1).t e2;have l:=(l.o e1).o e2;have n:=(n.o e1).o e2;have o:=(o.o e1).o e2;have s:=(s.o e1).o e2;refine eI (cM [(21,λw'=>Inv m2 w'/\Piece.holds m2 w' (iW bp0 a1 c1 a2 c2 a3 c3 a4 c4 p0 p0.f.1 a5 c5 p0.h.1 p0.j)/\True)] kr g λw3 _ g=> ?_);have b0:=m2.le_refl;refine⟨aL (aF g b0),aU 3 [0,1,2] (bZ 3 cH (aU 3 [4,5,6] (bZ 7 cH (aN 8 (cN 9 (d9.drop 3) (qZ [10,16] kr ae (rW ?_ ?_)))))))⟩
 .refine cY hr (λ_ h=>FN (p1:=p0.2.1) g l n o h) ?_;rintro y1 hr _ w4 ⟨d3,d4,m3,rfl,H,g,g3⟩;refine⟨_,rfl,?_⟩;have b0:=b0.t H;refine⟨aL (aF g b0),aU 5 [11,12,13,14,15] (aK 16 kr (pN 12 59 (.agg dW) g λb3 w5 g=>⟨aL (aF g b0),aN 17 (aK 18 kr (iV 59 12 35 (.agg (Ve y1.2.1)) g λw6 g=>⟨aL (aF g b0),aU 2 [19,20] (bO kr (aV (bA 2 hr (xQ (p0:=p0) g.f3.f3 (l.o H) (n.o H) (o.o H) (s.o H) h1 g3) ?_)))⟩))⟩))⟩;rintro V hr _ w7 ⟨h4,h5,T2,m4,rfl,M,g,e0⟩;have l:=(l.o H).o M;have n:=(n.o H).o M;have o:=(o.o H).o M;have s:=(s.o H).o M;refine cX ?_;have g:=g.f3.t;refine lG (bV hr ?_ ?_)<;>intro A hr
  .refine bA 2 hr (rO (p0:=(p0.1,p0.2.1,p0.d.1,p0.e.1,V.1,V.2.1,V.d)) g.f1.f1 l n o s e0) ?_;rintro y3 hr _ w8 ⟨f0,f5,T3,m5,rfl,e5,g,f8⟩;exact iC (zH hr g.f2.t.f1.f1)
  refine aQ (aJ (cM [(10,λw'=>Inv m4 w'/\True)] kr g λw9 _ g=> ?_));have b7:=m4.le_refl;refine tA g b7 (aN 0 (cN 1 (((h0.o e2).o H).o M) (aU 2 [2,3] (cN 4 (((d9.o H).o M).drop 4) ?_))));have⟨x1,g0,hr⟩:=aM hr;refine nP (t:=22) (e:=3) (x:=(.tmp 50)) (y:=(.const (vI 0))) 5 51 (aG .i64) kr rfl kr (.head _) (bU lR) (ev (vS a9 p3.f c9)) (ev (vI 0)) kr ((((r8.o e1).o e2).o H).o M) g0 ?_;rintro b4 f1 h6 rfl f7;refine cN 6 f7 (aN 7 (aK 8 kr (cY hr (λ_ h=>B (p0:=(p0.1,p0.2.1,p0.d.1,p0.e.1,V.1,V.2.1,V.d)) (p1:=p1) g.f1.f1 l n o s e0 ((((r5.o e1).o e2).o H).o M) ((((r6.o e1).o e2).o H).o M) ((((r7.o e1).o e2).o H).o M) ((((r9.o e1).o e2).o H).o M) h) ?_)));rintro a hr _ h7 ⟨U,b6,T4,m6,rfl,e6,g,d1⟩;refine⟨_,rfl,?_⟩;have q:=((q.t H).t M).t e6;have l:=l.o e6;have b7:=b7.t e6;refine tA g b7 (aN 9 (bO kr (lG (aD (aS 3 g.h (cV hr ?_ ?_))))))<;>intro A hr
  .exact eD (zH hr g.f2.t.f1.f1)
  refine aQ (aJ (cM [(12,λw'=>Inv m6 w'/\Piece.holds m6 w' (iW bp0 a1 c1 a2 c2 a3 c3 a4 c4 p0 a.1.1 U b6 a.1.2.1 a.1.d)/\True)] kr g λh8 _ g=> ?_));have b8:=m6.le_refl;refine⟨aL (aF g b8),aU 3 [0,1,2] (bZ 3 cH (aN 4 (cN 5 ((((d9.o H).o M).o e6).drop 3) (aK 6 kr (cY hr (λ_ h=>FW g l h) ?_)))))⟩;rintro y5 hr _ h9 ⟨m7,rfl,Z,g⟩;refine⟨_,rfl,?_⟩;have b8:=b8.t Z;refine⟨aL (aF g b8),aU 5 [7,8,9,10,11] (bO kr (aV (cG (bK (cE .normal hr (λo1 L' w'=>∃m8,L'=[(0,vP bp0 0),(11,vI y1.1),(12,vP b3 0),(15,vI a.2),(16,vT y5.1),(18,vI o1)]/\m.le m8/\St m8 (iW bp0 a1 c1 a2 c2 a3 c3 a4 c4 p0 a.1.1 U b6 a.1.2.1 a.1.d::kB b3 (Ve y1.2.1) 59::cT U (bM eK a.1.1.d.1 T4) 75::O) w'/\P9 m8 a1 c1 a2 c2 a3 c3 a4 c4 p0) ?_ ?_)))))⟩
  .rintro o1 hr _ k0 ⟨m8,rfl,q,g,l,n,o,s⟩;refine lG (aD (iY 7 hr (λo2 L' w'=>∃m9,L'=[(0,vP bp0 0),(11,vI y1.1),(12,vP b3 0),(15,vI a.2),(16,vT y5.1),(80,vB o2)]/\m.le m9/\St m9 (iW bp0 a1 c1 a2 c2 a3 c3 a4 c4 p0 a.1.1 U b6 a.1.2.1 a.1.d::kB b3 (Ve y1.2.1) 59::cT U (bM eK a.1.1.d.1 T4) 75::O) w'/\P9 m9 a1 c1 a2 c2 a3 c3 a4 c4 p0) ?_ ?_))
   .rintro o2 hr _ k1 ⟨m9,rfl,q,g,l,n,o,s⟩;refine aI (aO hr ?_ ?_)<;>intro A hr
    .refine bA 1 hr (rO (p0:=(p0.1,p0.2.1,p0.d.1,p0.e.1,a.1.1,a.1.2.1,a.1.d)) g.f2.f1 l n o s d1) ?_;rintro y6 hr _ k2 ⟨f4,f6,T5,g1,rfl,e8,g,f9⟩;exact iC (zH hr g.f2.t.f1.f1)
    refine aQ (aJ (bV hr ?_ ?_))<;>intro A hr
    .refine aR 2 (mP 87 hr λx2 hr=>aW ?_);exact pK (zH hr g.f1.t.f1.f1)
    refine aQ (aJ (cM [(12,λw'=>Inv m9 w'/\Piece.holds m9 w' (iW bp0 a1 c1 a2 c2 a3 c3 a4 c4 p0 a.1.1 U b6 a.1.2.1 a.1.d)/\Piece.holds m9 w' (kB b3 (Ve y1.2.1) 59)/\True)] kr g λk3 _ g=> ?_));have v:=m9.le_refl;refine⟨aL (aF g v),aU 3 [0,1,2] (bZ 3 cH (bZ 4 nV (qZ [5,9] kr ae (rW ?_ ?_))))⟩
    .refine cY hr (λ_ h=>AR (p0:=p0.2.1) (p1:=y1.2.1) g n o h) ?_;rintro z hr _ g5 ⟨D,F,E,G,g2,rfl,u,g,R,S⟩;refine⟨_,rfl,?_⟩;have v:=v.t u;refine⟨aL (aF g v),aU 3 [6,7,8] (aK 9 kr (pN 19 81 (.agg #[vT eB,v6,v6]) g λb5 g6 g=>⟨aL (aF g v),aK 10 kr (iV 81 19 96 (.agg (V8 z.1 D F E G)) g λg7 g=>⟨aL (aF g v),aN 11 (bO kr (oN 1 (bD g.h (iH 1 hr (b (p0:=(p0.1,p0.2.1,p0.d.1,p0.e.1,a.1.1,a.1.2.1,a.1.d)) (p1:=z.1) g.f3.f2 (l.o u) (n.o u) (o.o u) (s.o u) d1 R S (RepS.nil _ _)) ?_))))⟩)⟩))⟩;rintro p hr _ g8 ⟨Y,c0,T6,d2,rfl,c,g,d7⟩;have l:=(l.o u).o c;have n:=(n.o u).o c;have o:=(o.o u).o c;have s:=(s.o u).o c;refine eI (bK (cE .normal hr (λo3 L' w'=>∃k,L'=[(21,vI o3)]/\m.le k/\St k (iW bp0 a1 c1 a2 c2 a3 c3 a4 c4 p0 p.1.1 Y c0 p.1.2.1 p.1.d::kB b5 (V8 z.1 D F E G) 81::kB b3 (Ve y1.2.1) 59::cT Y (bM eK p.1.1.d.1 T6) 75::O) w'/\RepS C1 k a1 c1 p0.1/\RepS aB k a2 c2 p0.2.1.1/\RepS C7 k a3 c3 p0.2.1.2/\RepS C3 k a4 c4 p0.d.1/\P4 k D F E G z.1.2) ?_ ?_))
     .rintro o3 hr _ g9 ⟨k,rfl,q,g,l,n,o,s,R,S⟩;exact aV (eD (zH hr g.f1.t.f1.t.f1.f1))
     intro o3 hr b9;refine aO hr ?_ ?_<;>intro A hr
     .exact cP 3 (xE (b9 hr (zA g.f1.f3.f3.f3)))
     exact iD (b9 hr (zA g.f1.f3.f3.f3))
    refine pN 19 81 (.agg #[vT eB,v6,v6]) g λb5 g5 g=> ?_;refine⟨aL (aF g v),aK 5 kr (cY hr (λ_ h=>AR (p0:=p0.2.1) (p1:=y1.2.1) g n o h) ?_)⟩;rintro z hr _ g6 ⟨D,F,E,G,g2,rfl,u,g,R,S⟩;refine⟨_,rfl,?_⟩;have v:=v.t u;refine⟨aL (aF g v),aU 3 [6,7,8] (aK 10 kr (iV 81 19 96 (.agg (V8 z.1 D F E G)) g λg7 g=>⟨aL (aF g v),aN 11 (bO kr (oN 1 (bD g.h (iH 1 hr (b (p0:=(p0.1,p0.2.1,p0.d.1,p0.e.1,a.1.1,a.1.2.1,a.1.d)) (p1:=z.1) g.f3.f2 (l.o u) (n.o u) (o.o u) (s.o u) d1 R S (RepS.nil _ _)) ?_))))⟩))⟩;rintro p hr _ g8 ⟨Y,c0,T6,d2,rfl,c,g,d7⟩;have l:=(l.o u).o c;have n:=(n.o u).o c;have o:=(o.o u).o c;have s:=(s.o u).o c;refine eI (bK (cE .normal hr (λo3 L' w'=>∃k,L'=[(21,vI o3)]/\m.le k/\St k (iW bp0 a1 c1 a2 c2 a3 c3 a4 c4 p0 p.1.1 Y c0 p.1.2.1 p.1.d::kB b5 (V8 z.1 D F E G) 81::kB b3 (Ve y1.2.1) 59::cT Y (bM eK p.1.1.d.1 T6) 75::O) w'/\RepS C1 k a1 c1 p0.1/\RepS aB k a2 c2 p0.2.1.1/\RepS C7 k a3 c3 p0.2.1.2/\RepS C3 k a4 c4 p0.d.1/\P4 k D F E G z.1.2) ?_ ?_))
    .rintro o3 hr _ g9 ⟨k,rfl,q,g,l,n,o,s,R,S⟩;exact aV (eD (zH hr g.f1.t.f1.t.f1.f1))
    intro o3 hr b9;refine aO hr ?_ ?_<;>intro A hr
    .exact cP 3 (xE (b9 hr (zA g.f1.f3.f3.f3)))
    exact iD (b9 hr (zA g.f1.f3.f3.f3))
   intro o2 hr K;refine cW 3 76 hr ?_ ?_<;>intro A hr
   .exact bG 4 (K hr (zA g.f2.f2.f2))
   exact bG 4 (K hr (zA g.f2.f2.f2))
  intro o1 hr d8;refine aO hr ?_ ?_<;>intro A hr
  .exact cP 1 (xE (d8 hr ⟨m7,rfl,q.t Z,g.f1.f2.f2,l.o Z,(n.o e6).o Z,(o.o e6).o Z,(s.o e6).o Z⟩))
  exact iD (d8 hr ⟨m7,rfl,q.t Z,g.f1.f2.f2,l.o Z,(n.o e6).o Z,(o.o e6).o Z,(s.o e6).o Z⟩)
 refine pN 12 59 (.agg dW) g λb3 w4 g=> ?_;refine⟨aL (aF g b0),aK 10 kr (cY hr (λ_ h=>FN (p1:=p0.2.1) g l n o h) ?_)⟩;rintro y1 hr _ w5 ⟨d3,d4,m3,rfl,H,g,g3⟩;refine⟨_,rfl,?_⟩;have b0:=b0.t H;refine⟨aL (aF g b0),aU 6 [11,12,13,14,15,17] (aK 18 kr (iV 59 12 35 (.agg (Ve y1.2.1)) g.f1 λw6 g=>⟨aL (aF g b0),aU 2 [19,20] (bO kr (aV (bA 2 hr (xQ (p0:=p0) g.f3.f3 (l.o H) (n.o H) (o.o H) (s.o H) h1 g3) ?_)))⟩))⟩;rintro V hr _ w7 ⟨h4,h5,T2,m4,rfl,M,g,e0⟩;have l:=(l.o H).o M;have n:=(n.o H).o M;have o:=(o.o H).o M;have s:=(s.o H).o M;refine cX ?_;have g:=g.f3.t;refine lG (bV hr ?_ ?_)<;>intro A hr
 .refine bA 2 hr (rO (p0:=(p0.1,p0.2.1,p0.d.1,p0.e.1,V.1,V.2.1,V.d)) g.f1.f1 l n o s e0) ?_;rintro y3 hr _ w8 ⟨f0,f5,T3,m5,rfl,e5,g,f8⟩;exact iC (zH hr g.f2.t.f1.f1)
 refine aQ (aJ (cM [(10,λw'=>Inv m4 w'/\True)] kr g λw9 _ g=> ?_));have b7:=m4.le_refl;refine tA g b7 (aN 0 (cN 1 (((h0.o e2).o H).o M) (aU 2 [2,3] (cN 4 (((d9.o H).o M).drop 4) ?_))));have⟨x1,g0,hr⟩:=aM hr;refine nP (t:=22) (e:=3) (x:=(.tmp 50)) (y:=(.const (vI 0))) 5 51 (aG .i64) kr rfl kr (.head _) (bU lR) (ev (vS a9 p3.f c9)) (ev (vI 0)) kr ((((r8.o e1).o e2).o H).o M) g0 ?_;rintro b4 f1 h6 rfl f7;refine cN 6 f7 (aN 7 (aK 8 kr (cY hr (λ_ h=>B (p0:=(p0.1,p0.2.1,p0.d.1,p0.e.1,V.1,V.2.1,V.d)) (p1:=p1) g.f1.f1 l n o s e0 ((((r5.o e1).o e2).o H).o M) ((((r6.o e1).o e2).o H).o M) ((((r7.o e1).o e2).o H).o M) ((((r9.o e1).o e2).o H).o M) h) ?_)));rintro a hr _ h7 ⟨U,b6,T4,m6,rfl,e6,g,d1⟩;refine⟨_,rfl,?_⟩;have q:=((q.t H).t M).t e6;have l:=l.o e6;have b7:=b7.t e6;refine tA g b7 (aN 9 (bO kr (lG (aD (aS 3 g.h (cV hr ?_ ?_))))))<;>intro A hr
 .exact eD (zH hr g.f2.t.f1.f1)
 refine aQ (aJ (cM [(12,λw'=>Inv m6 w'/\Piece.holds m6 w' (iW bp0 a1 c1 a2 c2 a3 c3 a4 c4 p0 a.1.1 U b6 a.1.2.1 a.1.d)/\True)] kr g λh8 _ g=> ?_));have b8:=m6.le_refl;refine⟨aL (aF g b8),aU 3 [0,1,2] (bZ 3 cH (aN 4 (cN 5 ((((d9.o H).o M).o e6).drop 3) (aK 6 kr (cY hr (λ_ h=>FW g l h) ?_)))))⟩;rintro y5 hr _ h9 ⟨m7,rfl,Z,g⟩;refine⟨_,rfl,?_⟩;have b8:=b8.t Z;refine⟨aL (aF g b8),aU 5 [7,8,9,10,11] (bO kr (aV (cG (bK (cE .normal hr (λo1 L' w'=>∃m8,L'=[(0,vP bp0 0),(11,vI y1.1),(12,vP b3 0),(15,vI a.2),(16,vT y5.1),(18,vI o1)]/\m.le m8/\St m8 (iW bp0 a1 c1 a2 c2 a3 c3 a4 c4 p0 a.1.1 U b6 a.1.2.1 a.1.d::kB b3 (Ve y1.2.1) 59::cT U (bM eK a.1.1.d.1 T4) 75::O) w'/\P9 m8 a1 c1 a2 c2 a3 c3 a4 c4 p0) ?_ ?_)))))⟩
 .rintro o1 hr _ k0 ⟨m8,rfl,q,g,l,n,o,s⟩;refine lG (aD (iY 7 hr (λo2 L' w'=>∃m9,L'=[(0,vP bp0 0),(11,vI y1.1),(12,vP b3 0),(15,vI a.2),(16,vT y5.1),(80,vB o2)]/\m.le m9/\St m9 (iW bp0 a1 c1 a2 c2 a3 c3 a4 c4 p0 a.1.1 U b6 a.1.2.1 a.1.d::kB b3 (Ve y1.2.1) 59::cT U (bM eK a.1.1.d.1 T4) 75::O) w'/\P9 m9 a1 c1 a2 c2 a3 c3 a4 c4 p0) ?_ ?_))
  .rintro o2 hr _ k1 ⟨m9,rfl,q,g,l,n,o,s⟩;refine aI (aO hr ?_ ?_)<;>intro A hr
   .refine bA 1 hr (rO (p0:=(p0.1,p0.2.1,p0.d.1,p0.e.1,a.1.1,a.1.2.1,a.1.d)) g.f2.f1 l n o s d1) ?_;rintro y6 hr _ k2 ⟨f4,f6,T5,g1,rfl,e8,g,f9⟩;exact iC (zH hr g.f2.t.f1.f1)
   refine aQ (aJ (bV hr ?_ ?_))<;>intro A hr
   .refine aR 2 (mP 87 hr λx2 hr=>aW ?_);exact pK (zH hr g.f1.t.f1.f1)
   refine aQ (aJ (cM [(12,λw'=>Inv m9 w'/\Piece.holds m9 w' (iW bp0 a1 c1 a2 c2 a3 c3 a4 c4 p0 a.1.1 U b6 a.1.2.1 a.1.d)/\Piece.holds m9 w' (kB b3 (Ve y1.2.1) 59)/\True)] kr g λk3 _ g=> ?_));have v:=m9.le_refl;refine⟨aL (aF g v),aU 3 [0,1,2] (bZ 3 cH (bZ 4 nV (qZ [5,9] kr ae (rW ?_ ?_))))⟩
   .refine cY hr (λ_ h=>AR (p0:=p0.2.1) (p1:=y1.2.1) g n o h) ?_;rintro z hr _ g5 ⟨D,F,E,G,g2,rfl,u,g,R,S⟩;refine⟨_,rfl,?_⟩;have v:=v.t u;refine⟨aL (aF g v),aU 3 [6,7,8] (aK 9 kr (pN 19 81 (.agg #[vT eB,v6,v6]) g λb5 g6 g=>⟨aL (aF g v),aK 10 kr (iV 81 19 96 (.agg (V8 z.1 D F E G)) g λg7 g=>⟨aL (aF g v),aN 11 (bO kr (oN 1 (bD g.h (iH 1 hr (b (p0:=(p0.1,p0.2.1,p0.d.1,p0.e.1,a.1.1,a.1.2.1,a.1.d)) (p1:=z.1) g.f3.f2 (l.o u) (n.o u) (o.o u) (s.o u) d1 R S (RepS.nil _ _)) ?_))))⟩)⟩))⟩;rintro p hr _ g8 ⟨Y,c0,T6,d2,rfl,c,g,d7⟩;have l:=(l.o u).o c;have n:=(n.o u).o c;have o:=(o.o u).o c;have s:=(s.o u).o c;refine eI (bK (cE .normal hr (λo3 L' w'=>∃k,L'=[(21,vI o3)]/\m.le k/\St k (iW bp0 a1 c1 a2 c2 a3 c3 a4 c4 p0 p.1.1 Y c0 p.1.2.1 p.1.d::kB b5 (V8 z.1 D F E G) 81::kB b3 (Ve y1.2.1) 59::cT Y (bM eK p.1.1.d.1 T6) 75::O) w'/\RepS C1 k a1 c1 p0.1/\RepS aB k a2 c2 p0.2.1.1/\RepS C7 k a3 c3 p0.2.1.2/\RepS C3 k a4 c4 p0.d.1/\P4 k D F E G z.1.2) ?_ ?_))
    .rintro o3 hr _ g9 ⟨k,rfl,q,g,l,n,o,s,R,S⟩;exact aV (eD (zH hr g.f1.t.f1.t.f1.f1))
    intro o3 hr b9;refine aO hr ?_ ?_<;>intro A hr
    .exact cP 3 (xE (b9 hr (zA g.f1.f3.f3.f3)))
    exact iD (b9 hr (zA g.f1.f3.f3.f3))
   refine pN 19 81 (.agg #[vT eB,v6,v6]) g λb5 g5 g=> ?_;refine⟨aL (aF g v),aK 5 kr (cY hr (λ_ h=>AR (p0:=p0.2.1) (p1:=y1.2.1) g n o h) ?_)⟩;rintro z hr _ g6 ⟨D,F,E,G,g2,rfl,u,g,R,S⟩;refine⟨_,rfl,?_⟩;have v:=v.t u;refine⟨aL (aF g v),aU 3 [6,7,8] (aK 10 kr (iV 81 19 96 (.agg (V8 z.1 D F E G)) g λg7 g=>⟨aL (aF g v),aN 11 (bO kr (oN 1 (bD g.h (iH 1 hr (b (p0:=(p0.1,p0.2.1,p0.d.1,p0.e.1,a.1.1,a.1.2.1,a.1.d)) (p1:=z.1) g.f3.f2 (l.o u) (n.o u) (o.o u) (s.o u) d1 R S (RepS.nil _ _)) ?_))))⟩))⟩;rintro p hr _ g8 ⟨Y,c0,T6,d2,rfl,c,g,d7⟩;have l:=(l.o u).o c;have n:=(n.o u).o c;have o:=(o.o u).o c;have s:=(s.o u).o c;refine eI (bK (cE .normal hr (λo3 L' w'=>∃k,L'=[(21,vI o3)]/\m.le k/\St k (iW bp0 a1 c1 a2 c2 a3 c3 a4 c4 p0 p.1.1 Y c0 p.1.2.1 p.1.d::kB b5 (V8 z.1 D F E G) 81::kB b3 (Ve y1.2.1) 59::cT Y (bM eK p.1.1.d.1 T6) 75::O) w'/\RepS C1 k a1 c1 p0.1/\RepS aB k a2 c2 p0.2.1.1/\RepS C7 k a3 c3 p0.2.1.2/\RepS C3 k a4 c4 p0.d.1/\P4 k D F E G z.1.2) ?_ ?_))
   .rintro o3 hr _ g9 ⟨k,rfl,q,g,l,n,o,s,R,S⟩;exact aV (eD (zH hr g.f1.t.f1.t.f1.f1))
   intro o3 hr b9;refine aO hr ?_ ?_<;>intro A hr
   .exact cP 3 (xE (b9 hr (zA g.f1.f3.f3.f3)))
   exact iD (b9 hr (zA g.f1.f3.f3.f3))
  intro o2 hr K;refine cW 3 76 hr ?_ ?_<;>intro A hr
  .exact bG 4 (K hr (zA g.f2.f2.f2))
  exact bG 4 (K hr (zA g.f2.f2.f2))
 intro o1 hr d8;refine aO hr ?_ ?_<;>intro A hr
 .exact cP 1 (xE (d8 hr ⟨m7,rfl,q.t Z,g.f1.f2.f2,l.o Z,(n.o e6).o Z,(o.o e6).o Z,(s.o e6).o Z⟩))
 exact iD (d8 hr ⟨m7,rfl,q.t Z,g.f1.f2.f2,l.o Z,(n.o e6).o Z,(o.o e6).o Z,(s.o e6).o Z⟩)
theorem Nq{Rl Rm Rk Rn}(u:PX Rl)(v:PY Rm)(a:PV Rk)(Y:PW Rn){p0:lL}{p1:iE}{p2:lK}{p3:Int}{p4:Te}{T1:List Value}{r:sG}(g:St m (iW bp0 a1 c1 a2 c2 a3 c3 a4 c4 p0 p0.f.1 a5 c5 p0.h.1 p0.j::cT a5 (bM eK p0.f.1.d.1 T1) 75::O) w)(o:RepS C1 m a1 c1 p0.1)(p:RepS aB m a2 c2 p0.2.1.1)(s:RepS C7 m a3 c3 p0.2.1.2)(z:RepS C3 m a4 c4 p0.d.1)(G:OAS a5 p0.2.2.2.2.1.2.2.1.length c5 3 T1)(r5:RepS aB m a6 c6 p1.2.1)(r6:RepS C6 m a7 c7 p1.d)(r7:RepS C5 m a8 c8 p2)(r8:RepS (aG .i64) m a9 c9 p4)(hr:ET N Rl Rm Rk Rn p0 p1 p2 p3 p4=some r):Calls prog 72 #[vP bp0 0,.agg (V8 p1 a6 c6 a7 c7),vS a8 p2 c8,vI p3,vS a9 p4 c9] w λe w'=>∃e0 f8 f0 m',bN m m' e (vI r.2) (iW bp0 a1 c1 a2 c2 a3 c3 a4 c4 p0 r.1.1 e0 f8 r.1.2.1 r.1.d::cT e0 (bM eK r.1.1.d.1 f0) 75::O) w' (OAS e0 r.1.1.2.2.1.length f8 3 f0):=by
 refine bH g func72 rfl ntmps72 λq=>aD (eC 6 81 (.agg (V8 p1 a6 c6 a7 c7)) g λb1 F w1 e1 g c0=> ?_);have q:=q.t e1;have r5:=r5.o e1;have r6:=r6.o e1;have r7:=r7.o e1;have r8:=r8.o e1;have o:=o.o e1;have p:=p.o e1;have s:=s.o e1;have z:=z.o e1;refine eI (aD (aS 3 g.h (cV hr ?_ ?_)))<;>intro A hr
 .exact eD (zH hr g.f1.f1)
 refine aQ (aJ (aD (aS 4 g.h (cV hr ?_ ?_))))<;>intro A hr
 .refine bA 1 hr (rO (p0:=p0) g.f1.f1 o p s z G) ?_;rintro y1 hr _ B ⟨b,c,T2,n,rfl,l,g,k⟩;exact iC (zH hr g.f1.f1)
 refine aQ (aR 4 (bD g.h (aX 4 (lA #[vS a1 p0.1 c1,vS a2 p0.2.1.1 c2,vS a3 p0.2.1.2 c3,vS a4 p0.d.1 c4,.int .u64 p0.e.1,vI p0.f.1.1.1,vI p0.f.1.1.2.1,vI p0.f.1.1.d,vB p0.f.1.2.1,vS a5 p0.f.1.d.1 c5,vI (wI (p0.f.1.e+1)),vI p0.h.1,vI p0.j] g λw3 g=>aI (aR 2 (iP r7 hr ?_))))));rintro b hr b2 f1 g9 ⟨_,_,rfl,rfl,⟨_,_,rfl,rfl,⟨_,_,rfl,rfl,⟨_,_,rfl,rfl,⟨l,n,rfl,r9⟩⟩⟩⟩⟩ g0;refine dU g g0 (bX 11 158 (.agg #[vI 0,vI 0,vI 0,vT eB,v6]) g λD w4 g=>aZ (.agg (Va b l n)) g λw5 g=>aI (aJ (aD (aS 1 g.h (aI (bJ (bV hr ?_ ?_)))))))<;>intro A hr
 .exact aD (aS 1 g.h (iC (zH hr g.t.f1.f1)))
 refine bV hr ?_ ?_<;>intro A hr
 .refine aR 2 (bD g.h (iP r8 hr ?_));rintro c hr H B E rfl k;exact dU g k (iC (zH hr g.t.f1.f1))
 refine bV hr ?_ ?_<;>intro A hr
 .refine iG 1 g c0 (aS 1 g.h (iH 1 hr (u (p0:=(p0.1,p0.2.1,p0.d.1,p0.e.1,(p0.f.1.1,p0.f.1.2.1,p0.f.1.d.1,wI (p0.f.1.e+1)),p0.h.1,p0.j)) (p1:=p1) (p3:=b) g.f2.f2 o p s z G r5 r6 r7 r9 r8) ?_));rintro E hr _ M ⟨c,k,T3,K,rfl,H,g,B⟩;exact iC (zH hr g.f2.t.f1.f1)
 refine bV hr ?_ ?_<;>intro A hr
 .refine aJ (cM [(10,λw'=>Inv F w'/\Piece.holds F w' (kB D (Va b l n) 158)/\True)] kr g λw7 _ g=> ?_);have B:=F.le_refl;refine⟨aL (aF g B),aN 0 (cN 1 c0 (aU 2 [2,3] (bZ 4 cH ?_)))⟩;have⟨x3,d4,hr⟩:=aM hr;refine nP (t:=22) (e:=3) (x:=(.tmp 80)) (y:=(.const (vI 0))) 5 81 (aG .i64) kr rfl kr (.head _) (bU (iQ (bU lR))) (ev (vS l b.f n)) (ev (vI 0)) kr r9 d4 ?_;rintro b5 f3 d8 rfl b0;refine cN 6 b0 (aN 7 (aK 8 kr (cY hr (λ_ h=>a (p0:=(p0.1,p0.2.1,p0.d.1,p0.e.1,(p0.f.1.1,p0.f.1.2.1,p0.f.1.d.1,wI (p0.f.1.e+1)),p0.h.1,p0.j)) (p1:=p1) g.f2.f2 o p s z G r5 r6 r7 r8 h) ?_)));rintro H hr _ w8 ⟨d6,d7,T4,R,rfl,c,g,d2⟩;refine⟨_,rfl,?_⟩;have B:=B.t c;refine⟨aL (aF g B),aN 9 (bO kr (lG (cM [(10,λw'=>Inv R w'/\Piece.holds R w' (kB D (Va b l n) 158)/\True)] kr g λw9 _ g=> ?_)))⟩;have E:=R.le_refl;refine⟨aL (aF g E),aN 0 (cN 1 (c0.o c) (aU 2 [2,3] (bZ 4 cH ?_)))⟩;have⟨x4,d5,hr⟩:=aM hr;refine nP (t:=22) (e:=3) (x:=(.tmp 89)) (y:=(.const (vI 1))) 5 90 (aG .i64) kr rfl kr (.head _) (bU (iQ (bU lR))) (ev (vS l b.f n)) (ev (vI 1)) kr (r9.o c) d5 ?_;rintro b6 f4 d9 rfl d1
  refine cN 6 d1 (aN 7 (aK 8 kr (cY hr (λ_ h=>a (p0:=(p0.1,p0.2.1,p0.d.1,p0.e.1,H.1.1,H.1.2.1,H.1.d)) (p1:=p1) g.f1.f1 (o.o c) (p.o c) (s.o c) (z.o c) d2 (r5.o c) (r6.o c) (r7.o c) (r8.o c) h) ?_)));rintro k hr _ f9 ⟨S,V,T5,m5,rfl,K,g,M⟩;refine⟨_,rfl,?_⟩;have E:=E.t K;refine⟨aL (aF g E),aN 9 (bO kr (lG (aD (aS 3 g.h (cV hr ?_ ?_)))))⟩<;>intro A hr
  .exact eD (zH hr g.f2.t.f1.f1)
  refine aQ (aR 2 (bD g.t.t.h (iH 2 hr (Nv (p0:=(p0.1,p0.2.1,p0.d.1,p0.e.1,k.1.1,k.1.2.1,k.1.d)) g.f1.f1 ((o.o c).o K) ((p.o c).o K) ((s.o c).o K) ((z.o c).o K) M) ?_)));rintro y5 hr _ g1 ⟨U,Z,T6,m6,rfl,e6,g,d3⟩;exact iC (zH hr g.f2.t.f1.f1)
 refine bV hr ?_ ?_<;>intro A hr
 .refine aJ (cM [(10,λw'=>Inv F w'/\Piece.holds F w' (kB D (Va b l n) 158)/\True)] kr g λd5 _ g=> ?_);have B:=F.le_refl;refine⟨aL (aF g B),aN 0 (cN 1 c0 (aU 2 [2,3] (bZ 4 cH ?_)))⟩;have⟨x5,M,hr⟩:=aM hr;refine nP (t:=22) (e:=3) (x:=(.tmp 111)) (y:=(.const (vI 0))) 5 112 (aG .i64) kr rfl kr (.head _) (bU (iQ (bU lR))) (ev (vS l b.f n)) (ev (vI 0)) kr r9 M ?_;rintro b7 f5 d3 rfl b0;refine cN 6 b0 (aN 7 (aK 8 kr (cY hr (λ_ h=>a (p0:=(p0.1,p0.2.1,p0.d.1,p0.e.1,(p0.f.1.1,p0.f.1.2.1,p0.f.1.d.1,wI (p0.f.1.e+1)),p0.h.1,p0.j)) (p1:=p1) g.f2.f2 o p s z G r5 r6 r7 r8 h) ?_)));rintro k hr _ d6 ⟨S,V,T7,H,rfl,c,g,K⟩;refine⟨_,rfl,?_⟩;have q:=q.t c;have B:=B.t c;refine⟨aL (aF g B),aN 9 (bO kr (lG (aD (aS 3 g.h (cV hr ?_ ?_)))))⟩<;>intro A hr
  .exact eD (zH hr g.f2.t.f1.f1)
  refine aQ (aJ (bV hr ?_ ?_))<;>intro A hr
  .refine aJ (cM [(10,λw'=>Inv H w'/\Piece.holds H w' (kB D (Va b l n) 158)/\True)] kr g λd7 _ g=> ?_);have E:=H.le_refl;refine⟨aL (aF g E),aN 0 (cN 1 (c0.o c) (aU 2 [2,3] (bZ 4 cH ?_)))⟩;have⟨x6,R,hr⟩:=aM hr;refine nP (t:=22) (e:=3) (x:=(.tmp 127)) (y:=(.const (vI 1))) 5 128 (aG .i64) kr rfl kr (.head _) (bU (bU (iQ (bU lR)))) (ev (vS l b.f n)) (ev (vI 1)) kr (r9.o c) R ?_;rintro b8 f6 d4 rfl d1;refine cN 6 d1 (aN 7 (aK 8 kr (cY hr (λ_ h=>a (p0:=(p0.1,p0.2.1,p0.d.1,p0.e.1,k.1.1,k.1.2.1,k.1.d)) (p1:=p1) g.f1.f1 (o.o c) (p.o c) (s.o c) (z.o c) K (r5.o c) (r6.o c) (r7.o c) (r8.o c) h) ?_)));rintro y7 hr _ d8 ⟨U,Z,T8,m8,rfl,e8,g,d2⟩;refine⟨_,rfl,?_⟩;have E:=E.t e8;exact⟨aL (aF g E),aN 9 (bO kr (aV (aT (bL (cF (bL (xC (zH hr g.f2.t.f1.f1))))))))⟩
  refine aQ (aJ (cM [(10,λw'=>Inv H w'/\Piece.holds H w' (kB D (Va b l n) 158)/\True)] kr g λd7 _ g=> ?_));have E:=H.le_refl;refine⟨aL (aF g E),aN 0 (cN 1 (c0.o c) (aU 2 [2,3] (bZ 4 cH ?_)))⟩;have⟨x7,R,hr⟩:=aM hr;refine nP (t:=22) (e:=3) (x:=(.tmp 136)) (y:=(.const (vI 2))) 5 137 (aG .i64) kr rfl kr (.head _) (bU (iQ (bU lR))) (ev (vS l b.f n)) (ev (vI 2)) kr (r9.o c) R ?_;rintro b9 f7 d4 rfl d1;refine cN 6 d1 (aN 7 (aK 8 kr (cY hr (λ_ h=>a (p0:=(p0.1,p0.2.1,p0.d.1,p0.e.1,k.1.1,k.1.2.1,k.1.d)) (p1:=p1) g.f1.f1 (o.o c) (p.o c) (s.o c) (z.o c) K (r5.o c) (r6.o c) (r7.o c) (r8.o c) h) ?_)));rintro y8 hr _ d8 ⟨U,Z,T9,m9,rfl,e9,g,d2⟩;refine⟨_,rfl,?_⟩;have E:=E.t e9;exact⟨aL (aF g E),aN 9 (bO kr (aV (aT (cF (bL (xC (zH hr g.f2.t.f1.f1)))))))⟩
 refine bV hr ?_ ?_<;>intro A hr
 .refine iG 1 g c0 (aS 1 g.h (iH 1 hr (v (p0:=(p0.1,p0.2.1,p0.d.1,p0.e.1,(p0.f.1.1,p0.f.1.2.1,p0.f.1.d.1,wI (p0.f.1.e+1)),p0.h.1,p0.j)) (p1:=p1) (p3:=b) g.f2.f2 o p s z G r5 r6 r7 r9 r8) ?_));rintro K hr _ M ⟨k,B,T10,H,rfl,E,g,c⟩;exact iC (zH hr g.f2.t.f1.f1)
 refine bV hr ?_ ?_<;>intro A hr
 .refine aJ (cM [(21,λw'=>Inv F w'/\Piece.holds F w' (kB D (Va b l n) 158)/\Piece.holds F w' (vK bp0 a1 c1 a2 c2 a3 c3 a4 c4 p0 p0.f.1.1.1 p0.f.1.1.2.1 p0.f.1.1.d p0.f.1.2.1 a5 p0.f.1.d.1 c5 (wI (p0.f.1.e+1)) p0.h.1 p0.j)/\True)] kr g λh0 _ g=> ?_);have E:=F.le_refl;refine⟨aL (aF g E),aU 3 [0,1,2] (bZ 3 nV (aU 3 [4,5,6] (bZ 7 nV (aN 8 (bZ 9 cH (qZ [10,16] kr ae (rW ?_ ?_)))))))⟩
  .refine cY hr (λ_ h=>FN (p1:=p0.2.1) g o p s h) ?_;rintro c hr _ g2 ⟨U,V,g1,rfl,H,g,d9⟩;refine⟨_,rfl,?_⟩;have o:=o.o H;have p:=p.o H;have s:=s.o H;have z:=z.o H;have E:=E.t H;refine⟨aL (aF g E),aU 5 [11,12,13,14,15] (aK 16 kr (pN 16 59 (.agg dW) g λf9 g3 g=>⟨aL (aF g E),aN 17 (aK 18 kr (iV 59 16 164 (.agg (Ve c.2.1)) g λg4 g=>⟨aL (aF g E),aU 2 [19,20] (bO kr (aV (bA 2 hr (xQ (p0:=(p0.1,p0.2.1,p0.d.1,p0.e.1,(p0.f.1.1,p0.f.1.2.1,p0.f.1.d.1,wI (p0.f.1.e+1)),p0.h.1,p0.j)) g.f4.f4 o p s z G d9) ?_)))⟩))⟩))⟩;rintro k hr _ g5 ⟨Z,b0,T11,R,rfl,M,g,S⟩;have q:=(q.t H).t M;have o:=o.o M;refine cX ?_;have g:=g.f3.t;refine lG (bV hr ?_ ?_)<;>intro A hr
   .refine bA 2 hr (rO (p0:=(p0.1,p0.2.1,p0.d.1,p0.e.1,k.1,k.2.1,k.d)) g.f1.f1 o (p.o M) (s.o M) (z.o M) S) ?_;rintro d2 hr _ g6 ⟨d4,d5,T12,d7,rfl,d6,g,d3⟩;exact iC (zH hr g.f2.t.f2.t.f1.f1)
   refine aQ (aJ (bV hr ?_ ?_))<;>intro A hr
   .exact eD (zH hr g.f2.t.f2.t.f1.f1)
   refine aQ (aJ (cM [(12,λw'=>Inv R w'/\Piece.holds R w' (iW bp0 a1 c1 a2 c2 a3 c3 a4 c4 p0 k.1 Z b0 k.2.1 k.d)/\Piece.holds R w' (kB D (Va b l n) 158)/\True)] kr g λg7 _ g=> ?_));have K:=R.le_refl;refine⟨aL (aF g K),aU 3 [0,1,2] (bZ 3 cH (aN 4 (bZ 5 nV (aK 6 kr (cY hr (λ_ h=>FW g o h) ?_)))))⟩;rintro B hr _ g8 ⟨d8,rfl,d1,g⟩;refine⟨_,rfl,?_⟩;have K:=K.t d1;exact⟨aL (aF g K),aU 5 [7,8,9,10,11] (bO kr (aV (bK (aT (cF (bL (xC (zH hr g.f2.t.f2.t.f1.f1))))))))⟩
  refine pN 16 59 (.agg dW) g λf9 g2 g=> ?_;refine⟨aL (aF g E),aK 10 kr (cY hr (λ_ h=>FN (p1:=p0.2.1) g o p s h) ?_)⟩;rintro c hr _ g3 ⟨U,V,g1,rfl,H,g,d9⟩;refine⟨_,rfl,?_⟩;have o:=o.o H;have p:=p.o H;have s:=s.o H;have z:=z.o H;have E:=E.t H;refine⟨aL (aF g E),aU 6 [11,12,13,14,15,17] (aK 18 kr (iV 59 16 164 (.agg (Ve c.2.1)) g.f1 λg4 g=>⟨aL (aF g E),aU 2 [19,20] (bO kr (aV (bA 2 hr (xQ (p0:=(p0.1,p0.2.1,p0.d.1,p0.e.1,(p0.f.1.1,p0.f.1.2.1,p0.f.1.d.1,wI (p0.f.1.e+1)),p0.h.1,p0.j)) g.f4.f4 o p s z G d9) ?_)))⟩))⟩;rintro k hr _ g5 ⟨Z,b0,T11,R,rfl,M,g,S⟩;have q:=(q.t H).t M;have o:=o.o M;refine cX ?_;have g:=g.f3.t;refine lG (bV hr ?_ ?_)<;>intro A hr
  .refine bA 2 hr (rO (p0:=(p0.1,p0.2.1,p0.d.1,p0.e.1,k.1,k.2.1,k.d)) g.f1.f1 o (p.o M) (s.o M) (z.o M) S) ?_;rintro d2 hr _ g6 ⟨d4,d5,T12,d7,rfl,d6,g,d3⟩;exact iC (zH hr g.f2.t.f2.t.f1.f1)
  refine aQ (aJ (bV hr ?_ ?_))<;>intro A hr
  .exact eD (zH hr g.f2.t.f2.t.f1.f1)
  refine aQ (aJ (cM [(12,λw'=>Inv R w'/\Piece.holds R w' (iW bp0 a1 c1 a2 c2 a3 c3 a4 c4 p0 k.1 Z b0 k.2.1 k.d)/\Piece.holds R w' (kB D (Va b l n) 158)/\True)] kr g λg7 _ g=> ?_));have K:=R.le_refl;refine⟨aL (aF g K),aU 3 [0,1,2] (bZ 3 cH (aN 4 (bZ 5 nV (aK 6 kr (cY hr (λ_ h=>FW g o h) ?_)))))⟩;rintro B hr _ g8 ⟨d8,rfl,d1,g⟩;refine⟨_,rfl,?_⟩;have K:=K.t d1;exact⟨aL (aF g K),aU 5 [7,8,9,10,11] (bO kr (aV (bK (aT (cF (bL (xC (zH hr g.f2.t.f2.t.f1.f1))))))))⟩
 refine bV hr ?_ ?_<;>intro A hr
 .refine aJ (cM [(21,λw'=>Inv F w'/\Piece.holds F w' (kB D (Va b l n) 158)/\Piece.holds F w' (vK bp0 a1 c1 a2 c2 a3 c3 a4 c4 p0 p0.f.1.1.1 p0.f.1.1.2.1 p0.f.1.1.d p0.f.1.2.1 a5 p0.f.1.d.1 c5 (wI (p0.f.1.e+1)) p0.h.1 p0.j)/\True)] kr g λd6 _ g=> ?_);have B:=F.le_refl;refine⟨aL (aF g B),aU 3 [0,1,2] (bZ 3 nV (aU 3 [4,5,6] (bZ 7 nV (aN 8 (bZ 9 cH (qZ [10,16] kr ae (rW ?_ ?_)))))))⟩
  .refine cY hr (λ_ h=>FN (p1:=p0.2.1) g o p s h) ?_;rintro c hr _ d1 ⟨E,H,b0,rfl,k,g,V⟩;refine⟨_,rfl,?_⟩;have B:=B.t k;refine⟨aL (aF g B),aU 5 [11,12,13,14,15] (aK 16 kr (pN 22 59 (.agg dW) g λZ d2 g=>⟨aL (aF g B),aN 17 (aK 18 kr (iV 59 22 204 (.agg (Ve c.2.1)) g λd3 g=>⟨aL (aF g B),aU 2 [19,20] (bO kr (aV (bA 2 hr (xQ (p0:=(p0.1,p0.2.1,p0.d.1,p0.e.1,(p0.f.1.1,p0.f.1.2.1,p0.f.1.d.1,wI (p0.f.1.e+1)),p0.h.1,p0.j)) g.f4.f4 (o.o k) (p.o k) (s.o k) (z.o k) G V) ?_)))⟩))⟩))⟩;rintro d5 hr _ d4 ⟨M,R,T13,U,rfl,S,g,K⟩;refine cX ?_;have g:=g.f3.t;refine lG (bV hr ?_ ?_)<;>intro A hr
   .exact eD (zH hr g.f2.t.f2.t.f1.f1)
   exact aQ (eD (zH hr g.f2.t.f2.t.f1.f1))
  refine pN 22 59 (.agg dW) g λZ d1 g=> ?_;refine⟨aL (aF g B),aK 10 kr (cY hr (λ_ h=>FN (p1:=p0.2.1) g o p s h) ?_)⟩;rintro c hr _ d2 ⟨E,H,b0,rfl,k,g,V⟩;refine⟨_,rfl,?_⟩;have B:=B.t k;refine⟨aL (aF g B),aU 6 [11,12,13,14,15,17] (aK 18 kr (iV 59 22 204 (.agg (Ve c.2.1)) g.f1 λd3 g=>⟨aL (aF g B),aU 2 [19,20] (bO kr (aV (bA 2 hr (xQ (p0:=(p0.1,p0.2.1,p0.d.1,p0.e.1,(p0.f.1.1,p0.f.1.2.1,p0.f.1.d.1,wI (p0.f.1.e+1)),p0.h.1,p0.j)) g.f4.f4 (o.o k) (p.o k) (s.o k) (z.o k) G V) ?_)))⟩))⟩;rintro d5 hr _ d4 ⟨M,R,T13,U,rfl,S,g,K⟩;refine cX ?_;have g:=g.f3.t;refine lG (bV hr ?_ ?_)<;>intro A hr
  .exact eD (zH hr g.f2.t.f2.t.f1.f1)
  exact aQ (eD (zH hr g.f2.t.f2.t.f1.f1))
 refine bV hr ?_ ?_<;>intro A hr
 .refine aR 2 (bD g.h (aX 1 (iF 218 75 1 C9 [(5,b.e.1,eB)] g λd6 d7 d8 E g d5=> ?_)));have o:=o.o E;have p:=p.o E;have s:=s.o E;have z:=z.o E;refine bW hr (xQ (p0:=(p0.1,p0.2.1,p0.d.1,p0.e.1,(p0.f.1.1,p0.f.1.2.1,p0.f.1.d.1,wI (p0.f.1.e+1)),p0.h.1,p0.j)) g.f3.f3 o p s z G d5) ?_;rintro c hr _ d9 ⟨S,U,T14,M,rfl,H,g,R⟩;have z:=z.o H;refine cX ?_;have g:=g.f2.t;refine lG (cM [(12,λw'=>Inv M w'/\Piece.holds M w' (iW bp0 a1 c1 a2 c2 a3 c3 a4 c4 p0 c.1 S U c.2.1 c.d)/\Piece.holds M w' (kB D (Va b l n) 158)/\True)] kr g λf9 _ g=> ?_);have K:=M.le_refl;refine⟨aL (aF g K),aU 3 [0,1,2] (bZ 3 cH (aN 4 (bZ 5 nV (aK 6 kr (cY hr (λ_ h=>Ph g z h) ?_)))))⟩;rintro k hr _ g1 ⟨d3,rfl,B,g⟩;refine⟨_,rfl,?_⟩;have K:=K.t B;refine⟨aL (aF g K),aU 5 [7,8,9,10,11] (bO kr (lG (bV hr ?_ ?_)))⟩<;>intro A hr
  .refine bA 1 hr (rO (p0:=(p0.1,p0.2.1,p0.d.1,p0.e.1,c.1,c.2.1,c.d)) g.f1.f1 ((o.o H).o B) ((p.o H).o B) ((s.o H).o B) (z.o B) R) ?_;rintro V hr _ g2 ⟨b0,d1,T15,d4,rfl,d2,g,Z⟩;cases hr;exact iC (zE g.f2.t.f1.f1 ((((q.t E).t H).t B).t d2))
  exact aQ (eD (zH hr g.f2.t.f1.f1))
 refine lP (aR 4 (lA #[vS a1 p0.1 c1,vS a2 p0.2.1.1 c2,vS a3 p0.2.1.2 c3,vS a4 p0.d.1 c4,.int .u64 p0.e.1,vI p0.f.1.1.1,vI p0.f.1.1.2.1,vI p0.f.1.1.d,vB true,vS a5 p0.f.1.d.1 c5,vI (wI (p0.f.1.e+1)),vI p0.h.1,vI p0.j] g.f1 λE g=>aI (aJ (cM [(10,λw'=>Inv F w'/\Piece.holds F w' (vK bp0 a1 c1 a2 c2 a3 c3 a4 c4 p0 p0.f.1.1.1 p0.f.1.1.2.1 p0.f.1.1.d true a5 p0.f.1.d.1 c5 (wI (p0.f.1.e+1)) p0.h.1 p0.j)/\Piece.holds F w' (kB D (Va b l n) 158)/\True)] kr g λH _ g=> ?_))));have c:=F.le_refl;refine⟨aL (aF g c),aU 3 [0,1,2] (bZ 3 cH (aN 4 (bZ 5 nV ?_)))⟩;have⟨k,B,hr⟩:=aM hr;exact aK 6 kr (Kc (d:=245) (t:=32) (t2:=3) (x:=(.tmp 242)) (y:=(.tmp 244)) kr rfl (ev (.int .u64 p0.e.1)) (ev (vI b.2.1)) B ⟨aL (aF g c),aU 3 [7,8,9] (bO kr (aV (aT (xC (zH hr g.f1.t.f1.f1)))))⟩)
theorem Nw{Rl Rm Rk Rn}(k:PX Rl)(l:PY Rm)(a:PV Rk)(c:PW Rn){p0:lL}{p1:iE}{p2:Int}{p3:Te}{T1:List Value}{r:sG}(g:St m (iW bp0 a1 c1 a2 c2 a3 c3 a4 c4 p0 p0.f.1 a5 c5 p0.h.1 p0.j::cT a5 (bM eK p0.f.1.d.1 T1) 75::O) w)(M:RepS C1 m a1 c1 p0.1)(R:RepS aB m a2 c2 p0.2.1.1)(S:RepS C7 m a3 c3 p0.2.1.2)(U:RepS C3 m a4 c4 p0.d.1)(E:OAS a5 p0.2.2.2.2.1.2.2.1.length c5 3 T1)(r5:RepS aB m a6 c6 p1.2.1)(V:RepS C6 m a7 c7 p1.d)(r7:RepS (aG .i64) m a8 c8 p3)(hr:QA N Rl Rm Rk Rn p0 p1 p2 p3=some r):Calls prog 33 #[vP bp0 0,.agg (V8 p1 a6 c6 a7 c7),vI p2,vS a8 p3 c8] w λe w'=>∃s G F m',bN m m' e (vI r.2) (iW bp0 a1 c1 a2 c2 a3 c3 a4 c4 p0 r.1.1 s G r.1.2.1 r.1.d::cT s (bM eK r.1.1.d.1 F) 75::O) w' (OAS s r.1.1.2.2.1.length G 3 F):=by
 refine bH g func33 rfl ntmps33 λq=>aD (eC 5 81 (.agg (V8 p1 a6 c6 a7 c7)) g λY m1 w1 b g D=>eI (aD (aS 3 g.h (cV hr ?_ ?_))))<;>intro A hr
 .refine bA 1 hr (rO (p0:=p0) g.f1.f1 (M.o b) (R.o b) (S.o b) (U.o b) E) ?_;rintro y1 hr _ y ⟨o,p,T2,v,rfl,u,g,n⟩;exact iC (zH hr g.f1.f1)
 refine aQ (aR 3 (bD g.h (aX 3 (lA #[vS a1 p0.1 c1,vS a2 p0.2.1.1 c2,vS a3 p0.2.1.2 c3,vS a4 p0.d.1 c4,.int .u64 p0.e.1,vI p0.f.1.1.1,vI p0.f.1.1.2.1,vI p0.f.1.1.d,vB p0.f.1.2.1,vS a5 p0.f.1.d.1 c5,vI p0.f.1.e,vI p0.h.1,vI (wI (p0.j+1))] g λw3 g=>aI (iG 1 g (D.drop 2) (aX 1 (iP (V.o b) hr ?_)))))));rintro u hr b2 f1 b0 ⟨_,_,rfl,rfl,⟨_,_,rfl,rfl,⟨_,_,rfl,⟨v,z,rfl,r8⟩,⟨o,p,rfl,r9⟩⟩⟩⟩ H;refine dU g H (bX 9 111 (.agg #[vI 0,vT eB,v6,v6]) g λb3 w4 g=>aZ (.agg (V9 u v z o p)) g λw5 g=>aI (iG 1 g D (aS 1 g.h (aS 1 g.h (iH 3 hr (a (p0:=(p0.1,p0.2.1,p0.d.1,p0.e.1,p0.f.1,p0.h.1,wI (p0.j+1))) (p1:=p1) g.f2.f2 (M.o b) (R.o b) (S.o b) (U.o b) E (r5.o b) (V.o b) r9 (r7.o b)) ?_)))));rintro n hr _ w6 ⟨y,B,T3,m3,rfl,Z,g,K⟩;exact aW (aR 3 (bD g.h (aX 3 (lA #[vS a1 p0.1 c1,vS a2 p0.2.1.1 c2,vS a3 p0.2.1.2 c3,vS a4 p0.d.1 c4,.int .u64 p0.e.1,vI n.1.1.1.1,vI n.1.1.1.2.1,vI n.1.1.1.d,vB n.1.1.2.1,vS y n.1.1.d.1 B,vI n.1.1.e,vI n.1.2.1,vI (wI (n.1.d-1))] g λw7 g=>aI (aD (iC (zH hr g.f2.t.f1.f1)))))))
theorem sJ(N:Nat):∀D:Nat,(∀{m:Mem} {O:List Piece} {w:World} {p0:lL} {p1:iE} {p2:lK} {p3:dZ} {p4:Te} {a:Nat} {n:Option Addr} {t:Nat} {o:Option Addr} {u:Nat} {p:Option Addr} {v:Nat} {q:Option Addr} {y:Nat} {s:Option Addr} {E:Nat} {T1:List Value} {z:Option Addr} {F:Nat} {A:Option Addr} {G:Nat} {B:Option Addr} {H:Nat} {a9:Option Addr} {c9:Nat} {Z:Option Addr} {b0:Nat} {r:sG} (g:St m (iW a n t o u p v q y p0 p0.f.1 s E p0.h.1 p0.j::cT s (bM eK p0.f.1.d.1 T1) 75::O) w) (K:RepS C1 m n t p0.1) (M:RepS aB m o u p0.2.1.1) (R:RepS C7 m p v p0.2.1.2) (S:RepS C3 m q y p0.d.1) (c:OAS s p0.2.2.2.2.1.2.2.1.length E 3 T1) (U:RepS aB m z F p1.2.1) (V:RepS C6 m A G p1.d) (Y:RepS C5 m B H p2) (r8:RepS (aG .i64) m a9 c9 p3.f) (r9:RepS (aG .i64) m Z b0 p4) (hr:(pB N D).1 p0 p1 p2 p3 p4=some r),Calls prog 107 #[vP a 0,.agg (V8 p1 z F A G),vS B p2 H,.agg (Va p3 a9 c9),vS Z p4 b0] w λe w'=>∃b l k m',bN m m' e (vI r.2) (iW a n t o u p v q y p0 r.1.1 b l r.1.2.1 r.1.d::cT b (bM eK r.1.1.d.1 k) 75::O) w' (OAS b r.1.1.2.2.1.length l 3 k))/\(∀{m:Mem} {O:List Piece} {w:World} {p0:lL} {p1:iE} {p2:lK} {p3:dZ} {p4:Te} {a:Nat} {n:Option Addr} {t:Nat} {o:Option Addr} {u:Nat} {p:Option Addr} {v:Nat} {q:Option Addr} {y:Nat} {s:Option Addr} {E:Nat} {T1:List Value} {z:Option Addr} {F:Nat} {A:Option Addr} {G:Nat} {B:Option Addr} {H:Nat} {a9:Option Addr} {c9:Nat} {Z:Option Addr} {b0:Nat} {r:sG} (g:St m (iW a n t o u p v q y p0 p0.f.1 s E p0.h.1 p0.j::cT s (bM eK p0.f.1.d.1 T1) 75::O) w) (K:RepS C1 m n t p0.1) (M:RepS aB m o u p0.2.1.1) (R:RepS C7 m p v p0.2.1.2) (S:RepS C3 m q y p0.d.1) (c:OAS s p0.2.2.2.2.1.2.2.1.length E 3 T1) (U:RepS aB m z F p1.2.1) (V:RepS C6 m A G p1.d) (Y:RepS C5 m B H p2) (r8:RepS (aG .i64) m a9 c9 p3.f) (r9:RepS (aG .i64) m Z b0 p4) (hr:(pB N D).2.1 p0 p1 p2 p3 p4=some r),Calls prog 109 #[vP a 0,.agg (V8 p1 z F A G),vS B p2 H,.agg (Va p3 a9 c9),vS Z p4 b0] w λe w'=>∃b l k m',bN m m' e (vI r.2) (iW a n t o u p v q y p0 r.1.1 b l r.1.2.1 r.1.d::cT b (bM eK r.1.1.d.1 k) 75::O) w' (OAS b r.1.1.2.2.1.length l 3 k))/\(∀{m:Mem} {O:List Piece} {w:World} {p0:lL} {p1:iE} {p2:lK} {p3:Int} {p4:Te} {a:Nat} {n:Option Addr} {t:Nat} {o:Option Addr} {u:Nat} {p:Option Addr} {v:Nat} {q:Option Addr} {y:Nat} {s:Option Addr} {E:Nat} {T1:List Value} {z:Option Addr} {F:Nat} {A:Option Addr} {G:Nat} {B:Option Addr} {H:Nat} {a9:Option Addr} {c9:Nat} {r:sG} (g:St m (iW a n t o u p v q y p0 p0.f.1 s E p0.h.1 p0.j::cT s (bM eK p0.f.1.d.1 T1) 75::O) w) (K:RepS C1 m n t p0.1) (M:RepS aB m o u p0.2.1.1) (R:RepS C7 m p v p0.2.1.2) (S:RepS C3 m q y p0.d.1) (c:OAS s p0.2.2.2.2.1.2.2.1.length E 3 T1) (U:RepS aB m z F p1.2.1) (V:RepS C6 m A G p1.d) (Y:RepS C5 m B H p2) (r8:RepS (aG .i64) m a9 c9 p4) (hr:(pB N D).2.2.1 p0 p1 p2 p3 p4=some r),Calls prog 72 #[vP a 0,.agg (V8 p1 z F A G),vS B p2 H,vI p3,vS a9 p4 c9] w λe w'=>∃b l k m',bN m m' e (vI r.2) (iW a n t o u p v q y p0 r.1.1 b l r.1.2.1 r.1.d::cT b (bM eK r.1.1.d.1 k) 75::O) w' (OAS b r.1.1.2.2.1.length l 3 k))/\(∀{m:Mem} {O:List Piece} {w:World} {p0:lL} {p1:iE} {p2:Int} {p3:Te} {a:Nat} {n:Option Addr} {t:Nat} {o:Option Addr} {u:Nat} {p:Option Addr} {v:Nat} {q:Option Addr} {y:Nat} {s:Option Addr} {E:Nat} {T1:List Value} {z:Option Addr} {F:Nat} {A:Option Addr} {G:Nat} {B:Option Addr} {H:Nat} {r:sG} (g:St m (iW a n t o u p v q y p0 p0.f.1 s E p0.h.1 p0.j::cT s (bM eK p0.f.1.d.1 T1) 75::O) w) (K:RepS C1 m n t p0.1) (M:RepS aB m o u p0.2.1.1) (R:RepS C7 m p v p0.2.1.2) (S:RepS C3 m q y p0.d.1) (c:OAS s p0.2.2.2.2.1.2.2.1.length E 3 T1) (U:RepS aB m z F p1.2.1) (V:RepS C6 m A G p1.d) (Y:RepS (aG .i64) m B H p3) (hr:(pB N D).2.2.2 p0 p1 p2 p3=some r),Calls prog 33 #[vP a 0,.agg (V8 p1 z F A G),vI p2,vS B p3 H] w λe w'=>∃b l k m',bN m m' e (vI r.2) (iW a n t o u p v q y p0 r.1.1 b l r.1.2.1 r.1.d::cT b (bM eK r.1.1.d.1 k) 75::O) w' (OAS b r.1.1.2.2.1.length l 3 k))
 |0=>⟨λ_ _ _ _ _ _ _ _ _ _ _ hr=>(by cases hr),λ_ _ _ _ _ _ _ _ _ _ _ hr=>(by cases hr),λ_ _ _ _ _ _ _ _ _ _ hr=>(by cases hr),λ_ _ _ _ _ _ _ _ _ hr=>(by cases hr)⟩
 |D+1=>⟨λg K M R S c U V Y r8 r9 hr=>Nu (sJ N D).1 (sJ N D).2.1 (sJ N D).2.2.1 (sJ N D).2.2.2 g K M R S c U V Y r8 r9 hr,λg K M R S c U V Y r8 r9 hr=>Nt (sJ N D).1 (sJ N D).2.1 (sJ N D).2.2.1 (sJ N D).2.2.2 g K M R S c U V Y r8 r9 hr,λg K M R S c U V Y r8 hr=>Nq (sJ N D).1 (sJ N D).2.1 (sJ N D).2.2.1 (sJ N D).2.2.2 g K M R S c U V Y r8 hr,λg K M R S c U V Y hr=>Nw (sJ N D).1 (sJ N D).2.1 (sJ N D).2.2.1 (sJ N D).2.2.2 g K M R S c U V Y hr⟩
theorem Ob{p0:lL}{p1:iE}{p2:Int}{p3:Te}{T1:List Value}{r:sG}(g:St m (iW bp0 a1 c1 a2 c2 a3 c3 a4 c4 p0 p0.f.1 a5 c5 p0.h.1 p0.j::cT a5 (bM eK p0.f.1.d.1 T1) 75::O) w)(l:RepS C1 m a1 c1 p0.1)(n:RepS aB m a2 c2 p0.2.1.1)(o:RepS C7 m a3 c3 p0.2.1.2)(p:RepS C3 m a4 c4 p0.d.1)(k:OAS a5 p0.2.2.2.2.1.2.2.1.length c5 3 T1)(q:RepS aB m a6 c6 p1.2.1)(s:RepS C6 m a7 c7 p1.d)(t:RepS (aG .i64) m a8 c8 p3)(hr:Cb N p0 p1 p2 p3=some r):Calls prog 33 #[vP bp0 0,.agg (V8 p1 a6 c6 a7 c7),vI p2,vS a8 p3 c8] w λe w'=>∃a c b m',bN m m' e (vI r.2) (iW bp0 a1 c1 a2 c2 a3 c3 a4 c4 p0 r.1.1 a c r.1.2.1 r.1.d::cT a (bM eK r.1.1.d.1 b) 75::O) w' (OAS a r.1.1.2.2.1.length c 3 b):=
 (sJ N N).2.2.2 g l n o p k q s t hr
def AW(N:Nat)(p0:Tr)(p1:nT)(p2:Int)(p3:Tq):Option JI:=
 ((CV N p0).bind λy1=>if(y1 !=0)then(some true) else((EQ N p1).bind λa=>some (!a)):Tk).bind λa=>if a then(some (((0,0,0),false,([]:lY),0),1)) else((GM N p0 2 p3.1 p3.2).bind λa=>if(a.2.2.2.2.2 !=1)then(some (((0,0,0),false,([]:lY),0),18)) else((RZ N p0 a).bind λb=>(GO N p0).bind λy5=>(pX N (p0,y5,p1,p2,((0,0,0),false,([]:lY),0),0,0) ([(2,p3.1,p3.2)])).bind λa=>(Cb N (p0,y5,p1,p2,(a.1.1,a.1.2.1,a.1.2.2.1,a.1.2.2.2),a.2.1,a.2.2) b.1 b.2.1 ([]:Te)).bind λa=>(if(a.1.2.1 !=0)then(some (3,0,a.1.2.1)) else(if(a.2==0)then(some (2,0,0)) else(some (1,a.2,0))):Option yO).bind λo2=>some ((o2,a.1.1.2.1,a.1.1.2.2.1,a.1.1.2.2.2),0)))
theorem Qi{p0:Tr}{p1:nT}{p2:Int}{p3:Tq}{r:JI}(g:St m (O) w)(b:RepS C1 m a1 c1 p0)(l:RepS C3 m a2 c2 p1)(hr:AW N p0 p1 p2 p3=some r):Calls prog 8 #[.agg #[vS a1 p0 c1],.agg #[vS a2 p1 c2],.int .u64 p2,.agg (V2 p3)] w λe w'=>∃c0 c9 m',bN m m' e (.tuple #[.agg (Vq r.1.1.1 r.1.1.2.1 r.1.1.d r.1.2.1 c0 r.1.d.1 c9 r.1.e),vI r.2]) (kR c0 r.1.d.1 c9 75 3::O) w' (RepS C9 m' c0 c9 r.1.d.1):=by
 refine bH g func8 rfl ntmps8 λq=>aD (eC 4 28 (.agg #[vS a1 p0 c1]) g λb1 m1 w1 e1 g k=>eC 5 31 (.agg #[vS a2 p1 c2]) g λb2 m2 w2 e2 g B=>eC 7 38 (.agg (V2 p3)) g λb3 m3 w3 e3 g D=> ?_);have b:=((b.o e1).o e2).o e3;have k:=(k.o e2).o e3;refine bX 8 45 (.agg #[vI 0,vI 0,vI 0,vB false,v6,vI 0]) g λb4 w4 g=>eI (aD (iY 8 hr (λo1 L' w'=>∃H,L'=[(2,.int .u64 p2),(4,vP b1 0),(5,vP b2 0),(7,vP b3 0),(8,vP b4 0),(22,vB o1)]/\m.le H/\St H (kB b4 #[vI 0,vI 0,vI 0,vB false,vf,vI 0] 45::O) w'/\MRow H b1 0 [vS a1 p0 c1]/\RepS C1 H a1 c1 p0/\MRow H b2 0 [vS a2 p1 c2]/\RepS C3 H a2 c2 p1/\MRow H b3 0 [vT p3.1,vT p3.2]) ?_ ?_))
 .rintro o1 hr _ w5 ⟨H,rfl,q,g,k,b,B,l,D⟩;refine aI (aO hr ?_ ?_)<;>intro A hr
  .refine aR 1 (aZ (.agg #[vI 0,vI 0,vI 0,vB false,vf,vI 0]) g λa g=>aW (aT (bL ?_)));cases hr;refine tM 8 45 [9] [vI 1] g.h ?_;have g:=(g.nilroom 75 3).front1;exact⟨none,0,H,rfl,q,g.t,(RepS.nil _ _)⟩
  refine aQ (aD (dU g k (mB 1 g D (mB 1 g (D.drop 1) (bW hr (Qf g b) ?_)))));rintro y3 hr _ w9 ⟨m7,rfl,e6,g⟩;have k:=k.o e6;have b:=b.o e6;refine bX 10 59 (.agg dW) g λb5 d6 g=>aZ (.agg (Ve y3)) g λd7 g=>aI (aJ (aD (aS 1 g.h (cV hr ?_ ?_))))<;>intro A hr
  .refine aR 1 (aZ (.agg #[vI 0,vI 0,vI 0,vB false,vf,vI 0]) g.f1 λa g=>aW (aT (bL ?_)));cases hr;refine tM 8 45 [9] [vI 18] g.h ?_;have g:=(g.nilroom 75 3).front1;exact⟨none,0,m7,rfl,q.t e6,g.t.f1.t,(RepS.nil _ _)⟩
  refine aQ (aD (dU g k (bD g.h (bW hr (Qc (p1:=y3) g b) ?_))));rintro o hr _ d8 ⟨a3,c3,a4,c4,m8,rfl,G,g,M,R⟩;refine aX 4 (bX 11 81 (.agg #[vT eB,v6,v6]) g λb6 d9 g=>aZ (.agg (V8 o.1 a3 c3 a4 c4)) g λe0 g=>eI (cM [(8,λw'=>Inv m8 w'/\True)] kr g λe9 _ g=> ?_));have E:=m8.le_refl;refine tA g E (cN 0 (k.o G) (cN 1 (k.o G) (cN 3 ((B.o e6).o G) (aN 4 (aK 2 kr (cY hr (λ_ h=>VZ g (b.o G) h) ?_))))));rintro y5 hr _ f0 ⟨S,V,U,Y,m9,rfl,e8,g,s,u⟩;refine⟨_,rfl,?_⟩;have E:=E.t e8;refine tA g E (aN 5 (aK 6 kr (sO 47 90 46 (.agg #[vS a1 p0 c1,vS S y5.1 V,vS U y5.2 Y,vS a2 p1 c2,.int .u64 p2,vI 0,vI 0,vI 0,vB false,vf,vI 0,vI 0,vI 0]) g λp f3 g=>tA g E (aN 7 (bO kr (aV (iG 2 g (((D.o e6).o G).o e8) (mB 1 g ((((D.o e6).o G).o e8).drop 1) (aX 1 (iF 54 75 1 C9 [(2,p3.1,p3.2)] g λb8 d4 f4 v g r7=> ?_))))))))));have b:=((b.o G).o e8).o v;have s:=s.o v;have u:=u.o v;have l:=(((l.o e6).o G).o e8).o v;have g:=ZK (f:=eK) (g.nilroom 75 3);refine bW hr (xQ (p0:=(p0,y5,p1,p2,((0,0,0),false,([]:lY),0),0,0)) g.f2 b s u l (OAS.nil 3) r7) ?_;rintro y6 hr _ g0 ⟨a7,c7,T1,d5,rfl,y,g,d1⟩;have b:=b.o y;have s:=s.o y;have u:=u.o y;have l:=l.o y;have M:=((M.o e8).o v).o y;have R:=((R.o e8).o v).o y;refine cX ?_
  have g:=g.f2.t;refine oN 2 (bD g.t.t.t.t.h (iH 1 hr (Ob (p0:=(p0,y5,p1,p2,y6.1,y6.2.1,y6.d)) (p1:=o.1) g.f1.f1 b s u l d1 M R (RepS.nil _ _)) ?_));rintro a hr _ g1 ⟨F,Z,T2,b0,rfl,z,g,d2⟩;have q:=(((((q.t e6).t G).t e8).t v).t y).t z;have M:=M.o z;have R:=R.o z;have b:=b.o z;have s:=s.o z;have u:=u.o z;have l:=l.o z;refine bS (pP 61 32 #[vP p 0,vI a.2] kr rfl (pU func32 rfl ntmps32 (aD (bX 4 45 (.agg #[vI 0,vI 0,vI 0,vB false,v6,vI 0]) g λb9 g2 g=>aI (aJ (cE .normal hr (λo2 L' w'=>∃n,L'=[(0,vP p 0),(4,vP b9 0)]/\m.le n/\St n (kB b9 #[vI 0,vI 0,vI 0,vB false,vf,vI 0] 45::kB p #[vS a1 p0 c1,vS S y5.1 V,vS U y5.2 Y,vS a2 p1 c2,.int .u64 p2,vI o2.1,vI o2.2.1,vI o2.d,vB a.1.1.2.1,vS F a.1.1.d.1 Z,vI a.1.1.e,vI a.1.2.1,vI a.1.d] 90::kB b6 (V8 o.1 a3 c3 a4 c4) 81::kB b5 (Ve y3) 59::kB b4 #[vI 0,vI 0,vI 0,vB false,vf,vI 0] 45::cT F (bM eK a.1.1.d.1 T2) 75::kR S y5.1 V 9 1::kR U y5.2 Y 81 3::kR a3 o.1.2.1 c3 9 1::kR a4 o.1.d c4 111 4::O) w'/\RepS aB n a3 c3 o.1.2.1/\RepS C6 n a4 c4 o.1.d/\RepS C1 n a1 c1 p0/\RepS aB n S V y5.1/\RepS C7 n U Y y5.2/\RepS C3 n a2 c2 p1) ?_ ?_))))))
  .rintro o2 hr _ g3 ⟨n,rfl,q,g,M,R,b,s,u,l⟩;refine aV (aD (aS 3 g.t.h (aZ (.agg (Vq o2.1 o2.2.1 o2.d a.1.1.2.1 F a.1.1.d.1 Z a.1.1.e)) g λg4 g=>aI (aT ?_))));have g:=g.f5;obtain⟨d3,a9,g,r8⟩:=St.freezeM (c:=C9) (f:=eK) g d2 rfl (λ_=>rfl) (λ_ x=>⟨_,_,rfl,rfl,⟨_,_,rfl,rfl,rfl⟩⟩);refine tM 4 45 [] [] g.t.h ⟨_,rfl,aZ (.agg (Vq o2.1 o2.2.1 o2.d a.1.1.2.1 F a.1.1.d.1 Z a.1.1.e)) g.f5 λg5 g=>aW (aT ?_)⟩;exact lE g.h (zH hr g.t.f1.t.f1.t.f1.t.f1.t.f1.t.f1.t.f1.t.f1.t)
  intro o2 hr a9;refine bJ (aD (aS 3 g.t.h (cV hr ?_ ?_)))<;>intro A hr
  .exact eQ 4 (bD g.t.h (aX 4 (lA #[vS a1 p0 c1,vS S y5.1 V,vS U y5.2 Y,vS a2 p1 c2,.int .u64 p2,vI 3,vI 0,vI a.1.2.1,vB a.1.1.2.1,vS F a.1.1.d.1 Z,vI a.1.1.e,vI a.1.2.1,vI a.1.d] g.f1 λd3 g=>cX (oK (a9 hr (zA g.f7.f7.f6.f6.f6.f9.f9.f9.f8.f9))))))
  refine bV hr ?_ ?_<;>intro A hr
  .exact eQ 5 (lA #[vS a1 p0 c1,vS S y5.1 V,vS U y5.2 Y,vS a2 p1 c2,.int .u64 p2,vI 2,vI 0,vI 0,vB a.1.1.2.1,vS F a.1.1.d.1 Z,vI a.1.1.e,vI a.1.2.1,vI a.1.d] g.f1 λd3 g=>cX (oK (a9 hr (zA g.f7.f7.f6.f6.f6.f9.f9.f9.f8.f9))))
  exact eQ 6 (lA #[vS a1 p0 c1,vS S y5.1 V,vS U y5.2 Y,vS a2 p1 c2,.int .u64 p2,vI 1,vI a.2,vI 0,vB a.1.1.2.1,vS F a.1.1.d.1 Z,vI a.1.1.e,vI a.1.2.1,vI a.1.d] g.f1 λd3 g=>cX (oK (a9 hr (zA g.f7.f7.f6.f6.f6.f9.f9.f9.f8.f9))))
 intro o1 hr K;refine dU g k (bW hr (KT g b) ?_);rintro y1 hr _ u ⟨o,rfl,a,g⟩;have B:=(B.o e3).o a;have l:=(((l.o e1).o e2).o e3).o a;refine cW 2 18 hr ?_ ?_<;>intro A hr
 .exact bG 4 (K hr ⟨o,rfl,(((q.t e1).t e2).t e3).t a,g,k.o a,b.o a,B,l,D.o a⟩)
 refine dU g B (bW hr (Nl g l) ?_);rintro s hr _ v ⟨p,rfl,n,g⟩;exact bG 2 (K hr ⟨p,rfl,((((q.t e1).t e2).t e3).t a).t n,g,(k.o a).o n,(b.o a).o n,B.o n,l.o n,(D.o a).o n⟩)
def FE(N:Nat)(p0:AH)(p1:AH)(s1:Int):Tj:=
 if(decide (s1<(List.length p0.2.2.1:Int)))then((bC p0.2.2.1 s1).bind λa=>(bC p1.2.2.1 s1).bind λb=>if(!((a.1==b.1)&&((a.2.1.toList==b.2.1.toList)&&((a.2.2.toList==b.2.2.toList)&&true))))then(some (.inr (.inr (false)))) else(some (.inl (wI (s1+1))))) else(some (.inr (.inl ())))
def FQ(N:Nat)(p0:AH)(p1:AH):Tk:=
 (if(!((p0.1.1==p1.1.1)&&((p0.1.2.1==p1.1.2.1)&&((p0.1.2.2==p1.1.2.2)&&true))))then(some true) else(if(!(p0.2.1==p1.2.1))then(some true) else(if(p0.2.2.2 !=p1.2.2.2)then(some true) else(some ((List.length p0.2.2.1:Int) !=(List.length p1.2.2.1:Int))))):Tk).bind λa=>if a then(some false) else((aC (FE N p0 p1) N 0).bind λa=>(match a with| .inl o2=>some true| .inr (z)=>some z))
theorem Pc{p0:AH}{p1:AH}{r:Bool}(g:St m (O) w)(f:RepS C9 m a1 c1 p0.d.1)(k:RepS C9 m a2 c2 p1.d.1)(hr:FQ N p0 p1=some r):Calls prog 9 #[.agg (Vq p0.1.1 p0.1.2.1 p0.1.d p0.2.1 a1 p0.d.1 c1 p0.e),.agg (Vq p1.1.1 p1.1.2.1 p1.1.d p1.2.1 a2 p1.d.1 c2 p1.e)] w λe w'=>∃m',iL m m' e (vB r) (O) w':=by
 refine bH g func9 rfl ntmps9 λq=>aD (eC 2 45 (.agg (Vq p0.1.1 p0.1.2.1 p0.1.d p0.2.1 a1 p0.d.1 c1 p0.e)) g λl m1 w1 H g a=>eC 3 45 (.agg (Vq p1.1.1 p1.1.2.1 p1.1.d p1.2.1 a2 p1.d.1 c2 p1.e)) g λn F w2 D g b=> ?_);have q:=(q.t H).t D;have f:=(f.o H).o D;have k:=(k.o H).o D;have a:=a.o D;refine eI (aD (iY 28 hr (λR L' w'=>∃o,L'=[(2,vP l 0),(3,vP n 0),(33,vB R)]/\m.le o/\St o (O) w'/\MRow o l 0 [vI p0.1.1,vI p0.1.2.1,vI p0.1.d,vB p0.2.1,vS a1 p0.d.1 c1,vI p0.e]/\RepS C9 o a1 c1 p0.d.1/\MRow o n 0 [vI p1.1.1,vI p1.1.2.1,vI p1.1.d,vB p1.2.1,vS a2 p1.d.1 c2,vI p1.e]/\RepS C9 o a2 c2 p1.d.1) ?_ ?_))
 .rintro R hr _ w3 ⟨o,rfl,q,g,a,f,b,k⟩;refine aI (aO hr ?_ ?_)<;>intro A hr
  .exact eD (zH hr g)
  refine aQ (aJ (iG 1 g (a.drop 4) (mA ?_)));have⟨z,hr,Z⟩:=aM hr;refine eS (.exit 0) (λL' w'=>∃(o2:Unit),∃G,(.inl o2)=z/\L'=[]/\m.le G/\St G (O) w') ?_ ?_
  .rintro _ c ⟨o2,G,rfl,rfl,q,g⟩;have hr:=Z;exact eY (eD (zH hr g))
  intro B;refine eF (λE L' w'=>∃(s1:Int),∃c,aC (FE N p0 p1) E s1=some z/\L'=[(2,vP l 0),(3,vP n 0),(36,vI (p0.2.2.1.length:Int)),(37,vI s1)]/\m.le c/\St c (O) w'/\MRow c l 0 [vI p0.1.1,vI p0.1.2.1,vI p0.1.d,vB p0.2.1,vS a1 p0.d.1 c1,vI p0.e]/\RepS C9 c a1 c1 p0.d.1/\MRow c n 0 [vI p1.1.1,vI p1.1.2.1,vI p1.1.d,vB p1.2.1,vS a2 p1.d.1 c2,vI p1.e]/\RepS C9 c a2 c2 p1.d.1) N ⟨0,o,hr,rfl,q,g,a,f,b,k⟩ ?_;rintro E _ w5 ⟨s1,c,hL,rfl,q,g,a,f,b,k⟩;obtain⟨E,a6,rfl,hr,M,u⟩:=eH hL;refine cG (aO hr ?_ ?_)<;>intro A hr
  .refine aQ (aJ (bJ (cG (cM [(11,λw'=>Inv c w'/\True)] kr g λw6 _ g=> ?_))));have v:=c.le_refl;refine tA g v (aN 0 (cN 1 (a.drop 4) (aN 2 ?_)));have⟨p,V,hr⟩:=aM hr;refine nP (t:=43) (e:=75) (x:=(.tmp 41)) (y:=(.tmp 42)) 3 43 C9 kr rfl kr (.head _) (bU (iQ (bU (bU (iQ (bU lR)))))) (ev (vS a1 p0.d.1 c1)) (ev (vI s1)) kr f V ?_;rintro b3 f1 a4 ⟨_,_,rfl,rfl,⟨_,_,rfl,rfl,rfl⟩⟩ S;refine cN 4 S (aN 5 (cN 6 (b.drop 4) (aN 7 ?_)));have⟨s,Y,hr⟩:=aM hr;refine nP (t:=43) (e:=75) (x:=(.tmp 46)) (y:=(.tmp 47)) 8 48 C9 kr rfl kr (.head _) (bU (iQ (bU (bU (iQ (bU lR)))))) (ev (vS a2 p1.d.1 c2)) (ev (vI s1)) kr k Y ?_;rintro b4 f2 a5 ⟨_,_,rfl,rfl,⟨_,_,rfl,rfl,rfl⟩⟩ U;refine cN 9 U (aK 10 kr (Ih (d:=50) (t:=75) (t2:=75) (x:=(.tmp 44)) (y:=(.tmp 49)) (xs:=(Vk p)) (ys:=(Vk s)) ((p.1==s.1)&&((p.2.1.toList==s.2.1.toList)&&((p.2.2.toList==s.2.2.toList)&&true))) kr rfl (ev (.agg (Vk p))) (ev (.agg (Vk s))) kr kr kr (tA g v (bO kr (aV (aO hr ?_ ?_))))))<;>intro A hr
   .refine bK (aT (cF (bL ?_)));have ho:=u _ (sI hr);subst ho;have hr:=Z;exact mH (zH hr g)
   refine lP (cP 2 ?_);exact dX (zL M hr g)
  refine eE ?_;exact dY (B _ _ (zL u hr g))
 intro R hr K;refine mB 1 g a (mB 1 g b (bS (Ih (d:=10) (t:=42) (t2:=42) (x:=(.tmp 7)) (y:=(.tmp 9)) (xs:=(Vn p0.1)) (ys:=(Vn p1.1)) ((p0.1.1==p1.1.1)&&((p0.1.2.1==p1.1.2.1)&&((p0.1.d==p1.1.d)&&true))) kr rfl (ev (.agg (Vn p0.1))) (ev (.agg (Vn p1.1))) kr kr kr (cW 1 11 hr ?_ ?_))))<;>intro A hr
 .exact bG 22 (K hr ⟨F,rfl,q,g,a,f,b,k⟩)
 refine mB 1 g (a.drop 3) (mB 1 g (b.drop 3) (cW 3 18 hr ?_ ?_))<;>intro A hr
 .exact bG 15 (K hr ⟨F,rfl,q,g,a,f,b,k⟩)
 refine mB 1 g (a.drop 5) (mB 1 g (b.drop 5) (cW 3 25 hr ?_ ?_))<;>intro A hr
 .exact bG 8 (K hr ⟨F,rfl,q,g,a,f,b,k⟩)
 exact mB 1 g (a.drop 4) (mB 2 g (b.drop 4) (bG 3 (K hr ⟨F,rfl,q,g,a,f,b,k⟩)))
def Cz(N:Nat)(p0:Int):Tk:=
 (AX N p0).bind λy1=>some (!y1)
theorem Qx{p0:Int}{r:Bool}(g:St m (O) w)(hr:Cz N p0=some r):Calls prog 74 #[vI p0] w λe w'=>∃m',iL m m' e (vB r) (O) w':=by
 refine bH g func74 rfl ntmps74 λq=>bK (bA 1 hr (WE g) ?_);rintro y1 hr _ c ⟨b,rfl,a,g⟩;exact iC (zH hr g)
def Cu(N:Nat)(p5:Te)(s1:Int):JP:=
 if(decide (s1<(List.length p5:Int)))then((bC p5 s1).bind λa=>(Cz N a).bind λa=>if a then(some (.inr (.inr (s1)))) else(some (.inl (wI (s1+1))))) else(some (.inr (.inl ())))
def Dn(N:Nat)(p0:Tr)(p1:nT)(p2:Int)(p3:BA)(p4:BA)(p5:Te):Option (Int×JI):=
 (MU N p0).bind λy1=>(if(!y1.2.1)then(some true) else((CK N p1).bind λa=>if(!a)then(some true) else(((aC (Cu N p5) N 0).bind λa=>(match a with| .inl a=>some (-1)| .inr (z)=>some z):Td).bind λo2=>some (decide (o2>=0)))):Tk).bind λa=>if a then(some (0,((0,0,0),false,([]:lY),0),1)) else((xS N y1 1 p3 p4).bind λb=>if(b.2.2.2.2.2 !=1)then(some (0,((0,0,0),false,([]:lY),0),18)) else((bC (((cR y1.2.2.1 b.2.2.2.1).getD ((⟨#[]⟩:BA),([]:Tb),([]:mI))).2.2) b.2.2.2.2.1).bind λa=>if((List.length p5:Int) !=(List.length a.2.2.1:Int))then(some (0,((0,0,0),false,([]:lY),0),13)) else((iI (some []:Option (List (Int×eM))) 1 (some 54:eM)).bind λa=>(iI a 2 (some 55:eM)).bind λa=>(iI a 3 (some 56:eM)).bind λa=>(iI a 4 (some 57:eM)).bind λa=>(iI a 5 (some 58:eM)).bind λa=>(iI a 6 (some 59:eM)).bind λa=>(iI a 7 (some 60:eM)).bind λa=>(iI a 8 (some 61:eM)).bind λa=>(iI a 9 (some 62:eM)).bind λa=>(iI a 10 (some 63:eM)).bind λa=>(sK N (y1,p1,p2,(some []:wM),0,0,false,a) ([(1,p3,p4)])).bind λy5=>(CR N (y1,p1,p2,y5.1,y5.2.1,y5.2.2.1,y5.2.2.2,a) b p5).bind λa=>some (a.2.1.2.1,(a.2.1,a.2.2.1,a.2.2.2.1,a.2.2.2.2),0))))
theorem Rt{p0:Tr}{p1:nT}{p2:Int}{p3:BA}{p4:BA}{p5:Te}{r:Int×JI}(g:St m (O) w)(r1:RepS C1 m a1 c1 p0)(B:RepS C3 m a2 c2 p1)(E:RepS (aG .i64) m a3 c3 p5)(hr:Dn N p0 p1 p2 p3 p4 p5=some r):Calls prog 34 #[.agg #[vS a1 p0 c1],.agg #[vS a2 p1 c2],.int .u64 p2,vT p3,vT p4,vS a3 p5 c3] w λe w'=>∃d9 e0 m',bN m m' e (.tuple #[vI r.1,.agg (Vq r.2.1.1.1 r.2.1.1.2.1 r.2.1.1.d r.2.1.2.1 d9 r.2.1.d.1 e0 r.2.1.e),vI r.d]) (kR d9 r.2.1.d.1 e0 75 3::O) w' (RepS C9 m' d9 e0 r.2.1.d.1):=by
 refine bH g func34 rfl ntmps34 λq=>aD (eC 6 28 (.agg #[vS a1 p0 c1]) g λb1 m1 w1 e1 g g6=>eC 7 31 (.agg #[vS a2 p1 c2]) g λb2 m2 w2 e2 g b=>aX 1 (bX 13 45 (.agg #[vI 0,vI 0,vI 0,vB false,v6,vI 0]) g λb3 w3 g=>tH (dU g (g6.o e2) (bW hr (Dw g ((r1.o e1).o e2)) ?_))));rintro y1 hr _ w4 ⟨D,a4,c4,F,b0,V,a5,c5,S,c0,Y,m3,rfl,e3,g,G,p,H,M⟩;have q:=((q.t e1).t e2).t e3;have E:=((E.o e1).o e2).o e3;have b:=b.o e3;have B:=((B.o e1).o e2).o e3;refine eI (aD (iY 14 hr (λo1 L' w'=>∃m4,L'=[(2,.int .u64 p2),(3,vT p3),(4,vT p4),(5,vS a3 p5 c3),(7,vP b2 0),(13,vP b3 0),(15,vP D 0),(33,vB o1)]/\m.le m4/\St m4 (cB D a4 c4 F a5 c5 S y1::kB b3 #[vI 0,vI 0,vI 0,vB false,vf,vI 0] 45::aA F b0 V::aA S c0 Y::O) w'/\RepS (aG .i64) m4 a3 c3 p5/\MRow m4 b2 0 [vS a2 p1 c2]/\RepS C3 m4 a2 c2 p1/\RepS C1 m4 a4 c4 y1.1/\RepS aB m4 a5 c5 y1.e.1/\MapQ cZ C7 true m4 F b0 V y1.d.1/\MapQ aY C8 true m4 S c0 Y y1.f) ?_ ?_))
 .rintro o1 hr _ w5 ⟨m4,rfl,q,g,E,b,B,G,H,p,M⟩;refine aI (aO hr ?_ ?_)<;>intro A hr
  .refine aR 2 (aZ (.agg #[vI 0,vI 0,vI 0,vB false,vf,vI 0]) g.f1 λa g=>aW (aT (bL ?_)));cases hr;refine pG [.tmp 12,.cell 13 45,.tmp 14] [vI 0,.agg #[vI 0,vI 0,vI 0,vB false,vf,vI 0],vI 1] rfl (ResAll.cons (ResAt.tmp kr) (ResAll.cons (ResAt.blk (v:= .agg #[vI 0,vI 0,vI 0,vB false,vf,vI 0]) (o:=0) kr g.h kr) (ResAll.cons (ResAt.tmp kr) ResAll.nil))) ?_;have g:=(g.nilroom 75 3).front1;exact⟨none,0,m4,rfl,q,g.t.f1.t.f1.t.f1.t,(RepS.nil _ _)⟩
  refine aQ (bA 3 hr (LP g.f3.f3 G p H M) ?_);rintro U hr _ s6 ⟨d3,rfl,e6,g⟩;have q:=q.t e6;have p:=p.o e6;refine bX 16 59 (.agg dW) g λb6 s7 g=>aZ (.agg (Ve U)) g λs8 g=>aI (aJ (aD (aS 1 g.h (cV hr ?_ ?_))))<;>intro A hr
  .refine aR 2 (aZ (.agg #[vI 0,vI 0,vI 0,vB false,vf,vI 0]) g.f4 λa g=>aW (aT (bL ?_)));cases hr;refine pG [.tmp 12,.cell 13 45,.tmp 14] [vI 0,.agg #[vI 0,vI 0,vI 0,vB false,vf,vI 0],vI 18] rfl (ResAll.cons (ResAt.tmp kr) (ResAll.cons (ResAt.blk (v:= .agg #[vI 0,vI 0,vI 0,vB false,vf,vI 0]) (o:=0) kr g.h kr) (ResAll.cons (ResAt.tmp kr) ResAll.nil))) ?_;have g:=(g.nilroom 75 3).front1;exact⟨none,0,d3,rfl,q,g.t.f1.t.f1.t.f1.t.f1.t,(RepS.nil _ _)⟩
  refine aQ (aJ (aJ (cM [(17,λw'=>Inv d3 w'/\Piece.holds d3 w' (kB b6 (Ve U) 59)/\Piece.holds d3 w' (cB D a4 c4 F a5 c5 S y1)/\True)] kr g λs9 _ g=> ?_)));have d7:=d3.le_refl;refine⟨aL (aF g d7),aU 5 [0,1,2,3,4] (bZ 5 nV (aN 6 (bZ 7 cH (aN 10 (bZ 11 cH (aK 8 kr (tW (ek:=cZ) (c:=C7) (agg:=true) (k:=U.e.1) (zx:=(eB,([]:Tb),([]:mI))) (zcs:=[vT eB,v2,vd]) (z:=(.agg #[vT eB,v2,vd])) (kt:=9) (et:=81) (d:=51) (t:=65) (x:=(.tmp 48)) (y:=(.tmp 50)) (ok:=false) kr rfl (ev (.map F)) (ev (vT U.e.1)) kr (yA kr) g.t.h p ⟨_,_,rfl,rfl,⟨_,_,rfl,(pO (RepS.nil _ _)),(pO (RepS.nil _ _))⟩⟩ rfl ?_)))))))⟩;rintro n4 ⟨_,_,rfl,rfl,⟨_,_,rfl,⟨a6,c6,rfl,r8⟩,⟨a7,c7,rfl,r9⟩⟩⟩;refine⟨aL (aF g d7),aN 9 ?_⟩;have⟨x2,g9,hr⟩:=aM hr;refine nP (t:=79) (e:=111) (x:=(.tmp 52)) (y:=(.tmp 54)) 12 55 C6 kr rfl kr (.head _) (bU (bU lR)) (ev (.slice a7 (List.length (((cR y1.d.1 U.e.1).getD (eB,([]:Tb),([]:mI))).2.2)) c7)) (ev (vI U.f.1)) kr r9 g9 ?_;rintro b7 f2 n5 ⟨_,_,rfl,rfl,⟨_,_,rfl,rfl,⟨_,_,rfl,⟨a8,c8,rfl,s3⟩,⟨a9,c9,rfl,s4⟩⟩⟩⟩ g8;refine aN 13 (cN 14 (g8.drop 2) (aU 2 [15,16] (bO kr (aV (aO hr ?_ ?_)))))<;>intro A hr
  .refine aR 2 (aZ (.agg #[vI 0,vI 0,vI 0,vB false,vf,vI 0]) g.f4 λa g=>aW (aT (bL ?_)));cases hr;refine pG [.tmp 12,.cell 13 45,.tmp 14] [vI 0,.agg #[vI 0,vI 0,vI 0,vB false,vf,vI 0],vI 13] rfl (ResAll.cons (ResAt.tmp kr) (ResAll.cons (ResAt.blk (v:= .agg #[vI 0,vI 0,vI 0,vB false,vf,vI 0]) (o:=0) kr g.h kr) (ResAll.cons (ResAt.tmp kr) ResAll.nil))) ?_;have g:=(g.nilroom 75 3).front1;exact⟨none,0,d3,rfl,q,g.t.f1.t.f1.t.f1.t.f1.t,(RepS.nil _ _)⟩
  refine aQ (iG 1 g (b.o e6) (aX 1 (bS (pP 64 23 #[vP D 0,.agg #[vS a2 p1 c2],.int .u64 p2] kr rfl (pU func23 rfl ntmps23 (aD (eC 4 31 (.agg #[vS a2 p1 c2]) g λb8 o7 t3 e7 g g7=>aW (iG 1 g g7 (aX 1 (bS (rU (d:=10) (t:=123) kr rfl g λb9 t4 g=>bS (rU (d:=11) (t:=126) kr rfl g λl t5 g=> ?_))))))))))));have⟨q0,h0,hr⟩:=aM hr;refine bS (mN (ek:=cS) (c:=iJ) (agg:=false) (k:=1) (yv:=(some 54:eM)) (cs:=[.func (.func 54) #[] #[]]) (z:= .nilFunc) (v:=(.func (.func 54) #[] #[])) (kt:=3) (et:=124) (t:=126) (x:=(.tmp 11)) (y:=(.const (vI 1))) (u:=(.func 54)) kr (ev (.map (some l))) (ev (vI 1)) (ev (.func (.func 54) #[] #[])) kr (mD kr) g (MapQ.new cS iJ false _ _) rfl rfl h0 λn6 l7 t6 g h3=> ?_);have⟨q3,h1,hr⟩:=aM hr;refine bS (mN (ek:=cS) (c:=iJ) (agg:=false) (k:=2) (yv:=(some 55:eM)) (cs:=[.func (.func 55) #[] #[]]) (z:= .nilFunc) (v:=(.func (.func 55) #[] #[])) (kt:=3) (et:=124) (t:=126) (x:=(.tmp 11)) (y:=(.const (vI 2))) (u:=(.func 55)) kr (ev (.map (some l))) (ev (vI 2)) (ev (.func (.func 55) #[] #[])) kr (mD kr) g h3 rfl rfl h1 λn7 l8 t7 g h4=> ?_);have⟨q4,h2,hr⟩:=aM hr
  refine bS (mN (ek:=cS) (c:=iJ) (agg:=false) (k:=3) (yv:=(some 56:eM)) (cs:=[.func (.func 56) #[] #[]]) (z:= .nilFunc) (v:=(.func (.func 56) #[] #[])) (kt:=3) (et:=124) (t:=126) (x:=(.tmp 11)) (y:=(.const (vI 3))) (u:=(.func 56)) kr (ev (.map (some l))) (ev (vI 3)) (ev (.func (.func 56) #[] #[])) kr (mD kr) g h4 rfl rfl h2 λn8 l9 t8 g h5=> ?_);have⟨q5,f0,hr⟩:=aM hr;refine bS (mN (ek:=cS) (c:=iJ) (agg:=false) (k:=4) (yv:=(some 57:eM)) (cs:=[.func (.func 57) #[] #[]]) (z:= .nilFunc) (v:=(.func (.func 57) #[] #[])) (kt:=3) (et:=124) (t:=126) (x:=(.tmp 11)) (y:=(.const (vI 4))) (u:=(.func 57)) kr (ev (.map (some l))) (ev (vI 4)) (ev (.func (.func 57) #[] #[])) kr (mD kr) g h5 rfl rfl f0 λn9 n0 t9 g h6=> ?_);have⟨q6,f9,hr⟩:=aM hr;refine bS (mN (ek:=cS) (c:=iJ) (agg:=false) (k:=5) (yv:=(some 58:eM)) (cs:=[.func (.func 58) #[] #[]]) (z:= .nilFunc) (v:=(.func (.func 58) #[] #[])) (kt:=3) (et:=124) (t:=126) (x:=(.tmp 11)) (y:=(.const (vI 5))) (u:=(.func 58)) kr (ev (.map (some l))) (ev (vI 5)) (ev (.func (.func 58) #[] #[])) kr (mD kr) g h6 rfl rfl f9 λo0 n1 u0 g h7=> ?_);have⟨q7,g0,hr⟩:=aM hr
  refine bS (mN (ek:=cS) (c:=iJ) (agg:=false) (k:=6) (yv:=(some 59:eM)) (cs:=[.func (.func 59) #[] #[]]) (z:= .nilFunc) (v:=(.func (.func 59) #[] #[])) (kt:=3) (et:=124) (t:=126) (x:=(.tmp 11)) (y:=(.const (vI 6))) (u:=(.func 59)) kr (ev (.map (some l))) (ev (vI 6)) (ev (.func (.func 59) #[] #[])) kr (mD kr) g h7 rfl rfl g0 λo5 n2 u1 g h8=> ?_);have⟨q8,g1,hr⟩:=aM hr;refine bS (mN (ek:=cS) (c:=iJ) (agg:=false) (k:=7) (yv:=(some 60:eM)) (cs:=[.func (.func 60) #[] #[]]) (z:= .nilFunc) (v:=(.func (.func 60) #[] #[])) (kt:=3) (et:=124) (t:=126) (x:=(.tmp 11)) (y:=(.const (vI 7))) (u:=(.func 60)) kr (ev (.map (some l))) (ev (vI 7)) (ev (.func (.func 60) #[] #[])) kr (mD kr) g h8 rfl rfl g1 λo6 n3 u2 g h9=> ?_);have⟨q9,g2,hr⟩:=aM hr;refine bS (mN (ek:=cS) (c:=iJ) (agg:=false) (k:=8) (yv:=(some 61:eM)) (cs:=[.func (.func 61) #[] #[]]) (z:= .nilFunc) (v:=(.func (.func 61) #[] #[])) (kt:=3) (et:=124) (t:=126) (x:=(.tmp 11)) (y:=(.const (vI 8))) (u:=(.func 61)) kr (ev (.map (some l))) (ev (vI 8)) (ev (.func (.func 61) #[] #[])) kr (mD kr) g h9 rfl rfl g2 λl1 k6 u3 g k0=> ?_);have⟨r0,g3,hr⟩:=aM hr
  refine bS (mN (ek:=cS) (c:=iJ) (agg:=false) (k:=9) (yv:=(some 62:eM)) (cs:=[.func (.func 62) #[] #[]]) (z:= .nilFunc) (v:=(.func (.func 62) #[] #[])) (kt:=3) (et:=124) (t:=126) (x:=(.tmp 11)) (y:=(.const (vI 9))) (u:=(.func 62)) kr (ev (.map (some l))) (ev (vI 9)) (ev (.func (.func 62) #[] #[])) kr (mD kr) g k0 rfl rfl g3 λl2 k7 u4 g k2=> ?_);have⟨d8,g4,hr⟩:=aM hr;refine bS (mN (ek:=cS) (c:=iJ) (agg:=false) (k:=10) (yv:=(some 63:eM)) (cs:=[.func (.func 63) #[] #[]]) (z:= .nilFunc) (v:=(.func (.func 63) #[] #[])) (kt:=3) (et:=124) (t:=126) (x:=(.tmp 11)) (y:=(.const (vI 10))) (u:=(.func 63)) kr (ev (.map (some l))) (ev (vI 10)) (ev (.func (.func 63) #[] #[])) kr (mD kr) g k2 rfl rfl g4 λl3 k8 u5 g e8=>aX 2 (bS (sO 14 128 13 (.agg #[vP D 0,vS a2 p1 c2,.int .u64 p2,.map (some b9),vI 0,vI 0,vB false,.map (some l)]) g λd4 u6 g=>aW (aT (lJ [6] [vP d4 0] ⟨_,rfl,aW (aR 4 (iF 69 75 1 C9 [(1,p3,p4)] g λl6 o8 u7 R g k3=>bW hr (FG (p0:=(y1,p1,p2,(some []:wM),0,0,false,d8)) g.f1.f2.f3.f7.f7.f7 (((G.o e6).o e7).o R) ((p.o e7).o R) (((H.o e6).o e7).o R) (((M.o e6).o e7).o R) (((B.o e6).o e7).o R) (MapQ.new aY cO false _ _) (e8.o R) k3) ?_))⟩)))));rintro y5 hr _ u9 ⟨l4,k9,o9,rfl,Z,g,k4⟩;refine cX ?_;have g:=g.f6.t
  refine oN 1 (bD g.t.t.t.t.t.t.h (iH 1 hr (Cg (p0:=(y1,p1,p2,y5.1,y5.2.1,y5.d.1,y5.e,d8)) (p1:=U) g.f5.f5.f5.f5.f5.f5 ((((G.o e6).o e7).o R).o Z) (((p.o e7).o R).o Z) ((((H.o e6).o e7).o R).o Z) ((((M.o e6).o e7).o R).o Z) ((((B.o e6).o e7).o R).o Z) k4 ((e8.o R).o Z) ((((E.o e6).o e7).o R).o Z)) ?_));rintro a hr _ v0 ⟨l5,l0,d1,d2,d5,rfl,g5,g,s5,k5⟩;refine aZ (.agg (Vq a.2.1.1 a.2.1.2.1 a.2.1.d a.d.1 d1 a.e.1 d2 a.f)) g.f8 λv1 g=>aI (aJ (cM [(7,λw'=>Inv d5 w'/\True),(5,λw'=>Inv d5 w'/\Piece.holds d5 w' (kB b3 (Vq a.2.1.1 a.2.1.2.1 a.2.1.d a.d.1 d1 a.e.1 d2 a.f) 45)/\True)] kr g λv3 _ g=> ?_));have d6:=d5.le_refl;refine⟨lI (aF g d6) (aF g d6),aU 2 [0,1] (rF 3 76 2 77 1 (vI a.2.1.2.1) (.tail _ (.head _)) cH (rF 45 13 3 78 0 (.agg (Vq a.2.1.1 a.2.1.2.1 a.2.1.d a.d.1 d1 a.e.1 d2 a.f)) (.tail _ (.head _)) cH (aN 4 (aK 5 kr (iV 45 13 78 (.agg (Vq a.2.1.1 a.2.1.2.1 a.2.1.d a.d.1 d1 a.e.1 d2 a.f)) g λv4 g=>⟨rJ (aF g d6),aN 6 (bO kr (aV (aT ?_)))⟩)))))⟩;cases hr;refine pG [.tmp 12,.cell 13 45,.tmp 14] [vI a.2.1.2.1,.agg (Vq a.2.1.1 a.2.1.2.1 a.2.1.d a.d.1 d1 a.e.1 d2 a.f),vI 0] rfl (ResAll.cons (ResAt.tmp kr) (ResAll.cons (ResAt.blk (v:= .agg (Vq a.2.1.1 a.2.1.2.1 a.2.1.d a.d.1 d1 a.e.1 d2 a.f)) (o:=0) kr g.h kr) (ResAll.cons (ResAt.tmp kr) ResAll.nil))) ?_
  exact(zE g.t.f1.t.f1.t.f1.t.f1.t.f1.t.f1.t.f1.t ((((q.t e7).t R).t Z).t g5))
 intro o1 hr K;refine aS 3 g.t.t.h (cW 2 25 hr ?_ ?_)<;>intro A hr
 .exact bG 8 (K hr ⟨m3,rfl,q,g.f1.f1.f3.f3,E,b,B,G,H,p,M⟩)
 refine dU g b (bW hr (Ca g B) ?_);rintro y2 hr _ w6 ⟨m5,rfl,a,g⟩;refine cW 3 30 hr ?_ ?_<;>intro A hr
 .exact bG 3 (K hr ⟨m5,rfl,q.t a,g.f1.f1.f3.f3,E.o a,b.o a,B.o a,G.o a,H.o a,p.o a,M.o a⟩)
 refine aX 1 (bS (pP 32 73 #[vS a3 p5 c3,.func (.func 74) #[] #[]] kr rfl (pU func73 rfl ntmps73 (bK (aR 2 ?_)))));have⟨o2,hr,j1⟩:=aM hr;refine bS (pP 7 112 #[vS a3 p5 c3,.func (.func 74) #[] #[]] kr rfl (TA (λv' w'=>∃R,v'=(vI o2)/\m.le R/\St R (cB D a4 c4 F a5 c5 S y1::kB b3 #[vI 0,vI 0,vI 0,vB false,vf,vI 0] 45::aA F b0 V::aA S c0 Y::O) w'/\RepS (aG .i64) R a3 c3 p5/\MRow R b2 0 [vS a2 p1 c2]/\RepS C3 R a2 c2 p1/\RepS C1 R a4 c4 y1.1/\RepS aB R a5 c5 y1.e.1/\MapQ cZ C7 true R F b0 V y1.d.1/\MapQ aY C8 true R S c0 Y y1.f) ?_ ?_))
 .have hr:=j1;rintro _ l ⟨R,rfl,q,g,E,b,B,G,H,p,M⟩;refine⟨_,rfl,?_⟩;exact aW (aT (lJ [4] [vB (decide (o2>=0))] ⟨_,rfl,bG 1 (K hr ⟨R,rfl,q,g.f3.f3.f3.f3,E,b,B,G,H,p,M⟩)⟩))
 refine pU func112 rfl ntmps112 (cG (bK (bJ ?_)));have⟨d2,hr,j2⟩:=aM hr;refine eS (.exit 0) (λL' w'=>∃(o3:Unit),∃U,(.inl o3)=d2/\L'=[]/\m.le U/\St U (cB D a4 c4 F a5 c5 S y1::kB b3 #[vI 0,vI 0,vI 0,vB false,vf,vI 0] 45::aA F b0 V::aA S c0 Y::O) w'/\RepS (aG .i64) U a3 c3 p5/\MRow U b2 0 [vS a2 p1 c2]/\RepS C3 U a2 c2 p1/\RepS C1 U a4 c4 y1.1/\RepS aB U a5 c5 y1.e.1/\MapQ cZ C7 true U F b0 V y1.d.1/\MapQ aY C8 true U S c0 Y y1.f) ?_ ?_
 .rintro _ l ⟨o3,U,rfl,rfl,q,g,E,b,B,G,H,p,M⟩;have hr:=j2;cases hr;exact eY (eD ⟨_,rfl,⟨U,rfl,q,g.f3.f3.f3.f3,E,b,B,G,H,p,M⟩⟩)
 intro d3;refine eF (λk1 L' w'=>∃(s1:Int),∃Z,aC (Cu N p5) k1 s1=some d2/\L'=[(0,vS a3 p5 c3),(1,.func (.func 74) #[] #[]),(7,vI (p5.length:Int)),(8,vI s1)]/\m.le Z/\St Z (cB D a4 c4 F a5 c5 S y1::kB b3 #[vI 0,vI 0,vI 0,vB false,vf,vI 0] 45::aA F b0 V::aA S c0 Y::O) w'/\RepS (aG .i64) Z a3 c3 p5/\MRow Z b2 0 [vS a2 p1 c2]/\RepS C3 Z a2 c2 p1/\RepS C1 Z a4 c4 y1.1/\RepS aB Z a5 c5 y1.e.1/\MapQ cZ C7 true Z F b0 V y1.d.1/\MapQ aY C8 true Z S c0 Y y1.f) N ⟨0,m5,hr,rfl,q.t a,g.f1.f1.f3.f3,E.o a,b.o a,B.o a,G.o a,H.o a,p.o a,M.o a⟩ ?_;rintro k1 _ w9 ⟨s1,Z,hL,rfl,q,g,E,b,B,G,H,p,M⟩;obtain⟨k1,d7,rfl,hr,d4,d1⟩:=eH hL;refine cG (aO hr ?_ ?_)<;>intro A hr
 .refine aQ (aJ (bJ (bK (aR 3 (iP E hr ?_)))));rintro x1 hr b5 f1 d6 rfl d5;refine dU g d5 (bW hr (Qx g) ?_);rintro y3 hr _ d8 ⟨m9,rfl,l,g⟩;refine aI (aO hr ?_ ?_)<;>intro A hr
  .refine bK (aT (cF (bL ?_)));have ho:=d1 _ (sI hr);subst ho;have hr:=j2;obtain rfl:=sI hr;exact mH ⟨_,rfl,⟨m9,rfl,q.t l,g.f3.f3.f3.f3,E.o l,b.o l,B.o l,G.o l,H.o l,p.o l,M.o l⟩⟩
  refine lP (cP 2 ?_);exact dX (zL d4 hr g.f3.f3.f3.f3)
 refine eE ?_;exact dY (d3 _ _ (zL d1 hr g.f3.f3.f3.f3))
def WD(N:Nat):Tk:=
 (zD N ([((⟨#[97,46,115,114,99]⟩:BA),(⟨#[112,97,99,107,97,103,101,32,112,59,32,102,117,110,99,32,102,40,120,41,32,61,32,120,32,42,32,120,59,32,116,101,115,116,32,116,32,61,32,102,40,50,41,32,61,61,32,52,59]⟩:BA))]) ([]:nT) 0 ((⟨#[112]⟩:BA),(⟨#[116]⟩:BA))).bind λy1=>(Dn N ([((⟨#[97,46,115,114,99]⟩:BA),(⟨#[112,97,99,107,97,103,101,32,112,59,32,102,117,110,99,32,102,40,120,41,32,61,32,120,32,42,32,120,59,32,116,101,115,116,32,116,32,61,32,102,40,50,41,32,61,61,32,52,59]⟩:BA))]) ([]:nT) 0 (⟨#[112]⟩:BA) (⟨#[102]⟩:BA) ([(3:Int)])).bind λa=>(if(y1.2==0)then(if(a.2.2==0)then(if((y1.1.1.1==1)&&((y1.1.1.2.1==1)&&((y1.1.1.2.2==0)&&true)))then(if(y1.1.2.2.2==7)then(if((List.length y1.1.2.2.1:Int)==2)then(some (a.1==9)) else(some false)) else(some false)) else(some false)) else(some false)) else(some false):Tk).bind λa=>some a
theorem Pz{r:Bool}(g:St m (O) w)(hr:WD N=some r):Calls prog 10 #[] w λe w'=>∃m',iL m m' e (vB r) (O) w':=by
 refine bH g func10 rfl ntmps10 λq=>bK (aR 1 (iF 8 95 1 C1 [(ba,OT)] g λf V w1 H g b=>aX 1 (bX 1 28 (.agg #[v6]) g λE w2 g=>aZ (.agg #[.slice (aP f) (List.length ([(ba,OT)])) 1]) g λw3 g=>aI (aD (bD g.h (iH 2 hr (Dd (p3:=(be,bf)) g b (RepS.nil _ _)) ?_))))));rintro y1 hr _ w4 ⟨n,o,Y,rfl,B,g,c⟩;refine aX 3 (bX 2 45 (.agg #[vI 0,vI 0,vI 0,vB false,v6,vI 0]) g λF w5 g=>aZ (.agg (Vq y1.1.1.1 y1.1.1.2.1 y1.1.1.d y1.1.2.1 n y1.1.d.1 o y1.1.e)) g λw6 g=>tH (bD g.t.t.h (aX 1 (iF 20 3 1 (aG .i64) [(3:Int)] g λU Z w7 v g M=>bW hr (Rt g ((b.o B).o v) (RepS.nil _ _) M) ?_))));rintro a hr _ w8 ⟨s,u,p,rfl,D,g,l⟩;have q:=(((q.t H).t B).t v).t D;have b:=((b.o B).o v).o D;have c:=(c.o v).o D;refine aX 4 (bX 5 45 (.agg #[vI 0,vI 0,vI 0,vB false,v6,vI 0]) g λG w9 g=>aX 1 (aZ (.agg (Vq a.2.1.1.1 a.2.1.1.2.1 a.2.1.1.d a.2.1.2.1 s a.2.1.d.1 u a.2.1.e)) g λR g=>eJ 1 ?_));have g:=g.f2.t
 refine aV (aD (iY 28 hr (λz L' w'=>∃k,L'=[(0,vB z)]/\m.le k/\St k (kB G (Vq a.2.1.1.1 a.2.1.1.2.1 a.2.1.1.d a.2.1.2.1 s a.2.1.d.1 u a.2.1.e) 45::kB F (Vq y1.1.1.1 y1.1.1.2.1 y1.1.1.d y1.1.2.1 n y1.1.d.1 o y1.1.e) 45::kB E #[.slice (aP f) (List.length ([(ba,OT)])) 1] 28::kR s a.2.1.d.1 u 75 3::kR n y1.1.d.1 o 75 3:: .room (aP f) (List.length ([(ba,OT)])) 1 95 2::O) w'/\RepS C9 k s u a.2.1.d.1/\RepS C9 k n o y1.1.d.1/\RepS C1 k (aP f) 1 ([(ba,OT)])) ?_ ?_))
 .rintro z hr _ S ⟨k,rfl,q,g,l,c,b⟩;obtain rfl:=sI hr;exact aI (pK (zA g.t.t.t.t.t.t))
 intro z hr K;refine cW 3 27 hr ?_ ?_<;>intro A hr
 .refine cW 4 31 hr ?_ ?_<;>intro A hr
  .refine aS 1 g.t.t.h (aX 1 (bS (YQ (d:=35) (t:=42) (t2:=42) (x:=(.tmp 33)) (y:=(.tmp 34)) (xs:=(Vn y1.1.1)) (ys:=(Vo 1 1 0)) ((y1.1.1.1==1)&&((y1.1.1.2.1==1)&&((y1.1.1.d==0)&&true))) kr rfl (ev (.agg (Vn y1.1.1))) (ev (.agg (Vo 1 1 0))) kr kr kr (cW 2 37 hr ?_ ?_))))<;>intro A hr
   .refine aS 1 g.t.t.h (cW 3 42 hr ?_ ?_)<;>intro A hr
    .refine aS 1 g.t.t.h (cW 4 48 hr ?_ ?_)<;>intro A hr
     .exact bG 4 (K hr (zA g.f5.f4.f3.f5.f5.f5))
     exact bG 4 (K hr (zA g.f5.f4.f3.f5.f5.f5))
    exact bG 10 (K hr (zA g.f5.f4.f3.f5.f5.f5))
   exact bG 15 (K hr (zA g.f5.f4.f3.f5.f5.f5))
  exact bG 21 (K hr (zA g.f5.f4.f3.f5.f5.f5))
 exact bG 25 (K hr (zA g.f5.f4.f3.f5.f5.f5))
def ES(N:Nat)(y1:T19)(a:Tr)(s1:Int):Tj:=
 if(decide (s1<(List.length a:Int)))then((bC a s1).bind λb=>(zD N y1.2.1 y1.2.2.1 y1.2.2.2 b).bind λa=>(AW N y1.2.1 y1.2.2.1 y1.2.2.2 b).bind λy5=>(if(a.2 !=y5.2)then(some true) else((FQ N (a.1.1,a.1.2.1,a.1.2.2.1,a.1.2.2.2) (y5.1.1,y5.1.2.1,y5.1.2.2.1,y5.1.2.2.2)).bind λa=>some (!a)):Tk).bind λo2=>if o2 then(some (.inr (.inr (false)))) else(some (.inl (wI (s1+1))))) else(some (.inr (.inl ())))
def QJ(N:Nat)(p0:Te):Tk:=
 (RX N (p0,0)).bind λy1=>(RU N y1.2.1).bind λa=>(LY N y1.1).bind λb=>(iK 32 a ([b.2])).bind λa=>(aC (ES N y1 a) N 0).bind λa=>(match a with| .inl a=>(WD N).bind λa=>some a| .inr (z)=>some z)
theorem Oa{p0:Te}{r:Bool}(g:St m (O) w)(r1:RepS (aG .i64) m a1 c1 p0)(hr:QJ N p0=some r):Calls prog 3 #[vS a1 p0 c1] w λe w'=>∃m',iL m m' e (vB r) (O) w':=by
 refine bH g func3 rfl ntmps3 λq=>bK (aR 2 (bS (sO 15 25 14 (.agg #[vS a1 p0 c1,vI 0]) g λS w1 g=>aW (bA 1 hr (Qa (p0:=(p0,0)) g r1) ?_))));rintro y1 hr _ w2 ⟨a2,c2,c,f,k,l,m2,rfl,e2,g,r2,n,p⟩;refine aX 4 (bX 4 28 (.agg #[v6]) g λb2 w3 g=>bX 5 31 (.agg #[v6]) g λb3 w4 g=>aZ (.agg #[vS c y1.2.1 f]) g.f1 λw5 g=>aZ (.agg #[vS k y1.d.1 l]) g.f1 λw6 g=>eI (aD (bD g.t.h (bW hr (Py g n) ?_))));rintro y2 hr _ w7 ⟨a5,c5,m3,rfl,e3,g,r5⟩;refine iH 1 hr (Qn (p0:=y1.1) g.f5 (r2.o e3)) ?_;rintro F hr _ w8 ⟨H,U,m4,rfl,e4,g,x⟩;refine iF 26 38 1 C1 [F.2] g λb4 m5 w9 e5 g r7=>oB 27 35 35 38 32 23 26 g.f2 (.inl kr) ((r5.o e4).o e5) r7.src hr λo hr y z m6 d7 e6 g D=>eJ 2 ?_;have g:=g.f1.t;refine aV (bJ ?_);have⟨b9,hr,j1⟩:=aM hr;refine eS (.exit 0) (λL' w'=>∃(o1:Unit),∃Z,(.inl o1)=b9/\L'=[]/\m.le Z/\St Z (kB S (V1 F.1 H U) 25::kB b3 #[vS k y1.d.1 l] 31::kB b2 #[vS c y1.2.1 f] 28::kR y o z 38 2::kR c y1.2.1 f 95 2::kR k y1.d.1 l 107 2::O) w'/\RepS (aG .i64) Z H U F.1.1/\RepS C3 Z k l y1.d.1/\RepS C1 Z c f y1.2.1) ?_ ?_
 .rintro _ u ⟨o1,Z,rfl,rfl,q,g,x,p,n⟩;have hr:=j1;refine eY (aD (bW hr (Pz g) ?_));rintro s hr _ v ⟨b,rfl,a,g⟩;refine eJ 1 ?_;have g:=g.f3.t;obtain rfl:=sI hr;exact nX (zA g.t.t.t.t.t)
 intro c0;refine eF (λk1 L' w'=>∃(s1:Int),∃v,aC (ES N y1 o) k1 s1=some b9/\L'=[(4,vP b2 0),(5,vP b3 0),(6,.int .u64 y1.e),(27,vS y o z),(28,vI (o.length:Int)),(29,vI s1)]/\m.le v/\St v (kB S (V1 F.1 H U) 25::kB b3 #[vS k y1.d.1 l] 31::kB b2 #[vS c y1.2.1 f] 28::kR y o z 38 2::kR c y1.2.1 f 95 2::kR k y1.d.1 l 107 2::O) w'/\RepS C1 v y z o/\RepS (aG .i64) v H U F.1.1/\RepS C3 v k l y1.d.1/\RepS C1 v c f y1.2.1) N ⟨0,m6,hr,rfl,((((q.t e2).t e3).t e4).t e5).t e6,g.f5.f5.f2.f5.f5.f5,D,(x.o e5).o e6,(((p.o e3).o e4).o e5).o e6,(((n.o e3).o e4).o e5).o e6⟩ ?_;rintro k1 _ d8 ⟨s1,v,hL,rfl,q,g,D,x,p,n⟩;obtain⟨k1,d6,rfl,hr,d1,b0⟩:=eH hL;refine cG (aO hr ?_ ?_)<;>intro A hr
 .refine aQ (aJ (bJ (aD (iP D hr ?_))));rintro E hr b5 f1 d5 ⟨_,_,rfl,rfl,rfl⟩ d2;refine dU g d2 (bX 8 38 (.agg (V3 eB eB)) g λb6 d9 g=>aZ (.agg (V2 E)) g λe0 g=>aI (aD (bD g.t.t.t.h (bD g.t.t.h (aS 1 g.h (bW hr (Dd (p3:=E) g n p) ?_))))));rintro a hr _ e1 ⟨M,V,m9,rfl,u,g,r9⟩;have n:=n.o u;have p:=p.o u;refine aX 3 (bX 9 45 (.agg #[vI 0,vI 0,vI 0,vB false,v6,vI 0]) g λb7 f0 g=>aZ (.agg (Vq a.1.1.1 a.1.1.2.1 a.1.1.d a.1.2.1 M a.1.d.1 V a.1.e)) g λf4 g=>tH (bD g.t.t.t.t.t.h (bD g.t.t.t.t.h (aS 1 g.t.t.h (bW hr (Qi (p3:=E) g n p) ?_)))));rintro y5 hr _ f7 ⟨R,Y,d3,rfl,s,g,G⟩;have r9:=r9.o s
  refine aX 3 (bX 11 45 (.agg #[vI 0,vI 0,vI 0,vB false,v6,vI 0]) g λb8 f9 g=>aZ (.agg (Vq y5.1.1.1 y5.1.1.2.1 y5.1.1.d y5.1.2.1 R y5.1.d.1 Y y5.1.e)) g λg0 g=>tH (iY 9 hr (λo2 L' w'=>∃b,L'=[(4,vP b2 0),(5,vP b3 0),(6,.int .u64 y1.e),(27,vS y o z),(28,vI (o.length:Int)),(29,vI s1),(57,vB o2)]/\m.le b/\St b (kB b8 (Vq y5.1.1.1 y5.1.1.2.1 y5.1.1.d y5.1.2.1 R y5.1.d.1 Y y5.1.e) 45::kB b7 (Vq a.1.1.1 a.1.1.2.1 a.1.1.d a.1.2.1 M a.1.d.1 V a.1.e) 45::kB b6 (V2 E) 38::kB S (V1 F.1 H U) 25::kB b3 #[vS k y1.d.1 l] 31::kB b2 #[vS c y1.2.1 f] 28::kR R y5.1.d.1 Y 75 3::kR M a.1.d.1 V 75 3::kR y o z 38 2::kR c y1.2.1 f 95 2::kR k y1.d.1 l 107 2::O) w'/\RepS C1 b y z o/\RepS C9 b R Y y5.1.d.1/\RepS C9 b M V a.1.d.1/\RepS (aG .i64) b H U F.1.1/\RepS C3 b k l y1.d.1/\RepS C1 b c f y1.2.1) ?_ ?_))
  .rintro o2 hr _ B ⟨b,rfl,q,g,D,G,r9,x,p,n⟩;refine aI (aO hr ?_ ?_)<;>intro A hr
   .refine aR 1 (cX ?_);have g:=g.f8.t;refine aV (aT (cF (bL ?_)));have ho:=b0 _ (sI hr);subst ho;have hr:=j1;cases hr;exact mH (zA g.t.t.t.t.t.t.t.t.t.t)
   refine lP (cP 2 ?_);exact dX (zL d1 hr g.t.t.t.f3.t.f3.t.f5.f5.f5.f5.f5.f5)
  intro o2 hr K;refine cW 4 52 hr ?_ ?_<;>intro A hr
  .exact bG 5 (K hr ⟨d3,rfl,(q.t u).t s,g.f10.f10.f10.f6.f5.f10.f10.f10.f10.f10.f10,(D.o u).o s,G,r9,(x.o u).o s,p.o s,n.o s⟩)
  refine bD g.t.t.h (bD g.h (bW hr (Pc (p0:=a.1) (p1:=y5.1) g r9 G) ?_));rintro y6 hr _ g1 ⟨d4,rfl,B,g⟩;exact bG 2 (K hr ⟨d4,rfl,((q.t u).t s).t B,g.f10.f10.f10.f6.f5.f10.f10.f10.f10.f10.f10,((D.o u).o s).o B,G.o B,r9.o B,((x.o u).o s).o B,(p.o s).o B,(n.o s).o B⟩)
 refine eE ?_;exact dY (c0 _ _ (zL b0 hr g.f5.f5.f5.f5.f5.f5))
end
section
open Go Go.Dc Go.Proofs
theorem ZG{N:Nat}(a:30<N):CZ N=some (some kdL):=by
 unfold CZ
 rw[show Nat.blt 30 N=true by simpa[Nat.blt_eq] using a];rfl
end
section
open Go Go.Dc
theorem mG(s:BA):s.data.toList.length=s.size:=by simp
theorem pD{s:BA}{i:Nat}(h:i<s.data.toList.length):lH s (i:Int)=some (s.data.toList[i]):=by
 have h':i<s.size:=by simpa using h
 rw[ZN h']
 simp[ByteArray.getElem_eq_getElem_data]
def tw(p:UInt8->Bool)(l:List UInt8)(a:Nat):Nat:=a+((l.drop a).takeWhile p).length
variable {p:UInt8->Bool} {l:List UInt8} {a:Nat}
theorem rE(h:a<=l.length):a<=tw p l a/\tw p l a<=l.length:=by
 have:=(dL p (l:=l.drop a)).length_le
 simp only[kO] at this
 unfold tw;omega
theorem BJ(h:a<l.length)(b:p l[a]=true):tw p l (a+1)=tw p l a:=by
 unfold tw
 rw[jM h,gS b]
 simp only[jC];omega
theorem BI(h:a<l.length)(b:p l[a]=false):tw p l a=a:=by
 unfold tw
 rw[jM h,fF (by simp[b])]
 simp
theorem IB(h:l.length<=a):tw p l a=a:=by
 unfold tw
 rw[jO h];rfl
theorem Ap:∀(d a:Nat),a+d=l.length->∀h:tw p l a<l.length,p (l[tw p l a]'h)=false
 |0,a,c,h=>by rw[IB aa] at h;omega
 |d+1,a,c,h=>by
  have b:a<l.length:=by omega
  cases hb:p l[a] with
  |true=>
   have e:=BJ b hb
   have:=Ap d (a+1) aa (by rw[e];exact h)
   simpa only[e] using this
  |false=>
   have e:=BI b hb
   simpa only[e] using hb
theorem HU{β:Type}{f:Int->Option (Int⊕β)}(out:Nat->β)(go:∀i:Nat,∀h:i<l.length,p l[i]=true->f (i:Int)=some (.inl ((i:Int)+1)))
  (no:∀i:Nat,∀h:i<l.length,p l[i]=false->f (i:Int)=some (.inr (out i))) (en:f (l.length:Int)=some (.inr (out l.length))):
  ∀(d a N:Nat),a+d=l.length->d<N->aC f N (a:Int)=some (out (tw p l a))
 |d,a,0,_,h=>by omega
 |0,a,N+1,c,h=>by
  have:a=l.length:=by omega
  subst this
  rw[IB (jN _)];simp[aC,en]
 |d+1,a,N+1,c,h=>by
  have b:a<l.length:=by omega
  cases hb:p l[a] with
  |true=>
   have:=HU out go no en d (a+1) N aa aa
   rw[BJ b hb] at this
   simpa[aC,go a b hb] using this
  |false=>
   rw[BI b hb];simp[aC,no a b hb]
def kd(c:UInt8):Int:=xI (c.toNat:Int)
def cJ(ks:List Int)(c:UInt8):Bool:=ks.any λk=>kd c==k
theorem Fa{N:Nat}{s:BA}{ks:List Int}{i:Nat}(h:i<s.data.toList.length)(c:ks.length<=10)(b:10<N):aC (GX N s (some kdL) ks (i:Int)) N (false,0)=some (cJ ks (s.data.toList[i])):=by
 have key:=HM (f:=GX N s (some kdL) ks (i:Int)) (λj=>((ks.take j).any (λk=>kd (s.data.toList[i])==k),(j:Int))) ks.length (cJ ks (s.data.toList[i])) (λj a=> ?_) ?_ (N:=N) aa
 .simpa using key
 .simp only[GX]
  rw[jB (by simpa using a),eZ a,pD h]
  simp only[j0]
  rw[bP aa aa,kT a,List.any_append]
  cases(ks.take j).any (λk=>kd (s.data.toList[i])==k)
  .simp[kd,xI,cR]
  simp
 simp only[GX]
 rw[jA ae,fO]
 rfl
theorem NM{N:Nat}{s:BA}{ks:List Int}{i:Nat}(hi:i<=s.data.toList.length)(e:s.data.toList.length<1000000)(c:ks.length<=10)(d:s.data.toList.length+10<N):
  zJ N s (i:Int) (some kdL) ks=some ((tw (cJ ks) s.data.toList i:Nat):Int):=by
 have g:=mG s
 have key:=HU (f:=GW N s (some kdL) ks) (l:=s.data.toList) (p:=cJ ks) (λn=>(n:Int)) (λj b a=>by
   simp only[GW]
   rw[jB ad,Fa b c aa,a]
   simp only[j0]
   rw[bP aa aa]
   rfl) (λj b a=>by
   simp only[GW]
   rw[jB ad,Fa b c aa,a]
   rfl) (by
   simp only[GW]
   rw[jA ad]) (s.data.toList.length-i) i N aa aa
 unfold zJ
 rw[key]
 rfl
theorem Ao(c:UInt8):(cR (some kdL) (c.toNat:Int)).getD 0=kd c:=rfl
theorem oL{l:List UInt8}{i:Nat}(h:i<l.length):l.getD i 0=l[i]:=by simp[jV,h]
theorem It{β:Type}{p:UInt8->Bool}{l:List UInt8}{a0:Nat}{f:Int->Option (Int⊕β)}(out:Nat->β)(go:∀i:Nat,∀h:i<l.length,p l[i]=true->f (i:Int)=some (.inl ((i:Int)+1)))
  (no:∀i:Nat,∀h:i<l.length,a0<=i->p l[i]=false->f (i:Int)=some (.inr (out i))) (en:f (l.length:Int)=some (.inr (out l.length))):
  ∀(d a N:Nat),a0<=a->a+d=l.length->d<N->aC f N (a:Int)=some (out (tw p l a))
 |d,a,0,_,_,h=>by omega
 |0,a,N+1,_,e,h=>by
  have:a=l.length:=by omega
  subst this
  rw[IB (jN _)];simp[aC,en]
 |d+1,a,N+1,c,e,h=>by
  have b:a<l.length:=by omega
  cases hb:p l[a] with
  |true=>
   have:=It out go no en d (a+1) N aa aa aa
   rw[BJ b hb] at this
   simpa[aC,go a b hb] using this
  |false=>
   rw[BI b hb];simp[aC,no a b c hb]
def DZ(n:Int)(c:UInt8):Int:=if 9007199254740993<10*n+((c.toNat:Int)-48) then 9007199254740993 else 10*n+((c.toNat:Int)-48)
def uD(ds:List UInt8):Int:=ds.foldl DZ 0
def tK(c:UInt8):Bool:=decide (32<=c.toNat)&&decide (c.toNat<=126)&&c !=34
def BN:Int×BA×Int×Int:=(0,⟨#[]⟩,0,0)
def wF(l:List UInt8)(i:Nat):Nat:=if l.getD i 0=61/\l.getD (i+1) 0=61 then i+2 else i+1
def lF(s:BA)(i:Nat):(Int×BA×Int×Int)×Int×Int:=
 if kd (s.data.toList.getD i 0)=1 then
  if tw (cJ [1,2,3]) s.data.toList i-i>24 then(BN,0,2) else((1,s.extract i (tw (cJ [1,2,3]) s.data.toList i),0,0),((tw (cJ [1,2,3]) s.data.toList i:Nat):Int),0)
 else if kd (s.data.toList.getD i 0)=2 then
  if uD ((s.data.toList.drop i).takeWhile (cJ [2]))>9007199254740992 then(BN,0,3) else((2,⟨#[]⟩,uD ((s.data.toList.drop i).takeWhile (cJ [2])),0),((tw (cJ [2]) s.data.toList i:Nat):Int),0)
 else if kd (s.data.toList.getD i 0)=7 then
  if s.data.toList.getD (tw tK s.data.toList (i+1)) 0=34 then((3,s.extract (i+1) (tw tK s.data.toList (i+1)),0,0),((tw tK s.data.toList (i+1)+1:Nat):Int),0) else(BN,0,9)
 else if kd (s.data.toList.getD i 0)=8 then
  ((4,s.extract i (wF s.data.toList i),0,0),((wF s.data.toList i:Nat):Int),0)
 else(BN,0,9)
theorem TL:∀c:UInt8,kd c=2->48<=c.toNat/\c.toNat<=57:=by
 have h:((List.range 256).all λn=> !(decide (kd (UInt8.ofNat n)=2))||(decide (48<=n)&&decide (n<=57)))=true:=by kernel_rfl
 intro c a
 have:=jW.1 h c.toNat (fR.2 c.toNat_lt)
 simpa[a] using this
theorem Sd{s:BA}{p:UInt8->Bool}{i:Nat}:(s.extract i (tw p s.data.toList i)).data.toList=(s.data.toList.drop i).takeWhile p:=by
 simp only[ByteArray.data_extract,fI]
 have h:=List.prefix_iff_eq_take.1 (List.takeWhile_prefix p (l:=s.data.toList.drop i))
 rw[gG,show tw p s.data.toList i-i=((s.data.toList.drop i).takeWhile p).length by unfold tw;omega]
 exact h.symm
theorem YT(l:List UInt8)(c:UInt8):uD (l++[c])=DZ (uD l) c:=by simp[uD]
theorem UJ{p:UInt8->Bool}:∀{l:List UInt8} {c:UInt8},c∈l.takeWhile p->p c=true
 |[],_,h=>by simp at h
 |x::l,c,h=>by
  cases hx:p x with
  |true=>
   rw[gS hx] at h
   rcases jK.1 h with rfl|h
   .exact hx
   exact UJ h
  |false=>rw[fF (by simp[hx])] at h;cases h
theorem qAp{N:Nat}{ds:List UInt8}(b:∀c∈ds,kd c=2)(k:ds.length<1000000)(h:ds.length<N):aC (GT N ds) N (0,0)=some (uD ds):=by
 have d:∀j,j<=ds.length->0<=uD (ds.take j)/\uD (ds.take j)<=9007199254740993:=by
  intro j
  induction j with
  |zero=>intro _;simp[uD]
  |succ j g=>
   intro a
   have:=g aa
   rw[kT aa]
   have e:=TL _ (b _ (kE (show j<ds.length by omega)))
   rw[YT]
   unfold DZ
   split<;>omega
 have key:=HM (f:=GT N ds) (λj=>(uD (ds.take j),(j:Int))) ds.length (uD ds) (λj a=> ?_) ?_ (N:=N) aa
 .exact key
 .have e:=TL _ (b _ (kE a))
  have g:=d j aa
  simp only[GT]
  rw[jB (by simpa using a),eZ a]
  simp only[j0]
  rw[wu8 aa aa,bP (x:=10*uD (ds.take j)) aa aa,bP (x:=((ds[j]).toNat:Int)-48) aa aa,bP (x:=(j:Int)+1) aa aa,bP aa aa,kT a,YT]
  rfl
 simp only[GT]
 rw[jA ae,fO]
theorem wV{s:BA}{i e:Nat}(a:i<=e)(b:e<=s.data.toList.length):pJ s (i:Int) (e:Int)=some (s.extract i e):=by
 have:=mG s
 rw[MR aa aa aa]
 simp
theorem qCp{N:Nat}{s:BA}{i j:Nat}(c:j<s.data.toList.length)(g:s.data.toList.length<1000000)(a:tK (s.data.toList[j])=true):AZ N s (i:Int) (j:Int)=some (.inl ((j:Int)+1)):=by
 have h:=mG s
 simp only[tK,jS,j6,fJ,dT] at a
 obtain⟨⟨d,f⟩,b⟩:=a
 have h3':¬((s.data.toList[j]).toNat:Int)=34:=λe=>b (UInt8.toNat_inj.1 (by show _=34;omega))
 simp only[AZ,pD c,j0]
 rw[jB ad,jB ad]
 simp only[j0]
 rw[jB ad,jA (by simpa using h3'),bP aa aa]
theorem qCj{N:Nat}{s:BA}{i j:Nat}(hi:i<s.data.toList.length)(b:j<s.data.toList.length)(d:s.data.toList.length<1000000)(a:i+1<=j)(c:tK (s.data.toList[j])=false):
  AZ N s (i:Int) (j:Int)=some (.inr (if s.data.toList.getD j 0=34 then(.inr ((3,s.extract (i+1) j,0,0),((j+1:Nat):Int),0)) else(.inl ()))):=by
 have f:=mG s
 simp only[AZ,pD b,j0,oL b]
 rw[jB ad]
 by_cases h34:s.data.toList[j]=34
 .rw[h34]
  simp only[show((34:UInt8).toNat:Int)=34 from rfl]
  rw[bP (x:=(i:Int)+1) aa aa,bP aa aa,<-gK,wV a aa]
  rfl
 have h3':¬((s.data.toList[j]).toNat:Int)=34:=λe=>h34 (UInt8.toNat_inj.1 (by show _=34;omega))
 rw[jA h34]
 simp only[tK,Bool.and_eq_false_iff,decide_eq_false_iff_not,bne_eq_false_iff_eq,h34,dQ] at c
 by_cases h1:32<=(s.data.toList[j]).toNat
 .rw[jB ad]
  simp only[j0]
  rw[jA ad]
 rw[jA ad]
 simp
theorem YS{s:BA}{i:Nat}(a:i<=s.data.toList.length):pJ s (i:Int) (s.size:Int)=some (s.extract i s.data.toList.length):=by
 have b:=mG s
 rw[<-wV a (jN _),b]
theorem oD(x y:BA):(x.toList==y.toList)=decide (x=y):=by
 rw[kA]
 simp only[kG,j6]
 constructor
 .intro h
  rw[ByteArray.toList_eq,ByteArray.toList_eq] at h
  exact Go.WideShapes.bytes_inj h
 rintro rfl;rfl
theorem Yg{N:Nat}{s:BA}{i:Nat}(hi:i<s.data.toList.length):SF N (s.extract i s.data.toList.length) (⟨#[61,61]⟩:BA)=some (decide (s.data.toList.getD i 0=61/\s.data.toList.getD (i+1) 0=61)):=by
 have g:=mG s
 have b:(s.extract i s.data.toList.length).size=s.data.toList.length-i:=by rw[ByteArray.size_extract];omega
 simp only[SF,VC,b,show(⟨#[61,61]⟩:BA).size=2 from rfl]
 by_cases h:i+1<s.data.toList.length
 .have a:((s.extract i s.data.toList.length).extract 0 2).data.toList=[s.data.toList[i],s.data.toList[i+1]]:=by
   simp only[ByteArray.data_extract,fI,gG,jX]
   rw[List.take_take,jM hi,jM h]
   have:min (2-0) (s.data.toList.length-i)=2:=by omega
   rw[this];rfl
  have c:pJ (s.extract i s.data.toList.length) 0 ((2:Nat):Int)=some ((s.extract i s.data.toList.length).extract 0 2):=by
   have:=wV (s:=s.extract i s.data.toList.length) (i:=0) (e:=2) aa (by rw[mG,b];omega)
   simpa only[Int.natCast_zero] using this
  rw[jB ad,c]
  simp only[j0,oD]
  rw[oL hi,oL h]
  generalize (s.extract i s.data.toList.length).extract 0 2=X at a
  refine kF some (decide_eq_decide.2 ?_)
  constructor
  .intro e
   rw[e] at a
   have hd':[(61:UInt8),61]=[s.data.toList[i],s.data.toList[i+1]]:=a
   simp only[kV,and_true] at hd'
   exact⟨hd'.1.symm,hd'.2.symm⟩
  rintro⟨d,f⟩
  apply Go.WideShapes.bytes_inj
  rw[a,d,f]
 rw[jA ad]
 have a:s.data.toList.getD (i+1) 0=0:=by rw[jV,List.getElem?_eq_none aa];rfl
 rw[a]
 simp
theorem qAm{N:Nat}{s:BA}{i:Nat}(hi:i<s.data.toList.length)(d:s.data.toList.length<1000000)(r:s.data.toList.length+20<N):ST N s (i:Int) (some kdL)=some (lF s i):=by
 have t:=mG s
 simp only[ST,pD hi,j0,Ao,lF,oL hi,kG]
 by_cases h1:kd (s.data.toList[i])=1
 .simp only[h1,jH]
  have b:=rE (p:=cJ [1,2,3]) (l:=s.data.toList) (a:=i) aa
  rw[NM aa d ae aa]
  simp only[j0]
  rw[bP aa aa,wV b.1 b.2]
  by_cases h:tw (cJ [1,2,3]) s.data.toList i-i>24
  .rw[jB ad,jB h];rfl
  rw[jA ad,jA h];rfl
 simp only[h1,jF]
 by_cases h2:kd (s.data.toList[i])=2
 .simp only[h2,jH]
  have b:=rE (p:=cJ [2]) (l:=s.data.toList) (a:=i) aa
  have q:=mG (s.extract i (tw (cJ [2]) s.data.toList i))
  have k:=Sd (s:=s) (p:=cJ [2]) (i:=i)
  have o:((s.data.toList.drop i).takeWhile (cJ [2])).length<=s.data.toList.length:=by
   have:=(dL (cJ [2]) (l:=s.data.toList.drop i)).length_le
   simp only[kO] at this;omega
  rw[NM aa d ae aa]
  simp only[j0]
  rw[wV b.1 b.2]
  simp only[j0]
  have g:bytesOf (s.extract i (tw (cJ [2]) s.data.toList i))=some ((s.data.toList.drop i).takeWhile (cJ [2])):=by
   unfold bytesOf;rw[<-k,jB];rw[<-q,k];simp only[maxLen];omega
  rw[g]
  simp only[j0]
  rw[qAp (λc n=> ?_) aa aa]
  .simp only[j0,j6]
   split<;>rfl
  have:=UJ n
  simpa[cJ] using this
 simp only[h2,jF]
 by_cases h7:kd (s.data.toList[i])=7
 .simp only[h7,jH]
  have key:=It (a0:=i+1) (f:=AZ N s (i:Int)) (l:=s.data.toList) (p:=tK) (λe=>if s.data.toList.getD e 0=34 then(.inr ((3,s.extract (i+1) e,0,0),((e+1:Nat):Int),0)) else(.inl ()))
   (λj k b=>qCp k d b) (λj k g b=>qCj hi k d g b) (by
    simp only[AZ]
    rw[jA ad,jA ae]
    rfl) (s.data.toList.length-(i+1)) (i+1) N (jN _) aa aa
  rw[bP (x:=(i:Int)+1) aa aa,<-gK,key]
  simp only[j0]
  split
  .rename_i h;split at h<;>simp_all [BN]
  rename_i h;split at h<;>simp_all
 simp only[h7,jF]
 by_cases h8:kd (s.data.toList[i])=8
 .simp only[h8,jH]
  rw[YS aa,bP (x:=(i:Int)+1) aa aa]
  simp only[j0]
  rw[Yg hi]
  simp only[j0,j6]
  by_cases h:s.data.toList.getD i 0=61/\s.data.toList.getD (i+1) 0=61
  .have k:i+1<s.data.toList.length:=by
    rcases dG (i+1) s.data.toList.length with h'|h'
    .exact h'
    have g:s.data.toList.getD (i+1) 0=0:=by rw[jV,List.getElem?_eq_none h'];rfl
    rw[g] at h;exact absurd h.2 ac
   have b:wF s.data.toList i=i+2:=by rw[wF,jB h]
   rw[jB h,bP aa aa,b]
   simp only[j0]
   rw[show((i:Int)+1+1)=((i+2:Nat):Int) by omega,wV aa aa]
   rfl
  have b:wF s.data.toList i=i+1:=by rw[wF,jA h]
  rw[jA h,b]
  simp only[j0]
  rw[<-gK,wV aa aa]
  rfl
 simp only[h8,jF]
 rfl
theorem Mj{p:UInt8->Bool}{l:List UInt8}(h:∀c∈l,p c=true):tw p l 0=l.length:=by
 unfold tw
 have:l.takeWhile p=l:=by
  induction l with
  |nil=>rfl
  |cons c l b=>rw[gS (h c (jR ..)),b λd a=>h d (jU _ a)]
 simp[this]
abbrev cC:=Int×BA×Int×Int
theorem Ju{ks:List Int}{k:Int}{c:UInt8}(a:k∈ks)(h:kd c=k):cJ ks c=true:=by
 unfold cJ;exact fQ.2 ⟨k,a,by simp[h]⟩
theorem DM{p:UInt8->Bool}{l:List UInt8}{a:Nat}(h:a<l.length)(b:p l[a]=true):a<tw p l a:=by
 rw[<-BJ h b];have:=(rE (p:=p) (l:=l) (a:=a+1) aa).1;omega
theorem MY{l:List UInt8}{i:Nat}(h:l.getD i 0≠0):i<l.length:=by
 rcases dG i l.length with h'|h'
 .exact h'
 exfalso;apply h;rw[jV,List.getElem?_eq_none h'];rfl
theorem TZ{s:BA}{i:Nat}(hi:i<s.data.toList.length)(h:(lF s i).2.2=0):∃e:Nat,(lF s i).2.1=(e:Int)/\i<e/\e<=s.data.toList.length/\
  (((lF s i).1.1=1\/(lF s i).1.1=4)/\(lF s i).1.2.1=s.extract i e\/(lF s i).1.1=2/\(lF s i).1.2.1=⟨#[]⟩\/(lF s i).1.1=3/\(lF s i).1.2.1.size+i<e):=by
 have d:=mG s
 unfold lF at h ⊢
 rw[oL hi] at h ⊢
 by_cases h1:kd (s.data.toList[i])=1
 .rw[jB h1] at h ⊢
  split at h
  .cases h
  rename_i h24
  rw[jA h24]
  have b:=rE (p:=cJ [1,2,3]) (l:=s.data.toList) (a:=i) aa
  exact⟨_,rfl,DM hi (Ju ae h1),b.2,.inl ⟨.inl rfl,rfl⟩⟩
 rw[jA h1] at h ⊢
 by_cases h2:kd (s.data.toList[i])=2
 .rw[jB h2] at h ⊢
  split at h
  .cases h
  rename_i h24
  rw[jA h24]
  have b:=rE (p:=cJ [2]) (l:=s.data.toList) (a:=i) aa
  exact⟨_,rfl,DM hi (Ju ae h2),b.2,.inr (.inl ⟨rfl,rfl⟩)⟩
 rw[jA h2] at h ⊢
 by_cases h7:kd (s.data.toList[i])=7
 .rw[jB h7] at h ⊢
  split at h
  .rename_i h24
   rw[jB h24]
   have b:=rE (p:=tK) (l:=s.data.toList) (a:=i+1) aa
   have c:tw tK s.data.toList (i+1)<s.data.toList.length:=MY (by rw[h24];decide)
   refine⟨_,rfl,by omega,by omega,.inr (.inr ⟨rfl,?_⟩)⟩
   simp only[ByteArray.size_extract]
   omega
  cases h
 rw[jA h7] at h ⊢
 by_cases h8:kd (s.data.toList[i])=8
 .rw[jB h8] at h ⊢
  refine⟨_,rfl,?_,?_,.inl ⟨.inr rfl,rfl⟩⟩
  .unfold wF;split<;>omega
  unfold wF
  split
  .rename_i hh
   have:i+1<s.data.toList.length:=MY (by rw[hh.2];decide)
   omega
  omega
 rw[jA h8] at h
 cases h
def lO(c:UInt8):Bool:=c !=10
def pL:Nat->BA->Nat->(Int×Int)⊕List cC
 |0,_,_=> .inr []
 |k+1,s,i=>
  if tw (cJ [5]) s.data.toList i=s.data.toList.length then .inr [(5,⟨#[]⟩,0,(s.data.toList.length:Int))]
  else if kd (s.data.toList.getD (tw (cJ [5]) s.data.toList i) 0)=6 then pL k s (tw lO s.data.toList (tw (cJ [5]) s.data.toList i))
  else if(lF s (tw (cJ [5]) s.data.toList i)).2.2≠0 then .inl ((tw (cJ [5]) s.data.toList i:Nat),(lF s (tw (cJ [5]) s.data.toList i)).2.2)
  else match pL k s (lF s (tw (cJ [5]) s.data.toList i)).2.1.toNat with
   | .inl x=> .inl x
   | .inr r=> .inr (((lF s (tw (cJ [5]) s.data.toList i)).1.1,(lF s (tw (cJ [5]) s.data.toList i)).1.2.1,(lF s (tw (cJ [5]) s.data.toList i)).1.2.2.1,((tw (cJ [5]) s.data.toList i:Nat):Int))::r)
def AA(acc:List cC):(Int×Int)⊕List cC->List cC×Int×Int
 | .inl x=>([],x.1,x.2)
 | .inr r=>(acc++r,0,0)
def mT(s:BA):List cC×Int×Int:=if s.data.toList.length>16384 then([],0,2) else AA [] (pL (s.data.toList.length+1) s 0)
theorem qDh{s:BA}{i:Nat}(hi:i<=s.data.toList.length):
  (if vO (s.extract i s.data.toList.length) 10<0 then((s.data.toList.length-i:Nat):Int) else vO (s.extract i s.data.toList.length) 10)=((tw lO s.data.toList i-i:Nat):Int):=by
 have x:=mG s
 have n:(s.extract i s.data.toList.length).size=s.data.toList.length-i:=by rw[ByteArray.size_extract];omega
 have v:=rE (p:=lO) (l:=s.data.toList) (a:=i) hi
 have f:∀j,j<s.data.toList.length-i->(s.extract i s.data.toList.length)[j]! =s.data.toList.getD (i+j) 0:=by
  intro j b
  have hj':i+j<s.data.toList.length:=by omega
  rw[oL hj',getElem!_pos _ _ (by rw[n];exact b),ByteArray.getElem_extract]
  simp[ByteArray.getElem_eq_getElem_data]
 have g:∀d a,a+d=s.data.toList.length->∀j,a<=j->j<tw lO s.data.toList a->s.data.toList.getD j 0≠10:=by
  intro d
  induction d with
  |zero=>intro a o j b e;rw[IB aa] at e;omega
  |succ d q=>
   intro a o j b e
   have c:a<s.data.toList.length:=by omega
   cases hc:lO (s.data.toList[a]) with
   |true=>
    rw[<-BJ c hc] at e
    rcases Nat.eq_or_lt_of_le b with rfl|b
    .rw[oL c];simpa[lO] using hc
    exact q (a+1) aa j b e
   |false=>rw[BI c hc] at e;omega
 have g:=g (s.data.toList.length-i) i aa
 unfold vO
 rw[n]
 cases hf:(List.range (s.data.toList.length-i)).find? (λj=>(s.extract i s.data.toList.length)[j]! ==(10:Int).toNat.toUInt8) with
 |none=>
  rw[List.find?_eq_none] at hf
  simp only
  rw[jB aa]
  have:¬tw lO s.data.toList i<s.data.toList.length:=by
   intro c
   have b:=Ap (p:=lO) (l:=s.data.toList) (s.data.toList.length-i) i aa c
   have e:=hf (tw lO s.data.toList i-i) (fR.2 aa)
   rw[f _ aa,show i+(tw lO s.data.toList i-i)=tw lO s.data.toList i by omega,oL c] at e
   simp only[lO,bne_eq_false_iff_eq] at b
   rw[b] at e
   exact e ac
  omega
 |some k=>
  have b:=List.find?_some hf
  have r:k<s.data.toList.length-i:=fR.1 (kZ hf)
  simp only
  rw[jA aa]
  rw[f k r] at b
  have b:s.data.toList.getD (i+k) 0=10:=by simpa using b
  have e:¬i+k<tw lO s.data.toList i:=λh=>g (i+k) aa h b
  have t:¬tw lO s.data.toList i<i+k:=by
   intro c
   have hlt':tw lO s.data.toList i<s.data.toList.length:=by omega
   have q:=Ap (p:=lO) (l:=s.data.toList) (s.data.toList.length-i) i aa hlt'
   have u:=List.not_of_lt_findIdx (xs:=List.range (s.data.toList.length-i)) (p:=λj=>(s.extract i s.data.toList.length)[j]! ==(10:Int).toNat.toUInt8) (i:=tw lO s.data.toList i-i)
   have o:=(List.find?_range_eq_some.1 hf).2.2 (tw lO s.data.toList i-i) aa
   rw[f _ aa,show i+(tw lO s.data.toList i-i)=tw lO s.data.toList i by omega,oL hlt'] at o
   simp only[lO,bne_eq_false_iff_eq] at q
   rw[q] at o
   simp at o
  omega
theorem XE{N:Nat}{s:BA}(n:s.data.toList.length<=16384)(g:s.data.toList.length+40<N):∀(k M i:Nat) (acc:List cC),i<=s.data.toList.length->s.data.toList.length<i+k->k<=M->acc.length<=i->
  aC (LZ N s (some kdL)) M (acc,(i:Int))=some (AA acc (pL k s i))
 |0,_,i,_,f,o,_,_=>by omega
 |k+1,0,_,_,_,_,q,_=>by omega
 |k+1,M+1,i,acc,f,o,q,v=>by
  have y:=mG s
  have t:=rE (p:=cJ [5]) (l:=s.data.toList) (a:=i) f
  simp only[aC,pL]
  have c:LZ N s (some kdL) (acc,(i:Int))=if tw (cJ [5]) s.data.toList i=s.data.toList.length then some (.inr (acc++[(5,⟨#[]⟩,0,(s.data.toList.length:Int))],0,0))
    else if kd (s.data.toList.getD (tw (cJ [5]) s.data.toList i) 0)=6 then some (.inl (acc,((tw lO s.data.toList (tw (cJ [5]) s.data.toList i):Nat):Int)))
    else if(lF s (tw (cJ [5]) s.data.toList i)).2.2≠0 then some (.inr ([],(tw (cJ [5]) s.data.toList i:Nat),(lF s (tw (cJ [5]) s.data.toList i)).2.2))
    else some (.inl (acc++[((lF s (tw (cJ [5]) s.data.toList i)).1.1,(lF s (tw (cJ [5]) s.data.toList i)).1.2.1,(lF s (tw (cJ [5]) s.data.toList i)).1.2.2.1,((tw (cJ [5]) s.data.toList i:Nat):Int))],(lF s (tw (cJ [5]) s.data.toList i)).2.1)):=by
   simp only[LZ]
   rw[NM f aa ae aa]
   simp only[j0]
   generalize hE:tw (cJ [5]) s.data.toList i=e at t ⊢
   by_cases he:e=s.data.toList.length
   .rw[jB he,jB (by rw[kG];omega),lQ af aa,he]
    rfl
   have b:e<s.data.toList.length:=by omega
   rw[jA he,jA (by rw[kG];omega),pD b]
   simp only[j0,Ao,kG,oL b]
   by_cases h6:kd (s.data.toList[e])=6
   .rw[jB h6,jB h6,YS aa]
    have h:=qDh (s:=s) (i:=e) aa
    have d:=rE (p:=lO) (l:=s.data.toList) (a:=e) aa
    have u:(if(decide (vO (s.extract e s.data.toList.length) 10<0))then(some (wI ((ByteArray.size s:Int)-(e:Int)))) else(some (vO (s.extract e s.data.toList.length) 10)):Option Int)=some ((tw lO s.data.toList e-e:Nat):Int):=by
     rw[<-h,bP aa aa]
     by_cases hi:vO (s.extract e s.data.toList.length) 10<0
     .rw[jB (by simpa using hi),jB hi];congr 1;omega
     rw[jA (by simpa using hi),jA hi]
    simp only[j0,WJ,JX]
    rw[u]
    simp only[j0]
    rw[bP aa aa]
    congr 3;omega
   rw[jA h6,jA h6,qAm b aa aa]
   simp only[j0,fJ]
   by_cases h0:(lF s e).2.2≠0
   .rw[jB h0,jB h0]
   rw[jA h0,jA h0,lQ af aa]
   rfl
  rw[c]
  by_cases he:tw (cJ [5]) s.data.toList i=s.data.toList.length
  .rw[jB he,jB he];rfl
  rw[jA he,jA he]
  have b:tw (cJ [5]) s.data.toList i<s.data.toList.length:=by omega
  by_cases h6:kd (s.data.toList.getD (tw (cJ [5]) s.data.toList i) 0)=6
  .rw[jB h6,jB h6]
   have d:=rE (p:=lO) (l:=s.data.toList) (a:=tw (cJ [5]) s.data.toList i) aa
   have h:=DM (p:=lO) b (by
    rw[oL b] at h6
    simp only[lO,fJ,dT]
    intro e;rw[e] at h6;exact absurd h6 ac)
   exact XE n g k M _ acc d.2 aa aa aa
  rw[jA h6,jA h6]
  by_cases h0:(lF s (tw (cJ [5]) s.data.toList i)).2.2≠0
  .rw[jB h0,jB h0];rfl
  rw[jA h0,jA h0]
  obtain⟨e,d,u,h,_⟩:=TZ b (by simpa using h0)
  rw[d]
  simp only[j0,jZ]
  rw[XE n g k M e _ h aa aa ah]
  cases pL k s e with
  |inl x=>rfl
  |inr r=>simp[AA]
theorem Xx{N:Nat}{s:BA}(a:20000<N):SP N s=some (mT s):=by
 have b:=mG s
 unfold SP mT
 by_cases h:s.data.toList.length>16384
 .rw[jB ad,jB h]
 rw[jA ad,jA h,ZG aa]
 have:=XE (N:=N) (s:=s) aa aa (s.data.toList.length+1) N 0 [] aa aa aa ae
 simp only[j0]
 rw[show((0:Nat):Int)=0 from rfl] at this
 rw[this]
 rfl
def BU(t:cC):Int:=t.2.2.2+(t.2.1.size:Int)+(if t.1=2 then 1 else 0)
def Bd(s:BA):Int->List cC->Prop
 |_,[]=>True
 |e,t::r=>e<=t.2.2.2/\t.2.2.2+(t.2.1.size:Int)<=s.size/\(t.1=5↔r=[])/\(t.1=1\/t.1=4->s.extract t.2.2.2.toNat (t.2.2.2+(t.2.1.size:Int)).toNat=t.2.1/\0<t.2.1.size)/\Bd s (BU t) r
theorem XL{s:BA}:∀(k i:Nat) (e:Int) (r:List cC),i<=s.data.toList.length->s.data.toList.length<i+k->e<=i->pL k s i= .inr r->Bd s e r/\r≠[]/\r.length<=s.data.toList.length+1-i
 |0,i,e,r,A,G,H,c=>by omega
 |k+1,i,e,r,A,G,H,c=>by
  have M:=mG s
  have K:=rE (p:=cJ [5]) (l:=s.data.toList) (a:=i) A
  simp only[pL] at c
  generalize hE:tw (cJ [5]) s.data.toList i=a at K c
  split at c
  .obtain rfl:=(Sum.inr.inj c).symm
   refine⟨⟨by show e<=(s.data.toList.length:Int);omega,by show(s.data.toList.length:Int)+((0:Nat):Int)<=_;omega,by simp,λh=>by simp at h,trivial⟩,by simp,by simp;omega⟩
  rename_i he
  have o:a<s.data.toList.length:=by omega
  split at c
  .rename_i h6
   have u:=rE (p:=lO) (l:=s.data.toList) (a:=a) aa
   have d:=DM (p:=lO) o (by
    rw[oL o] at h6
    simp only[lO,fJ,dT]
    intro e;rw[e] at h6;exact absurd h6 ac)
   obtain⟨v,y,F⟩:=XL k _ e r u.2 aa aa c
   exact⟨v,y,by omega⟩
  split at c
  .cases c
  rename_i h0
  obtain⟨b,B,u,D,E⟩:=TZ o (by simpa using h0)
  rw[B,jZ] at c
  generalize (lF s a).1=t at c E
  cases z:pL k s b with
  |inl x=>rw[z] at c;cases c
  |inr q=>
   rw[z] at c
   obtain rfl:=(Sum.inr.inj c).symm
   have g:(s.extract a b).size=b-a:=by rw[ByteArray.size_extract];omega
   have f:BU (t.1,t.2.1,t.2.2.1,(a:Int))<=b/\(a:Int)+(t.2.1.size:Int)<=b/\t.1≠5/\(t.1=1\/t.1=4->t.2.1=s.extract a b):=by
    rcases E with ⟨n,d⟩|⟨n,d⟩|⟨n,d⟩
    .refine⟨?_,?_,by omega,λ_=>d⟩
     .simp only[BU,d,g];rw[jA aa];omega
     rw[d,g];omega
    .have:(⟨#[]⟩:BA).size=0:=rfl
     refine⟨?_,?_,by omega,λh=>by omega⟩
     .simp only[BU,d,this];rw[jB n];omega
     rw[d,this];omega
    refine⟨?_,by omega,by omega,λh=>by omega⟩
    simp only[BU];rw[jA aa];omega
   obtain⟨v,y,F⟩:=XL k b (BU (t.1,t.2.1,t.2.2.1,(a:Int))) q D aa f.1 z
   refine⟨⟨by show e<=(a:Int);omega,?_,?_,?_,v⟩,by simp,by simp only[jC];omega⟩
   .show(a:Int)+(t.2.1.size:Int)<=_;omega
   .exact⟨λh=>absurd h f.2.2.1,λh=>absurd h y⟩
   intro h
   have:=f.2.2.2 h
   show s.extract (Int.toNat (a:Int)) ((a:Int)+(t.2.1.size:Int)).toNat=t.2.1/\0<t.2.1.size
   rw[this,g,jZ,show((a:Int)+((b-a:Nat):Int)).toNat=b by omega]
   exact⟨rfl,by omega⟩
theorem ZD{s:BA}:∀(k i:Nat) (x:Int×Int),i<=s.data.toList.length->s.data.toList.length<i+k->pL k s i= .inl x->0<=x.1/\x.1<=s.size/\x.2≠0
 |0,i,x,h,r,c=>by omega
 |k+1,i,x,h,r,c=>by
  have v:=mG s
  have t:=rE (p:=cJ [5]) (l:=s.data.toList) (a:=i) h
  simp only[pL] at c
  generalize hE:tw (cJ [5]) s.data.toList i=a at t c
  split at c
  .cases c
  rename_i he
  have d:a<s.data.toList.length:=by omega
  split at c
  .rename_i h6
   have f:=rE (p:=lO) (l:=s.data.toList) (a:=a) aa
   have g:=DM (p:=lO) d (by
    rw[oL d] at h6
    simp only[lO,fJ,dT]
    intro e;rw[e] at h6;exact absurd h6 ac)
   exact ZD k _ x f.2 aa c
  split at c
  .rename_i h0
   obtain rfl:=Sum.inl.inj c
   exact⟨by simp only;omega,by simp only;omega,h0⟩
  rename_i h0
  obtain⟨b,n,f,o,u⟩:=TZ d (by simpa using h0)
  rw[n,jZ] at c
  cases g:pL k s b with
  |inl y=>rw[g] at c;obtain rfl:=Sum.inl.inj c;exact ZD k b y o aa g
  |inr q=>rw[g] at c;cases c
theorem BK{p:UInt8->Bool}(h:((List.range 256).all λn=>p (UInt8.ofNat n))=true)(c:UInt8):p c=true:=by
 have:=jW.1 h c.toNat (fR.2 c.toNat_lt)
 simpa using this
theorem YH{N:Nat}(c:UInt8):GA N (c.toNat:Int)=some (kd c==1):=by
 have h:=BK (p:=λc=>(decide (97<=c.toNat)&&decide (c.toNat<=122))==(kd c==1)) ag c
 rw[kG] at h
 rw[<-h]
 unfold GA
 by_cases h1:97<=c.toNat
 .rw[jB ad]
  simp only[h1,decide_true,dJ,j0]
  congr 1
  exact decide_eq_decide.2 aa
 rw[jA ad]
 simp[h1]
theorem MW{N:Nat}(c:UInt8):CU N (c.toNat:Int)=some (cJ [1,2,3] c):=by
 have h:=BK (p:=λc=>(kd c==1||(decide (48<=c.toNat)&&decide (c.toNat<=57)||decide (c.toNat=95)))==cJ [1,2,3] c) ag c
 rw[kG] at h
 rw[<-h]
 unfold CU
 rw[YH]
 simp only[j0]
 cases kd c==1
 .have a:((c.toNat:Int)==95)=decide (c.toNat=95):=by rw[kA,kG,j6];omega
  simp only[j9,jF,dR,a]
  by_cases h1:48<=c.toNat
  .by_cases h2:c.toNat<=57
   .rw[jB ad,jB ad];simp[h1,h2]
   rw[jB ad,jA ad];simp[h2]
  rw[jA ad];simp[h1]
 rfl
theorem YI(c:UInt8):kd c=2↔48<=c.toNat/\c.toNat<=57:=by
 have h:=BK (p:=λc=>(kd c==2)==(decide (48<=c.toNat)&&decide (c.toNat<=57))) ag c
 rw[kG,kA] at h
 simpa using h
theorem Ha(c:UInt8):kd c=7↔c=34:=by
 have h:=BK (p:=λc=>(kd c==7)==(c==34)) ag c
 rw[kG,kA] at h
 simpa using h
def signs:List UInt8:=[59,44,40,41,43,45,42,47,37,60,61]
theorem Js(c:UInt8):kd c=8↔signs.contains c=true:=by
 have h:=BK (p:=λc=>(kd c==8)==signs.contains c) ag c
 rw[kG,kA] at h
 simpa using h
theorem Yc(c:UInt8):cJ [5] c=true↔c.toNat=32\/c.toNat=9\/c.toNat=10\/c.toNat=13:=by
 have h:=BK (p:=λc=>cJ [5] c==(decide (c.toNat=32)||(decide (c.toNat=9)||(decide (c.toNat=10)||decide (c.toNat=13))))) ag c
 rw[kG,kA] at h
 simpa using h
theorem Uw(c:UInt8):kd c=6↔c.toNat=35:=by
 have h:=BK (p:=λc=>(kd c==6)==decide (c.toNat=35)) ag c
 rw[kG,kA] at h
 simpa using h
def sD(n:Int)(c:UInt8):Int:=if n<=9007199254740992 then n*10+((c.toNat:Int)-48) else n
theorem Xw(l:List UInt8)(c:UInt8):(l++[c]).foldl sD 0=sD (l.foldl sD 0) c:=by simp
theorem Kk:∀(n:Nat) (ds:List UInt8),ds.length=n->(∀c∈ds,kd c=2)->0<=ds.foldl sD 0/\ds.foldl sD 0<=90071992547409930/\uD ds=if ds.foldl sD 0>9007199254740992 then 9007199254740993 else ds.foldl sD 0
 |0,ds,h,_=>by obtain rfl:=dI.1 h;simp[uD]
 |n+1,ds,h,k=>by
  obtain⟨l,c,rfl⟩:∃l c,ds=l++[c]:=by
   rcases List.eq_nil_or_concat ds with e|⟨l,c,e⟩
   .rw[e] at h;cases h
   exact⟨l,c,by simpa using e⟩
  obtain⟨d,f,a⟩:=Kk n l (by simpa using h) (λc g=>k c (gF _ g))
  have g:=TL c (k c ae)
  rw[Xw,YT]
  by_cases hu:l.foldl sD 0<=9007199254740992
  .rw[jA aa] at a
   rw[a]
   generalize l.foldl sD 0=u at d f hu
   have b:sD u c=u*10+((c.toNat:Int)-48):=jB hu
   rw[b]
   unfold DZ
   refine⟨by omega,by omega,?_⟩
   by_cases h4:9007199254740993<10*u+((c.toNat:Int)-48)
   .rw[jB h4,jB aa]
   rw[jA h4]
   by_cases h5:u*10+((c.toNat:Int)-48)>9007199254740992
   .rw[jB h5];omega
   rw[jA h5];omega
  rw[jB aa] at a
  rw[a]
  generalize l.foldl sD 0=u at d f hu
  have b:sD u c=u:=jA hu
  have o:DZ 9007199254740993 c=9007199254740993:=jB aa
  rw[b,o,jB aa]
  exact⟨d,f,rfl⟩
theorem Ni(c:UInt8):cJ [2] c=decide (48<=c.toNat/\c.toNat<=57):=by
 rw[kA,j6,<-YI];simp[cJ]
theorem Et{N:Nat}{s:BA}:∀(d i M:Nat) (n:Int),i+d=s.data.toList.length->s.data.toList.length<1000000->d<M->0<=n->n<=90071992547409930->
  aC (KX N s) M ((i:Int),n)=some (((tw (cJ [2]) s.data.toList i:Nat):Int),((s.data.toList.drop i).takeWhile (cJ [2])).foldl sD n)
 |d,i,0,n,_,_,h,_,_=>by omega
 |0,i,M+1,n,c,b,e,f,g=>by
  have l:=mG s
  rw[IB aa,jO aa]
  simp only[aC,KX]
  rw[jA ad]
  rfl
 |d+1,i,M+1,n,c,b,e,f,g=>by
  have l:=mG s
  have hi:i<s.data.toList.length:=by omega
  simp only[aC,KX]
  rw[jB ad,pD hi]
  simp only[j0]
  have k:(if decide (((s.data.toList[i]).toNat:Int)>=48)then some (decide (((s.data.toList[i]).toNat:Int)<=57)) else some false)=some (cJ [2] (s.data.toList[i])):=by
   rw[Ni]
   by_cases h48:48<=(s.data.toList[i]).toNat
   .rw[jB ad];congr 1;exact decide_eq_decide.2 aa
   rw[jA ad];congr 1;exact(jP aa).symm
  rw[k]
  simp only[j0]
  rw[jM hi]
  cases hb:cJ [2] (s.data.toList[i]) with
  |false=>
   rw[BI hi hb,fF (by rw[hb];exact gO)]
   rfl
  |true=>
   have o:48<=(s.data.toList[i]).toNat/\(s.data.toList[i]).toNat<=57:=by rw[Ni] at hb;simpa using hb
   rw[<-BJ hi hb,gS hb,kD,jB rfl]
   have a:(if decide (n<=9007199254740992)then some (wI (wI (n*10)+wI (IntKind.wrap .u8 (((s.data.toList[i]).toNat:Int)-48)))) else some n)=some (sD n (s.data.toList[i])):=by
    unfold sD
    by_cases a:n<=9007199254740992
    .rw[jB (by simpa using a),jB a,wu8 aa aa,bP (x:=n*10) aa aa,bP (x:=((s.data.toList[i]).toNat:Int)-48) aa aa,bP aa aa]
    rw[jA (by simpa using a),jA a]
   rw[a]
   simp only[j0]
   rw[bP aa aa,<-gK]
   exact Et d (i+1) M _ aa b aa (by unfold sD;split<;>omega) (by unfold sD;split<;>omega)
theorem Ix(c:UInt8):(if decide ((c.toNat:Int)>=32)then(if decide ((c.toNat:Int)<=126)then some ((c.toNat:Int) !=34) else some false) else some false)=some (tK c):=by
 unfold tK
 by_cases h1:32<=c.toNat
 .rw[jB ad]
  by_cases h2:c.toNat<=126
  .rw[jB ad]
   simp only[h1,h2,decide_true,dJ]
   congr 1
   rw[kA,fJ,fJ]
   exact⟨λh e=>h (by rw[e];rfl),λh e=>h (UInt8.toNat_inj.1 (by show _=34;omega))⟩
  rw[jA ad];simp[h2]
 rw[jA ad];simp[h1]
theorem Sy{N:Nat}{s:BA}(d i M:Nat)(c:i+d=s.data.toList.length)(h:s.data.toList.length<1000000)(g:d<M):aC (CM N s) M (i:Int)=some ((tw tK s.data.toList i:Nat):Int):=by
 have k:=mG s
 refine HU (f:=CM N s) (l:=s.data.toList) (p:=tK) (λe=>(e:Int)) (λj b a=> ?_) (λj b a=> ?_) ?_ d i M c g
 .simp only[CM]
  rw[jB ad,pD b]
  simp only[j0,Ix,a]
  rw[jB trivial,bP aa aa]
 .simp only[CM]
  rw[jB ad,pD b]
  simp only[j0,Ix,a]
  rfl
 simp only[CM]
 rw[jA ad]
 rfl
theorem Lv{N:Nat}{s:BA}{p1 a:Int}:RA N s p1 a=if(decide (a<(signs.length:Int)))then((bC signs a).bind λb=>(lH s p1).bind λc=>if((c.toNat:Int)==(b.toNat:Int))then((pJ s p1 (wI (p1+1))).bind λd=>some (.inr (.inr (((4,d,0,p1),wI (p1+1),0))))) else(some (.inl (wI (a+1))))) else(some (.inr (.inl ()))):=rfl
theorem Dv{N:Nat}{s:BA}{i:Nat}(hi:i<s.data.toList.length)(g:s.data.toList.length<1000000):∀(d j M:Nat),j+d=signs.length->d<M->
  aC (RA N s (i:Int)) M (j:Int)=some (if(signs.drop j).contains (s.data.toList[i])then .inr ((4,s.extract i (i+1),0,(i:Int)),((i+1:Nat):Int),0) else .inl ())
 |d,j,0,_,h=>by omega
 |0,j,M+1,e,f=>by
  simp only[aC,Lv]
  rw[jA ad,jO aa]
  rfl
 |d+1,j,M+1,e,f=>by
  have b:j<signs.length:=by omega
  have k:signs.length=11:=rfl
  simp only[aC,Lv]
  rw[jB ad,eZ b,pD hi,jM b]
  simp only[j0,List.contains_cons]
  by_cases he:s.data.toList[i]=signs[j]
  .rw[jB (by rw[he];exact fG _),bP (x:=(i:Int)+1) aa aa,<-gK,wV aa aa]
   simp only[j0]
   rw[jB (by rw[he];simp)]
  have c:¬((s.data.toList[i]).toNat:Int)=((signs[j]).toNat:Int):=λh=>he (UInt8.toNat_inj.1 aa)
  have a:(s.data.toList[i]==signs[j])=false:=beq_eq_false_iff_ne.2 he
  rw[jA (by simpa using c),bP aa aa,<-gK]
  simp only[j0,a,dR]
  exact Dv hi g d (j+1) M aa aa
def Bg(s:BA)(i:Nat):(Int×BA×Int×Int)×Int×Int:=
 if(lF s i).2.2=0 then(((lF s i).1.1,(lF s i).1.2.1,(lF s i).1.2.2.1,(i:Int)),(lF s i).2.1,0) else lF s i
theorem Uh{N:Nat}{s:BA}{i:Nat}(hi:i<s.data.toList.length)(n:s.data.toList.length<1000000)(v:s.data.toList.length+20<N):RY N s (i:Int)=some (Bg s i):=by
 have y:=mG s
 simp only[RY,pD hi,j0,YH,Bg,lF,oL hi,kG]
 by_cases h1:kd (s.data.toList[i])=1
 .simp only[h1,jH]
  have d:=rE (p:=cJ [1,2,3]) (l:=s.data.toList) (a:=i) aa
  have key:=HU (f:=FT N s) (l:=s.data.toList) (p:=cJ [1,2,3]) (λe=>(e:Int)) (λj b d=>by
   simp only[FT]
   rw[jB ad,pD b]
   simp only[j0,MW,d]
   rw[jB trivial,bP aa aa]) (λj b d=>by
   simp only[FT]
   rw[jB ad,pD b]
   simp only[j0,MW,d]
   rfl) (by
   simp only[FT]
   rw[jA ad]
   rfl) (s.data.toList.length-i) i N aa aa
  rw[key]
  simp only[j0]
  rw[bP aa aa,wV d.1 d.2]
  by_cases h:tw (cJ [1,2,3]) s.data.toList i-i>24
  .rw[jB ad,jB h];rfl
  rw[jA ad,jA h];rfl
 simp only[h1,jF]
 by_cases h2:kd (s.data.toList[i])=2
 .simp only[h2,jH]
  have q:=(YI _).1 h2
  rw[jB ad]
  simp only[j0]
  obtain⟨b,k,o⟩:=Kk _ _ rfl (λc (g:c∈(s.data.toList.drop i).takeWhile (cJ [2]))=>by simpa[cJ] using UJ g)
  rw[jB ad,Et (s.data.toList.length-i) i N 0 aa n aa aa aa,o]
  simp only[j0,j6]
  generalize ((s.data.toList.drop i).takeWhile (cJ [2])).foldl sD 0=u at b k
  by_cases h4:u>9007199254740992
  .simp[h4,BN]
  simp[h4]
 simp only[h2,jF]
 have t:¬(48<=(s.data.toList[i]).toNat/\(s.data.toList[i]).toNat<=57):=λh=>h2 ((YI _).2 h)
 have k:(if decide (((s.data.toList[i]).toNat:Int)>=48)then some (decide (((s.data.toList[i]).toNat:Int)<=57)) else some false)=some false:=by
  by_cases h48:48<=(s.data.toList[i]).toNat
  .rw[jB ad];congr 1;rw[decide_eq_false_iff_not];omega
  rw[jA ad]
 rw[k]
 simp only[j0,j9,jF]
 by_cases h7:kd (s.data.toList[i])=7
 .have g:s.data.toList[i]=34:=(Ha _).1 h7
  simp only[h7,jH]
  rw[jB (by rw[g];rfl),bP (x:=(i:Int)+1) aa aa,<-gK]
  have d:=rE (p:=tK) (l:=s.data.toList) (a:=i+1) aa
  rw[Sy (s.data.toList.length-(i+1)) (i+1) N aa n aa]
  simp only[j0]
  generalize tw tK s.data.toList (i+1)=e at d
  by_cases he:e=s.data.toList.length
  .rw[jB aa]
   have:¬s.data.toList.getD e 0=34:=λh=>by have:=MY (l:=s.data.toList) (i:=e) (by rw[h];decide);omega
   rw[jA this]
   rfl
  have b:e<s.data.toList.length:=by omega
  rw[jA aa,pD b,oL b]
  simp only[j0]
  by_cases h34:s.data.toList[e]=34
  .rw[jB h34,jA (by rw[h34];decide),wV d.1 d.2]
   simp only[j0,jH]
   rw[bP aa aa,<-gK]
  have h34':¬((s.data.toList[e]).toNat:Int)=34:=λh=>h34 (UInt8.toNat_inj.1 (by show _=34;omega))
  rw[jA h34,jB (by simpa using h34')]
  simp[BN]
 have h34':¬((s.data.toList[i]).toNat:Int)=34:=λh=>h7 ((Ha _).2 (UInt8.toNat_inj.1 (by show _=34;omega)))
 simp only[h7,jF,h34']
 have q:(if((s.data.toList[i]).toNat:Int)=61 then(if decide (wI ((i:Int)+1)<(s.size:Int))then((lH s (wI ((i:Int)+1))).bind λo=>some ((o.toNat:Int)==61)) else some false) else some false)=some (decide (s.data.toList.getD i 0=61/\s.data.toList.getD (i+1) 0=61)):=by
  rw[oL hi]
  by_cases h61:s.data.toList[i]=61
  .rw[jB (by rw[h61];rfl),bP aa aa,<-gK]
   by_cases b:i+1<s.data.toList.length
   .rw[jB ad,pD b,oL b]
    simp only[j0]
    congr 1
    rw[kA,kG,j6]
    exact⟨λh=>⟨h61,UInt8.toNat_inj.1 (by show _=61;omega)⟩,λh=>by rw[h.2];rfl⟩
   rw[jA ad]
   congr 1
   refine(jP λh=> ?_).symm
   have:=MY (l:=s.data.toList) (i:=i+1) (by rw[h.2];decide)
   omega
  rw[jA (λh=>h61 (UInt8.toNat_inj.1 (by show _=61;omega)))]
  congr 1
  exact(jP λh=>h61 h.1).symm
 rw[q]
 simp only[j0,j6]
 by_cases h61:s.data.toList.getD i 0=61/\s.data.toList.getD (i+1) 0=61
 .have b:i+1<s.data.toList.length:=MY (by rw[h61.2];decide)
  have d:kd (s.data.toList[i])=8:=by rw[<-oL hi,h61.1];kernel_rfl
  have g:wF s.data.toList i=i+2:=by rw[wF,jB h61]
  have r:s.extract i (i+2)=(⟨#[61,61]⟩:BA):=by
   apply Go.WideShapes.bytes_inj
   simp only[ByteArray.data_extract,fI,gG]
   rw[jM hi,jM b,<-oL hi,<-oL b,h61.1,h61.2,show i+2-i=2 by omega]
   rfl
  simp only[h61,and_self,jH,d,g,r]
  rw[bP aa aa]
  simp
 have g:wF s.data.toList i=i+1:=by rw[wF,jA h61]
 have key:=Dv (N:=N) hi n 11 0 N rfl aa
 rw[show((0:Nat):Int)=0 from rfl] at key
 rw[jA h61,key]
 by_cases d:kd (s.data.toList[i])=8
 .have:=(Js _).1 d
  simp only[d,jH,jX,this,j0,g]
 have:¬signs.contains (s.data.toList[i])=true:=λh=>d ((Js _).2 h)
 simp only[d,jF,jX,this,j0]
 simp[BN]
def oM:Nat->List UInt8->Nat->Nat
 |0,_,i=>i
 |k+1,l,i=>
  if tw (cJ [5]) l i=l.length then l.length
  else if kd (l.getD (tw (cJ [5]) l i) 0)=6 then oM k l (tw lO l (tw (cJ [5]) l i))
  else tw (cJ [5]) l i
theorem Wg{N:Nat}{s:BA}{i:Nat}(hi:i<=s.data.toList.length)(k:s.data.toList.length<1000000)(g:s.data.toList.length+10<N):aC (CO N s) N (i:Int)=some ((tw lO s.data.toList i:Nat):Int):=by
 have n:=mG s
 have d:∀c:UInt8,((c.toNat:Int) !=10)=lO c:=λc=>by
  rw[kA,fJ,lO,fJ]
  exact⟨λh e=>h (by rw[e];rfl),λh e=>h (UInt8.toNat_inj.1 (by show _=10;omega))⟩
 refine HU (f:=CO N s) (l:=s.data.toList) (p:=lO) (λe=>(e:Int)) (λj b a=> ?_) (λj b a=> ?_) ?_ (s.data.toList.length-i) i N aa aa
 .simp only[CO]
  rw[jB ad,pD b]
  simp only[j0,d,a]
  rw[jB trivial,bP aa aa]
 .simp only[CO]
  rw[jB ad,pD b]
  simp only[j0,d,a]
  rfl
 simp only[CO]
 rw[jA ad]
 rfl
theorem Wk{s:BA}{i:Nat}(hi:i<s.data.toList.length):((lH s (i:Int)).bind λb=>if((b.toNat:Int)==32)then(some true) else((lH s (i:Int)).bind λd=>if((d.toNat:Int)==9)then(some true) else((lH s (i:Int)).bind λe=>if((e.toNat:Int)==10)then(some true) else((lH s (i:Int)).bind λf=>some ((f.toNat:Int)==13)))))=some (cJ [5] (s.data.toList[i])):=by
 simp only[pD hi,j0,kG]
 generalize s.data.toList[i]=c
 have a:=Yc c
 by_cases h1:(c.toNat:Int)=32
 .rw[jB h1,a.2 aa]
 rw[jA h1]
 by_cases h2:(c.toNat:Int)=9
 .rw[jB h2,a.2 aa]
 rw[jA h2]
 by_cases h3:(c.toNat:Int)=10
 .rw[jB h3,a.2 aa]
 rw[jA h3]
 congr 1
 rw[kA,kG,a]
 omega
theorem Wm{N:Nat}{s:BA}{i:Nat}(hi:i<s.data.toList.length)(c:s.data.toList.length<1000000)(b:s.data.toList.length+10<N):
  FV N s (i:Int)=some (if cJ [5] (s.data.toList[i])then .inl (((i+1:Nat)):Int) else if kd (s.data.toList[i])=6 then .inl ((tw lO s.data.toList i:Nat):Int) else .inr (.inr (i:Int))):=by
 have d:=mG s
 simp only[FV]
 rw[jB ad,Wk hi]
 simp only[j0]
 by_cases h5:cJ [5] (s.data.toList[i])=true
 .rw[jB h5,jB h5,bP aa aa,<-gK]
 rw[jA h5,jA h5,pD hi]
 simp only[j0,kG]
 have a:=Uw (s.data.toList[i])
 by_cases h6:kd (s.data.toList[i])=6
 .rw[jB (by have:=a.1 h6;omega),jB h6,Wg aa c b]
  rfl
 rw[jA (λh=>h6 (a.2 aa)),jA h6]
theorem YN{N:Nat}{s:BA}(f:s.data.toList.length<1000000)(c:s.data.toList.length+10<N):∀(d i k M:Nat),i+d=s.data.toList.length->d<k->d<M->∃z,aC (FV N s) M (i:Int)=some z/\(z= .inl ((oM k s.data.toList i:Nat):Int)\/z= .inr ((oM k s.data.toList i:Nat):Int))
 |d,i,k,0,_,_,h=>by omega
 |d,i,0,M,_,h,_=>by omega
 |0,i,k+1,M+1,g,n,o=>by
  have r:=mG s
  refine⟨.inl ((s.data.toList.length:Nat):Int),?_,.inl ?_⟩
  .simp only[aC,FV]
   rw[jA ad]
   simp only[j0]
   congr 2;omega
  simp only[oM]
  rw[IB aa,jB aa]
 |d+1,i,k+1,M+1,g,n,o=>by
  have r:=mG s
  have hi:i<s.data.toList.length:=by omega
  simp only[aC]
  rw[Wm hi f c]
  simp only[j0]
  cases h5:cJ [5] (s.data.toList[i]) with
  |true=>
   rw[jB rfl]
   have:=YN f c d (i+1) (k+1) M aa aa aa
   simp only[oM,BJ hi h5] at this ⊢
   exact this
  |false=>
   rw[jA gO]
   by_cases h6:kd (s.data.toList[i])=6
   .have b:oM (k+1) s.data.toList i=oM k s.data.toList (tw lO s.data.toList i):=by
     simp only[oM,BI hi h5,oL hi,h6,jH]
     rw[jA aa]
    rw[b,jB h6]
    have t:=rE (p:=lO) (l:=s.data.toList) (a:=i) aa
    have q:=DM (p:=lO) hi (by
     simp only[lO,fJ,dT]
     intro e;rw[e] at h6;exact absurd h6 ac)
    exact YN f c (s.data.toList.length-tw lO s.data.toList i) _ k M aa aa aa
   have b:oM (k+1) s.data.toList i=i:=by
    simp only[oM,BI hi h5,oL hi,h6,jF]
    rw[jA aa]
   rw[b,jA h6]
   exact⟨_,rfl,.inr rfl⟩
theorem Kv{N:Nat}{s:BA}{i k:Nat}(hi:i<=s.data.toList.length)(d:s.data.toList.length<1000000)(c:s.data.toList.length+10<N)(e:s.data.toList.length<i+k):LS N s (i:Int)=some ((oM k s.data.toList i:Nat):Int):=by
 obtain⟨z,a,b⟩:=YN d c (s.data.toList.length-i) i k N aa aa aa
 unfold LS
 rw[a]
 rcases b with rfl|rfl<;>rfl
theorem Hc{s:BA}:∀(k i:Nat),i<=s.data.toList.length->s.data.toList.length<i+k->i<=oM k s.data.toList i/\oM k s.data.toList i<=s.data.toList.length/\
  (oM k s.data.toList i=s.data.toList.length->pL k s i= .inr [(5,⟨#[]⟩,0,(s.data.toList.length:Int))])/\
  (oM k s.data.toList i<s.data.toList.length->∃k',(∀b,oM k s.data.toList i<b->s.data.toList.length<b+k')/\pL k s i=
   if(lF s (oM k s.data.toList i)).2.2≠0 then .inl ((oM k s.data.toList i:Nat),(lF s (oM k s.data.toList i)).2.2)
   else match pL k' s (lF s (oM k s.data.toList i)).2.1.toNat with
    | .inl x=> .inl x
    | .inr r=> .inr (((lF s (oM k s.data.toList i)).1.1,(lF s (oM k s.data.toList i)).1.2.1,(lF s (oM k s.data.toList i)).1.2.2.1,((oM k s.data.toList i:Nat):Int))::r))
 |0,i,d,t=>by omega
 |k+1,i,d,t=>by
  have f:=rE (p:=cJ [5]) (l:=s.data.toList) (a:=i) d
  simp only[oM,pL]
  by_cases he:tw (cJ [5]) s.data.toList i=s.data.toList.length
  .simp only[he,jH]
   exact⟨d,jN _,λ_=>trivial,λh=>absurd h (Nat.lt_irrefl _)⟩
  simp only[he,jF]
  have c:tw (cJ [5]) s.data.toList i<s.data.toList.length:=by omega
  by_cases h6:kd (s.data.toList.getD (tw (cJ [5]) s.data.toList i) 0)=6
  .simp only[h6,jH]
   have g:=rE (p:=lO) (l:=s.data.toList) (a:=tw (cJ [5]) s.data.toList i) aa
   have u:=DM (p:=lO) c (by
    rw[oL c] at h6
    simp only[lO,fJ,dT]
    intro e;rw[e] at h6;exact absurd h6 ac)
   obtain⟨v,n,o,q⟩:=Hc k (tw lO s.data.toList (tw (cJ [5]) s.data.toList i)) g.2 aa
   exact⟨by omega,n,o,q⟩
  simp only[h6,jF]
  exact⟨f.1,f.2,λh=>absurd h he,λ_=>⟨k,λb hb'=>by omega,rfl⟩⟩
theorem Df{N:Nat}{s:BA}(E:s.data.toList.length<=16384)(B:s.data.toList.length+40<N):∀(d i k M:Nat) (acc:List cC),i+d=s.data.toList.length->d<M->s.data.toList.length<i+k->acc.length<=i->
  ∃z,aC (QT N s) M (acc,((oM k s.data.toList i:Nat):Int))=some z/\((∃o,z= .inl o/\o.length<=s.data.toList.length/\AA acc (pL k s i)=(o++[(5,⟨#[]⟩,0,(s.size:Int))],0,0))\/z= .inr (AA acc (pL k s i)))
 |d,i,k,0,acc,_,h,_,_=>by omega
 |d,i,k,M+1,acc,G,H,A,K=>by
  have F:=mG s
  obtain⟨v,y,g,l⟩:=Hc (s:=s) k i aa A
  generalize hA:oM k s.data.toList i=a at v y g l
  simp only[aC,QT]
  by_cases he:a=s.data.toList.length
  .refine⟨.inl acc,?_,.inl ⟨acc,rfl,by omega,?_⟩⟩
   .rw[jA ad]
    rfl
   rw[g he,<-F];rfl
  have b:a<s.data.toList.length:=by omega
  obtain⟨k',n,p⟩:=l b
  rw[jB ad,Uh b aa aa]
  simp only[j0,Bg]
  by_cases h0:(lF s a).2.2=0
  .obtain⟨e,c,f,q,_⟩:=TZ b h0
   rw[jB h0]
   simp only[fY,j9,jF]
   rw[lQ af aa,c]
   simp only[j0]
   rw[Kv (k:=k') q aa aa (n e f)]
   simp only[j0]
   obtain⟨z,t,u⟩:=Df E B (s.data.toList.length-e) e k' M (acc++[((lF s a).1.1,(lF s a).1.2.1,(lF s a).1.2.2.1,(a:Int))]) aa aa (n e f) ah
   have D:AA acc (pL k s i)=AA (acc++[((lF s a).1.1,(lF s a).1.2.1,(lF s a).1.2.2.1,(a:Int))]) (pL k' s e):=by
    rw[p,jA (by simp[h0]),c,jZ]
    cases pL k' s e with
    |inl x=>rfl
    |inr r=>simp[AA]
   rw[D]
   exact⟨z,t,u⟩
  rw[jA h0]
  have c:((lF s a).2.2 !=0)=true:=by simpa using h0
  simp only[c,jH,j0]
  refine⟨_,rfl,.inr ?_⟩
  rw[p,jB h0]
  rfl
theorem Ss{N:Nat}{s:BA}(e:20000<N):RS N s=some (mT s):=by
 have g:=mG s
 unfold RS mT
 by_cases h:s.data.toList.length>16384
 .rw[jB ad,jB h]
 rw[jA ad,jA h]
 have a:=Kv (N:=N) (s:=s) (i:=0) (k:=s.data.toList.length+1) aa aa aa aa
 rw[show((0:Nat):Int)=0 from rfl] at a
 rw[a]
 simp only[j0]
 obtain⟨z,b,c⟩:=Df (N:=N) (s:=s) aa aa s.data.toList.length 0 (s.data.toList.length+1) N [] aa aa aa ae
 rw[b]
 rcases c with ⟨o,rfl,f,d⟩|rfl
 .simp only[j0]
  rw[lQ af aa,d]
  rfl
 rfl
def yE(s:BA):Bool:=decide (1<=s.data.toList.length/\s.data.toList.length<=24/\kd (s.data.toList.getD 0 0)=1/\tw (cJ [1,2,3]) s.data.toList 0=s.data.toList.length)
theorem DG{s:BA}(h:¬(1<=s.data.toList.length/\s.data.toList.length<=24/\kd (s.data.toList.getD 0 0)=1/\tw (cJ [1,2,3]) s.data.toList 0=s.data.toList.length)):false=yE s:=(jP h).symm
theorem Xo{s:BA}(h:1<=s.data.toList.length/\s.data.toList.length<=24/\kd (s.data.toList.getD 0 0)=1/\tw (cJ [1,2,3]) s.data.toList 0=s.data.toList.length):true=yE s:=(jI h).symm
theorem qDj{N:Nat}{s:BA}(b:100<N):MO N s=some (yE s):=by
 have c:=mG s
 simp only[MO,ZG (show 30<N by omega),j0]
 by_cases h1:1<=s.data.toList.length
 .by_cases h2:s.data.toList.length<=24
  .rw[jB ad,jB ad]
   have hi:=pD (s:=s) (i:=0) aa
   rw[show((0:Nat):Int)=0 from rfl] at hi
   rw[hi]
   simp only[j0,Ao,kG]
   have a:=NM (N:=N) (s:=s) (ks:=[1,2,3]) (i:=0) aa aa ae aa
   rw[show((0:Nat):Int)=0 from rfl] at a
   by_cases h3:kd (s.data.toList[0])=1
   .rw[jB h3,a]
    simp only[j0]
    congr 1
    rw[kA,kG,yE,j6,oL aa]
    exact⟨λh=>⟨h1,h2,h3,by omega⟩,λh=>by have:=h.2.2.2;omega⟩
   rw[jA h3]
   refine kF some (DG λh=> ?_)
   rw[oL aa] at h
   exact h3 h.2.2.1
  rw[jB ad,jA ad]
  exact kF some (DG λh=>h2 h.2.1)
 rw[jA ad]
 exact kF some (DG λh=>h1 h.1)
theorem Wo{N:Nat}{s:BA}(c:100<N):GK N s=some (yE s):=by
 have d:=mG s
 simp only[GK]
 by_cases h1:1<=s.data.toList.length
 .by_cases h2:s.data.toList.length<=24
  .rw[jA ad,jA ad]
   have hi:=pD (s:=s) (i:=0) aa
   rw[show((0:Nat):Int)=0 from rfl] at hi
   rw[hi]
   simp only[j0,YH]
   by_cases h3:kd (s.data.toList[0])=1
   .rw[h3,jA ae]
    have key:=HU (f:=FY N s) (l:=s.data.toList) (p:=cJ [1,2,3]) (λe=>if e=s.data.toList.length then .inl () else .inr false) (λj b a=>by
     simp only[FY]
     rw[jB ad,pD b]
     simp only[j0,MW,a]
     rw[bP aa aa]
     rfl) (λj b a=>by
     simp only[FY]
     rw[jB ad,pD b]
     simp only[j0,MW,a]
     rw[jA (show ¬j=s.data.toList.length by omega)]
     rfl) (by
     simp only[FY]
     rw[jA ad]
     simp) s.data.toList.length 0 N aa aa
    rw[show((0:Nat):Int)=0 from rfl] at key
    rw[key]
    simp only[j0]
    by_cases h4:tw (cJ [1,2,3]) s.data.toList 0=s.data.toList.length
    .rw[jB h4]
     exact kF some (Xo ⟨h1,h2,by rw[oL aa];exact h3,h4⟩)
    rw[jA h4]
    exact kF some (DG λh=>h4 h.2.2.2)
   rw[jB (by rw[fZ,beq_eq_false_iff_ne];exact h3)]
   refine kF some (DG λh=> ?_)
   rw[oL aa] at h
   exact h3 h.2.2.1
  rw[jA ad,jB ad]
  simp only[j0,jH]
  exact kF some (DG λh=>h2 h.2.1)
 rw[jB ad]
 simp only[j0,jH]
 exact kF some (DG λh=>h1 h.1)
end
end Go.Proofs.YtndcdhopdbkikabGreatDoor
