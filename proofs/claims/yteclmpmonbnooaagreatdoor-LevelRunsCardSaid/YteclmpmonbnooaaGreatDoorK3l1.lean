/- No condition but those of each theorem. -/
import Derived.Test.YteclmpmonbnooaaGreatDoorProg
import Derived.WalkKit
import Derived.Deep.LoopGhost
import Derived.KernelRfl
import Derived.OrdersHeld
import Derived.OrdersIn
import Derived.LoopNIn
import Derived.Sort.LoopGhostIn
import Derived.Laws.AppendOwn
import Derived.RangeFuncLeaves
import Derived.RangeFuncRecord
import Derived.MapKept
import Derived.Maps.RangeRun
import Derived.ChangeKeysEq
import Derived.HandedShaped
import Derived.ChangeStays
import Derived.ChangeSame
import Derived.OpenShut
import Derived.WideShapes
import Derived.JoinedOf
import Derived.ReadAgain
import Derived.ChangeAt
import Derived.RowKit
import Derived.Lib.Overlaps
import Derived.Shelf.SlSortCmp.NoneTotal
import Derived.WalkSmall
import Derived.Recover
import Derived.Test.YteclmpmonbnooaaGreatDoorK2l1
namespace Go.Proofs.YteclmpmonbnooaaGreatDoor
section
open Go Go.Dc Go.Proofs.Tryz
set_option maxHeartbeats 4000000
set_option maxRecDepth 100000
variable {N bp0 c1 c2 c3 c4 c5 c6 c7 c8 c9 c10:Nat} {m:Mem} {O:List Piece} {w:World} {a1 a2 a3 a4 a5 a6 a7 a8 a9 a10:Option Addr}
def tQ(N:Nat)(R7:iY->eL->eX->(Int)->Te->mR)(p0:iY)(p1:eL)(p2:eX)(p3:nL)(p4:Te)(s1:T2h):Option (T2h⊕Te×T2g):=
 if(decide (s1.2.1<(List.length p3.2.2.2.2:Int)))then((aO p3.2.2.2.2 s1.2.1).bind fun a=>(R7 (p0.1,p0.2.1,p0.2.2.1,p0.2.2.2.1,((s1.2.2.1,s1.2.2.2.1,s1.2.2.2.2.1),s1.2.2.2.2.2.1,s1.2.2.2.2.2.2.1,s1.2.2.2.2.2.2.2.1),s1.2.2.2.2.2.2.2.2.1,s1.2.2.2.2.2.2.2.2.2) p1 p2 a p4).bind fun a=>(iU 8 s1.1 ([a.2])).bind fun b=>some (.inl (b,IntKind.wrap .i64 (s1.2.1+1),a.1.1.1.1,a.1.1.1.2.1,a.1.1.1.2.2,a.1.1.2.1,a.1.1.2.2.1,a.1.1.2.2.2,a.1.2.1,a.1.2.2))) else(some (.inr (s1.1,s1.2.2.1,s1.2.2.2.1,s1.2.2.2.2.1,s1.2.2.2.2.2.1,s1.2.2.2.2.2.2.1,s1.2.2.2.2.2.2.2.1,s1.2.2.2.2.2.2.2.2.1,s1.2.2.2.2.2.2.2.2.2)))
def QL(N:Nat)(R8:iY->eL->eX->nL->Te->mR)(R9:iY->eL->eX->nL->Te->mR)(R7:iY->eL->eX->(Int)->Te->mR)(Ra:iY->eL->(Int)->Te->mR)(p0:iY)(p1:eL)(p2:eX)(p3:nL)(p4:Te):mR:=
 (LP N p0.2.1 p1 p3.2.2.2.1).bind fun y1=>(pR N (p0.1,p0.2.1,p0.2.2.1,p0.2.2.2.1,(p0.2.2.2.2.1.1,p0.2.2.2.2.1.2.1,p0.2.2.2.2.1.2.2.1,p0.2.2.2.2.1.2.2.2),p0.2.2.2.2.2.1,p0.2.2.2.2.2.2) y1.2.1).bind fun a=>if(y1.2.2 !=0)then((oH N (p0.1,p0.2.1,p0.2.2.1,p0.2.2.2.1,(a.1.1,a.1.2.1,a.1.2.2.1,a.1.2.2.2),a.2.1,a.2.2) y1.2.2).bind fun b=>some (((b.1.1.1,b.1.1.2.1,b.1.1.2.2.1,b.1.1.2.2.2),b.1.2.1,b.1.2.2),b.2)) else((aB (tQ N R7 p0 p1 p2 p3 p4) N (([]:Te),0,a.1.1.1,a.1.1.2.1,a.1.1.2.2,a.1.2.1,a.1.2.2.1,a.1.2.2.2,a.2.1,a.2.2)).bind fun a=>if(a.2.2.2.2.2.2.2.1 !=0)then(some ((((a.2.1,a.2.2.1,a.2.2.2.1),a.2.2.2.2.1,a.2.2.2.2.2.1,a.2.2.2.2.2.2.1),a.2.2.2.2.2.2.2.1,a.2.2.2.2.2.2.2.2),0)) else((BX N p0.2.1 y1.1).bind fun y5=>(aO y5.1.2.2 y5.2).bind fun b=>if((List.length b.2.2.1:Int) !=(List.length a.1:Int))then((oH N (p0.1,p0.2.1,p0.2.2.1,p0.2.2.2.1,((a.2.1,a.2.2.1,a.2.2.2.1),a.2.2.2.2.1,a.2.2.2.2.2.1,a.2.2.2.2.2.2.1),a.2.2.2.2.2.2.2.1,a.2.2.2.2.2.2.2.2) 13).bind fun b=>some (((b.1.1.1,b.1.1.2.1,b.1.1.2.2.1,b.1.1.2.2.2),b.1.2.1,b.1.2.2),b.2)) else((Ra (p0.1,p0.2.1,p0.2.2.1,p0.2.2.2.1,((a.2.1,a.2.2.1,a.2.2.2.1),a.2.2.2.2.1,a.2.2.2.2.2.1,a.2.2.2.2.2.2.1),a.2.2.2.2.2.2.2.1,a.2.2.2.2.2.2.2.2) y5.1 y5.2 a.1).bind fun a=>some (((a.1.1.1,a.1.1.2.1,a.1.1.2.2.1,a.1.1.2.2.2),a.1.2.1,a.1.2.2),a.2))))
def QK(N:Nat)(R8:iY->eL->eX->nL->Te->mR)(R9:iY->eL->eX->nL->Te->mR)(R7:iY->eL->eX->(Int)->Te->mR)(Ra:iY->eL->(Int)->Te->mR)(p0:iY)(p1:eL)(p2:eX)(p3:nL)(p4:Te):mR:=
 (rT N p0.1 p0.2.1 p3.2.2.2.1).bind fun y1=>(pR N (p0.1,p0.2.1,p0.2.2.1,p0.2.2.2.1,(p0.2.2.2.2.1.1,p0.2.2.2.2.1.2.1,p0.2.2.2.2.1.2.2.1,p0.2.2.2.2.1.2.2.2),p0.2.2.2.2.2.1,p0.2.2.2.2.2.2) y1.2.2.1).bind fun a=>if(y1.2.2.2 !=0)then((oH N (p0.1,p0.2.1,p0.2.2.1,p0.2.2.2.1,(a.1.1,a.1.2.1,a.1.2.2.1,a.1.2.2.2),a.2.1,a.2.2) y1.2.2.2).bind fun b=>some (((b.1.1.1,b.1.1.2.1,b.1.1.2.2.1,b.1.1.2.2.2),b.1.2.1,b.1.2.2),b.2)) else((aO p3.2.2.2.2 0).bind fun b=>(R7 (p0.1,p0.2.1,p0.2.2.1,p0.2.2.2.1,(a.1.1,a.1.2.1,a.1.2.2.1,a.1.2.2.2),a.2.1,a.2.2) p1 p2 b p4).bind fun a=>if(a.1.2.1 !=0)then(some (((a.1.1.1,a.1.1.2.1,a.1.1.2.2.1,a.1.1.2.2.2),a.1.2.1,a.1.2.2),0)) else((uR N p0.1 p3.2.2.2.1).bind fun y5=>(if(y1.1==2)then(some 1) else(some (ByteArray.size y5.1:Int)):Td).bind fun b=>(if(decide (a.2<0))then(some true) else(some (decide (a.2>=b))):Tk).bind fun o2=>if o2 then((oH N (p0.1,p0.2.1,p0.2.2.1,p0.2.2.2.1,(a.1.1.1,a.1.1.2.1,a.1.1.2.2.1,a.1.1.2.2.2),a.1.2.1,a.1.2.2) 3).bind fun b=>some (((b.1.1.1,b.1.1.2.1,b.1.1.2.2.1,b.1.1.2.2.2),b.1.2.1,b.1.2.2),b.2)) else(if(y1.1==1)then((lI y5.1 a.2).bind fun b=>some (((a.1.1.1,a.1.1.2.1,a.1.1.2.2.1,a.1.1.2.2.2),a.1.2.1,a.1.2.2),IntKind.wrap .i64 (b.toNat:Int))) else((BX N p0.2.1 y1.2.1).bind fun b=>(Ra (p0.1,p0.2.1,p0.2.2.1,p0.2.2.2.1,(a.1.1.1,a.1.1.2.1,a.1.1.2.2.1,a.1.1.2.2.2),a.1.2.1,a.1.2.2) b.1 b.2 ([]:Te)).bind fun a=>(if(decide ((Int.tmod a.2 256)<0))then(some (IntKind.wrap .i64 ((Int.tmod a.2 256)+256))) else(some (Int.tmod a.2 256)):Td).bind fun b=>some (((a.1.1.1,a.1.1.2.1,a.1.1.2.2.1,a.1.1.2.2.2),a.1.2.1,a.1.2.2),b)))))
def GG(N:Nat)(R8:iY->eL->eX->nL->Te->mR)(R9:iY->eL->eX->nL->Te->mR)(R7:iY->eL->eX->(Int)->Te->mR)(Ra:iY->eL->(Int)->Te->mR)(p0:iY)(p1:eL)(p2:eX)(p3:Int)(p4:Te):mR:=
 if(p0.2.2.2.2.2.1 !=0)then(some (((p0.2.2.2.2.1.1,p0.2.2.2.2.1.2.1,p0.2.2.2.2.1.2.2.1,p0.2.2.2.2.1.2.2.2),p0.2.2.2.2.2.1,p0.2.2.2.2.2.2),0)) else(if(p0.2.2.2.2.1.2.2.2==20000)then((oH N (p0.1,p0.2.1,p0.2.2.1,p0.2.2.2.1,(p0.2.2.2.2.1.1,p0.2.2.2.2.1.2.1,p0.2.2.2.2.1.2.2.1,p0.2.2.2.2.1.2.2.2),p0.2.2.2.2.2.1,p0.2.2.2.2.2.2) 16).bind fun y1=>some (((y1.1.1.1,y1.1.1.2.1,y1.1.1.2.2.1,y1.1.1.2.2.2),y1.1.2.1,y1.1.2.2),y1.2)) else((aO p2 p3).bind fun b=>if(b.1==1)then(some (((p0.2.2.2.2.1.1,p0.2.2.2.2.1.2.1,p0.2.2.2.2.1.2.2.1,IntKind.wrap .i64 (p0.2.2.2.2.1.2.2.2+1)),p0.2.2.2.2.2.1,p0.2.2.2.2.2.2),b.2.1)) else(if(b.1==2)then((aO p4 b.2.1).bind fun a=>some (((p0.2.2.2.2.1.1,p0.2.2.2.2.1.2.1,p0.2.2.2.2.1.2.2.1,IntKind.wrap .i64 (p0.2.2.2.2.1.2.2.2+1)),p0.2.2.2.2.2.1,p0.2.2.2.2.2.2),a)) else(if(b.1==3)then((R8 (p0.1,p0.2.1,p0.2.2.1,p0.2.2.2.1,(p0.2.2.2.2.1.1,p0.2.2.2.2.1.2.1,p0.2.2.2.2.1.2.2.1,IntKind.wrap .i64 (p0.2.2.2.2.1.2.2.2+1)),p0.2.2.2.2.2.1,p0.2.2.2.2.2.2) p1 p2 b p4).bind fun a=>some (((a.1.1.1,a.1.1.2.1,a.1.1.2.2.1,a.1.1.2.2.2),a.1.2.1,a.1.2.2),a.2)) else(if(b.1==4)then((aO b.2.2.2.2 0).bind fun a=>(R7 (p0.1,p0.2.1,p0.2.2.1,p0.2.2.2.1,(p0.2.2.2.2.1.1,p0.2.2.2.2.1.2.1,p0.2.2.2.2.1.2.2.1,IntKind.wrap .i64 (p0.2.2.2.2.1.2.2.2+1)),p0.2.2.2.2.2.1,p0.2.2.2.2.2.2) p1 p2 a p4).bind fun c=>(aO b.2.2.2.2 1).bind fun a=>(R7 (p0.1,p0.2.1,p0.2.2.1,p0.2.2.2.1,(c.1.1.1,c.1.1.2.1,c.1.1.2.2.1,c.1.1.2.2.2),c.1.2.1,c.1.2.2) p1 p2 a p4).bind fun a=>if(a.1.2.1 !=0)then(some (((a.1.1.1,a.1.1.2.1,a.1.1.2.2.1,a.1.1.2.2.2),a.1.2.1,a.1.2.2),0)) else((QI N (p0.1,p0.2.1,p0.2.2.1,p0.2.2.2.1,(a.1.1.1,a.1.1.2.1,a.1.1.2.2.1,a.1.1.2.2.2),a.1.2.1,a.1.2.2) b.2.2.1 c.2 a.2).bind fun y5=>some (((y5.1.1.1,y5.1.1.2.1,y5.1.1.2.2.1,y5.1.1.2.2.2),y5.1.2.1,y5.1.2.2),y5.2))) else(if(b.1==5)then((aO b.2.2.2.2 0).bind fun a=>(R7 (p0.1,p0.2.1,p0.2.2.1,p0.2.2.2.1,(p0.2.2.2.2.1.1,p0.2.2.2.2.1.2.1,p0.2.2.2.2.1.2.2.1,IntKind.wrap .i64 (p0.2.2.2.2.1.2.2.2+1)),p0.2.2.2.2.2.1,p0.2.2.2.2.2.2) p1 p2 a p4).bind fun a=>if(a.1.2.1 !=0)then(some (((a.1.1.1,a.1.1.2.1,a.1.1.2.2.1,a.1.1.2.2.2),a.1.2.1,a.1.2.2),0)) else(if(a.2 !=0)then((aO b.2.2.2.2 1).bind fun c=>(R7 (p0.1,p0.2.1,p0.2.2.1,p0.2.2.2.1,(a.1.1.1,a.1.1.2.1,a.1.1.2.2.1,a.1.1.2.2.2),a.1.2.1,a.1.2.2) p1 p2 c p4).bind fun c=>some (((c.1.1.1,c.1.1.2.1,c.1.1.2.2.1,c.1.1.2.2.2),c.1.2.1,c.1.2.2),c.2)) else((aO b.2.2.2.2 2).bind fun c=>(R7 (p0.1,p0.2.1,p0.2.2.1,p0.2.2.2.1,(a.1.1.1,a.1.1.2.1,a.1.1.2.2.1,a.1.1.2.2.2),a.1.2.1,a.1.2.2) p1 p2 c p4).bind fun a=>some (((a.1.1.1,a.1.1.2.1,a.1.1.2.2.1,a.1.1.2.2.2),a.1.2.1,a.1.2.2),a.2)))) else(if(b.1==6)then((R9 (p0.1,p0.2.1,p0.2.2.1,p0.2.2.2.1,(p0.2.2.2.2.1.1,p0.2.2.2.2.1.2.1,p0.2.2.2.2.1.2.2.1,IntKind.wrap .i64 (p0.2.2.2.2.1.2.2.2+1)),p0.2.2.2.2.2.1,p0.2.2.2.2.2.2) p1 p2 b p4).bind fun a=>some (((a.1.1.1,a.1.1.2.1,a.1.1.2.2.1,a.1.1.2.2.2),a.1.2.1,a.1.2.2),a.2)) else(if(b.1==7)then((rT N p0.1 p0.2.1 b.2.2.2.1).bind fun d=>(pR N (p0.1,p0.2.1,p0.2.2.1,p0.2.2.2.1,(p0.2.2.2.2.1.1,p0.2.2.2.2.1.2.1,p0.2.2.2.2.1.2.2.1,IntKind.wrap .i64 (p0.2.2.2.2.1.2.2.2+1)),p0.2.2.2.2.2.1,p0.2.2.2.2.2.2) d.2.2.1).bind fun a=>if(d.2.2.2 !=0)then((oH N (p0.1,p0.2.1,p0.2.2.1,p0.2.2.2.1,(a.1.1,a.1.2.1,a.1.2.2.1,a.1.2.2.2),a.2.1,a.2.2) d.2.2.2).bind fun c=>some (((c.1.1.1,c.1.1.2.1,c.1.1.2.2.1,c.1.1.2.2.2),c.1.2.1,c.1.2.2),c.2)) else(if(d.1==2)then(some (((a.1.1,a.1.2.1,a.1.2.2.1,a.1.2.2.2),a.2.1,a.2.2),1)) else((uR N p0.1 b.2.2.2.1).bind fun c=>some (((a.1.1,a.1.2.1,a.1.2.2.1,a.1.2.2.2),a.2.1,a.2.2),(ByteArray.size c.1:Int))))) else(if(b.1==8)then((rT N p0.1 p0.2.1 b.2.2.2.1).bind fun c=>(pR N (p0.1,p0.2.1,p0.2.2.1,p0.2.2.2.1,(p0.2.2.2.2.1.1,p0.2.2.2.2.1.2.1,p0.2.2.2.2.1.2.2.1,IntKind.wrap .i64 (p0.2.2.2.2.1.2.2.2+1)),p0.2.2.2.2.2.1,p0.2.2.2.2.2.2) c.2.2.1).bind fun a=>if(c.1 !=0)then(some (((a.1.1,a.1.2.1,a.1.2.2.1,a.1.2.2.2),a.2.1,a.2.2),1)) else(some (((a.1.1,a.1.2.1,a.1.2.2.1,a.1.2.2.2),a.2.1,a.2.2),0))) else(if(b.1==9)then((pR N (p0.1,p0.2.1,p0.2.2.1,p0.2.2.2.1,(p0.2.2.2.2.1.1,p0.2.2.2.2.1.2.1,p0.2.2.2.2.1.2.2.1,IntKind.wrap .i64 (p0.2.2.2.2.1.2.2.2+1)),p0.2.2.2.2.2.1,p0.2.2.2.2.2.2) ([(5,b.2.2.2.1,(⟨#[]⟩:BA))])).bind fun a=>(BT N p0.2.2.1 b.2.2.2.1).bind fun d=>if(!d.2)then((oH N (p0.1,p0.2.1,p0.2.2.1,p0.2.2.2.1,(a.1.1,a.1.2.1,a.1.2.2.1,a.1.2.2.2),a.2.1,a.2.2) 15).bind fun c=>some (((c.1.1.1,c.1.1.2.1,c.1.1.2.2.1,c.1.1.2.2.2),c.1.2.1,c.1.2.2),c.2)) else(some (((a.1.1,a.1.2.1,a.1.2.2.1,a.1.2.2.2),a.2.1,a.2.2),d.1))) else((FR .u64 p0.2.2.2.1 b.2.1).bind fun a=>some (((p0.2.2.2.2.1.1,true,p0.2.2.2.2.1.2.2.1,IntKind.wrap .i64 (p0.2.2.2.2.1.2.2.2+1)),p0.2.2.2.2.2.1,p0.2.2.2.2.2.2),IntKind.wrap .i64 (qQn .u64 a 1)))))))))))))
def QJ(N:Nat)(R8:iY->eL->eX->nL->Te->mR)(R9:iY->eL->eX->nL->Te->mR)(R7:iY->eL->eX->(Int)->Te->mR)(Ra:iY->eL->(Int)->Te->mR)(p0:iY)(p1:eL)(p2:Int)(p3:Te):mR:=
 if(p0.2.2.2.2.2.2==64)then((oH N (p0.1,p0.2.1,p0.2.2.1,p0.2.2.2.1,(p0.2.2.2.2.1.1,p0.2.2.2.2.1.2.1,p0.2.2.2.2.1.2.2.1,p0.2.2.2.2.1.2.2.2),p0.2.2.2.2.2.1,p0.2.2.2.2.2.2) 17).bind fun y1=>some (((y1.1.1.1,y1.1.1.2.1,y1.1.1.2.2.1,y1.1.1.2.2.2),y1.1.2.1,y1.1.2.2),y1.2)) else((aO p1.2.2 p2).bind fun a=>(R7 (p0.1,p0.2.1,p0.2.2.1,p0.2.2.2.1,(p0.2.2.2.2.1.1,p0.2.2.2.2.1.2.1,p0.2.2.2.2.1.2.2.1,p0.2.2.2.2.1.2.2.2),p0.2.2.2.2.2.1,IntKind.wrap .i64 (p0.2.2.2.2.2.2+1)) p1 a.2.2.2 (IntKind.wrap .i64 ((List.length a.2.2.2:Int)-1)) p3).bind fun a=>some (((a.1.1.1,a.1.1.2.1,a.1.1.2.2.1,a.1.1.2.2.2),a.1.2.1,IntKind.wrap .i64 (a.1.2.2-1)),a.2))
def oO(N:Nat):Nat->(iY->eL->eX->nL->Te->mR)×((((List (BA×BA)))×(List BA×(List (BA×List BA×(List (Int×BA×List BA×(List (Int×Int×Int×BA×List Int)))))))×((List (BA×Int)))×Int×((Int×Int×Int)×Bool×(List (Int×BA×BA))×Int)×Int×Int)->eL->eX->nL->Te->mR)×((((List (BA×BA)))×(List BA×(List (BA×List BA×(List (Int×BA×List BA×(List (Int×Int×Int×BA×List Int)))))))×((List (BA×Int)))×Int×((Int×Int×Int)×Bool×(List (Int×BA×BA))×Int)×Int×Int)->eL->eX->(Int)->Te->mR)×((((List (BA×BA)))×(List BA×(List (BA×List BA×(List (Int×BA×List BA×(List (Int×Int×Int×BA×List Int)))))))×((List (BA×Int)))×Int×((Int×Int×Int)×Bool×(List (Int×BA×BA))×Int)×Int×Int)->eL->(Int)->Te->mR)
 |0=>((fun _ _ _ _ _=>none),(fun _ _ _ _ _=>none),(fun _ _ _ _ _=>none),(fun _ _ _ _=>none))
 |D+1=>(QL N (oO N D).1 (oO N D).2.1 (oO N D).2.2.1 (oO N D).2.2.2,QK N (oO N D).1 (oO N D).2.1 (oO N D).2.2.1 (oO N D).2.2.2,GG N (oO N D).1 (oO N D).2.1 (oO N D).2.2.1 (oO N D).2.2.2,QJ N (oO N D).1 (oO N D).2.1 (oO N D).2.2.1 (oO N D).2.2.2)
def qCm(N:Nat)(p0:iY)(p1:eL)(p2:Int)(p3:Te):mR:=(oO N N).2.2.2 p0 p1 p2 p3
abbrev QF(F:iY->eL->eX->nL->Te->mR):Prop:=∀{m O w} {p0:iY} {p1:eL} {p2:eX} {p3:nL} {p4:Te} {a f l g n h o k p d v} {T1:List Value} {q y s z t A u B b c} {r:sD} (st:St m (iP a f l g n h o k p p0 p0.2.2.2.2.1 d v p0.2.2.2.2.2.1 p0.2.2.2.2.2.2::bO d (aN cP p0.2.2.2.2.1.2.2.1 T1) 90::O) w) (D:RepS C1 m f l p0.1) (D:RepS aD m g n p0.2.1.1) (D:RepS C7 m h o p0.2.1.2) (D:RepS C3 m k p p0.2.2.1) (D:OAS d p0.2.2.2.2.1.2.2.1.length v 3 T1) (d:RepS aD m q y p1.2.1) (d:RepS C6 m s z p1.2.2) (d:RepS C5 m t A p2) (d:RepS (aI .i64) m u B p3.2.2.2.2) (d:RepS (aI .i64) m b c p4) (i:F p0 p1 p2 p3 p4=some r),Calls prog 74 #[vP a 0,.agg (V7 p1 q y s z),vS t p2 A,.agg (V9 p3 u B),vS b p4 c] w fun e w'=>∃b d c m',eA m m' e (vI r.2) (iP a f l g n h o k p p0 r.1.1 b d r.1.2.1 r.1.2.2::bO b (aN cP r.1.1.2.2.1 c) 90::O) w' (OAS b r.1.1.2.2.1.length d 3 c)
abbrev QD(F:iY->eL->eX->nL->Te->mR):Prop:=∀{m O w} {p0:iY} {p1:eL} {p2:eX} {p3:nL} {p4:Te} {a f l g n h o k p d v} {T1:List Value} {q y s z t A u B b c} {r:sD} (st:St m (iP a f l g n h o k p p0 p0.2.2.2.2.1 d v p0.2.2.2.2.2.1 p0.2.2.2.2.2.2::bO d (aN cP p0.2.2.2.2.1.2.2.1 T1) 90::O) w) (D:RepS C1 m f l p0.1) (D:RepS aD m g n p0.2.1.1) (D:RepS C7 m h o p0.2.1.2) (D:RepS C3 m k p p0.2.2.1) (D:OAS d p0.2.2.2.2.1.2.2.1.length v 3 T1) (d:RepS aD m q y p1.2.1) (d:RepS C6 m s z p1.2.2) (d:RepS C5 m t A p2) (d:RepS (aI .i64) m u B p3.2.2.2.2) (d:RepS (aI .i64) m b c p4) (i:F p0 p1 p2 p3 p4=some r),Calls prog 76 #[vP a 0,.agg (V7 p1 q y s z),vS t p2 A,.agg (V9 p3 u B),vS b p4 c] w fun e w'=>∃b d c m',eA m m' e (vI r.2) (iP a f l g n h o k p p0 r.1.1 b d r.1.2.1 r.1.2.2::bO b (aN cP r.1.1.2.2.1 c) 90::O) w' (OAS b r.1.1.2.2.1.length d 3 c)
abbrev QA(F:iY->eL->eX->(Int)->Te->mR):Prop:=∀{m O w} {p0:iY} {p1:eL} {p2:eX} {p3:Int} {p4:Te} {a f l g n h o k p b t} {T1:List Value} {c u d v q y s z} {r:sD} (st:St m (iP a f l g n h o k p p0 p0.2.2.2.2.1 b t p0.2.2.2.2.2.1 p0.2.2.2.2.2.2::bO b (aN cP p0.2.2.2.2.1.2.2.1 T1) 90::O) w) (A:RepS C1 m f l p0.1) (A:RepS aD m g n p0.2.1.1) (A:RepS C7 m h o p0.2.1.2) (A:RepS C3 m k p p0.2.2.1) (A:OAS b p0.2.2.2.2.1.2.2.1.length t 3 T1) (b:RepS aD m c u p1.2.1) (b:RepS C6 m d v p1.2.2) (b:RepS C5 m q y p2) (b:RepS (aI .i64) m s z p4) (i:F p0 p1 p2 p3 p4=some r),Calls prog 53 #[vP a 0,.agg (V7 p1 c u d v),vS q p2 y,vI p3,vS s p4 z] w fun e w'=>∃b d c m',eA m m' e (vI r.2) (iP a f l g n h o k p p0 r.1.1 b d r.1.2.1 r.1.2.2::bO b (aN cP r.1.1.2.2.1 c) 90::O) w' (OAS b r.1.1.2.2.1.length d 3 c)
abbrev QE(F:iY->eL->(Int)->Te->mR):Prop:=∀{m O w} {p0:iY} {p1:eL} {p2:Int} {p3:Te} {a f l g n h o k p b s} {T1:List Value} {c t d u q v} {r:sD} (st:St m (iP a f l g n h o k p p0 p0.2.2.2.2.1 b s p0.2.2.2.2.2.1 p0.2.2.2.2.2.2::bO b (aN cP p0.2.2.2.2.1.2.2.1 T1) 90::O) w) (y:RepS C1 m f l p0.1) (y:RepS aD m g n p0.2.1.1) (y:RepS C7 m h o p0.2.1.2) (y:RepS C3 m k p p0.2.2.1) (y:OAS b p0.2.2.2.2.1.2.2.1.length s 3 T1) (b:RepS aD m c t p1.2.1) (b:RepS C6 m d u p1.2.2) (b:RepS (aI .i64) m q v p3) (i:F p0 p1 p2 p3=some r),Calls prog 34 #[vP a 0,.agg (V7 p1 c t d u),vI p2,vS q p3 v] w fun e w'=>∃b d c m',eA m m' e (vI r.2) (iP a f l g n h o k p p0 r.1.1 b d r.1.2.1 r.1.2.2::bO b (aN cP r.1.1.2.2.1 c) 90::O) w' (OAS b r.1.1.2.2.1.length d 3 c)
theorem qRf{R8 R9 R7 Ra}(d5:QF R8)(d6:QD R9)(l:QA R7)(b:QE Ra){p0:iY}{p1:eL}{p2:eX}{p3:nL}{p4:Te}{T1:List Value}{r:sD}(st:St m (iP bp0 a1 c1 a2 c2 a3 c3 a4 c4 p0 p0.f.1 a5 c5 p0.h.1 p0.j::bO a5 (aN cP p0.f.1.d.1 T1) 90::O) w)(E:RepS C1 m a1 c1 p0.1)(n:RepS aD m a2 c2 p0.2.1.1)(o:RepS C7 m a3 c3 p0.2.1.2)(F:RepS C3 m a4 c4 p0.d.1)(n2:OAS a5 p0.2.2.2.2.1.2.2.1.length c5 3 T1)(r5:RepS aD m a6 c6 p1.2.1)(r6:RepS C6 m a7 c7 p1.d)(r7:RepS C5 m a8 c8 p2)(r8:RepS (aI .i64) m a9 c9 p3.f)(r9:RepS (aI .i64) m a10 c10 p4)(i:QL N R8 R9 R7 Ra p0 p1 p2 p3 p4=some r):Calls prog 74 #[vP bp0 0,.agg (V7 p1 a6 c6 a7 c7),vS a8 p2 c8,.agg (V9 p3 a9 c9),vS a10 p4 c10] w fun e w'=>∃l6 n4 n3 m',eA m m' e (vI r.2) (iP bp0 a1 c1 a2 c2 a3 c3 a4 c4 p0 r.1.1 l6 n4 r.1.2.1 r.1.d::bO l6 (aN cP r.1.1.d.1 n3) 90::O) w' (OAS l6 r.1.1.2.2.1.length n4 3 n3):=by
 refine bY st func74 rfl ntmps74 fun q=>aC (iK 6 78 (.agg (V7 p1 a6 c6 a7 c7)) st fun b1 m1 w1 e1 st b9=>iK 8 133 (.agg (V9 p3 a9 c9)) st fun b2 m2 w2 e2 st k4=> ?_);have q:=(q.t e1).t e2;have r5:=(r5.o e1).o e2;have r6:=(r6.o e1).o e2;have b9:=b9.o e2;have n:=(n.o e1).o e2;have o:=(o.o e1).o e2;refine eF (eH [(16,fun w'=>Inv m2 w'/\Piece.holds m2 w' (iP bp0 a1 c1 a2 c2 a3 c3 a4 c4 p0 p0.f.1 a5 c5 p0.h.1 p0.j)/\True)] kr st fun w3 _ st=> ?_);have R:=m2.le_refl;refine⟨aS (aF st R),aX 3 [0,1,2] (eI 3 eC (cR 4 b9 (aT 5 (cR 6 (k4.drop 3) (sZ [7,12] kr ae (sY ?_ ?_))))))⟩
 .refine cJ i (fun _ h=>qCv (p0:=p0.2.1) (p1:=p1) st n o r5 r6 h) ?_;rintro y1 i _ w4 ⟨d2,d3,m3,rfl,B,st,l0⟩;refine⟨_,rfl,?_⟩;have n:=n.o B;have o:=o.o B;have E:=((E.o e1).o e2).o B;have F:=((F.o e1).o e2).o B;have R:=R.t B;refine⟨aS (aF st R),aX 4 [8,9,10,11] (aR 12 kr (tB 11 74 (.agg lU) st fun b3 w5 st=>⟨aS (aF st R),aR 13 kr (nI 74 11 28 (.agg (Ve y1.1)) st fun w6 st=>⟨aS (aF st R),aX 2 [14,15] (cE kr (bC (aY 2 i (yQ (p0:=p0) st.f3.f3 E n o F n2 l0) ?_)))⟩)⟩))⟩;rintro D i _ w7 ⟨h4,h8,T2,m4,rfl,u,st,g8⟩;refine lK ?_;have st:=st.f3.t;refine mD (bF i ?_ ?_)<;>intro A i
  .refine aY 2 i (rP (p0:=(p0.1,p0.2.1,p0.d.1,p0.e.1,D.1,D.2.1,D.d)) st.f1.f1 (E.o u) (n.o u) (o.o u) (F.o u) g8) ?_;rintro y3 i _ w8 ⟨h5,h9,T3,m5,rfl,e5,st,k6⟩;cases i;exact eT ⟨h5,h9,T3,m5,rfl,((q.t B).t u).t e5,st.f2.t.f1.f1,k6⟩
  refine aL (cA (iQ 1 st (((k4.o B).o u).drop 4) (lL (bV (.exit 0) i (fun a0 L' w'=>∃(a:Te×T2g),∃S Y U b8 T4 G,a=a0/\L'=[(0,vP bp0 0),(11,vP b3 0),(14,vS S a.1 Y)]/\m.le G/\St G (wF bp0 a1 c1 a2 c2 a3 c3 a4 c4 p0 a.2.1 a.d.1 a.e.1 a.f.1 U a.h.1 b8 a.j.1 a.k.1 a.2.2.2.2.2.2.2.2::kB b3 (Ve y1.1) 74::bO U (aN cP a.h.1 T4) 90::kR S a.1 Y 3 1::O) w'/\RepS (aI .i64) G S Y a.1/\RepS C1 G a1 c1 p0.1/\RepS aD G a2 c2 p0.2.1.1/\RepS C7 G a3 c3 p0.2.1.2/\RepS C3 G a4 c4 p0.d.1/\OAS U a.2.2.2.2.2.1.length b8 3 T4) ?_ ?_))))
  .rintro a0 i _ w9 ⟨a,S,Y,U,b8,T4,G,rfl,rfl,q,st,h0,E,n,o,F,c0⟩;refine eS (aG (aC (aV 3 st.h (eK i ?_ ?_))))<;>intro A i
   .refine bK 1 (lK ?_);have st:=st.f3.t;cases i;exact mM ⟨U,b8,T4,G,rfl,q,st.f1.t.f1.f1,c0⟩
   refine aL (aG (eH [(12,fun w'=>Inv G w'/\Piece.holds G w' (wF bp0 a1 c1 a2 c2 a3 c3 a4 c4 p0 a.2.1 a.d.1 a.e.1 a.f.1 U a.h.1 b8 a.j.1 a.k.1 a.2.2.2.2.2.2.2.2)/\Piece.holds G w' (kB b3 (Ve y1.1) 74)/\True)] kr st fun o3 _ st=> ?_));have g:=G.le_refl;refine⟨aS (aF st g),aX 3 [0,1,2] (eI 3 eC (eI 4 uN (sZ [5,9] kr ae (sY ?_ ?_))))⟩
   .refine cJ i (fun _ h=>AB (p0:=p0.2.1) (p1:=y1.1) st n o h) ?_;rintro y5 i _ l7 ⟨y,z,p,s,k9,rfl,c,st,g4,d1⟩;refine⟨_,rfl,?_⟩;have g:=g.t c;refine⟨aS (aF st g),aX 3 [6,7,8] (aR 9 kr (tB 17 78 (.agg #[vT eB,v6,v6]) st fun b6 l8 st=>⟨aS (aF st g),aR 10 kr (nI 78 17 68 (.agg (V7 y5.1 y z p s)) st fun l9 st=>⟨aS (aF st g),aT 11 (cE kr (mD (aC (aV 1 st.h (cH 1 (iE d1 i ?_))))))⟩)⟩))⟩;rintro x2 i b7 f2 k3 ⟨_,_,rfl,rfl,⟨_,_,rfl,rfl,⟨_,_,rfl,⟨d7,f0,rfl,l4⟩,⟨h7,k2,rfl,l5⟩⟩⟩⟩ f9;refine cW 1 st (f9.drop 2) (eK i ?_ ?_)<;>intro A i
    .refine aY 1 i (rP (p0:=(p0.1,p0.2.1,p0.d.1,p0.e.1,((a.2.1,a.d.1,a.e.1),a.f.1,a.h.1,a.j.1),a.k.1,a.2.2.2.2.2.2.2.2)) st.f3.f2 (E.o c) (n.o c) (o.o c) (F.o c) c0) ?_;rintro y6 i _ n0 ⟨d8,f5,T7,g2,rfl,f7,st,g0⟩;refine eD 1 ?_;have st:=st.f4.t;cases i;exact mM ⟨d8,f5,T7,g2,rfl,(q.t c).t f7,st.f2.t.f2.t.f1.f1,g0⟩
    refine aL (bK 1 (cF st.h (eR 2 i (b (p0:=(p0.1,p0.2.1,p0.d.1,p0.e.1,((a.2.1,a.d.1,a.e.1),a.f.1,a.h.1,a.j.1),a.k.1,a.2.2.2.2.2.2.2.2)) (p1:=y5.1) st.f3.f2 (E.o c) (n.o c) (o.o c) (F.o c) c0 g4 d1 (h0.o c)) ?_)));rintro y7 i _ n1 ⟨d9,f6,T8,g3,rfl,f8,st,g1⟩;refine eD 1 ?_;have st:=st.f4.t;cases i;exact mM ⟨d9,f6,T8,g3,rfl,(q.t c).t f8,st.f2.t.f2.t.f1.f1,g1⟩
   refine tB 17 78 (.agg #[vT eB,v6,v6]) st fun b6 l7 st=> ?_;refine⟨aS (aF st g),aR 5 kr (cJ i (fun _ h=>AB (p0:=p0.2.1) (p1:=y1.1) st n o h) ?_)⟩;rintro y5 i _ l8 ⟨y,z,p,s,k9,rfl,c,st,g4,d1⟩;refine⟨_,rfl,?_⟩;have g:=g.t c;refine⟨aS (aF st g),aX 3 [6,7,8] (aR 10 kr (nI 78 17 68 (.agg (V7 y5.1 y z p s)) st fun l9 st=>⟨aS (aF st g),aT 11 (cE kr (mD (aC (aV 1 st.h (cH 1 (iE d1 i ?_))))))⟩))⟩;rintro x2 i b7 f2 k3 ⟨_,_,rfl,rfl,⟨_,_,rfl,rfl,⟨_,_,rfl,⟨d7,f0,rfl,l4⟩,⟨h7,k2,rfl,l5⟩⟩⟩⟩ f9;refine cW 1 st (f9.drop 2) (eK i ?_ ?_)<;>intro A i
   .refine aY 1 i (rP (p0:=(p0.1,p0.2.1,p0.d.1,p0.e.1,((a.2.1,a.d.1,a.e.1),a.f.1,a.h.1,a.j.1),a.k.1,a.2.2.2.2.2.2.2.2)) st.f3.f2 (E.o c) (n.o c) (o.o c) (F.o c) c0) ?_;rintro y6 i _ n0 ⟨d8,f5,T7,g2,rfl,f7,st,g0⟩;refine eD 1 ?_;have st:=st.f4.t;cases i;exact mM ⟨d8,f5,T7,g2,rfl,(q.t c).t f7,st.f2.t.f2.t.f1.f1,g0⟩
   refine aL (bK 1 (cF st.h (eR 2 i (b (p0:=(p0.1,p0.2.1,p0.d.1,p0.e.1,((a.2.1,a.d.1,a.e.1),a.f.1,a.h.1,a.j.1),a.k.1,a.2.2.2.2.2.2.2.2)) (p1:=y5.1) st.f3.f2 (E.o c) (n.o c) (o.o c) (F.o c) c0 g4 d1 (h0.o c)) ?_)));rintro y7 i _ n1 ⟨d9,f6,T8,g3,rfl,f8,st,g1⟩;refine eD 1 ?_;have st:=st.f4.t;cases i;exact mM ⟨d9,f6,T8,g3,rfl,(q.t c).t f8,st.f2.t.f2.t.f1.f1,g1⟩
  intro a0 i g5;have st:=(st.nilroom 3 1).front2.front3.front3;refine cY (fun k1 L' w'=>∃(s1:T2h),∃V Z b0 d4 T5 v,aB (tQ N R7 p0 p1 p2 p3 p4) k1 s1=some a0/\L'=[(0,vP bp0 0),(2,vS a8 p2 c8),(4,vS a10 p4 c10),(6,vP b1 0),(11,vP b3 0),(14,vS V s1.1 Z),(40,vS a9 p3.f c9),(41,vI (p3.2.2.2.2.length:Int)),(42,vI s1.2.1)]/\m.le v/\St v (wF bp0 a1 c1 a2 c2 a3 c3 a4 c4 p0 s1.d.1 s1.e.1 s1.f.1 s1.h.1 b0 s1.j.1 d4 s1.k.1 s1.2.2.2.2.2.2.2.2.1 s1.2.2.2.2.2.2.2.2.2::kB b3 (Ve y1.1) 74::bO b0 (aN cP s1.j.1 T5) 90::kR V s1.1 Z 3 1::O) w'/\RepS C5 v a8 c8 p2/\RepS (aI .i64) v a10 c10 p4/\MRow v b1 0 (Vb p1 a6 c6 a7 c7)/\RepS aD v a6 c6 p1.2.1/\RepS C6 v a7 c7 p1.d/\RepS (aI .i64) v V Z s1.1/\RepS (aI .i64) v a9 c9 p3.f/\RepS C1 v a1 c1 p0.1/\RepS aD v a2 c2 p0.2.1.1/\RepS C7 v a3 c3 p0.2.1.2/\RepS C3 v a4 c4 p0.d.1/\OAS b0 s1.2.2.2.2.2.2.1.length d4 3 T5) N ⟨(([]:Te),0,D.1.1.1,D.1.1.2.1,D.1.1.d,D.1.2.1,D.1.d.1,D.1.e,D.2.1,D.d),none,0,h4,h8,T2,m4,i,rfl,(q.t B).t u,st,(((r7.o e1).o e2).o B).o u,(((r9.o e1).o e2).o B).o u,(b9.o B).o u,(r5.o B).o u,(r6.o B).o u,(RepS.nil _ _),(((r8.o e1).o e2).o B).o u,E.o u,n.o u,o.o u,F.o u,g8⟩ ?_;rintro k1 _ n7 ⟨s1,V,Z,b0,d4,T5,v,hL,rfl,q,st,r7,r9,b9,r5,r6,h1,r8,E,n,o,F,g9⟩;obtain⟨k1,n6,rfl,i,h3,h2⟩:=cZ hL;refine cA (aK i ?_ ?_)<;>intro A i
  .refine aL (aG (bA (aC (iE r8 i ?_))));rintro x1 i b4 f1 n5 rfl k5;refine cI st k5 (bH (iN 2 (cI st b9 (eR 3 i (l (p0:=(p0.1,p0.2.1,p0.d.1,p0.e.1,((s1.d.1,s1.e.1,s1.f.1),s1.h.1,s1.j.1,s1.k.1),s1.2.2.2.2.2.2.2.2.1,s1.2.2.2.2.2.2.2.2.2)) (p1:=p1) st.f2.f1 E n o F g9 r5 r6 r7 r9) ?_))));rintro y4 i _ n8 ⟨h6,k0,T6,m8,rfl,H,st,k7⟩;refine lG 53 3 1 (aI .i64) [y4.2] st fun b5 m9 n9 K st l2=>pL 54 22 22 3 8 46 53 st.f4 (.inl kr) ((h1.o H).o K) l2.src i fun l1 i g6 g7 k8 o0 M st l3=>eD 1 ?_;have st:=st.f1.t;refine qI (cB 2 ?_);have hL:=h3 _ (sI i);exact cX ⟨(l1,wr (s1.2.1+1),y4.1.1.1.1,y4.1.1.1.2.1,y4.1.1.1.d,y4.1.1.2.1,y4.1.1.d.1,y4.1.1.e,y4.1.2.1,y4.1.d),g6,g7,h6,k0,T6,k8,hL,rfl,((q.t H).t K).t M,st.f2.f3.f3,((r7.o H).o K).o M,((r9.o H).o K).o M,((b9.o H).o K).o M,((r5.o H).o K).o M,((r6.o H).o K).o M,l3,((r8.o H).o K).o M,((E.o H).o K).o M,((n.o H).o K).o M,((o.o H).o K).o M,((F.o H).o K).o M,k7⟩
  refine cV ?_;have ho:=h2 _ (sI i);have st:=st.f3.f3.f3.f3;exact cS (g5 rfl ⟨(s1.1,s1.d.1,s1.e.1,s1.f.1,s1.h.1,s1.j.1,s1.k.1,s1.2.2.2.2.2.2.2.2.1,s1.2.2.2.2.2.2.2.2.2),V,Z,b0,d4,T5,v,ho,rfl,q,st,h1,E,n,o,F,g9⟩)
 refine tB 11 74 (.agg lU) st fun b3 w4 st=> ?_;refine⟨aS (aF st R),aR 7 kr (cJ i (fun _ h=>qCv (p0:=p0.2.1) (p1:=p1) st n o r5 r6 h) ?_)⟩;rintro y1 i _ w5 ⟨d2,d3,m3,rfl,B,st,l0⟩;refine⟨_,rfl,?_⟩;have n:=n.o B;have o:=o.o B;have E:=((E.o e1).o e2).o B;have F:=((F.o e1).o e2).o B;have R:=R.t B;refine⟨aS (aF st R),aX 4 [8,9,10,11] (aR 13 kr (nI 74 11 28 (.agg (Ve y1.1)) st.f1 fun w6 st=>⟨aS (aF st R),aX 2 [14,15] (cE kr (bC (aY 2 i (yQ (p0:=p0) st.f3.f3 E n o F n2 l0) ?_)))⟩))⟩;rintro D i _ w7 ⟨h4,h8,T2,m4,rfl,u,st,g8⟩;refine lK ?_;have st:=st.f3.t;refine mD (bF i ?_ ?_)<;>intro A i
 .refine aY 2 i (rP (p0:=(p0.1,p0.2.1,p0.d.1,p0.e.1,D.1,D.2.1,D.d)) st.f1.f1 (E.o u) (n.o u) (o.o u) (F.o u) g8) ?_;rintro y3 i _ w8 ⟨h5,h9,T3,m5,rfl,e5,st,k6⟩;cases i;exact eT ⟨h5,h9,T3,m5,rfl,((q.t B).t u).t e5,st.f2.t.f1.f1,k6⟩
 refine aL (cA (iQ 1 st (((k4.o B).o u).drop 4) (lL (bV (.exit 0) i (fun a0 L' w'=>∃(a:Te×T2g),∃S Y U b8 T4 G,a=a0/\L'=[(0,vP bp0 0),(11,vP b3 0),(14,vS S a.1 Y)]/\m.le G/\St G (wF bp0 a1 c1 a2 c2 a3 c3 a4 c4 p0 a.2.1 a.d.1 a.e.1 a.f.1 U a.h.1 b8 a.j.1 a.k.1 a.2.2.2.2.2.2.2.2::kB b3 (Ve y1.1) 74::bO U (aN cP a.h.1 T4) 90::kR S a.1 Y 3 1::O) w'/\RepS (aI .i64) G S Y a.1/\RepS C1 G a1 c1 p0.1/\RepS aD G a2 c2 p0.2.1.1/\RepS C7 G a3 c3 p0.2.1.2/\RepS C3 G a4 c4 p0.d.1/\OAS U a.2.2.2.2.2.1.length b8 3 T4) ?_ ?_))))
 .rintro a0 i _ w9 ⟨a,S,Y,U,b8,T4,G,rfl,rfl,q,st,h0,E,n,o,F,c0⟩;refine eS (aG (aC (aV 3 st.h (eK i ?_ ?_))))<;>intro A i
  .refine bK 1 (lK ?_);have st:=st.f3.t;cases i;exact mM ⟨U,b8,T4,G,rfl,q,st.f1.t.f1.f1,c0⟩
  refine aL (aG (eH [(12,fun w'=>Inv G w'/\Piece.holds G w' (wF bp0 a1 c1 a2 c2 a3 c3 a4 c4 p0 a.2.1 a.d.1 a.e.1 a.f.1 U a.h.1 b8 a.j.1 a.k.1 a.2.2.2.2.2.2.2.2)/\Piece.holds G w' (kB b3 (Ve y1.1) 74)/\True)] kr st fun o3 _ st=> ?_));have g:=G.le_refl;refine⟨aS (aF st g),aX 3 [0,1,2] (eI 3 eC (eI 4 uN (sZ [5,9] kr ae (sY ?_ ?_))))⟩
  .refine cJ i (fun _ h=>AB (p0:=p0.2.1) (p1:=y1.1) st n o h) ?_;rintro y5 i _ l7 ⟨y,z,p,s,k9,rfl,c,st,g4,d1⟩;refine⟨_,rfl,?_⟩;have g:=g.t c;refine⟨aS (aF st g),aX 3 [6,7,8] (aR 9 kr (tB 17 78 (.agg #[vT eB,v6,v6]) st fun b6 l8 st=>⟨aS (aF st g),aR 10 kr (nI 78 17 68 (.agg (V7 y5.1 y z p s)) st fun l9 st=>⟨aS (aF st g),aT 11 (cE kr (mD (aC (aV 1 st.h (cH 1 (iE d1 i ?_))))))⟩)⟩))⟩;rintro x2 i b7 f2 k3 ⟨_,_,rfl,rfl,⟨_,_,rfl,rfl,⟨_,_,rfl,⟨d7,f0,rfl,l4⟩,⟨h7,k2,rfl,l5⟩⟩⟩⟩ f9;refine cW 1 st (f9.drop 2) (eK i ?_ ?_)<;>intro A i
   .refine aY 1 i (rP (p0:=(p0.1,p0.2.1,p0.d.1,p0.e.1,((a.2.1,a.d.1,a.e.1),a.f.1,a.h.1,a.j.1),a.k.1,a.2.2.2.2.2.2.2.2)) st.f3.f2 (E.o c) (n.o c) (o.o c) (F.o c) c0) ?_;rintro y6 i _ n0 ⟨d8,f5,T7,g2,rfl,f7,st,g0⟩;refine eD 1 ?_;have st:=st.f4.t;cases i;exact mM ⟨d8,f5,T7,g2,rfl,(q.t c).t f7,st.f2.t.f2.t.f1.f1,g0⟩
   refine aL (bK 1 (cF st.h (eR 2 i (b (p0:=(p0.1,p0.2.1,p0.d.1,p0.e.1,((a.2.1,a.d.1,a.e.1),a.f.1,a.h.1,a.j.1),a.k.1,a.2.2.2.2.2.2.2.2)) (p1:=y5.1) st.f3.f2 (E.o c) (n.o c) (o.o c) (F.o c) c0 g4 d1 (h0.o c)) ?_)));rintro y7 i _ n1 ⟨d9,f6,T8,g3,rfl,f8,st,g1⟩;refine eD 1 ?_;have st:=st.f4.t;cases i;exact mM ⟨d9,f6,T8,g3,rfl,(q.t c).t f8,st.f2.t.f2.t.f1.f1,g1⟩
  refine tB 17 78 (.agg #[vT eB,v6,v6]) st fun b6 l7 st=> ?_;refine⟨aS (aF st g),aR 5 kr (cJ i (fun _ h=>AB (p0:=p0.2.1) (p1:=y1.1) st n o h) ?_)⟩;rintro y5 i _ l8 ⟨y,z,p,s,k9,rfl,c,st,g4,d1⟩;refine⟨_,rfl,?_⟩;have g:=g.t c;refine⟨aS (aF st g),aX 3 [6,7,8] (aR 10 kr (nI 78 17 68 (.agg (V7 y5.1 y z p s)) st fun l9 st=>⟨aS (aF st g),aT 11 (cE kr (mD (aC (aV 1 st.h (cH 1 (iE d1 i ?_))))))⟩))⟩;rintro x2 i b7 f2 k3 ⟨_,_,rfl,rfl,⟨_,_,rfl,rfl,⟨_,_,rfl,⟨d7,f0,rfl,l4⟩,⟨h7,k2,rfl,l5⟩⟩⟩⟩ f9;refine cW 1 st (f9.drop 2) (eK i ?_ ?_)<;>intro A i
  .refine aY 1 i (rP (p0:=(p0.1,p0.2.1,p0.d.1,p0.e.1,((a.2.1,a.d.1,a.e.1),a.f.1,a.h.1,a.j.1),a.k.1,a.2.2.2.2.2.2.2.2)) st.f3.f2 (E.o c) (n.o c) (o.o c) (F.o c) c0) ?_;rintro y6 i _ n0 ⟨d8,f5,T7,g2,rfl,f7,st,g0⟩;refine eD 1 ?_;have st:=st.f4.t;cases i;exact mM ⟨d8,f5,T7,g2,rfl,(q.t c).t f7,st.f2.t.f2.t.f1.f1,g0⟩
  refine aL (bK 1 (cF st.h (eR 2 i (b (p0:=(p0.1,p0.2.1,p0.d.1,p0.e.1,((a.2.1,a.d.1,a.e.1),a.f.1,a.h.1,a.j.1),a.k.1,a.2.2.2.2.2.2.2.2)) (p1:=y5.1) st.f3.f2 (E.o c) (n.o c) (o.o c) (F.o c) c0 g4 d1 (h0.o c)) ?_)));rintro y7 i _ n1 ⟨d9,f6,T8,g3,rfl,f8,st,g1⟩;refine eD 1 ?_;have st:=st.f4.t;cases i;exact mM ⟨d9,f6,T8,g3,rfl,(q.t c).t f8,st.f2.t.f2.t.f1.f1,g1⟩
 intro a0 i g5;have st:=(st.nilroom 3 1).front2.front3.front3;refine cY (fun k1 L' w'=>∃(s1:T2h),∃V Z b0 d4 T5 v,aB (tQ N R7 p0 p1 p2 p3 p4) k1 s1=some a0/\L'=[(0,vP bp0 0),(2,vS a8 p2 c8),(4,vS a10 p4 c10),(6,vP b1 0),(11,vP b3 0),(14,vS V s1.1 Z),(40,vS a9 p3.f c9),(41,vI (p3.2.2.2.2.length:Int)),(42,vI s1.2.1)]/\m.le v/\St v (wF bp0 a1 c1 a2 c2 a3 c3 a4 c4 p0 s1.d.1 s1.e.1 s1.f.1 s1.h.1 b0 s1.j.1 d4 s1.k.1 s1.2.2.2.2.2.2.2.2.1 s1.2.2.2.2.2.2.2.2.2::kB b3 (Ve y1.1) 74::bO b0 (aN cP s1.j.1 T5) 90::kR V s1.1 Z 3 1::O) w'/\RepS C5 v a8 c8 p2/\RepS (aI .i64) v a10 c10 p4/\MRow v b1 0 (Vb p1 a6 c6 a7 c7)/\RepS aD v a6 c6 p1.2.1/\RepS C6 v a7 c7 p1.d/\RepS (aI .i64) v V Z s1.1/\RepS (aI .i64) v a9 c9 p3.f/\RepS C1 v a1 c1 p0.1/\RepS aD v a2 c2 p0.2.1.1/\RepS C7 v a3 c3 p0.2.1.2/\RepS C3 v a4 c4 p0.d.1/\OAS b0 s1.2.2.2.2.2.2.1.length d4 3 T5) N ⟨(([]:Te),0,D.1.1.1,D.1.1.2.1,D.1.1.d,D.1.2.1,D.1.d.1,D.1.e,D.2.1,D.d),none,0,h4,h8,T2,m4,i,rfl,(q.t B).t u,st,(((r7.o e1).o e2).o B).o u,(((r9.o e1).o e2).o B).o u,(b9.o B).o u,(r5.o B).o u,(r6.o B).o u,(RepS.nil _ _),(((r8.o e1).o e2).o B).o u,E.o u,n.o u,o.o u,F.o u,g8⟩ ?_;rintro k1 _ n7 ⟨s1,V,Z,b0,d4,T5,v,hL,rfl,q,st,r7,r9,b9,r5,r6,h1,r8,E,n,o,F,g9⟩;obtain⟨k1,n6,rfl,i,h3,h2⟩:=cZ hL;refine cA (aK i ?_ ?_)<;>intro A i
 .refine aL (aG (bA (aC (iE r8 i ?_))));rintro x1 i b4 f1 n5 rfl k5;refine cI st k5 (bH (iN 2 (cI st b9 (eR 3 i (l (p0:=(p0.1,p0.2.1,p0.d.1,p0.e.1,((s1.d.1,s1.e.1,s1.f.1),s1.h.1,s1.j.1,s1.k.1),s1.2.2.2.2.2.2.2.2.1,s1.2.2.2.2.2.2.2.2.2)) (p1:=p1) st.f2.f1 E n o F g9 r5 r6 r7 r9) ?_))));rintro y4 i _ n8 ⟨h6,k0,T6,m8,rfl,H,st,k7⟩;refine lG 53 3 1 (aI .i64) [y4.2] st fun b5 m9 n9 K st l2=>pL 54 22 22 3 8 46 53 st.f4 (.inl kr) ((h1.o H).o K) l2.src i fun l1 i g6 g7 k8 o0 M st l3=>eD 1 ?_;have st:=st.f1.t;refine qI (cB 2 ?_);have hL:=h3 _ (sI i);exact cX ⟨(l1,wr (s1.2.1+1),y4.1.1.1.1,y4.1.1.1.2.1,y4.1.1.1.d,y4.1.1.2.1,y4.1.1.d.1,y4.1.1.e,y4.1.2.1,y4.1.d),g6,g7,h6,k0,T6,k8,hL,rfl,((q.t H).t K).t M,st.f2.f3.f3,((r7.o H).o K).o M,((r9.o H).o K).o M,((b9.o H).o K).o M,((r5.o H).o K).o M,((r6.o H).o K).o M,l3,((r8.o H).o K).o M,((E.o H).o K).o M,((n.o H).o K).o M,((o.o H).o K).o M,((F.o H).o K).o M,k7⟩
 refine cV ?_;have ho:=h2 _ (sI i);have st:=st.f3.f3.f3.f3;exact cS (g5 rfl ⟨(s1.1,s1.d.1,s1.e.1,s1.f.1,s1.h.1,s1.j.1,s1.k.1,s1.2.2.2.2.2.2.2.2.1,s1.2.2.2.2.2.2.2.2.2),V,Z,b0,d4,T5,v,ho,rfl,q,st,h1,E,n,o,F,g9⟩)
theorem qRi{R8 R9 R7 Ra}(d3:QF R8)(d4:QD R9)(z:QA R7)(b:QE Ra){p0:iY}{p1:eL}{p2:eX}{p3:nL}{p4:Te}{T1:List Value}{r:sD}(st:St m (iP bp0 a1 c1 a2 c2 a3 c3 a4 c4 p0 p0.f.1 a5 c5 p0.h.1 p0.j::bO a5 (aN cP p0.f.1.d.1 T1) 90::O) w)(k:RepS C1 m a1 c1 p0.1)(l:RepS aD m a2 c2 p0.2.1.1)(n:RepS C7 m a3 c3 p0.2.1.2)(p:RepS C3 m a4 c4 p0.d.1)(h0:OAS a5 p0.2.2.2.2.1.2.2.1.length c5 3 T1)(r5:RepS aD m a6 c6 p1.2.1)(r6:RepS C6 m a7 c7 p1.d)(r7:RepS C5 m a8 c8 p2)(r8:RepS (aI .i64) m a9 c9 p3.f)(r9:RepS (aI .i64) m a10 c10 p4)(i:QK N R8 R9 R7 Ra p0 p1 p2 p3 p4=some r):Calls prog 76 #[vP bp0 0,.agg (V7 p1 a6 c6 a7 c7),vS a8 p2 c8,.agg (V9 p3 a9 c9),vS a10 p4 c10] w fun e w'=>∃g3 h2 h1 m',eA m m' e (vI r.2) (iP bp0 a1 c1 a2 c2 a3 c3 a4 c4 p0 r.1.1 g3 h2 r.1.2.1 r.1.d::bO g3 (aN cP r.1.1.d.1 h1) 90::O) w' (OAS g3 r.1.1.2.2.1.length h2 3 h1):=by
 refine bY st func76 rfl ntmps76 fun q=>aC (iK 6 78 (.agg (V7 p1 a6 c6 a7 c7)) st fun b1 m1 w1 e1 st g9=>iK 8 133 (.agg (V9 p3 a9 c9)) st fun b2 m2 w2 e2 st d7=> ?_);have q:=(q.t e1).t e2;have k:=(k.o e1).o e2;have l:=(l.o e1).o e2;have n:=(n.o e1).o e2;have p:=(p.o e1).o e2;refine eF (eH [(21,fun w'=>Inv m2 w'/\Piece.holds m2 w' (iP bp0 a1 c1 a2 c2 a3 c3 a4 c4 p0 p0.f.1 a5 c5 p0.h.1 p0.j)/\True)] kr st fun w3 _ st=> ?_);have Z:=m2.le_refl;refine⟨aS (aF st Z),aX 3 [0,1,2] (eI 3 eC (aX 3 [4,5,6] (eI 7 eC (aT 8 (cR 9 (d7.drop 3) (sZ [10,16] kr ae (sY ?_ ?_)))))))⟩
 .refine cJ i (fun _ h=>GP (p1:=p0.2.1) st k l n h) ?_;rintro y1 i _ w4 ⟨d1,d2,m3,rfl,G,st,g2⟩;refine⟨_,rfl,?_⟩;have Z:=Z.t G;refine⟨aS (aF st Z),aX 5 [11,12,13,14,15] (aR 16 kr (tB 12 74 (.agg lU) st fun b3 w5 st=>⟨aS (aF st Z),aT 17 (aR 18 kr (nI 74 12 35 (.agg (Ve y1.2.1)) st fun w6 st=>⟨aS (aF st Z),aX 2 [19,20] (cE kr (bC (aY 2 i (yQ (p0:=p0) st.f3.f3 (k.o G) (l.o G) (n.o G) (p.o G) h0 g2) ?_)))⟩))⟩))⟩;rintro U i _ w7 ⟨h3,h4,T2,m4,rfl,H,st,d8⟩;have k:=(k.o G).o H;have l:=(l.o G).o H;have n:=(n.o G).o H;have p:=(p.o G).o H;refine lK ?_;have st:=st.f3.t;refine mD (bF i ?_ ?_)<;>intro A i
  .refine aY 2 i (rP (p0:=(p0.1,p0.2.1,p0.d.1,p0.e.1,U.1,U.2.1,U.d)) st.f1.f1 k l n p d8) ?_;rintro y3 i _ w8 ⟨d9,f4,T3,m5,rfl,e5,st,f7⟩;cases i;exact eT ⟨d9,f4,T3,m5,rfl,((q.t G).t H).t e5,st.f2.t.f1.f1,f7⟩
  refine aL (aG (eH [(10,fun w'=>Inv m4 w'/\True)] kr st fun w9 _ st=> ?_));have b0:=m4.le_refl;refine tA st b0 (aT 0 (cR 1 (((g9.o e2).o G).o H) (aX 2 [2,3] (cR 4 (((d7.o G).o H).drop 4) ?_))));have⟨x1,f9,i⟩:=aU i;refine mT (t:=22) (e:=3) (x:=(.tmp 50)) (y:=(.const (vI 0))) 5 51 (aI .i64) kr rfl kr (.head _) (aH eY) (ev (vS a9 p3.f c9)) (ev (vI 0)) kr ((((r8.o e1).o e2).o G).o H) f9 ?_;rintro b4 f1 h5 rfl f6;refine cR 6 f6 (aT 7 (aR 8 kr (cJ i (fun _ h=>z (p0:=(p0.1,p0.2.1,p0.d.1,p0.e.1,U.1,U.2.1,U.d)) (p1:=p1) st.f1.f1 k l n p d8 ((((r5.o e1).o e2).o G).o H) ((((r6.o e1).o e2).o G).o H) ((((r7.o e1).o e2).o G).o H) ((((r9.o e1).o e2).o G).o H) h) ?_)));rintro a i _ h6 ⟨S,a0,T4,m6,rfl,e6,st,b9⟩;refine⟨_,rfl,?_⟩;have q:=((q.t G).t H).t e6;have k:=k.o e6;have b0:=b0.t e6;refine tA st b0 (aT 9 (cE kr (mD (aC (aV 3 st.h (eK i ?_ ?_))))))<;>intro A i
  .cases i;exact cO ⟨S,a0,T4,m6,rfl,q,st.f2.t.f1.f1,b9⟩
  refine aL (aG (eH [(12,fun w'=>Inv m6 w'/\Piece.holds m6 w' (iP bp0 a1 c1 a2 c2 a3 c3 a4 c4 p0 a.1.1 S a0 a.1.2.1 a.1.d)/\True)] kr st fun h7 _ st=> ?_));have b6:=m6.le_refl;refine⟨aS (aF st b6),aX 3 [0,1,2] (eI 3 eC (aT 4 (cR 5 ((((d7.o G).o H).o e6).drop 3) (aR 6 kr (cJ i (fun _ h=>BU st k h) ?_)))))⟩;rintro y5 i _ h8 ⟨m7,rfl,Y,st⟩;refine⟨_,rfl,?_⟩;have b6:=b6.t Y;refine⟨aS (aF st b6),aX 5 [7,8,9,10,11] (cE kr (bC (cA (bJ (bV .normal i (fun o1 L' w'=>∃m8,L'=[(0,vP bp0 0),(11,vI y1.1),(12,vP b3 0),(15,vI a.2),(16,vT y5.1),(18,vI o1)]/\m.le m8/\St m8 (iP bp0 a1 c1 a2 c2 a3 c3 a4 c4 p0 a.1.1 S a0 a.1.2.1 a.1.d::kB b3 (Ve y1.2.1) 74::bO S (aN cP a.1.1.d.1 T4) 90::O) w'/\P7 m8 a1 c1 a2 c2 a3 c3 a4 c4 p0) ?_ ?_)))))⟩
  .rintro o1 i _ h9 ⟨m8,rfl,q,st,k,l,n,p⟩;refine mD (aC (iG 7 i (fun o2 L' w'=>∃m9,L'=[(0,vP bp0 0),(11,vI y1.1),(12,vP b3 0),(15,vI a.2),(16,vT y5.1),(80,vB o2)]/\m.le m9/\St m9 (iP bp0 a1 c1 a2 c2 a3 c3 a4 c4 p0 a.1.1 S a0 a.1.2.1 a.1.d::kB b3 (Ve y1.2.1) 74::bO S (aN cP a.1.1.d.1 T4) 90::O) w'/\P7 m9 a1 c1 a2 c2 a3 c3 a4 c4 p0) ?_ ?_))
   .rintro o2 i _ k0 ⟨m9,rfl,q,st,k,l,n,p⟩;refine aJ (aK i ?_ ?_)<;>intro A i
    .refine aY 1 i (rP (p0:=(p0.1,p0.2.1,p0.d.1,p0.e.1,a.1.1,a.1.2.1,a.1.d)) st.f2.f1 k l n p b9) ?_;rintro y6 i _ k1 ⟨f0,f5,T5,g0,rfl,e8,st,f8⟩;cases i;exact eT ⟨f0,f5,T5,g0,rfl,q.t e8,st.f2.t.f1.f1,f8⟩
    refine aL (aG (bF i ?_ ?_))<;>intro A i
    .refine bK 2 (nE 87 i fun x2 i=>bH ?_);cases i;exact lY ⟨S,a0,T4,m9,rfl,q,st.f1.t.f1.f1,b9⟩
    refine aL (aG (eH [(12,fun w'=>Inv m9 w'/\Piece.holds m9 w' (iP bp0 a1 c1 a2 c2 a3 c3 a4 c4 p0 a.1.1 S a0 a.1.2.1 a.1.d)/\Piece.holds m9 w' (kB b3 (Ve y1.2.1) 74)/\True)] kr st fun k2 _ st=> ?_));have u:=m9.le_refl;refine⟨aS (aF st u),aX 3 [0,1,2] (eI 3 eC (eI 4 uN (sZ [5,9] kr ae (sY ?_ ?_))))⟩
    .refine cJ i (fun _ h=>AB (p0:=p0.2.1) (p1:=y1.2.1) st l n h) ?_;rintro v i _ g4 ⟨B,E,D,F,g1,rfl,s,st,M,R⟩;refine⟨_,rfl,?_⟩;have u:=u.t s;refine⟨aS (aF st u),aX 3 [6,7,8] (aR 9 kr (tB 19 78 (.agg #[vT eB,v6,v6]) st fun b5 g5 st=>⟨aS (aF st u),aR 10 kr (nI 78 19 96 (.agg (V7 v.1 B E D F)) st fun g6 st=>⟨aS (aF st u),aT 11 (cE kr (yG 1 (cF st.h (eR 1 i (b (p0:=(p0.1,p0.2.1,p0.d.1,p0.e.1,a.1.1,a.1.2.1,a.1.d)) (p1:=v.1) st.f3.f2 (k.o s) (l.o s) (n.o s) (p.o s) b9 M R (RepS.nil _ _)) ?_))))⟩)⟩))⟩;rintro o i _ g7 ⟨V,b8,T6,c0,rfl,c,st,d5⟩;have k:=(k.o s).o c;have l:=(l.o s).o c;have n:=(n.o s).o c;have p:=(p.o s).o c;refine eF (bJ (bV .normal i (fun o3 L' w'=>∃g,L'=[(21,vI o3)]/\m.le g/\St g (iP bp0 a1 c1 a2 c2 a3 c3 a4 c4 p0 o.1.1 V b8 o.1.2.1 o.1.d::kB b5 (V7 v.1 B E D F) 78::kB b3 (Ve y1.2.1) 74::bO V (aN cP o.1.1.d.1 T6) 90::O) w'/\RepS C1 g a1 c1 p0.1/\RepS aD g a2 c2 p0.2.1.1/\RepS C7 g a3 c3 p0.2.1.2/\RepS C3 g a4 c4 p0.d.1/\P5 g B E D F v.1.2) ?_ ?_))
     .rintro o3 i _ g8 ⟨g,rfl,q,st,k,l,n,p,M,R⟩;obtain rfl:=sI i;exact bC (cO ⟨V,b8,T6,g,rfl,q,st.f1.t.f1.t.f1.f1,d5⟩)
     intro o3 i b7;refine aK i ?_ ?_<;>intro A i
     .exact cB 3 (xE (b7 i ⟨c0,rfl,(q.t s).t c,st.f1.f3.f3.f3,k,l,n,p,M.o c,R.o c⟩))
     exact iL (b7 i ⟨c0,rfl,(q.t s).t c,st.f1.f3.f3.f3,k,l,n,p,M.o c,R.o c⟩)
    refine tB 19 78 (.agg #[vT eB,v6,v6]) st fun b5 g4 st=> ?_;refine⟨aS (aF st u),aR 5 kr (cJ i (fun _ h=>AB (p0:=p0.2.1) (p1:=y1.2.1) st l n h) ?_)⟩;rintro v i _ g5 ⟨B,E,D,F,g1,rfl,s,st,M,R⟩;refine⟨_,rfl,?_⟩;have u:=u.t s;refine⟨aS (aF st u),aX 3 [6,7,8] (aR 10 kr (nI 78 19 96 (.agg (V7 v.1 B E D F)) st fun g6 st=>⟨aS (aF st u),aT 11 (cE kr (yG 1 (cF st.h (eR 1 i (b (p0:=(p0.1,p0.2.1,p0.d.1,p0.e.1,a.1.1,a.1.2.1,a.1.d)) (p1:=v.1) st.f3.f2 (k.o s) (l.o s) (n.o s) (p.o s) b9 M R (RepS.nil _ _)) ?_))))⟩))⟩;rintro o i _ g7 ⟨V,b8,T6,c0,rfl,c,st,d5⟩;have k:=(k.o s).o c;have l:=(l.o s).o c;have n:=(n.o s).o c;have p:=(p.o s).o c;refine eF (bJ (bV .normal i (fun o3 L' w'=>∃g,L'=[(21,vI o3)]/\m.le g/\St g (iP bp0 a1 c1 a2 c2 a3 c3 a4 c4 p0 o.1.1 V b8 o.1.2.1 o.1.d::kB b5 (V7 v.1 B E D F) 78::kB b3 (Ve y1.2.1) 74::bO V (aN cP o.1.1.d.1 T6) 90::O) w'/\RepS C1 g a1 c1 p0.1/\RepS aD g a2 c2 p0.2.1.1/\RepS C7 g a3 c3 p0.2.1.2/\RepS C3 g a4 c4 p0.d.1/\P5 g B E D F v.1.2) ?_ ?_))
    .rintro o3 i _ g8 ⟨g,rfl,q,st,k,l,n,p,M,R⟩;obtain rfl:=sI i;exact bC (cO ⟨V,b8,T6,g,rfl,q,st.f1.t.f1.t.f1.f1,d5⟩)
    intro o3 i b7;refine aK i ?_ ?_<;>intro A i
    .exact cB 3 (xE (b7 i ⟨c0,rfl,(q.t s).t c,st.f1.f3.f3.f3,k,l,n,p,M.o c,R.o c⟩))
    exact iL (b7 i ⟨c0,rfl,(q.t s).t c,st.f1.f3.f3.f3,k,l,n,p,M.o c,R.o c⟩)
   intro o2 i K;refine bP 3 76 i ?_ ?_<;>intro A i
   .exact aM 4 (K i ⟨m8,rfl,q,st.f2.f2.f2,k,l,n,p⟩)
   exact aM 4 (K i ⟨m8,rfl,q,st.f2.f2.f2,k,l,n,p⟩)
  intro o1 i d6;refine aK i ?_ ?_<;>intro A i
  .exact cB 1 (xE (d6 i ⟨m7,rfl,q.t Y,st.f1.f2.f2,k.o Y,(l.o e6).o Y,(n.o e6).o Y,(p.o e6).o Y⟩))
  exact iL (d6 i ⟨m7,rfl,q.t Y,st.f1.f2.f2,k.o Y,(l.o e6).o Y,(n.o e6).o Y,(p.o e6).o Y⟩)
 refine tB 12 74 (.agg lU) st fun b3 w4 st=> ?_;refine⟨aS (aF st Z),aR 10 kr (cJ i (fun _ h=>GP (p1:=p0.2.1) st k l n h) ?_)⟩;rintro y1 i _ w5 ⟨d1,d2,m3,rfl,G,st,g2⟩;refine⟨_,rfl,?_⟩;have Z:=Z.t G;refine⟨aS (aF st Z),aX 6 [11,12,13,14,15,17] (aR 18 kr (nI 74 12 35 (.agg (Ve y1.2.1)) st.f1 fun w6 st=>⟨aS (aF st Z),aX 2 [19,20] (cE kr (bC (aY 2 i (yQ (p0:=p0) st.f3.f3 (k.o G) (l.o G) (n.o G) (p.o G) h0 g2) ?_)))⟩))⟩;rintro U i _ w7 ⟨h3,h4,T2,m4,rfl,H,st,d8⟩;have k:=(k.o G).o H;have l:=(l.o G).o H;have n:=(n.o G).o H;have p:=(p.o G).o H;refine lK ?_;have st:=st.f3.t;refine mD (bF i ?_ ?_)<;>intro A i
 .refine aY 2 i (rP (p0:=(p0.1,p0.2.1,p0.d.1,p0.e.1,U.1,U.2.1,U.d)) st.f1.f1 k l n p d8) ?_;rintro y3 i _ w8 ⟨d9,f4,T3,m5,rfl,e5,st,f7⟩;cases i;exact eT ⟨d9,f4,T3,m5,rfl,((q.t G).t H).t e5,st.f2.t.f1.f1,f7⟩
 refine aL (aG (eH [(10,fun w'=>Inv m4 w'/\True)] kr st fun w9 _ st=> ?_));have b0:=m4.le_refl;refine tA st b0 (aT 0 (cR 1 (((g9.o e2).o G).o H) (aX 2 [2,3] (cR 4 (((d7.o G).o H).drop 4) ?_))));have⟨x1,f9,i⟩:=aU i;refine mT (t:=22) (e:=3) (x:=(.tmp 50)) (y:=(.const (vI 0))) 5 51 (aI .i64) kr rfl kr (.head _) (aH eY) (ev (vS a9 p3.f c9)) (ev (vI 0)) kr ((((r8.o e1).o e2).o G).o H) f9 ?_;rintro b4 f1 h5 rfl f6;refine cR 6 f6 (aT 7 (aR 8 kr (cJ i (fun _ h=>z (p0:=(p0.1,p0.2.1,p0.d.1,p0.e.1,U.1,U.2.1,U.d)) (p1:=p1) st.f1.f1 k l n p d8 ((((r5.o e1).o e2).o G).o H) ((((r6.o e1).o e2).o G).o H) ((((r7.o e1).o e2).o G).o H) ((((r9.o e1).o e2).o G).o H) h) ?_)));rintro a i _ h6 ⟨S,a0,T4,m6,rfl,e6,st,b9⟩;refine⟨_,rfl,?_⟩;have q:=((q.t G).t H).t e6;have k:=k.o e6;have b0:=b0.t e6;refine tA st b0 (aT 9 (cE kr (mD (aC (aV 3 st.h (eK i ?_ ?_))))))<;>intro A i
 .cases i;exact cO ⟨S,a0,T4,m6,rfl,q,st.f2.t.f1.f1,b9⟩
 refine aL (aG (eH [(12,fun w'=>Inv m6 w'/\Piece.holds m6 w' (iP bp0 a1 c1 a2 c2 a3 c3 a4 c4 p0 a.1.1 S a0 a.1.2.1 a.1.d)/\True)] kr st fun h7 _ st=> ?_));have b6:=m6.le_refl;refine⟨aS (aF st b6),aX 3 [0,1,2] (eI 3 eC (aT 4 (cR 5 ((((d7.o G).o H).o e6).drop 3) (aR 6 kr (cJ i (fun _ h=>BU st k h) ?_)))))⟩;rintro y5 i _ h8 ⟨m7,rfl,Y,st⟩;refine⟨_,rfl,?_⟩;have b6:=b6.t Y;refine⟨aS (aF st b6),aX 5 [7,8,9,10,11] (cE kr (bC (cA (bJ (bV .normal i (fun o1 L' w'=>∃m8,L'=[(0,vP bp0 0),(11,vI y1.1),(12,vP b3 0),(15,vI a.2),(16,vT y5.1),(18,vI o1)]/\m.le m8/\St m8 (iP bp0 a1 c1 a2 c2 a3 c3 a4 c4 p0 a.1.1 S a0 a.1.2.1 a.1.d::kB b3 (Ve y1.2.1) 74::bO S (aN cP a.1.1.d.1 T4) 90::O) w'/\P7 m8 a1 c1 a2 c2 a3 c3 a4 c4 p0) ?_ ?_)))))⟩
 .rintro o1 i _ h9 ⟨m8,rfl,q,st,k,l,n,p⟩;refine mD (aC (iG 7 i (fun o2 L' w'=>∃m9,L'=[(0,vP bp0 0),(11,vI y1.1),(12,vP b3 0),(15,vI a.2),(16,vT y5.1),(80,vB o2)]/\m.le m9/\St m9 (iP bp0 a1 c1 a2 c2 a3 c3 a4 c4 p0 a.1.1 S a0 a.1.2.1 a.1.d::kB b3 (Ve y1.2.1) 74::bO S (aN cP a.1.1.d.1 T4) 90::O) w'/\P7 m9 a1 c1 a2 c2 a3 c3 a4 c4 p0) ?_ ?_))
  .rintro o2 i _ k0 ⟨m9,rfl,q,st,k,l,n,p⟩;refine aJ (aK i ?_ ?_)<;>intro A i
   .refine aY 1 i (rP (p0:=(p0.1,p0.2.1,p0.d.1,p0.e.1,a.1.1,a.1.2.1,a.1.d)) st.f2.f1 k l n p b9) ?_;rintro y6 i _ k1 ⟨f0,f5,T5,g0,rfl,e8,st,f8⟩;cases i;exact eT ⟨f0,f5,T5,g0,rfl,q.t e8,st.f2.t.f1.f1,f8⟩
   refine aL (aG (bF i ?_ ?_))<;>intro A i
   .refine bK 2 (nE 87 i fun x2 i=>bH ?_);cases i;exact lY ⟨S,a0,T4,m9,rfl,q,st.f1.t.f1.f1,b9⟩
   refine aL (aG (eH [(12,fun w'=>Inv m9 w'/\Piece.holds m9 w' (iP bp0 a1 c1 a2 c2 a3 c3 a4 c4 p0 a.1.1 S a0 a.1.2.1 a.1.d)/\Piece.holds m9 w' (kB b3 (Ve y1.2.1) 74)/\True)] kr st fun k2 _ st=> ?_));have u:=m9.le_refl;refine⟨aS (aF st u),aX 3 [0,1,2] (eI 3 eC (eI 4 uN (sZ [5,9] kr ae (sY ?_ ?_))))⟩
   .refine cJ i (fun _ h=>AB (p0:=p0.2.1) (p1:=y1.2.1) st l n h) ?_;rintro v i _ g4 ⟨B,E,D,F,g1,rfl,s,st,M,R⟩;refine⟨_,rfl,?_⟩;have u:=u.t s;refine⟨aS (aF st u),aX 3 [6,7,8] (aR 9 kr (tB 19 78 (.agg #[vT eB,v6,v6]) st fun b5 g5 st=>⟨aS (aF st u),aR 10 kr (nI 78 19 96 (.agg (V7 v.1 B E D F)) st fun g6 st=>⟨aS (aF st u),aT 11 (cE kr (yG 1 (cF st.h (eR 1 i (b (p0:=(p0.1,p0.2.1,p0.d.1,p0.e.1,a.1.1,a.1.2.1,a.1.d)) (p1:=v.1) st.f3.f2 (k.o s) (l.o s) (n.o s) (p.o s) b9 M R (RepS.nil _ _)) ?_))))⟩)⟩))⟩;rintro o i _ g7 ⟨V,b8,T6,c0,rfl,c,st,d5⟩;have k:=(k.o s).o c;have l:=(l.o s).o c;have n:=(n.o s).o c;have p:=(p.o s).o c;refine eF (bJ (bV .normal i (fun o3 L' w'=>∃g,L'=[(21,vI o3)]/\m.le g/\St g (iP bp0 a1 c1 a2 c2 a3 c3 a4 c4 p0 o.1.1 V b8 o.1.2.1 o.1.d::kB b5 (V7 v.1 B E D F) 78::kB b3 (Ve y1.2.1) 74::bO V (aN cP o.1.1.d.1 T6) 90::O) w'/\RepS C1 g a1 c1 p0.1/\RepS aD g a2 c2 p0.2.1.1/\RepS C7 g a3 c3 p0.2.1.2/\RepS C3 g a4 c4 p0.d.1/\P5 g B E D F v.1.2) ?_ ?_))
    .rintro o3 i _ g8 ⟨g,rfl,q,st,k,l,n,p,M,R⟩;obtain rfl:=sI i;exact bC (cO ⟨V,b8,T6,g,rfl,q,st.f1.t.f1.t.f1.f1,d5⟩)
    intro o3 i b7;refine aK i ?_ ?_<;>intro A i
    .exact cB 3 (xE (b7 i ⟨c0,rfl,(q.t s).t c,st.f1.f3.f3.f3,k,l,n,p,M.o c,R.o c⟩))
    exact iL (b7 i ⟨c0,rfl,(q.t s).t c,st.f1.f3.f3.f3,k,l,n,p,M.o c,R.o c⟩)
   refine tB 19 78 (.agg #[vT eB,v6,v6]) st fun b5 g4 st=> ?_;refine⟨aS (aF st u),aR 5 kr (cJ i (fun _ h=>AB (p0:=p0.2.1) (p1:=y1.2.1) st l n h) ?_)⟩;rintro v i _ g5 ⟨B,E,D,F,g1,rfl,s,st,M,R⟩;refine⟨_,rfl,?_⟩;have u:=u.t s;refine⟨aS (aF st u),aX 3 [6,7,8] (aR 10 kr (nI 78 19 96 (.agg (V7 v.1 B E D F)) st fun g6 st=>⟨aS (aF st u),aT 11 (cE kr (yG 1 (cF st.h (eR 1 i (b (p0:=(p0.1,p0.2.1,p0.d.1,p0.e.1,a.1.1,a.1.2.1,a.1.d)) (p1:=v.1) st.f3.f2 (k.o s) (l.o s) (n.o s) (p.o s) b9 M R (RepS.nil _ _)) ?_))))⟩))⟩;rintro o i _ g7 ⟨V,b8,T6,c0,rfl,c,st,d5⟩;have k:=(k.o s).o c;have l:=(l.o s).o c;have n:=(n.o s).o c;have p:=(p.o s).o c;refine eF (bJ (bV .normal i (fun o3 L' w'=>∃g,L'=[(21,vI o3)]/\m.le g/\St g (iP bp0 a1 c1 a2 c2 a3 c3 a4 c4 p0 o.1.1 V b8 o.1.2.1 o.1.d::kB b5 (V7 v.1 B E D F) 78::kB b3 (Ve y1.2.1) 74::bO V (aN cP o.1.1.d.1 T6) 90::O) w'/\RepS C1 g a1 c1 p0.1/\RepS aD g a2 c2 p0.2.1.1/\RepS C7 g a3 c3 p0.2.1.2/\RepS C3 g a4 c4 p0.d.1/\P5 g B E D F v.1.2) ?_ ?_))
   .rintro o3 i _ g8 ⟨g,rfl,q,st,k,l,n,p,M,R⟩;obtain rfl:=sI i;exact bC (cO ⟨V,b8,T6,g,rfl,q,st.f1.t.f1.t.f1.f1,d5⟩)
   intro o3 i b7;refine aK i ?_ ?_<;>intro A i
   .exact cB 3 (xE (b7 i ⟨c0,rfl,(q.t s).t c,st.f1.f3.f3.f3,k,l,n,p,M.o c,R.o c⟩))
   exact iL (b7 i ⟨c0,rfl,(q.t s).t c,st.f1.f3.f3.f3,k,l,n,p,M.o c,R.o c⟩)
  intro o2 i K;refine bP 3 76 i ?_ ?_<;>intro A i
  .exact aM 4 (K i ⟨m8,rfl,q,st.f2.f2.f2,k,l,n,p⟩)
  exact aM 4 (K i ⟨m8,rfl,q,st.f2.f2.f2,k,l,n,p⟩)
 intro o1 i d6;refine aK i ?_ ?_<;>intro A i
 .exact cB 1 (xE (d6 i ⟨m7,rfl,q.t Y,st.f1.f2.f2,k.o Y,(l.o e6).o Y,(n.o e6).o Y,(p.o e6).o Y⟩))
 exact iL (d6 i ⟨m7,rfl,q.t Y,st.f1.f2.f2,k.o Y,(l.o e6).o Y,(n.o e6).o Y,(p.o e6).o Y⟩)
theorem qRc{R8 R9 R7 Ra}(s:QF R8)(u:QD R9)(a:QA R7)(V:QE Ra){p0:iY}{p1:eL}{p2:eX}{p3:Int}{p4:Te}{T1:List Value}{r:sD}(st:St m (iP bp0 a1 c1 a2 c2 a3 c3 a4 c4 p0 p0.f.1 a5 c5 p0.h.1 p0.j::bO a5 (aN cP p0.f.1.d.1 T1) 90::O) w)(n:RepS C1 m a1 c1 p0.1)(o:RepS aD m a2 c2 p0.2.1.1)(p:RepS C7 m a3 c3 p0.2.1.2)(v:RepS C3 m a4 c4 p0.d.1)(F:OAS a5 p0.2.2.2.2.1.2.2.1.length c5 3 T1)(r5:RepS aD m a6 c6 p1.2.1)(r6:RepS C6 m a7 c7 p1.d)(r7:RepS C5 m a8 c8 p2)(r8:RepS (aI .i64) m a9 c9 p4)(i:GG N R8 R9 R7 Ra p0 p1 p2 p3 p4=some r):Calls prog 53 #[vP bp0 0,.agg (V7 p1 a6 c6 a7 c7),vS a8 p2 c8,vI p3,vS a9 p4 c9] w fun e w'=>∃d8 f0 d9 m',eA m m' e (vI r.2) (iP bp0 a1 c1 a2 c2 a3 c3 a4 c4 p0 r.1.1 d8 f0 r.1.2.1 r.1.d::bO d8 (aN cP r.1.1.d.1 d9) 90::O) w' (OAS d8 r.1.1.2.2.1.length f0 3 d9):=by
 refine bY st func53 rfl ntmps53 fun q=>aC (iK 6 78 (.agg (V7 p1 a6 c6 a7 c7)) st fun b1 E w1 e1 st a0=> ?_);have q:=q.t e1;have r5:=r5.o e1;have r6:=r6.o e1;have r7:=r7.o e1;have r8:=r8.o e1;have n:=n.o e1;have o:=o.o e1;have p:=p.o e1;have v:=v.o e1;refine eF (aC (aV 3 st.h (eK i ?_ ?_)))<;>intro A i
 .cases i;exact cO ⟨a5,c5,T1,E,rfl,q,st.f1.f1,F⟩
 refine aL (aG (aC (aV 4 st.h (eK i ?_ ?_))))<;>intro A i
 .refine aY 1 i (rP (p0:=p0) st.f1.f1 n o p v F) ?_;rintro y1 i _ z ⟨b,c,T2,l,rfl,k,st,g⟩;cases i;exact eT ⟨b,c,T2,l,rfl,q.t k,st.f1.f1,g⟩
 refine aL (bK 4 (cF st.h (cH 4 (nD #[vS a1 p0.1 c1,vS a2 p0.2.1.1 c2,vS a3 p0.2.1.2 c3,vS a4 p0.d.1 c4,.int .u64 p0.e.1,vI p0.f.1.1.1,vI p0.f.1.1.2.1,vI p0.f.1.1.d,vB p0.f.1.2.1,vS a5 p0.f.1.d.1 c5,vI (wr (p0.f.1.e+1)),vI p0.h.1,vI p0.j] st fun w3 st=>aJ (bK 2 (iE r7 i ?_))))));rintro b i b2 f1 g8 ⟨_,_,rfl,rfl,⟨_,_,rfl,rfl,⟨_,_,rfl,rfl,⟨_,_,rfl,rfl,⟨k,l,rfl,r9⟩⟩⟩⟩⟩ f9;refine cI st f9 (eE 11 133 (.agg #[vI 0,vI 0,vI 0,vT eB,v6]) st fun B w4 st=>cL (.agg (V9 b k l)) st fun w5 st=>aJ (aG (aC (aV 1 st.h (aJ (bA (bF i ?_ ?_)))))))<;>intro A i
 .cases i;exact aC (aV 1 st.h (eT ⟨a5,c5,T1,E,rfl,q,st.t.f1.f1,F⟩))
 refine bF i ?_ ?_<;>intro A i
 .refine bK 2 (cF st.h (iE r8 i ?_));rintro c i G z D rfl g;obtain rfl:=sI i;exact cI st g (eT ⟨a5,c5,T1,E,rfl,q,st.t.f1.f1,F⟩)
 refine bF i ?_ ?_<;>intro A i
 .refine iQ 1 st a0 (aV 1 st.h (eR 1 i (s (p0:=(p0.1,p0.2.1,p0.d.1,p0.e.1,(p0.f.1.1,p0.f.1.2.1,p0.f.1.d.1,wr (p0.f.1.e+1)),p0.h.1,p0.j)) (p1:=p1) (p3:=b) st.f2.f2 n o p v F r5 r6 r7 r9 r8) ?_));rintro D i _ K ⟨c,g,T3,H,rfl,G,st,z⟩;cases i;exact eT ⟨c,g,T3,H,rfl,q.t G,st.f2.t.f1.f1,z⟩
 refine bF i ?_ ?_<;>intro A i
 .refine aG (eH [(10,fun w'=>Inv E w'/\Piece.holds E w' (kB B (V9 b k l) 133)/\True)] kr st fun w7 _ st=> ?_);have z:=E.le_refl;refine⟨aS (aF st z),aT 0 (cR 1 a0 (aX 2 [2,3] (eI 4 eC ?_)))⟩;have⟨x3,d2,i⟩:=aU i;refine mT (t:=22) (e:=3) (x:=(.tmp 80)) (y:=(.const (vI 0))) 5 81 (aI .i64) kr rfl kr (.head _) (aH (bQ (aH eY))) (ev (vS k b.f l)) (ev (vI 0)) kr r9 d2 ?_;rintro b5 f3 d6 rfl Z;refine cR 6 Z (aT 7 (aR 8 kr (cJ i (fun _ h=>a (p0:=(p0.1,p0.2.1,p0.d.1,p0.e.1,(p0.f.1.1,p0.f.1.2.1,p0.f.1.d.1,wr (p0.f.1.e+1)),p0.h.1,p0.j)) (p1:=p1) st.f2.f2 n o p v F r5 r6 r7 r8 h) ?_)));rintro G i _ w8 ⟨d4,d5,T4,M,rfl,c,st,c0⟩;refine⟨_,rfl,?_⟩;have z:=z.t c;refine⟨aS (aF st z),aT 9 (cE kr (mD (eH [(10,fun w'=>Inv M w'/\Piece.holds M w' (kB B (V9 b k l) 133)/\True)] kr st fun w9 _ st=> ?_)))⟩;have D:=M.le_refl;refine⟨aS (aF st D),aT 0 (cR 1 (a0.o c) (aX 2 [2,3] (eI 4 eC ?_)))⟩;have⟨x4,d3,i⟩:=aU i;refine mT (t:=22) (e:=3) (x:=(.tmp 89)) (y:=(.const (vI 1))) 5 90 (aI .i64) kr rfl kr (.head _) (aH (bQ (aH eY))) (ev (vS k b.f l)) (ev (vI 1)) kr (r9.o c) d3 ?_;rintro b6 f4 d7 rfl b0
  refine cR 6 b0 (aT 7 (aR 8 kr (cJ i (fun _ h=>a (p0:=(p0.1,p0.2.1,p0.d.1,p0.e.1,G.1.1,G.1.2.1,G.1.d)) (p1:=p1) st.f1.f1 (n.o c) (o.o c) (p.o c) (v.o c) c0 (r5.o c) (r6.o c) (r7.o c) (r8.o c) h) ?_)));rintro g i _ f8 ⟨R,U,T5,m5,rfl,H,st,K⟩;refine⟨_,rfl,?_⟩;have D:=D.t H;refine⟨aS (aF st D),aT 9 (cE kr (mD (aC (aV 3 st.h (eK i ?_ ?_)))))⟩<;>intro A i
  .cases i;exact cO ⟨R,U,T5,m5,rfl,(q.t c).t H,st.f2.t.f1.f1,K⟩
  refine aL (bK 2 (cF st.t.t.h (eR 2 i (qRh (p0:=(p0.1,p0.2.1,p0.d.1,p0.e.1,g.1.1,g.1.2.1,g.1.d)) st.f1.f1 ((n.o c).o H) ((o.o c).o H) ((p.o c).o H) ((v.o c).o H) K) ?_)));rintro y5 i _ g0 ⟨S,Y,T6,m6,rfl,e6,st,d1⟩;cases i;exact eT ⟨S,Y,T6,m6,rfl,((q.t c).t H).t e6,st.f2.t.f1.f1,d1⟩
 refine bF i ?_ ?_<;>intro A i
 .refine aG (eH [(10,fun w'=>Inv E w'/\Piece.holds E w' (kB B (V9 b k l) 133)/\True)] kr st fun d4 _ st=> ?_);have z:=E.le_refl;refine⟨aS (aF st z),aT 0 (cR 1 a0 (aX 2 [2,3] (eI 4 eC ?_)))⟩;have⟨x5,K,i⟩:=aU i;refine mT (t:=22) (e:=3) (x:=(.tmp 111)) (y:=(.const (vI 0))) 5 112 (aI .i64) kr rfl kr (.head _) (aH (bQ (aH eY))) (ev (vS k b.f l)) (ev (vI 0)) kr r9 K ?_;rintro b7 f5 d2 rfl b0;refine cR 6 b0 (aT 7 (aR 8 kr (cJ i (fun _ h=>a (p0:=(p0.1,p0.2.1,p0.d.1,p0.e.1,(p0.f.1.1,p0.f.1.2.1,p0.f.1.d.1,wr (p0.f.1.e+1)),p0.h.1,p0.j)) (p1:=p1) st.f2.f2 n o p v F r5 r6 r7 r8 h) ?_)));rintro g i _ d5 ⟨R,U,T7,G,rfl,c,st,H⟩;refine⟨_,rfl,?_⟩;have q:=q.t c;have z:=z.t c;refine⟨aS (aF st z),aT 9 (cE kr (mD (aC (aV 3 st.h (eK i ?_ ?_)))))⟩<;>intro A i
  .cases i;exact cO ⟨R,U,T7,G,rfl,q,st.f2.t.f1.f1,H⟩
  refine aL (aG (bF i ?_ ?_))<;>intro A i
  .refine aG (eH [(10,fun w'=>Inv G w'/\Piece.holds G w' (kB B (V9 b k l) 133)/\True)] kr st fun d6 _ st=> ?_);have D:=G.le_refl;refine⟨aS (aF st D),aT 0 (cR 1 (a0.o c) (aX 2 [2,3] (eI 4 eC ?_)))⟩;have⟨x6,M,i⟩:=aU i;refine mT (t:=22) (e:=3) (x:=(.tmp 127)) (y:=(.const (vI 1))) 5 128 (aI .i64) kr rfl kr (.head _) (aH (aH (bQ (aH eY)))) (ev (vS k b.f l)) (ev (vI 1)) kr (r9.o c) M ?_;rintro b8 f6 d3 rfl c0;refine cR 6 c0 (aT 7 (aR 8 kr (cJ i (fun _ h=>a (p0:=(p0.1,p0.2.1,p0.d.1,p0.e.1,g.1.1,g.1.2.1,g.1.d)) (p1:=p1) st.f1.f1 (n.o c) (o.o c) (p.o c) (v.o c) H (r5.o c) (r6.o c) (r7.o c) (r8.o c) h) ?_)));rintro y7 i _ d7 ⟨S,Y,T8,m8,rfl,Z,st,d1⟩;refine⟨_,rfl,?_⟩;have D:=D.t Z;refine⟨aS (aF st D),aT 9 (cE kr (bC (bU (bL (cN (bL ?_))))))⟩;cases i;exact vJ ⟨S,Y,T8,m8,rfl,q.t Z,st.f2.t.f1.f1,d1⟩
  refine aL (aG (eH [(10,fun w'=>Inv G w'/\Piece.holds G w' (kB B (V9 b k l) 133)/\True)] kr st fun d6 _ st=> ?_));have D:=G.le_refl;refine⟨aS (aF st D),aT 0 (cR 1 (a0.o c) (aX 2 [2,3] (eI 4 eC ?_)))⟩;have⟨x7,M,i⟩:=aU i;refine mT (t:=22) (e:=3) (x:=(.tmp 136)) (y:=(.const (vI 2))) 5 137 (aI .i64) kr rfl kr (.head _) (aH (bQ (aH eY))) (ev (vS k b.f l)) (ev (vI 2)) kr (r9.o c) M ?_;rintro b9 f7 d3 rfl c0;refine cR 6 c0 (aT 7 (aR 8 kr (cJ i (fun _ h=>a (p0:=(p0.1,p0.2.1,p0.d.1,p0.e.1,g.1.1,g.1.2.1,g.1.d)) (p1:=p1) st.f1.f1 (n.o c) (o.o c) (p.o c) (v.o c) H (r5.o c) (r6.o c) (r7.o c) (r8.o c) h) ?_)));rintro y8 i _ d7 ⟨S,Y,T9,m9,rfl,Z,st,d1⟩;refine⟨_,rfl,?_⟩;have D:=D.t Z;refine⟨aS (aF st D),aT 9 (cE kr (bC (bU (cN (bL ?_)))))⟩;cases i;exact vJ ⟨S,Y,T9,m9,rfl,q.t Z,st.f2.t.f1.f1,d1⟩
 refine bF i ?_ ?_<;>intro A i
 .refine iQ 1 st a0 (aV 1 st.h (eR 1 i (u (p0:=(p0.1,p0.2.1,p0.d.1,p0.e.1,(p0.f.1.1,p0.f.1.2.1,p0.f.1.d.1,wr (p0.f.1.e+1)),p0.h.1,p0.j)) (p1:=p1) (p3:=b) st.f2.f2 n o p v F r5 r6 r7 r9 r8) ?_));rintro H i _ K ⟨g,z,T10,G,rfl,D,st,c⟩;cases i;exact eT ⟨g,z,T10,G,rfl,q.t D,st.f2.t.f1.f1,c⟩
 refine bF i ?_ ?_<;>intro A i
 .refine aG (eH [(21,fun w'=>Inv E w'/\Piece.holds E w' (kB B (V9 b k l) 133)/\Piece.holds E w' (wF bp0 a1 c1 a2 c2 a3 c3 a4 c4 p0 p0.f.1.1.1 p0.f.1.1.2.1 p0.f.1.1.d p0.f.1.2.1 a5 p0.f.1.d.1 c5 (wr (p0.f.1.e+1)) p0.h.1 p0.j)/\True)] kr st fun g9 _ st=> ?_);have D:=E.le_refl;refine⟨aS (aF st D),aX 3 [0,1,2] (eI 3 uN (aX 3 [4,5,6] (eI 7 uN (aT 8 (eI 9 eC (sZ [10,16] kr ae (sY ?_ ?_)))))))⟩
  .refine cJ i (fun _ h=>GP (p1:=p0.2.1) st n o p h) ?_;rintro c i _ g1 ⟨S,U,g0,rfl,G,st,d7⟩;refine⟨_,rfl,?_⟩;have n:=n.o G;have o:=o.o G;have p:=p.o G;have v:=v.o G;have D:=D.t G;refine⟨aS (aF st D),aX 5 [11,12,13,14,15] (aR 16 kr (tB 16 74 (.agg lU) st fun f8 g2 st=>⟨aS (aF st D),aT 17 (aR 18 kr (nI 74 16 164 (.agg (Ve c.2.1)) st fun g3 st=>⟨aS (aF st D),aX 2 [19,20] (cE kr (bC (aY 2 i (yQ (p0:=(p0.1,p0.2.1,p0.d.1,p0.e.1,(p0.f.1.1,p0.f.1.2.1,p0.f.1.d.1,wr (p0.f.1.e+1)),p0.h.1,p0.j)) st.f4.f4 n o p v F d7) ?_)))⟩))⟩))⟩;rintro g i _ g4 ⟨Y,Z,T11,M,rfl,K,st,R⟩;have q:=(q.t G).t K;have n:=n.o K;refine lK ?_;have st:=st.f3.t;refine mD (bF i ?_ ?_)<;>intro A i
   .refine aY 2 i (rP (p0:=(p0.1,p0.2.1,p0.d.1,p0.e.1,g.1,g.2.1,g.d)) st.f1.f1 n (o.o K) (p.o K) (v.o K) R) ?_;rintro c0 i _ g5 ⟨d2,d3,T12,d5,rfl,d4,st,d1⟩;cases i;exact eT ⟨d2,d3,T12,d5,rfl,q.t d4,st.f2.t.f2.t.f1.f1,d1⟩
   refine aL (aG (bF i ?_ ?_))<;>intro A i
   .cases i;exact cO ⟨Y,Z,T11,M,rfl,q,st.f2.t.f2.t.f1.f1,R⟩
   refine aL (aG (eH [(12,fun w'=>Inv M w'/\Piece.holds M w' (iP bp0 a1 c1 a2 c2 a3 c3 a4 c4 p0 g.1 Y Z g.2.1 g.d)/\Piece.holds M w' (kB B (V9 b k l) 133)/\True)] kr st fun g6 _ st=> ?_));have H:=M.le_refl;refine⟨aS (aF st H),aX 3 [0,1,2] (eI 3 eC (aT 4 (eI 5 uN (aR 6 kr (cJ i (fun _ h=>BU st n h) ?_)))))⟩;rintro z i _ g7 ⟨d6,rfl,b0,st⟩;refine⟨_,rfl,?_⟩;have H:=H.t b0;refine⟨aS (aF st H),aX 5 [7,8,9,10,11] (cE kr (bC (bJ (bU (cN (bL ?_))))))⟩;cases i;exact vJ ⟨Y,Z,T11,d6,rfl,q.t b0,st.f2.t.f2.t.f1.f1,R⟩
  refine tB 16 74 (.agg lU) st fun f8 g1 st=> ?_;refine⟨aS (aF st D),aR 10 kr (cJ i (fun _ h=>GP (p1:=p0.2.1) st n o p h) ?_)⟩;rintro c i _ g2 ⟨S,U,g0,rfl,G,st,d7⟩;refine⟨_,rfl,?_⟩;have n:=n.o G;have o:=o.o G;have p:=p.o G;have v:=v.o G;have D:=D.t G;refine⟨aS (aF st D),aX 6 [11,12,13,14,15,17] (aR 18 kr (nI 74 16 164 (.agg (Ve c.2.1)) st.f1 fun g3 st=>⟨aS (aF st D),aX 2 [19,20] (cE kr (bC (aY 2 i (yQ (p0:=(p0.1,p0.2.1,p0.d.1,p0.e.1,(p0.f.1.1,p0.f.1.2.1,p0.f.1.d.1,wr (p0.f.1.e+1)),p0.h.1,p0.j)) st.f4.f4 n o p v F d7) ?_)))⟩))⟩;rintro g i _ g4 ⟨Y,Z,T11,M,rfl,K,st,R⟩;have q:=(q.t G).t K;have n:=n.o K;refine lK ?_;have st:=st.f3.t;refine mD (bF i ?_ ?_)<;>intro A i
  .refine aY 2 i (rP (p0:=(p0.1,p0.2.1,p0.d.1,p0.e.1,g.1,g.2.1,g.d)) st.f1.f1 n (o.o K) (p.o K) (v.o K) R) ?_;rintro c0 i _ g5 ⟨d2,d3,T12,d5,rfl,d4,st,d1⟩;cases i;exact eT ⟨d2,d3,T12,d5,rfl,q.t d4,st.f2.t.f2.t.f1.f1,d1⟩
  refine aL (aG (bF i ?_ ?_))<;>intro A i
  .cases i;exact cO ⟨Y,Z,T11,M,rfl,q,st.f2.t.f2.t.f1.f1,R⟩
  refine aL (aG (eH [(12,fun w'=>Inv M w'/\Piece.holds M w' (iP bp0 a1 c1 a2 c2 a3 c3 a4 c4 p0 g.1 Y Z g.2.1 g.d)/\Piece.holds M w' (kB B (V9 b k l) 133)/\True)] kr st fun g6 _ st=> ?_));have H:=M.le_refl;refine⟨aS (aF st H),aX 3 [0,1,2] (eI 3 eC (aT 4 (eI 5 uN (aR 6 kr (cJ i (fun _ h=>BU st n h) ?_)))))⟩;rintro z i _ g7 ⟨d6,rfl,b0,st⟩;refine⟨_,rfl,?_⟩;have H:=H.t b0;refine⟨aS (aF st H),aX 5 [7,8,9,10,11] (cE kr (bC (bJ (bU (cN (bL ?_))))))⟩;cases i;exact vJ ⟨Y,Z,T11,d6,rfl,q.t b0,st.f2.t.f2.t.f1.f1,R⟩
 refine bF i ?_ ?_<;>intro A i
 .refine aG (eH [(21,fun w'=>Inv E w'/\Piece.holds E w' (kB B (V9 b k l) 133)/\Piece.holds E w' (wF bp0 a1 c1 a2 c2 a3 c3 a4 c4 p0 p0.f.1.1.1 p0.f.1.1.2.1 p0.f.1.1.d p0.f.1.2.1 a5 p0.f.1.d.1 c5 (wr (p0.f.1.e+1)) p0.h.1 p0.j)/\True)] kr st fun d4 _ st=> ?_);have z:=E.le_refl;refine⟨aS (aF st z),aX 3 [0,1,2] (eI 3 uN (aX 3 [4,5,6] (eI 7 uN (aT 8 (eI 9 eC (sZ [10,16] kr ae (sY ?_ ?_)))))))⟩
  .refine cJ i (fun _ h=>GP (p1:=p0.2.1) st n o p h) ?_;rintro c i _ b0 ⟨D,G,Z,rfl,g,st,U⟩;refine⟨_,rfl,?_⟩;have z:=z.t g;refine⟨aS (aF st z),aX 5 [11,12,13,14,15] (aR 16 kr (tB 22 74 (.agg lU) st fun Y c0 st=>⟨aS (aF st z),aT 17 (aR 18 kr (nI 74 22 204 (.agg (Ve c.2.1)) st fun d1 st=>⟨aS (aF st z),aX 2 [19,20] (cE kr (bC (aY 2 i (yQ (p0:=(p0.1,p0.2.1,p0.d.1,p0.e.1,(p0.f.1.1,p0.f.1.2.1,p0.f.1.d.1,wr (p0.f.1.e+1)),p0.h.1,p0.j)) st.f4.f4 (n.o g) (o.o g) (p.o g) (v.o g) F U) ?_)))⟩))⟩))⟩;rintro d3 i _ d2 ⟨K,M,T13,S,rfl,R,st,H⟩;refine lK ?_;have st:=st.f3.t;refine mD (bF i ?_ ?_)<;>intro A i
   .cases i;exact cO ⟨K,M,T13,S,rfl,(q.t g).t R,st.f2.t.f2.t.f1.f1,H⟩
   cases i;exact aL (cO ⟨K,M,T13,S,rfl,(q.t g).t R,st.f2.t.f2.t.f1.f1,H⟩)
  refine tB 22 74 (.agg lU) st fun Y b0 st=> ?_;refine⟨aS (aF st z),aR 10 kr (cJ i (fun _ h=>GP (p1:=p0.2.1) st n o p h) ?_)⟩;rintro c i _ c0 ⟨D,G,Z,rfl,g,st,U⟩;refine⟨_,rfl,?_⟩;have z:=z.t g;refine⟨aS (aF st z),aX 6 [11,12,13,14,15,17] (aR 18 kr (nI 74 22 204 (.agg (Ve c.2.1)) st.f1 fun d1 st=>⟨aS (aF st z),aX 2 [19,20] (cE kr (bC (aY 2 i (yQ (p0:=(p0.1,p0.2.1,p0.d.1,p0.e.1,(p0.f.1.1,p0.f.1.2.1,p0.f.1.d.1,wr (p0.f.1.e+1)),p0.h.1,p0.j)) st.f4.f4 (n.o g) (o.o g) (p.o g) (v.o g) F U) ?_)))⟩))⟩;rintro d3 i _ d2 ⟨K,M,T13,S,rfl,R,st,H⟩;refine lK ?_;have st:=st.f3.t;refine mD (bF i ?_ ?_)<;>intro A i
  .cases i;exact cO ⟨K,M,T13,S,rfl,(q.t g).t R,st.f2.t.f2.t.f1.f1,H⟩
  cases i;exact aL (cO ⟨K,M,T13,S,rfl,(q.t g).t R,st.f2.t.f2.t.f1.f1,H⟩)
 refine bF i ?_ ?_<;>intro A i
 .refine bK 2 (cF st.h (cH 1 (lG 218 90 1 C8 [(5,b.e.1,eB)] st fun d4 d5 d6 D st d3=> ?_)));have n:=n.o D;have o:=o.o D;have p:=p.o D;have v:=v.o D;refine bI i (yQ (p0:=(p0.1,p0.2.1,p0.d.1,p0.e.1,(p0.f.1.1,p0.f.1.2.1,p0.f.1.d.1,wr (p0.f.1.e+1)),p0.h.1,p0.j)) st.f3.f3 n o p v F d3) ?_;rintro c i _ d7 ⟨R,S,T14,K,rfl,G,st,M⟩;have v:=v.o G;refine lK ?_;have st:=st.f2.t;refine mD (eH [(12,fun w'=>Inv K w'/\Piece.holds K w' (iP bp0 a1 c1 a2 c2 a3 c3 a4 c4 p0 c.1 R S c.2.1 c.d)/\Piece.holds K w' (kB B (V9 b k l) 133)/\True)] kr st fun f8 _ st=> ?_);have H:=K.le_refl;refine⟨aS (aF st H),aX 3 [0,1,2] (eI 3 eC (aT 4 (eI 5 uN (aR 6 kr (cJ i (fun _ h=>qCq st v h) ?_)))))⟩;rintro g i _ g0 ⟨d1,rfl,z,st⟩;refine⟨_,rfl,?_⟩;have H:=H.t z;refine⟨aS (aF st H),aX 5 [7,8,9,10,11] (cE kr (mD (bF i ?_ ?_)))⟩<;>intro A i
  .refine aY 1 i (rP (p0:=(p0.1,p0.2.1,p0.d.1,p0.e.1,c.1,c.2.1,c.d)) st.f1.f1 ((n.o G).o z) ((o.o G).o z) ((p.o G).o z) (v.o z) M) ?_;rintro U i _ g1 ⟨Z,b0,T15,d2,rfl,c0,st,Y⟩;cases i;exact eT ⟨Z,b0,T15,d2,rfl,(((q.t D).t G).t z).t c0,st.f2.t.f1.f1,Y⟩
  cases i;exact aL (cO ⟨R,S,T14,d1,rfl,((q.t D).t G).t z,st.f2.t.f1.f1,M⟩)
 refine lC (bK 4 (nD #[vS a1 p0.1 c1,vS a2 p0.2.1.1 c2,vS a3 p0.2.1.2 c3,vS a4 p0.d.1 c4,.int .u64 p0.e.1,vI p0.f.1.1.1,vI p0.f.1.1.2.1,vI p0.f.1.1.d,vB true,vS a5 p0.f.1.d.1 c5,vI (wr (p0.f.1.e+1)),vI p0.h.1,vI p0.j] st.f1 fun D st=>aJ (aG (eH [(10,fun w'=>Inv E w'/\Piece.holds E w' (wF bp0 a1 c1 a2 c2 a3 c3 a4 c4 p0 p0.f.1.1.1 p0.f.1.1.2.1 p0.f.1.1.d true a5 p0.f.1.d.1 c5 (wr (p0.f.1.e+1)) p0.h.1 p0.j)/\Piece.holds E w' (kB B (V9 b k l) 133)/\True)] kr st fun G _ st=> ?_))));have c:=E.le_refl;refine⟨aS (aF st c),aX 3 [0,1,2] (eI 3 eC (aT 4 (eI 5 uN ?_)))⟩;have⟨g,z,i⟩:=aU i;refine aR 6 kr (zDe (d:=245) (t:=46) (t2:=3) (x:=(.tmp 242)) (y:=(.tmp 244)) kr rfl (ev (.int .u64 p0.e.1)) (ev (vI b.2.1)) z ⟨aS (aF st c),aX 3 [7,8,9] (cE kr (bC (bU ?_)))⟩);obtain rfl:=sI i;exact vJ ⟨a5,c5,T1,E,rfl,q,st.f1.t.f1.f1,F⟩
theorem qRg{R8 R9 R7 Ra}(g:QF R8)(k:QD R9)(a:QA R7)(c:QE Ra){p0:iY}{p1:eL}{p2:Int}{p3:Te}{T1:List Value}{r:sD}(st:St m (iP bp0 a1 c1 a2 c2 a3 c3 a4 c4 p0 p0.f.1 a5 c5 p0.h.1 p0.j::bO a5 (aN cP p0.f.1.d.1 T1) 90::O) w)(K:RepS C1 m a1 c1 p0.1)(M:RepS aD m a2 c2 p0.2.1.1)(R:RepS C7 m a3 c3 p0.2.1.2)(S:RepS C3 m a4 c4 p0.d.1)(D:OAS a5 p0.2.2.2.2.1.2.2.1.length c5 3 T1)(r5:RepS aD m a6 c6 p1.2.1)(U:RepS C6 m a7 c7 p1.d)(r7:RepS (aI .i64) m a8 c8 p3)(i:QJ N R8 R9 R7 Ra p0 p1 p2 p3=some r):Calls prog 34 #[vP bp0 0,.agg (V7 p1 a6 c6 a7 c7),vI p2,vS a8 p3 c8] w fun e w'=>∃p F E m',eA m m' e (vI r.2) (iP bp0 a1 c1 a2 c2 a3 c3 a4 c4 p0 r.1.1 p F r.1.2.1 r.1.d::bO p (aN cP r.1.1.d.1 E) 90::O) w' (OAS p r.1.1.2.2.1.length F 3 E):=by
 refine bY st func34 rfl ntmps34 fun q=>aC (iK 5 78 (.agg (V7 p1 a6 c6 a7 c7)) st fun V m1 w1 b st B=>eF (aC (aV 3 st.h (eK i ?_ ?_))))<;>intro A i
 .refine aY 1 i (rP (p0:=p0) st.f1.f1 (K.o b) (M.o b) (R.o b) (S.o b) D) ?_;rintro y1 i _ v ⟨n,o,T2,u,rfl,s,st,l⟩;cases i;exact eT ⟨n,o,T2,u,rfl,(q.t b).t s,st.f1.f1,l⟩
 refine aL (bK 3 (cF st.h (cH 3 (nD #[vS a1 p0.1 c1,vS a2 p0.2.1.1 c2,vS a3 p0.2.1.2 c3,vS a4 p0.d.1 c4,.int .u64 p0.e.1,vI p0.f.1.1.1,vI p0.f.1.1.2.1,vI p0.f.1.1.d,vB p0.f.1.2.1,vS a5 p0.f.1.d.1 c5,vI p0.f.1.e,vI p0.h.1,vI (wr (p0.j+1))] st fun w3 st=>aJ (iQ 1 st (B.drop 2) (cH 1 (iE (U.o b) i ?_)))))));rintro s i b2 Z a0 ⟨_,_,rfl,rfl,⟨_,_,rfl,rfl,⟨_,_,rfl,⟨u,y,rfl,r8⟩,⟨n,o,rfl,r9⟩⟩⟩⟩ G;refine cI st G (eE 9 109 (.agg #[vI 0,vT eB,v6,v6]) st fun b3 w4 st=>cL (.agg (V8 s u y n o)) st fun w5 st=>aJ (iQ 1 st B (aV 1 st.h (aV 1 st.h (eR 3 i (a (p0:=(p0.1,p0.2.1,p0.d.1,p0.e.1,p0.f.1,p0.h.1,wr (p0.j+1))) (p1:=p1) st.f2.f2 (K.o b) (M.o b) (R.o b) (S.o b) D (r5.o b) (U.o b) r9 (r7.o b)) ?_)))));rintro l i _ w6 ⟨v,z,T3,m3,rfl,Y,st,H⟩;cases i;exact bH (bK 3 (cF st.h (cH 3 (nD #[vS a1 p0.1 c1,vS a2 p0.2.1.1 c2,vS a3 p0.2.1.2 c3,vS a4 p0.d.1 c4,.int .u64 p0.e.1,vI l.1.1.1.1,vI l.1.1.1.2.1,vI l.1.1.1.d,vB l.1.1.2.1,vS v l.1.1.d.1 z,vI l.1.1.e,vI l.1.2.1,vI (wr (l.1.d-1))] st fun w7 st=>aJ (aC (eT ⟨v,z,T3,m3,rfl,(q.t b).t Y,st.f2.t.f1.f1,H⟩))))))
theorem sH(N:Nat):∀D:Nat,(∀{m:Mem} {O:List Piece} {w:World} {p0:iY} {p1:eL} {p2:eX} {p3:nL} {p4:Te} {a:Nat} {l:Option Addr} {s:Nat} {n:Option Addr} {t:Nat} {o:Option Addr} {u:Nat} {p:Option Addr} {v:Nat} {q:Option Addr} {B:Nat} {T1:List Value} {y:Option Addr} {E:Nat} {z:Option Addr} {F:Nat} {A:Option Addr} {G:Nat} {Z:Option Addr} {c9:Nat} {Y:Option Addr} {a0:Nat} {r:sD} (st:St m (iP a l s n t o u p v p0 p0.f.1 q B p0.h.1 p0.j::bO q (aN cP p0.f.1.d.1 T1) 90::O) w) (H:RepS C1 m l s p0.1) (K:RepS aD m n t p0.2.1.1) (M:RepS C7 m o u p0.2.1.2) (R:RepS C3 m p v p0.d.1) (c:OAS q p0.2.2.2.2.1.2.2.1.length B 3 T1) (S:RepS aD m y E p1.2.1) (U:RepS C6 m z F p1.d) (V:RepS C5 m A G p2) (r8:RepS (aI .i64) m Z c9 p3.f) (r9:RepS (aI .i64) m Y a0 p4) (i:(oO N D).1 p0 p1 p2 p3 p4=some r),Calls prog 74 #[vP a 0,.agg (V7 p1 y E z F),vS A p2 G,.agg (V9 p3 Z c9),vS Y p4 a0] w fun e w'=>∃b k g m',eA m m' e (vI r.2) (iP a l s n t o u p v p0 r.1.1 b k r.1.2.1 r.1.d::bO b (aN cP r.1.1.d.1 g) 90::O) w' (OAS b r.1.1.2.2.1.length k 3 g))/\(∀{m:Mem} {O:List Piece} {w:World} {p0:iY} {p1:eL} {p2:eX} {p3:nL} {p4:Te} {a:Nat} {l:Option Addr} {s:Nat} {n:Option Addr} {t:Nat} {o:Option Addr} {u:Nat} {p:Option Addr} {v:Nat} {q:Option Addr} {B:Nat} {T1:List Value} {y:Option Addr} {E:Nat} {z:Option Addr} {F:Nat} {A:Option Addr} {G:Nat} {Z:Option Addr} {c9:Nat} {Y:Option Addr} {a0:Nat} {r:sD} (st:St m (iP a l s n t o u p v p0 p0.f.1 q B p0.h.1 p0.j::bO q (aN cP p0.f.1.d.1 T1) 90::O) w) (H:RepS C1 m l s p0.1) (K:RepS aD m n t p0.2.1.1) (M:RepS C7 m o u p0.2.1.2) (R:RepS C3 m p v p0.d.1) (c:OAS q p0.2.2.2.2.1.2.2.1.length B 3 T1) (S:RepS aD m y E p1.2.1) (U:RepS C6 m z F p1.d) (V:RepS C5 m A G p2) (r8:RepS (aI .i64) m Z c9 p3.f) (r9:RepS (aI .i64) m Y a0 p4) (i:(oO N D).2.1 p0 p1 p2 p3 p4=some r),Calls prog 76 #[vP a 0,.agg (V7 p1 y E z F),vS A p2 G,.agg (V9 p3 Z c9),vS Y p4 a0] w fun e w'=>∃b k g m',eA m m' e (vI r.2) (iP a l s n t o u p v p0 r.1.1 b k r.1.2.1 r.1.d::bO b (aN cP r.1.1.d.1 g) 90::O) w' (OAS b r.1.1.2.2.1.length k 3 g))/\(∀{m:Mem} {O:List Piece} {w:World} {p0:iY} {p1:eL} {p2:eX} {p3:Int} {p4:Te} {a:Nat} {l:Option Addr} {s:Nat} {n:Option Addr} {t:Nat} {o:Option Addr} {u:Nat} {p:Option Addr} {v:Nat} {q:Option Addr} {B:Nat} {T1:List Value} {y:Option Addr} {E:Nat} {z:Option Addr} {F:Nat} {A:Option Addr} {G:Nat} {Z:Option Addr} {c9:Nat} {r:sD} (st:St m (iP a l s n t o u p v p0 p0.f.1 q B p0.h.1 p0.j::bO q (aN cP p0.f.1.d.1 T1) 90::O) w) (H:RepS C1 m l s p0.1) (K:RepS aD m n t p0.2.1.1) (M:RepS C7 m o u p0.2.1.2) (R:RepS C3 m p v p0.d.1) (c:OAS q p0.2.2.2.2.1.2.2.1.length B 3 T1) (S:RepS aD m y E p1.2.1) (U:RepS C6 m z F p1.d) (V:RepS C5 m A G p2) (r8:RepS (aI .i64) m Z c9 p4) (i:(oO N D).2.2.1 p0 p1 p2 p3 p4=some r),Calls prog 53 #[vP a 0,.agg (V7 p1 y E z F),vS A p2 G,vI p3,vS Z p4 c9] w fun e w'=>∃b k g m',eA m m' e (vI r.2) (iP a l s n t o u p v p0 r.1.1 b k r.1.2.1 r.1.d::bO b (aN cP r.1.1.d.1 g) 90::O) w' (OAS b r.1.1.2.2.1.length k 3 g))/\(∀{m:Mem} {O:List Piece} {w:World} {p0:iY} {p1:eL} {p2:Int} {p3:Te} {a:Nat} {l:Option Addr} {s:Nat} {n:Option Addr} {t:Nat} {o:Option Addr} {u:Nat} {p:Option Addr} {v:Nat} {q:Option Addr} {B:Nat} {T1:List Value} {y:Option Addr} {E:Nat} {z:Option Addr} {F:Nat} {A:Option Addr} {G:Nat} {r:sD} (st:St m (iP a l s n t o u p v p0 p0.f.1 q B p0.h.1 p0.j::bO q (aN cP p0.f.1.d.1 T1) 90::O) w) (H:RepS C1 m l s p0.1) (K:RepS aD m n t p0.2.1.1) (M:RepS C7 m o u p0.2.1.2) (R:RepS C3 m p v p0.d.1) (c:OAS q p0.2.2.2.2.1.2.2.1.length B 3 T1) (S:RepS aD m y E p1.2.1) (U:RepS C6 m z F p1.d) (V:RepS (aI .i64) m A G p3) (i:(oO N D).2.2.2 p0 p1 p2 p3=some r),Calls prog 34 #[vP a 0,.agg (V7 p1 y E z F),vI p2,vS A p3 G] w fun e w'=>∃b k g m',eA m m' e (vI r.2) (iP a l s n t o u p v p0 r.1.1 b k r.1.2.1 r.1.d::bO b (aN cP r.1.1.d.1 g) 90::O) w' (OAS b r.1.1.2.2.1.length k 3 g))
 |0=>⟨fun _ _ _ _ _ _ _ _ _ _ _ i=>(by cases i),fun _ _ _ _ _ _ _ _ _ _ _ i=>(by cases i),fun _ _ _ _ _ _ _ _ _ _ i=>(by cases i),fun _ _ _ _ _ _ _ _ _ i=>(by cases i)⟩
 |D+1=>⟨fun st H K M R c S U V r8 r9 i=>qRf (sH N D).1 (sH N D).2.1 (sH N D).2.2.1 (sH N D).2.2.2 st H K M R c S U V r8 r9 i,fun st H K M R c S U V r8 r9 i=>qRi (sH N D).1 (sH N D).2.1 (sH N D).2.2.1 (sH N D).2.2.2 st H K M R c S U V r8 r9 i,fun st H K M R c S U V r8 i=>qRc (sH N D).1 (sH N D).2.1 (sH N D).2.2.1 (sH N D).2.2.2 st H K M R c S U V r8 i,fun st H K M R c S U V i=>qRg (sH N D).1 (sH N D).2.1 (sH N D).2.2.1 (sH N D).2.2.2 st H K M R c S U V i⟩
theorem qRn{p0:iY}{p1:eL}{p2:Int}{p3:Te}{T1:List Value}{r:sD}(st:St m (iP bp0 a1 c1 a2 c2 a3 c3 a4 c4 p0 p0.f.1 a5 c5 p0.h.1 p0.j::bO a5 (aN cP p0.f.1.d.1 T1) 90::O) w)(k:RepS C1 m a1 c1 p0.1)(l:RepS aD m a2 c2 p0.2.1.1)(n:RepS C7 m a3 c3 p0.2.1.2)(o:RepS C3 m a4 c4 p0.d.1)(g:OAS a5 p0.2.2.2.2.1.2.2.1.length c5 3 T1)(p:RepS aD m a6 c6 p1.2.1)(q:RepS C6 m a7 c7 p1.d)(s:RepS (aI .i64) m a8 c8 p3)(i:qCm N p0 p1 p2 p3=some r):Calls prog 34 #[vP bp0 0,.agg (V7 p1 a6 c6 a7 c7),vI p2,vS a8 p3 c8] w fun e w'=>∃a c b m',eA m m' e (vI r.2) (iP bp0 a1 c1 a2 c2 a3 c3 a4 c4 p0 r.1.1 a c r.1.2.1 r.1.d::bO a (aN cP r.1.1.d.1 b) 90::O) w' (OAS a r.1.1.2.2.1.length c 3 b):=
 (sH N N).2.2.2 st k l n o g p q s i
end
section
open Go Go.Dc Go.Proofs.Tryz
set_option maxHeartbeats 4000000
set_option maxRecDepth 100000
variable {N c1 c2:Nat} {m:Mem} {O:List Piece} {w:World} {a1 a2:Option Addr}
def yR(N:Nat)(p0:Ts)(p1:pQ)(p2:Int)(p3:Tr):Option (zU×Int):=
 ((ED N p0).bind fun y1=>if(y1 !=0)then(some true) else((zX N p1).bind fun a=>some (!a)):Tk).bind fun a=>if a then(some (((0,0,0),false,([]:iW),0),1)) else((HH N p0 2 p3.1 p3.2).bind fun a=>if(a.2.2.2.2.2 !=1)then(some (((0,0,0),false,([]:iW),0),18)) else((SI N p0 a).bind fun b=>(HF N p0).bind fun y5=>(pR N (p0,y5,p1,p2,((0,0,0),false,([]:iW),0),0,0) ([(2,p3.1,p3.2)])).bind fun a=>(qCm N (p0,y5,p1,p2,(a.1.1,a.1.2.1,a.1.2.2.1,a.1.2.2.2),a.2.1,a.2.2) b.1 b.2.1 ([]:Te)).bind fun a=>(if(a.1.2.1 !=0)then(some (3,0,a.1.2.1)) else(if(a.2==0)then(some (2,0,0)) else(some (1,a.2,0))):Option DP).bind fun o2=>some ((o2,a.1.1.2.1,a.1.1.2.2.1,a.1.1.2.2.2),0)))
theorem qDj{p0:Ts}{p1:pQ}{p2:Int}{p3:Tr}{r:zU×Int}(st:St m (O) w)(b:RepS C1 m a1 c1 p0)(k:RepS C3 m a2 c2 p1)(i:yR N p0 p1 p2 p3=some r):Calls prog 8 #[.agg #[vS a1 p0 c1],.agg #[vS a2 p1 c2],.int .u64 p2,.agg (V2 p3)] w fun e w'=>∃b0 c0 m',eA m m' e (.tuple #[.agg (Vk r.1.1.1 r.1.1.2.1 r.1.1.d r.1.2.1 b0 r.1.d.1 c0 r.1.e),vI r.2]) (kR b0 r.1.d.1 c0 90 3::O) w' (RepS C8 m' b0 c0 r.1.d.1):=by
 refine bY st func8 rfl ntmps8 fun q=>aC (iK 4 28 (.agg #[vS a1 p0 c1]) st fun b1 m1 w1 e1 st g=>iK 5 33 (.agg #[vS a2 p1 c2]) st fun b2 m2 w2 e2 st z=>iK 7 36 (.agg (V2 p3)) st fun b3 m3 w3 e3 st B=> ?_);have b:=((b.o e1).o e2).o e3;have g:=(g.o e2).o e3;refine eE 8 43 (.agg #[vI 0,vI 0,vI 0,vB false,v6,vI 0]) st fun b4 w4 st=>eF (aC (iG 8 i (fun o1 L' w'=>∃G,L'=[(2,.int .u64 p2),(4,vP b1 0),(5,vP b2 0),(7,vP b3 0),(8,vP b4 0),(22,vB o1)]/\m.le G/\St G (kB b4 #[vI 0,vI 0,vI 0,vB false,ve,vI 0] 43::O) w'/\MRow G b1 0 [vS a1 p0 c1]/\RepS C1 G a1 c1 p0/\MRow G b2 0 [vS a2 p1 c2]/\RepS C3 G a2 c2 p1/\MRow G b3 0 [vT p3.1,vT p3.2]) ?_ ?_))
 .rintro o1 i _ w5 ⟨G,rfl,q,st,g,b,z,k,B⟩;refine aJ (aK i ?_ ?_)<;>intro A i
  .refine bK 1 (cL (.agg #[vI 0,vI 0,vI 0,vB false,ve,vI 0]) st fun a st=>bH (bU (bL ?_)));cases i;refine BF 8 43 [9] [vI 1] st.h ?_;have st:=(st.nilroom 90 3).front1;exact⟨none,0,G,rfl,q,st.t,(RepS.nil _ _)⟩
  refine aL (aC (cI st g (cW 1 st B (cW 1 st (B.drop 1) (bI i (qSw st b) ?_)))));rintro y3 i _ w9 ⟨m7,rfl,Z,st⟩;have g:=g.o Z;have b:=b.o Z;refine eE 10 74 (.agg lU) st fun b5 d5 st=>cL (.agg (Ve y3)) st fun d6 st=>aJ (aG (aC (aV 1 st.h (eK i ?_ ?_))))<;>intro A i
  .refine bK 1 (cL (.agg #[vI 0,vI 0,vI 0,vB false,ve,vI 0]) st.f1 fun a st=>bH (bU (bL ?_)));cases i;refine BF 8 43 [9] [vI 18] st.h ?_;have st:=(st.nilroom 90 3).front1;exact⟨none,0,m7,rfl,q.t Z,st.t.f1.t,(RepS.nil _ _)⟩
  refine aL (aC (cI st g (cF st.h (bI i (qSx (p1:=y3) st b) ?_))));rintro n i _ d7 ⟨a3,c3,a4,c4,m8,rfl,F,st,H,M⟩;refine cH 4 (eE 11 78 (.agg #[vT eB,v6,v6]) st fun b6 d8 st=>cL (.agg (V7 n.1 a3 c3 a4 c4)) st fun d9 st=>eF (eH [(8,fun w'=>Inv m8 w'/\True)] kr st fun e9 _ st=> ?_));have D:=m8.le_refl;refine tA st D (cR 0 (g.o F) (cR 1 (g.o F) (cR 3 ((z.o Z).o F) (aT 4 (aR 2 kr (cJ i (fun _ h=>WG st (b.o F) h) ?_))))));rintro y5 i _ f0 ⟨R,U,S,V,m9,rfl,e8,st,p,s⟩;refine⟨_,rfl,?_⟩;have D:=D.t e8;refine tA st D (aT 5 (aR 6 kr (IS 47 87 46 (.agg #[vS a1 p0 c1,vS R y5.1 U,vS S y5.2 V,vS a2 p1 c2,.int .u64 p2,vI 0,vI 0,vI 0,vB false,ve,vI 0,vI 0,vI 0]) st fun o f3 st=>tA st D (aT 7 (cE kr (bC (iQ 2 st (((B.o Z).o F).o e8) (cW 1 st ((((B.o Z).o F).o e8).drop 1) (cH 1 (lG 54 90 1 C8 [(2,p3.1,p3.2)] st fun b8 d3 f4 u st r7=> ?_))))))))));have b:=((b.o F).o e8).o u;have p:=p.o u;have s:=s.o u;have k:=(((k.o Z).o F).o e8).o u;have st:=ZK (f:=cP) (st.nilroom 90 3);refine bI i (yQ (p0:=(p0,y5,p1,p2,((0,0,0),false,([]:iW),0),0,0)) st.f2 b p s k (OAS.nil 3) r7) ?_;rintro y6 i _ g0 ⟨a7,c7,T1,d4,rfl,v,st,c9⟩;have b:=b.o v;have p:=p.o v;have s:=s.o v;have k:=k.o v;have H:=((H.o e8).o u).o v;have M:=((M.o e8).o u).o v
  refine lK ?_;have st:=st.f2.t;refine yG 2 (cF st.t.t.t.t.h (eR 1 i (qRn (p0:=(p0,y5,p1,p2,y6.1,y6.2.1,y6.d)) (p1:=n.1) st.f1.f1 b p s k c9 H M (RepS.nil _ _)) ?_));rintro a i _ g1 ⟨E,Y,T2,a9,rfl,y,st,d1⟩;have q:=(((((q.t Z).t F).t e8).t u).t v).t y;have H:=H.o y;have M:=M.o y;have b:=b.o y;have p:=p.o y;have s:=s.o y;have k:=k.o y;refine cU (sM 61 33 #[vP o 0,vI a.2] kr rfl (uJ func33 rfl ntmps33 (aC (eE 4 43 (.agg #[vI 0,vI 0,vI 0,vB false,v6,vI 0]) st fun b9 g2 st=>aJ (aG (bV .normal i (fun o2 L' w'=>∃l,L'=[(0,vP o 0),(4,vP b9 0)]/\m.le l/\St l (kB b9 #[vI 0,vI 0,vI 0,vB false,ve,vI 0] 43::kB o #[vS a1 p0 c1,vS R y5.1 U,vS S y5.2 V,vS a2 p1 c2,.int .u64 p2,vI o2.1,vI o2.2.1,vI o2.d,vB a.1.1.2.1,vS E a.1.1.d.1 Y,vI a.1.1.e,vI a.1.2.1,vI a.1.d] 87::kB b6 (V7 n.1 a3 c3 a4 c4) 78::kB b5 (Ve y3) 74::kB b4 #[vI 0,vI 0,vI 0,vB false,ve,vI 0] 43::bO E (aN cP a.1.1.d.1 T2) 90::kR R y5.1 U 9 1::kR S y5.2 V 78 3::kR a3 n.1.2.1 c3 9 1::kR a4 n.1.d c4 109 4::O) w'/\RepS aD l a3 c3 n.1.2.1/\RepS C6 l a4 c4 n.1.d/\RepS C1 l a1 c1 p0/\RepS aD l R U y5.1/\RepS C7 l S V y5.2/\RepS C3 l a2 c2 p1) ?_ ?_))))))
  .rintro o2 i _ g3 ⟨l,rfl,q,st,H,M,b,p,s,k⟩;refine bC (aC (aV 3 st.t.h (cL (.agg (Vk o2.1 o2.2.1 o2.d a.1.1.2.1 E a.1.1.d.1 Y a.1.1.e)) st fun g4 st=>aJ (bU ?_))));have st:=st.f5;obtain⟨d2,a0,st,r8⟩:=St.freezeM (c:=C8) (f:=cP) st d1 rfl (fun _=>rfl) (fun _ x=>⟨_,_,rfl,rfl,⟨_,_,rfl,rfl,rfl⟩⟩);refine BF 4 43 [] [] st.t.h ⟨_,rfl,cL (.agg (Vk o2.1 o2.2.1 o2.d a.1.1.2.1 E a.1.1.d.1 Y a.1.1.e)) st.f5 fun g5 st=>bH (bU ?_)⟩;obtain rfl:=sI i;exact lQ st.h ⟨E,Y,d2,rfl,q.t a0,st.t.f1.t.f1.t.f1.t.f1.t.f1.t.f1.t.f1.t.f1.t,r8⟩
  intro o2 i a0;refine bA (aC (aV 3 st.t.h (eK i ?_ ?_)))<;>intro A i
  .exact iN 4 (cF st.t.h (cH 4 (nD #[vS a1 p0 c1,vS R y5.1 U,vS S y5.2 V,vS a2 p1 c2,.int .u64 p2,vI 3,vI 0,vI a.1.2.1,vB a.1.1.2.1,vS E a.1.1.d.1 Y,vI a.1.1.e,vI a.1.2.1,vI a.1.d] st.f1 fun d2 st=>lK (iX (a0 i ⟨a9,rfl,q,st.f7.f7.f6.f6.f6.f9.f9.f9.f8.f9,H,M,b,p,s,k⟩)))))
  refine bF i ?_ ?_<;>intro A i
  .exact iN 5 (nD #[vS a1 p0 c1,vS R y5.1 U,vS S y5.2 V,vS a2 p1 c2,.int .u64 p2,vI 2,vI 0,vI 0,vB a.1.1.2.1,vS E a.1.1.d.1 Y,vI a.1.1.e,vI a.1.2.1,vI a.1.d] st.f1 fun d2 st=>lK (iX (a0 i ⟨a9,rfl,q,st.f7.f7.f6.f6.f6.f9.f9.f9.f8.f9,H,M,b,p,s,k⟩)))
  exact iN 6 (nD #[vS a1 p0 c1,vS R y5.1 U,vS S y5.2 V,vS a2 p1 c2,.int .u64 p2,vI 1,vI a.2,vI 0,vB a.1.1.2.1,vS E a.1.1.d.1 Y,vI a.1.1.e,vI a.1.2.1,vI a.1.d] st.f1 fun d2 st=>lK (iX (a0 i ⟨a9,rfl,q,st.f7.f7.f6.f6.f6.f9.f9.f9.f8.f9,H,M,b,p,s,k⟩)))
 intro o1 i K;refine cI st g (bI i (KY st b) ?_);rintro y1 i _ s ⟨n,rfl,a,st⟩;have z:=(z.o e3).o a;have k:=(((k.o e1).o e2).o e3).o a;refine bP 2 18 i ?_ ?_<;>intro A i
 .exact aM 4 (K i ⟨n,rfl,(((q.t e1).t e2).t e3).t a,st,g.o a,b.o a,z,k,B.o a⟩)
 refine cI st z (bI i (qCk st k) ?_);rintro p i _ u ⟨o,rfl,l,st⟩;exact aM 2 (K i ⟨o,rfl,((((q.t e1).t e2).t e3).t a).t l,st,(g.o a).o l,(b.o a).o l,z.o l,k.o l,(B.o a).o l⟩)
def EH(N:Nat)(p0:Int):Tk:=
 (if(decide (p0>=1))then(some (decide (p0<=3))) else(some false):Tk).bind fun a=>some a
theorem SN{p0:Int}{r:Bool}(st:St m (O) w)(i:EH N p0=some r):Calls prog 37 #[vI p0] w fun e w'=>∃m',eU m m' e (vB r) (O) w':=by
 refine bY st func37 rfl ntmps37 fun q=>oL (iG 7 i (fun b L' w'=>∃a,L'=[(2,vB b)]/\m.le a/\St a (O) w') ?_ ?_)
 .rintro b i _ c ⟨a,rfl,q,st⟩;obtain rfl:=sI i;exact aJ (lY ⟨a,rfl,q,st⟩)
 intro b i K;refine bP 3 5 i ?_ ?_<;>intro A i
 .exact aM 4 (K i ⟨m,rfl,q,st⟩)
 exact aM 4 (K i ⟨m,rfl,q,st⟩)
def MD(N:Nat)(b:Int×Ta)(c:Tv)(a:Int×sC):Option (Int×sC⊕sC):=
 if(decide (a.1<(List.length c:Int)))then((aO c a.1).bind fun c=>(tJ a.2 (c.toNat:Int) b.1).bind fun b=>some (.inl (IntKind.wrap .i64 (a.1+1),b))) else(some (.inr a.2))
def CC(N:Nat)(a:Option (Int×Ta))(s1:sC):Option (sC⊕sC):=
 (match a with|none=>some (.inr s1)|some a=>(bytesOf a.2).bind fun b=>(aB (MD N a b) N (0,s1)).bind fun o2=>some (.inl o2))
def MH(N:Nat):Option sC:=
 (tJ (some []:Option (List (Int×Ta))) 1 (⟨#[97,98,99,100,101,102,103,104,105,106,107,108,109,110,111,112,113,114,115,116,117,118,119,120,121,122]⟩:BA)).bind fun a=>(tJ a 2 (⟨#[48,49,50,51,52,53,54,55,56,57]⟩:BA)).bind fun a=>(tJ a 3 (⟨#[95]⟩:BA)).bind fun a=>(tJ a 4 (⟨#[46]⟩:BA)).bind fun a=>(tJ a 5 (⟨#[9,10,13,32]⟩:BA)).bind fun a=>(tJ a 6 (⟨#[35]⟩:BA)).bind fun a=>(tJ a 7 (⟨#[34]⟩:BA)).bind fun a=>(tJ a 8 (⟨#[59,44,40,41,43,45,42,47,37,60,61]⟩:BA)).bind fun a=>(CQ (CC N) (Option.getD a []) (some []:sC)).bind fun a=>some a
theorem qDt{r}(st:St m (O) w)(i:MH N=some r):Calls prog 101 #[] w fun e w'=>∃rq1 c4 c5 m',eA m m' e (.map rq1) (mU rq1 c4 c5::O) w' (MapQ (fun n:Int=>Value.int .u8 n) (aI .i64) false m' rq1 c4 c5 r):=by
 refine bY st func101 rfl ntmps101 fun q=>oL (cU (qFh (d:=6) (t:=164) kr rfl st fun l w1 st=>eF (aC (cU (qFh (d:=7) (t:=186) kr rfl st fun a w2 st=> ?_)))));have⟨g8,d7,i⟩:=aU i;refine cU (CG (ek:=qU) (c:=aD) (agg:=false) (k:=1) (yv:=PK) (cs:=[vT PK]) (z:=(vT eB)) (v:=(vT PK)) (kt:=3) (et:=9) (t:=186) (x:=(.tmp 7)) (y:=(.const (vI 1))) (u:=(.const (vT PK))) kr (ev (.map (some a))) (ev (vI 1)) (ev (vT PK)) kr (xZ kr) st (MapQ.new qU aD false _ _) rfl rfl d7 fun g1 f0 w3 st r1=> ?_);have⟨g9,d8,i⟩:=aU i;refine cU (CG (ek:=qU) (c:=aD) (agg:=false) (k:=2) (yv:=bl) (cs:=[vT bl]) (z:=(vT eB)) (v:=(vT bl)) (kt:=3) (et:=9) (t:=186) (x:=(.tmp 7)) (y:=(.const (vI 2))) (u:=(.const (vT bl))) kr (ev (.map (some a))) (ev (vI 2)) (ev (vT bl)) kr (xZ kr) st r1 rfl rfl d8 fun g2 f3 w4 st r2=> ?_);have⟨h0,d9,i⟩:=aU i;refine cU (CG (ek:=qU) (c:=aD) (agg:=false) (k:=3) (yv:=PP) (cs:=[vT PP]) (z:=(vT eB)) (v:=(vT PP)) (kt:=3) (et:=9) (t:=186) (x:=(.tmp 7)) (y:=(.const (vI 3))) (u:=(.const (vT PP))) kr (ev (.map (some a))) (ev (vI 3)) (ev (vT PP)) kr (xZ kr) st r2 rfl rfl d9 fun g3 f4 w5 st r3=> ?_);have⟨h1,e2,i⟩:=aU i
 refine cU (CG (ek:=qU) (c:=aD) (agg:=false) (k:=4) (yv:=PW) (cs:=[vT PW]) (z:=(vT eB)) (v:=(vT PW)) (kt:=3) (et:=9) (t:=186) (x:=(.tmp 7)) (y:=(.const (vI 4))) (u:=(.const (vT PW))) kr (ev (.map (some a))) (ev (vI 4)) (ev (vT PW)) kr (xZ kr) st r3 rfl rfl e2 fun g4 f5 w6 st r4=> ?_);have⟨h2,e3,i⟩:=aU i;refine cU (CG (ek:=qU) (c:=aD) (agg:=false) (k:=5) (yv:=PG) (cs:=[vT PG]) (z:=(vT eB)) (v:=(vT PG)) (kt:=3) (et:=9) (t:=186) (x:=(.tmp 7)) (y:=(.const (vI 5))) (u:=(.const (vT PG))) kr (ev (.map (some a))) (ev (vI 5)) (ev (vT PG)) kr (xZ kr) st r4 rfl rfl e3 fun g5 f6 w7 st r5=> ?_);have⟨h3,e4,i⟩:=aU i;refine cU (CG (ek:=qU) (c:=aD) (agg:=false) (k:=6) (yv:=PN) (cs:=[vT PN]) (z:=(vT eB)) (v:=(vT PN)) (kt:=3) (et:=9) (t:=186) (x:=(.tmp 7)) (y:=(.const (vI 6))) (u:=(.const (vT PN))) kr (ev (.map (some a))) (ev (vI 6)) (ev (vT PN)) kr (xZ kr) st r5 rfl rfl e4 fun g6 f7 w8 st r6=> ?_);have⟨h4,e5,i⟩:=aU i;refine cU (CG (ek:=qU) (c:=aD) (agg:=false) (k:=7) (yv:=bz) (cs:=[vT bz]) (z:=(vT eB)) (v:=(vT bz)) (kt:=3) (et:=9) (t:=186) (x:=(.tmp 7)) (y:=(.const (vI 7))) (u:=(.const (vT bz))) kr (ev (.map (some a))) (ev (vI 7)) (ev (vT bz)) kr (xZ kr) st r6 rfl rfl e5 fun g7 f8 w9 st r7=> ?_);have⟨D,e6,i⟩:=aU i
 refine cU (CG (ek:=qU) (c:=aD) (agg:=false) (k:=8) (yv:=PZ) (cs:=[vT PZ]) (z:=(vT eB)) (v:=(vT PZ)) (kt:=3) (et:=9) (t:=186) (x:=(.tmp 7)) (y:=(.const (vI 8))) (u:=(.const (vT PZ))) kr (ev (.map (some a))) (ev (vI 8)) (ev (vT PZ)) kr (xZ kr) st r7 rfl rfl e6 fun g f h6 st o=>cH 1 (cU (qYg (ek:=qU) (c:=aD) (agg:=false) (d:=9) (t:=186) (kt:=3) (et:=9) (x:=(.tmp 8)) kr rfl (ev (.map (some a))) kr st o fun E h7 st d5=>aJ (bA (bV (.exit 0) i (fun S L' w'=>∃(o1:sC),∃a5 a4,∃(b6:Array Nat) (b0:List (Int×Ta)),∃m1,o1=S/\L'=[(1,.map (some l))]/\m.le m1/\St m1 (mU (some a) g f::mU (some l) a5 a4::xW E (some a) f b6::O) w'/\MapQ qU aD false m1 (some a) g f D/\MapQ (fun n:Int=>Value.int .u8 n) (aI .i64) false m1 (some l) a5 a4 o1/\ItR qU aD false m1 g b6 b0) ?_ ?_)))))
 .rintro S i _ s ⟨o1,a5,a4,b6,b0,m1,rfl,rfl,q,st,o,b,p⟩;refine eS (bK 2 (lK ?_));have st:=st.f2.t;obtain rfl:=sI i;exact mM ⟨(some l),a5,a4,m1,rfl,q,st.t,b⟩
 intro S i b7;refine cY (fun k1 L' w'=>∃(s1:sC),∃s p,∃(a7:Array Nat) (Y:List (Int×Ta)),∃m2,LoopE (CC N) Y s1 S k1/\L'=[(1,.map (some l)),(9,vP E 0)]/\m.le m2/\St m2 (mU (some a) g f::mU (some l) s p::xW E (some a) f a7::O) w'/\MapQ qU aD false m2 (some a) g f D/\MapQ (fun n:Int=>Value.int .u8 n) (aI .i64) false m2 (some l) s p s1/\ItR qU aD false m2 g a7 Y) (List.length (Option.getD D [])+1) ⟨(some []:sC),#[],0,#[],(Option.getD D []),m,LoopE.start i,rfl,q,st.f2.f2,o,(MapQ.new (fun n:Int=>Value.int .u8 n) (aI .i64) false _ _),d5⟩ ?_;rintro k1 _ h8 ⟨s1,s,p,a7,Y,m2,hL,rfl,q,st,o,c0,b9⟩;rcases k1 with _|k1
 .exact LoopE.zero hL
 refine aC ?_;have st:=st.f2;refine cU (zBo (ek:=qU) (c:=aD) (agg:=false) (d:=10) (x:=(.tmp 9)) kr rfl (ev (vP E 0)) st o b9 ?_ ?_)
 .intro b B st;obtain⟨e8,i,a9,a8⟩:=hL.nil b;clear hL;refine eF (NT false kr (fun h=>Bool.noConfusion h) ?_);intro _;refine cV ?_;obtain rfl:=sI i;have ho:=a8 _ rfl;have st:=st.f2.f2;exact cS (b7 rfl ⟨s1,s,p,a7,Y,m2,ho,rfl,q,st,o,c0,b9⟩)
 rintro b a3 a0 f9 h9 d1 rfl st B d4;obtain⟨e8,i,a9,a8⟩:=hL.cons d1;clear hL;refine eF (NT true kr ?_ (fun h=>Bool.noConfusion h));intro _;refine aL (bA (aC ?_));have st:=st.f1.f1;refine cU (qYd (ek:=qU) (c:=aD) (agg:=false) (d:=12) (x:=(.tmp 9)) (K:=vI b.1) (V:=vT b.2) kr rfl (ev (vP E 0)) st o d4 (bH (bK 1 ?_)));have⟨l1,d2,i⟩:=aU i;refine cU (qUv (d:=16) (t1:=9) (t2:=124) (e:=5) (x:=(.tmp 15)) kr rfl (ev (vT b.2)) kr kr st d2 fun b4 c1 m3 k0 e1 st a6=>lL (bV (.exit 2) i (fun U L' w'=>∃(o2:sC),∃H F m4,o2=U/\L'=[(1,.map (some l)),(9,vP E 0)]/\m.le m4/\St m4 (mU (some a) g f::mU (some l) H F::xW E (some a) f a0::O) w'/\MapQ qU aD false m4 (some a) g f D/\MapQ (fun n:Int=>Value.int .u8 n) (aI .i64) false m4 (some l) H F o2/\ItR qU aD false m4 g a0 a3) ?_ ?_))
 .rintro U i _ M ⟨o2,H,F,m4,rfl,rfl,q,st,o,G,B⟩;refine uT (nA ?_);obtain rfl:=sI i;have hL:=a9 _ rfl;exact cX ⟨o2,H,F,a0,a3,m4,hL,rfl,q,st.f2.f2.f2,o,G,B⟩
 intro U i b8;refine cY (fun k2 L' w'=>∃(Z:Int×sC),∃M G R,aB (MD N b l1) k2 Z=some U/\L'=[(1,.map (some l)),(2,vI b.1),(9,vP E 0),(16,vS (aP b4) l1 c1),(17,vI (l1.length:Int)),(18,vI Z.1)]/\m.le R/\St R (mU (some a) g f::mU (some l) M G::xW E (some a) f a0::O) w'/\RepS cU8 R (aP b4) c1 l1/\MapQ qU aD false R (some a) g f D/\MapQ (fun n:Int=>Value.int .u8 n) (aI .i64) false R (some l) M G Z.2/\ItR qU aD false R g a0 a3) N ⟨(0,s1),s,p,m3,i,rfl,q.t e1,st.f2.f2,a6,o.o e1,c0.o e1,B.o e1⟩ ?_;rintro k2 _ k3 ⟨Z,M,G,R,hL,rfl,q,st,a6,o,c3,B⟩;obtain⟨k2,h5,rfl,i,c9,c8⟩:=cZ hL;refine cA (aK i ?_ ?_)<;>intro A i
 .refine aL (aG (bA (aC (iE a6 i ?_))));rintro x1 i b5 f1 g0 rfl d6;refine cI st d6 (bH (iN 3 ?_));have st:=st.f1;have⟨e7,d3,i⟩:=aU i;refine cU (qUj (ek:=(fun n:Int=>Value.int .u8 n)) (c:=(aI .i64)) (agg:=false) (k:=(x1.toNat:Int)) (yv:=b.1) (cs:=[vI b.1]) (z:=(vI 0)) (v:=(vI b.1)) (kt:=5) (et:=3) (t:=164) (x:=(.tmp 22)) (y:=(.tmp 23)) (u:=(.tmp 24)) kr (ev (.map (some l))) (ev (.int .u8 (x1.toNat:Int))) (ev (vI b.1)) kr (xZ kr) st c3 rfl rfl d3 fun c7 c6 k4 st e9=>lK (qI (cB 2 ?_)));have hL:=c9 _ (sI i);exact cX ⟨(wr (Z.1+1),e7),c7,c6,R,hL,rfl,q,st.f2.f1.f2,a6,o,e9,B⟩
 refine cV ?_;have ho:=c8 _ (sI i);have st:=st.f2.f2.f2;exact cS (b8 rfl ⟨Z.2,M,G,R,ho,rfl,q,st,o,c3,B⟩)
def HL(N:Nat)(p0:BA)(p2:sC)(p3:Te)(s1:Int)(a:Bool×Int):Option (Bool×Int⊕Bool):=
 if(decide (a.2<(List.length p3:Int)))then((aO p3 a.2).bind fun b=>(if a.1 then(some true) else((lI p0 s1).bind fun c=>some (((uC p2 (c.toNat:Int)).getD 0)==b)):Tk).bind fun b=>some (.inl (b,IntKind.wrap .i64 (a.2+1)))) else(some (.inr a.1))
def HM(N:Nat)(p0:BA)(p2:sC)(p3:Te)(s1:Int):Option (Int⊕Int):=
 if(decide (s1<(ByteArray.size p0:Int)))then((aB (HL N p0 p2 p3 s1) N (false,0)).bind fun o2=>if(!o2)then(some (.inr s1)) else(some (.inl (IntKind.wrap .i64 (s1+1))))) else(some (.inr s1))
def HS(N:Nat)(p0:BA)(p1:Int)(p2:sC)(p3:Te):Td:=
 (aB (HM N p0 p2 p3) N p1).bind fun a=>some a
theorem qEe{p0:BA}{p1:Int}{p2:sC}{p3:Te}{f b a}{r:Int}(st:St m (mU f b a::O) w)(g:MapQ (fun n:Int=>Value.int .u8 n) (aI .i64) false m f b a p2)(l:RepS (aI .i64) m a1 c1 p3)(i:HS N p0 p1 p2 p3=some r):Calls prog 102 #[vT p0,vI p1,.map f,vS a1 p3 c1] w fun e w'=>∃m',eU m m' e (vI r) (mU f b a::O) w':=by
 refine bY st func102 rfl ntmps102 fun q=>cA (bA (bV (.exit 0) i (fun p L' w'=>∃(H:Int),∃G,H=p/\L'=[(1,vI H)]/\m.le G/\St G (mU f b a::O) w'/\MapQ (fun n:Int=>Value.int .u8 n) (aI .i64) false G f b a p2) ?_ ?_))
 .rintro p i _ o ⟨H,G,rfl,rfl,q,st,g⟩;obtain rfl:=sI i;exact eS (cO ⟨G,rfl,q,st⟩)
 intro p i D;refine cY (fun R L' w'=>∃(s1:Int),∃v,aB (HM N p0 p2 p3) R s1=some p/\L'=[(0,vT p0),(1,vI s1),(2,.map f),(3,vS a1 p3 c1)]/\m.le v/\St v (mU f b a::O) w'/\RepS (aI .i64) v a1 c1 p3/\MapQ (fun n:Int=>Value.int .u8 n) (aI .i64) false v f b a p2) N ⟨p1,m,i,rfl,q,st,l,g⟩ ?_;rintro R _ w2 ⟨s1,v,hL,rfl,q,st,l,g⟩;obtain⟨R,a5,rfl,i,Y,F⟩:=cZ hL;refine aG (bF i ?_ ?_)<;>intro A i
 .refine aL (bA (cA (bJ (bA (bV (.exit 2) i (fun s L' w'=>∃(o2:Bool),∃B,o2=s/\L'=[(0,vT p0),(1,vI s1),(2,.map f),(3,vS a1 p3 c1),(9,vB o2)]/\m.le B/\St B (mU f b a::O) w'/\RepS (aI .i64) B a1 c1 p3/\MapQ (fun n:Int=>Value.int .u8 n) (aI .i64) false B f b a p2) ?_ ?_)))))
  .rintro s i _ o ⟨o2,B,rfl,rfl,q,st,l,g⟩;refine eS (aG (bF i ?_ ?_))<;>intro A i
   .refine cV (MN rfl ?_);have ho:=F _ (sI i);exact cS (D rfl ⟨s1,B,ho,rfl,q,st,g⟩)
   refine aL (cB 3 (nA ?_));have hL:=Y _ (sI i);exact cX ⟨wr (s1+1),B,hL,rfl,q,st,l,g⟩
  intro s i M;refine cY (fun S L' w'=>∃(o:Bool×Int),∃u,aB (HL N p0 p2 p3 s1) S o=some s/\L'=[(0,vT p0),(1,vI s1),(2,.map f),(3,vS a1 p3 c1),(9,vB o.1),(16,vS a1 p3 c1),(17,vI (p3.length:Int)),(18,vI o.2)]/\m.le u/\St u (mU f b a::O) w'/\RepS (aI .i64) u a1 c1 p3/\MapQ (fun n:Int=>Value.int .u8 n) (aI .i64) false u f b a p2) N ⟨(false,0),v,i,rfl,q,st,l,g⟩ ?_;rintro S _ w4 ⟨o,u,hL,rfl,q,st,l,g⟩;obtain⟨S,a6,rfl,i,Z,V⟩:=cZ hL;refine cA (aK i ?_ ?_)<;>intro A i
  .refine aL (aG (bA (aC (iE l i ?_))));rintro x1 i b1 f1 a3 rfl a0;refine cI st a0 (bH (tV (iG 11 i (fun U L' w'=>∃E,L'=[(0,vT p0),(1,vI s1),(2,.map f),(3,vS a1 p3 c1),(9,vB U),(16,vS a1 p3 c1),(17,vI (p3.length:Int)),(18,vI o.2)]/\m.le E/\St E (mU f b a::O) w'/\RepS (aI .i64) E a1 c1 p3/\MapQ (fun n:Int=>Value.int .u8 n) (aI .i64) false E f b a p2) ?_ ?_)))
   .rintro U i _ w5 ⟨E,rfl,q,st,l,g⟩;refine lK (qI (cB 2 ?_));have hL:=Z _ (sI i);exact cX ⟨(U,wr (o.2+1)),E,hL,rfl,q,st,l,g⟩
   intro U i K;refine bP 2 23 i ?_ ?_<;>intro A i
   .exact aM 9 (K i ⟨u,rfl,q,st,l,g⟩)
   refine cH 3 (nE 27 i fun x2 i=>cU (qGw (ek:=(fun n:Int=>Value.int .u8 n)) (c:=(aI .i64)) (agg:=false) (k:=(x2.toNat:Int)) (zx:=0) (zcs:=[vI 0]) (z:=(vI 0)) (kt:=5) (et:=3) (d:=28) (t:=164) (x:=(.tmp 24)) (y:=(.tmp 27)) (ok:=false) kr rfl (ev (.map f)) (ev (.int .u8 (x2.toNat:Int))) kr (xZ kr) st.h g rfl rfl ?_));rintro a4 rfl;exact aM 4 (K i ⟨u,rfl,q,st,l,g⟩)
  refine cV ?_;have ho:=V _ (sI i);exact cS (M rfl ⟨o.1,u,ho,rfl,q,st,l,g⟩)
 refine cV ?_;have ho:=F _ (sI i);exact cS (D rfl ⟨s1,v,ho,rfl,q,st,g⟩)
def HU(N:Nat)(p0:BA):Tk:=
 (MH N).bind fun y1=>(if(decide ((ByteArray.size p0:Int)>=1))then(if(decide ((ByteArray.size p0:Int)<=24))then((lI p0 0).bind fun a=>if(((uC y1 (a.toNat:Int)).getD 0)==1)then((HS N p0 0 y1 ([(1:Int),2,3])).bind fun a=>some (a==(ByteArray.size p0:Int))) else(some false)) else(some false)) else(some false):Tk).bind fun a=>some a
theorem WN{p0:BA}{r:Bool}(st:St m (O) w)(i:HU N p0=some r):Calls prog 78 #[vT p0] w fun e w'=>∃m',eU m m' e (vB r) (O) w':=by
 refine bY st func78 rfl ntmps78 fun q=>oL (bI i (qDt st) ?_);rintro y1 i _ R ⟨b,o,l,s,rfl,B,st,a⟩;have q:=q.t B;refine vA (iG 25 i (fun g L' w'=>∃f,L'=[(2,vB g)]/\m.le f/\St f (mU b o l::O) w'/\MapQ (fun n:Int=>Value.int .u8 n) (aI .i64) false f b o l y1) ?_ ?_)
 .rintro g i _ p ⟨f,rfl,q,st,a⟩;obtain rfl:=sI i;exact aJ (lY ⟨f,rfl,q,st.t⟩)
 intro g i K;refine bP 4 8 i ?_ ?_<;>intro A i
 .refine bP 5 13 i ?_ ?_<;>intro A i
  .refine cH 2 (nE 16 i fun u i=>cU (qGw (ek:=(fun n:Int=>Value.int .u8 n)) (c:=(aI .i64)) (agg:=false) (k:=(u.toNat:Int)) (zx:=0) (zcs:=[vI 0]) (z:=(vI 0)) (kt:=5) (et:=3) (d:=17) (t:=164) (x:=(.tmp 14)) (y:=(.tmp 16)) (ok:=false) kr rfl (ev (.map b)) (ev (.int .u8 (u.toNat:Int))) kr (xZ kr) st.h a rfl rfl ?_));rintro G rfl;refine bP 3 20 i ?_ ?_<;>intro A i
   .refine cH 2 (lG 23 3 3 (aI .i64) [(1:Int),2,3] st fun H M S p st E=>bI i (qEe st.f1 (a.o p) E) ?_);rintro F i _ U ⟨D,rfl,v,st⟩;exact aM 5 (K i ⟨D,rfl,(q.t p).t v,st.f1.t,(a.o p).o v⟩)
   exact aM 9 (K i ⟨s,rfl,q,st,a⟩)
  exact aM 16 (K i ⟨s,rfl,q,st,a⟩)
 exact aM 21 (K i ⟨s,rfl,q,st,a⟩)
def VO(N:Nat)(p0:BA)(p1:Int):Td:=
 some (GC p0 p1)
theorem qQz{p0:BA}{p1:Int}{r:Int}(st:St m (O) w)(i:VO N p0 p1=some r):Calls prog 153 #[vT p0,.int .u8 p1] w fun e w'=>∃m',eU m m' e (vI r) (O) w':=by
 cases i;exact bY st func153 rfl ntmps153 fun q=>bJ (bK 2 (cU (qUm (d:=7) (f:=158) (x:=(.tmp 5)) (y:=(.tmp 6)) (ts:= #[9,5]) kr rfl (ev (vT p0)) (ev (.int .u8 p1)) func158 kr kr (eT ⟨m,rfl,q,st⟩))))
def VS(N:Nat)(p0:BA)(p1:BA):Td:=
 (if((ByteArray.size p1:Int)==0)then(some true) else(some (p1.toList==p0.toList)):Tk).bind fun a=>if a then(some 0) else(if((ByteArray.size p1:Int)==1)then((lI p1 0).bind fun a=>(VO N p0 (a.toNat:Int)).bind fun y1=>some y1) else(if(decide ((ByteArray.size p1:Int)>=(ByteArray.size p0:Int)))then(some (-1)) else none))
theorem qRl{p0:BA}{p1:BA}{r:Int}(st:St m (O) w)(i:VS N p0 p1=some r):Calls prog 150 #[vT p0,vT p1] w fun e w'=>∃m',eU m m' e (vI r) (O) w':=by
 refine bY st func150 rfl ntmps150 fun q=>bJ (cA (bA (aC (iG 8 i (fun b L' w'=>∃a,L'=[(0,vT p0),(1,vT p1),(5,vI (p1.size:Int)),(16,vB b)]/\m.le a/\St a (O) w') ?_ ?_))))
 .rintro b i _ f ⟨a,rfl,q,st⟩;refine aJ (aK i ?_ ?_)<;>intro A i
  .cases i;exact cO ⟨a,rfl,q,st⟩
  refine bF i ?_ ?_<;>intro A i
  .refine bK 2 (nE 29 i fun h i=>bI i (qQz st) ?_);rintro y1 i _ g ⟨d,rfl,c,st⟩;obtain rfl:=sI i;exact eT ⟨d,rfl,q.t c,st⟩
  refine bF i ?_ ?_<;>intro A i
  .cases i;exact cO ⟨a,rfl,q,st⟩
  cases i
 intro b i K;refine bP 3 19 i ?_ ?_<;>intro A i
 .exact aM 5 (K i ⟨m,rfl,q,st⟩)
 exact aM 5 (K i ⟨m,rfl,q,st⟩)
def MF(N:Nat)(p0:BA)(p1:BA):Td:=
 (VS N p0 p1).bind fun y1=>some y1
theorem qDm{p0:BA}{p1:BA}{r:Int}(st:St m (O) w)(i:MF N p0 p1=some r):Calls prog 142 #[vT p0,vT p1] w fun e w'=>∃m',eU m m' e (vI r) (O) w':=by
 refine bY st func142 rfl ntmps142 fun q=>bJ (aY 2 i (qRl st) ?_);rintro y1 i _ c ⟨b,rfl,a,st⟩;obtain rfl:=sI i;exact eT ⟨b,rfl,q.t a,st⟩
def qDo(N:Nat)(p1:BA)(s1:Tp):Option (Tp⊕Int):=
 (MF N s1.1 p1).bind fun y1=>if(y1==(-1))then(some (.inr s1.2)) else((sP s1.1 (IntKind.wrap .i64 (y1+(ByteArray.size p1:Int))) (ByteArray.size s1.1:Int)).bind fun a=>some (.inl (a,IntKind.wrap .i64 (s1.2+1))))
def SR(N:Nat)(p0:BA)(p1:BA):Td:=
 if((ByteArray.size p1:Int)==0)then none else(if((ByteArray.size p1:Int)==1)then((lI p1 0).bind fun a=>some (OV p0 (a.toNat:Int))) else((aB (qDo N p1) N (p0,0)).bind fun z=>some z))
theorem qTj{p0:BA}{p1:BA}{r:Int}(st:St m (O) w)(i:SR N p0 p1=some r):Calls prog 141 #[vT p0,vT p1] w fun e w'=>∃m',eU m m' e (vI r) (O) w':=by
 refine bY st func141 rfl ntmps141 fun q=>cA (bF i ?_ ?_)<;>intro A i
 .cases i
 refine aL (aG (bF i ?_ ?_))<;>intro A i
 .refine bK 2 (nE 18 i fun a i=>cU (qUh (d:=19) (f:=149) (x:=(.tmp 16)) (y:=(.tmp 18)) (ts:= #[9,5]) kr rfl (ev (vT p0)) (ev (.int .u8 (a.toNat:Int))) func149 kr kr ?_));cases i;exact eT ⟨m,rfl,q,st⟩
 refine aL (bJ (bA ?_));have⟨h,i,p⟩:=aU i;refine cY (fun a L' w'=>∃(s1:Tp),∃g,aB (qDo N p1) a s1=some h/\L'=[(0,vT s1.1),(1,vT p1),(5,vI s1.2)]/\m.le g/\St g (O) w') N ⟨(p0,0),m,i,rfl,q,st⟩ ?_;rintro a _ u ⟨s1,g,hL,rfl,q,st⟩;obtain⟨a,s,rfl,i,c,b⟩:=cZ hL;refine bA (aY 2 i (qDm st) ?_);rintro y1 i _ v ⟨n,rfl,k,st⟩;refine eF (bF i ?_ ?_)<;>intro A i
 .refine bJ (bU (bL (cN ?_)));have ho:=b _ (sI i);subst ho;have i:=p;cases i;exact lO ⟨n,rfl,q.t k,st⟩
 refine aL (bJ (iN 5 ?_));have⟨o,l,i⟩:=aU i;refine cU (yT (d:=33) (t:=9) (x:=(.tmp 28)) (lo:=(some (.tmp 32))) (hi:=none) kr rfl (ev (vT s1.1)) kr (.inr ⟨_,_,rfl,(ev (vI (wr (y1+(p1.size:Int)))))⟩) (.inl ⟨rfl,rfl⟩) l (eD 1 (nA ?_)));have hL:=c _ (sI i);exact cX ⟨(o,wr (s1.2+1)),n,hL,rfl,q.t k,st⟩
def SB(N:Nat)(p0:BA)(p1:BA)(p2:Int)(a:Int)(s1:PT):Option (PT⊕PT):=
 if(decide (s1.2.1<(IntKind.wrap .i64 ((if(IntKind.wrap .i64 ((ByteArray.size p0:Int)+1))<a then(IntKind.wrap .i64 ((ByteArray.size p0:Int)+1)) else a)-1))))then((MF N s1.1 p1).bind fun a=>if(decide (a<0))then(some (.inr s1)) else((sP s1.1 0 (IntKind.wrap .i64 (a+p2))).bind fun b=>(aO s1.2.2 s1.2.1).bind fun c=>(sP s1.1 (IntKind.wrap .i64 (a+(ByteArray.size p1:Int))) (ByteArray.size s1.1:Int)).bind fun a=>some (.inl (a,IntKind.wrap .i64 (s1.2.1+1),List.set s1.2.2 (Int.toNat s1.2.1) b)))) else(some (.inr s1))
def WL(N:Nat)(p0:BA)(p1:BA)(p2:Int)(p3:Int):Tc:=
 if(p3==0)then(some ([]:Tb)) else(if(p1.toList==(⟨#[]⟩:BA).toList)then none else((if(decide (p3<0))then((SR N p0 p1).bind fun y1=>some (IntKind.wrap .i64 (y1+1))) else(some p3):Td).bind fun a=>(FL 16 (⟨#[]⟩:BA) (if(IntKind.wrap .i64 ((ByteArray.size p0:Int)+1))<a then(IntKind.wrap .i64 ((ByteArray.size p0:Int)+1)) else a)).bind fun b=>(aB (SB N p0 p1 p2 a) N (p0,0,b)).bind fun o2=>(aO o2.2.2 o2.2.1).bind fun a=>(wK (List.set o2.2.2 (Int.toNat o2.2.1) o2.1) 0 (IntKind.wrap .i64 (o2.2.1+1))).bind fun a=>some a))
theorem qTe{p0:BA}{p1:BA}{p2:Int}{p3:Int}{r}(st:St m (O) w)(i:WL N p0 p1 p2 p3=some r):Calls prog 126 #[vT p0,vT p1,vI p2,vI p3] w fun e w'=>∃D E m',eA m m' e (vS D r E) (O) w' (RepS aD m' D E r):=by
 refine bY st func126 rfl ntmps126 fun q=>cA (bF i ?_ ?_)<;>intro A i
 .cases i;exact cO ⟨none,0,m,rfl,q,st,(RepS.nil _ _)⟩
 refine aL (aG (bF i ?_ ?_))<;>intro A i
 .cases i
 refine aL (aG (bJ (bV .normal i (fun a L' w'=>∃p,L'=[(0,vT p0),(1,vT p1),(2,vI p2),(3,vI a)]/\m.le p/\St p (O) w') ?_ ?_)))
 .rintro a i _ w1 ⟨p,rfl,q,st⟩;refine bC (bJ (bK 1 ?_));have⟨Y,z,i⟩:=aU i;refine cU (qVe (d:=31) (t:=50) (e:=9) (by_:=16) (x:=(.tmp 30)) (y:=(.tmp 30)) PX kr rfl (ev (vI (if(wr ((p0.size:Int)+1))<a then(wr ((p0.size:Int)+1)) else a))) (ev (vI (if(wr ((p0.size:Int)+1))<a then(wr ((p0.size:Int)+1)) else a))) kr kr rfl st z fun b w3 K st=>bH (bJ (cA (bA (bV (.exit 0) i (fun g L' w'=>∃(o2:PT),∃G,o2=g/\L'=[(0,vT o2.1),(9,.slice (aP b) (Int.toNat (if(wr ((p0.size:Int)+1))<a then(wr ((p0.size:Int)+1)) else a)) (Int.toNat (if(wr ((p0.size:Int)+1))<a then(wr ((p0.size:Int)+1)) else a))),(10,vI o2.2.1)]/\m.le G/\St G (.blk b (.cells (qC PX o2.d []) 9 (0,0))::O) w'/\List.length o2.d=(Int.toNat (if(wr ((p0.size:Int)+1))<a then(wr ((p0.size:Int)+1)) else a))) ?_ ?_)))))
  .rintro g i _ R ⟨o2,G,rfl,rfl,q,st,k⟩;refine eS (bK 3 ?_);have⟨U,l,i⟩:=aU i;refine cU (qEl (d:=61) (t:=50) (e:=9) (x:=(.tmp 58)) (y:=(.tmp 59)) kr rfl (ev (.slice (aP b) (Int.toNat (if(wr ((p0.size:Int)+1))<a then(wr ((p0.size:Int)+1)) else a)) (Int.toNat (if(wr ((p0.size:Int)+1))<a then(wr ((p0.size:Int)+1)) else a)))) (ev (vI o2.2.1)) kr k l (cU (qEw (f:=PX) (u:=o2.1) (t:=9) (x:=(.tmp 61)) (y:=(.tmp 60)) kr (ev (.pointer (some ⟨b,Int.toNat o2.2.1,none⟩))) (ev (vT o2.1)) st l rfl kr fun S st=> ?_)));have h:List.length (List.set o2.d (Int.toNat o2.2.1) o2.1)=(Int.toNat (if(wr ((p0.size:Int)+1))<a then(wr ((p0.size:Int)+1)) else a)):=IJ k _ _;refine aJ (bK 3 ?_);obtain⟨F,B,st,H⟩:=St.freeze (c:=aD) st h (jN _) (zAl z) (qVp h (gY _)) rfl (fun _ _=>rfl);refine qOo [(9,.slice (aP b) (List.length (List.set o2.d (Int.toNat o2.2.1) o2.1)) (Int.toNat (if(wr ((p0.size:Int)+1))<a then(wr ((p0.size:Int)+1)) else a))),(10,vI o2.2.1),(62,.slice (aP b) (List.length (List.set o2.d (Int.toNat o2.2.1) o2.1)) (Int.toNat (if(wr ((p0.size:Int)+1))<a then(wr ((p0.size:Int)+1)) else a))),(64,vI (wr (o2.2.1+1)))] (by(try simp only[vS,h]);kernel_rfl) ?_;have⟨v,s,i⟩:=aU i
   refine cU (YS (d:=65) (t:=50) (e:=9) (x:=(.tmp 62)) (lo:=none) (hi:=(some (.tmp 64))) aD kr rfl (ev (.slice (aP b) (List.length (List.set o2.d (Int.toNat o2.2.1) o2.1)) (Int.toNat (if(wr ((p0.size:Int)+1))<a then(wr ((p0.size:Int)+1)) else a)))) kr H (.inl ⟨rfl,rfl⟩) (.inr ⟨_,_,rfl,(ev (vI (wr (o2.2.1+1))))⟩) s ?_);intro n o M;refine eD 1 ?_;have st:=st.t;obtain rfl:=sI i;exact mM ⟨n,o,F,rfl,q.t B,st,M⟩
  intro g i h;refine cY (fun o L' w'=>∃(s1:PT),∃s,aB (SB N p0 p1 p2 a) o s1=some g/\L'=[(0,vT s1.1),(1,vT p1),(2,vI p2),(3,vI (wr ((if(wr ((p0.size:Int)+1))<a then(wr ((p0.size:Int)+1)) else a)-1))),(9,.slice (aP b) (Int.toNat (if(wr ((p0.size:Int)+1))<a then(wr ((p0.size:Int)+1)) else a)) (Int.toNat (if(wr ((p0.size:Int)+1))<a then(wr ((p0.size:Int)+1)) else a))),(10,vI s1.2.1)]/\m.le s/\St s (.blk b (.cells (qC PX s1.d []) 9 (0,0))::O) w'/\List.length s1.d=(Int.toNat (if(wr ((p0.size:Int)+1))<a then(wr ((p0.size:Int)+1)) else a))) N ⟨(p0,0,Y),p,i,rfl,q,st,K⟩ ?_;rintro o _ w5 ⟨s1,s,hL,rfl,q,st,k⟩;obtain⟨o,Z,rfl,i,F,n⟩:=cZ hL;refine aG (bF i ?_ ?_)<;>intro A i
  .refine aL (bA (aY 2 i (qDm st) ?_));rintro l i _ w6 ⟨U,rfl,H,st⟩;refine eF (bF i ?_ ?_)<;>intro A i
   .refine cV (MN rfl ?_);have ho:=n _ (sI i);exact cS (h rfl ⟨s1,U,ho,rfl,q.t H,st,k⟩)
   refine aL (bK 6 ?_);have⟨v,R,i⟩:=aU i;refine cU (yT (d:=48) (t:=9) (x:=(.tmp 44)) (lo:=none) (hi:=(some (.tmp 47))) kr rfl (ev (vT s1.1)) kr (.inl ⟨rfl,rfl⟩) (.inr ⟨_,_,rfl,(ev (vI (wr (l+p2))))⟩) R ?_);have⟨x1,B,i⟩:=aU i;refine cU (qEl (d:=49) (t:=50) (e:=9) (x:=(.tmp 42)) (y:=(.tmp 43)) kr rfl (ev (.slice (aP b) (Int.toNat (if(wr ((p0.size:Int)+1))<a then(wr ((p0.size:Int)+1)) else a)) (Int.toNat (if(wr ((p0.size:Int)+1))<a then(wr ((p0.size:Int)+1)) else a)))) (ev (vI s1.2.1)) kr k B (cU (qEw (f:=PX) (u:=v) (t:=9) (x:=(.tmp 49)) (y:=(.tmp 48)) kr (ev (.pointer (some ⟨b,Int.toNat s1.2.1,none⟩))) (ev (vT v)) st B rfl kr fun w7 st=> ?_)));have M:List.length (List.set s1.d (Int.toNat s1.2.1) v)=(Int.toNat (if(wr ((p0.size:Int)+1))<a then(wr ((p0.size:Int)+1)) else a)):=IJ k _ _;refine aJ (bK 5 ?_);have⟨V,S,i⟩:=aU i;refine cU (yT (d:=55) (t:=9) (x:=(.tmp 50)) (lo:=(some (.tmp 54))) (hi:=none) kr rfl (ev (vT s1.1)) kr (.inr ⟨_,_,rfl,(ev (vI (wr (l+(p1.size:Int)))))⟩) (.inl ⟨rfl,rfl⟩) S (bH (cB 3 (nA ?_))));have hL:=F _ (sI i);exact cX ⟨(V,wr (s1.2.1+1),List.set s1.d (Int.toNat s1.2.1) v),U,hL,rfl,q.t H,st,M⟩
  refine cV ?_;have ho:=n _ (sI i);exact cS (h rfl ⟨s1,s,ho,rfl,q,st,k⟩)
 intro a i b;refine aK i ?_ ?_<;>intro A i
 .refine iN 2 (bI i (qTj st) ?_);rintro y1 i _ k ⟨h,rfl,g,st⟩;exact eD 2 (xE (b i ⟨h,rfl,q.t g,st⟩))
 exact iL (b i ⟨m,rfl,q,st⟩)
def SP(N:Nat)(p0:BA)(p1:BA):Tc:=
 (WL N p0 p1 0 (-1)).bind fun y1=>some y1
theorem qTk{p0:BA}{p1:BA}{r}(st:St m (O) w)(i:SP N p0 p1=some r):Calls prog 103 #[vT p0,vT p1] w fun e w'=>∃a b m',eA m m' e (vS a r b) (O) w' (RepS aD m' a b r):=by
 refine bY st func103 rfl ntmps103 fun q=>bJ (aY 2 i (qTe st) ?_);rintro y1 i _ k ⟨c,d,g,rfl,f,st,h⟩;obtain rfl:=sI i;exact eT ⟨c,d,g,rfl,q.t f,st,h⟩
def MG(N:Nat)(y1:Tb)(b:sC)(s1:Int):Tj:=
 if(decide (s1<(List.length y1:Int)))then((aO y1 s1).bind fun a=>(if(decide ((ByteArray.size a:Int)<1))then(some true) else(if(decide ((ByteArray.size a:Int)>24))then(some true) else((HS N a 0 b ([(1:Int),2,3,4])).bind fun b=>some (b !=(ByteArray.size a:Int)))):Tk).bind fun a=>if a then(some (.inr (.inr (false)))) else(some (.inl (IntKind.wrap .i64 (s1+1))))) else(some (.inr (.inl ())))
def TB(N:Nat)(p0:BA):Tk:=
 (SP N p0 (⟨#[47]⟩:BA)).bind fun y1=>(if(decide ((ByteArray.size p0:Int)>80))then(some true) else(some (decide ((List.length y1:Int)>8))):Tk).bind fun a=>if a then(some false) else((MH N).bind fun a=>(aB (MG N y1 a) N 0).bind fun a=>(match a with| .inl o2=>some true| .inr (z)=>some z))
theorem qUe{p0:BA}{r:Bool}(st:St m (O) w)(i:TB N p0=some r):Calls prog 79 #[vT p0] w fun e w'=>∃m',eU m m' e (vB r) (O) w':=by
 refine bY st func79 rfl ntmps79 fun q=>bJ (aY 1 i (qTk st) ?_);rintro y1 i _ w1 ⟨g,h,S,rfl,G,st,a⟩;refine eF (aC ?_);have⟨Z,i,J⟩:=aU i;refine zG (j:=8) (fun L' w'=>∃s,L'=[(3,vS g y1 h),(16,vB Z)]/\m.le s/\St s (O) w'/\RepS aD s g h y1) ?_ ?_
 .have i:=J;rintro _ w2 ⟨s,rfl,q,st,a⟩;refine aJ (aK i ?_ ?_)<;>intro A i
  .cases i;exact cO ⟨s,rfl,q,st⟩
  refine aL (aC (bI i (qDt st) ?_));rintro B i _ w3 ⟨b,f,d,V,rfl,H,st,c⟩;refine eF (bJ (bA ?_));have⟨v,i,R⟩:=aU i;refine lF (.exit 0) (fun L' w'=>∃(o2:Unit),∃u,(.inl o2)=v/\L'=[]/\m.le u/\St u (mU b f d::O) w'/\MapQ (fun n:Int=>Value.int .u8 n) (aI .i64) false u b f d B) ?_ ?_
  .rintro _ k ⟨o2,u,rfl,rfl,q,st,c⟩;have i:=R;cases i;exact eS (cO ⟨u,rfl,q,st.t⟩)
  intro x;refine cY (fun z L' w'=>∃(s1:Int),∃k,aB (MG N y1 B) z s1=some v/\L'=[(4,.map b),(18,vS g y1 h),(19,vI (y1.length:Int)),(20,vI s1)]/\m.le k/\St k (mU b f d::O) w'/\RepS aD k g h y1/\MapQ (fun n:Int=>Value.int .u8 n) (aI .i64) false k b f d B) N ⟨0,V,i,rfl,q.t H,st,a.o H,c⟩ ?_;rintro z _ w5 ⟨s1,k,hL,rfl,q,st,a,c⟩;obtain⟨z,a3,rfl,i,E,p⟩:=cZ hL;refine cA (aK i ?_ ?_)<;>intro A i
  .refine aL (aG (bA (aC (iE a i ?_))));rintro o i b1 U a0 rfl M;refine cI st M (vA (iG 17 i (fun F L' w'=>∃l,L'=[(4,.map b),(18,vS g y1 h),(19,vI (y1.length:Int)),(20,vI s1),(40,vB F)]/\m.le l/\St l (mU b f d::O) w'/\RepS aD l g h y1/\MapQ (fun n:Int=>Value.int .u8 n) (aI .i64) false l b f d B) ?_ ?_))
   .rintro F i _ y ⟨l,rfl,q,st,a,c⟩;refine aJ (aK i ?_ ?_)<;>intro A i
    .refine bJ (bU (cN (bL ?_)));have ho:=p _ (sI i);subst ho;have i:=R;cases i;exact lO ⟨l,rfl,q,st.t⟩
    refine lC (cB 2 ?_);have hL:=E _ (sI i);exact cX ⟨wr (s1+1),l,hL,rfl,q,st,a,c⟩
   intro F i K;refine bP 4 27 i ?_ ?_<;>intro A i
   .exact aM 13 (K i ⟨k,rfl,q,st,a,c⟩)
   refine bP 5 32 i ?_ ?_<;>intro A i
   .exact aM 8 (K i ⟨k,rfl,q,st,a,c⟩)
   refine cH 2 (lG 35 3 4 (aI .i64) [(1:Int),2,3,4] st fun b2 m7 w7 y st r3=>bI i (qEe st.f1 (c.o y) r3) ?_);rintro y3 i _ w8 ⟨Y,rfl,D,st⟩;exact aM 4 (K i ⟨Y,rfl,(q.t y).t D,st.f1.t,(a.o y).o D,(c.o y).o D⟩)
  refine cV ?_;have ho:=p _ (sI i);exact cS (x _ _ ⟨(),k,ho,rfl,q,st,c⟩)
 intro K;refine bP 4 12 i ?_ ?_<;>intro A i
 .cases i;exact aM 4 (K _ _ ⟨S,rfl,q.t G,st,a⟩)
 cases i;exact aM 4 (K _ _ ⟨S,rfl,q.t G,st,a⟩)
def EK(N:Nat)(p0:pG):Tk:=
 (if(p0.1==1)then(some (p0.1==1)) else(some (p0.1==2)):Tk).bind fun a=>if a then(((HU N p0.2.1).bind fun y1=>if y1 then((HU N p0.2.2).bind fun a=>some a) else(some false):Tk).bind fun o2=>some o2) else((if(p0.1==3)then(some (p0.1==3)) else(some (p0.1==4)):Tk).bind fun a=>if a then(((TB N p0.2.1).bind fun a=>if a then(some (p0.2.2.toList==(⟨#[]⟩:BA).toList)) else(some false):Tk).bind fun a=>some a) else((if(p0.1==5)then(some (p0.1==5)) else(if(p0.1==6)then(some (p0.1==6)) else(some (p0.1==7))):Tk).bind fun a=>if a then(((HU N p0.2.1).bind fun a=>if a then(some (p0.2.2.toList==(⟨#[]⟩:BA).toList)) else(some false):Tk).bind fun a=>some a) else(some false)))
theorem qUg{p0:pG}{r:Bool}(st:St m (O) w)(i:EK N p0=some r):Calls prog 54 #[.agg (Vh p0)] w fun e w'=>∃m',eU m m' e (vB r) (O) w':=by
 refine bY st func54 rfl ntmps54 fun q=>aC (iK 1 90 (.agg (Vh p0)) st fun b v z u st a=>eF (iQ 1 st a (aJ (bA (aG (bJ (bV .normal i (fun o L' w'=>∃g,L'=[(1,vP b 0),(4,vI p0.1),(5,vB o)]/\m.le g/\St g (O) w'/\MRow g b 0 (Vi p0)) ?_ ?_)))))))
 .rintro o i _ B ⟨g,rfl,q,st,a⟩;refine bC (aK i ?_ ?_)<;>intro A i
  .refine aC (iG 9 i (fun o2 L' w'=>∃c,L'=[(2,vB o2)]/\m.le c/\St c (O) w') ?_ ?_)
   .rintro o2 i _ f ⟨c,rfl,q,st⟩;obtain rfl:=sI i;exact aJ (lY ⟨c,rfl,q,st⟩)
   intro o2 i K;refine cW 1 st (a.drop 1) (bI i (WN st) ?_);rintro y1 i _ p ⟨k,rfl,f,st⟩;refine bP 1 11 i ?_ ?_<;>intro A i
   .refine cW 1 st ((a.o f).drop 2) (bI i (WN st) ?_);rintro n i _ s ⟨l,rfl,h,st⟩;exact aM 2 (K i ⟨l,rfl,(q.t f).t h,st⟩)
   exact aM 5 (K i ⟨k,rfl,q.t f,st⟩)
  refine aG (bJ (bV .normal i (fun p L' w'=>∃c,L'=[(1,vP b 0),(4,vI p0.1),(16,vB p)]/\m.le c/\St c (O) w'/\MRow c b 0 (Vi p0)) ?_ ?_))
  .rintro p i _ D ⟨c,rfl,q,st,a⟩;refine bC (aK i ?_ ?_)<;>intro A i
   .refine aC (iG 9 i (fun h L' w'=>∃f,L'=[(2,vB h)]/\m.le f/\St f (O) w') ?_ ?_)
    .rintro h i _ k ⟨f,rfl,q,st⟩;obtain rfl:=sI i;exact aJ (lY ⟨f,rfl,q,st⟩)
    intro h i K;refine cW 1 st (a.drop 1) (bI i (qUe st) ?_);rintro n i _ s ⟨l,rfl,k,st⟩;refine bP 1 22 i ?_ ?_<;>intro A i
    .exact cW 1 st ((a.o k).drop 2) (aM 3 (K i ⟨l,rfl,q.t k,st⟩))
    exact aM 5 (K i ⟨l,rfl,q.t k,st⟩)
   refine aG (bJ (bV .normal i (fun s L' w'=>∃h,L'=[(1,vP b 0),(27,vB s)]/\m.le h/\St h (O) w'/\MRow h b 0 (Vi p0)) ?_ ?_))
   .rintro s i _ E ⟨h,rfl,q,st,a⟩;refine bC (aK i ?_ ?_)<;>intro A i
    .refine aC (iG 9 i (fun k L' w'=>∃f,L'=[(2,vB k)]/\m.le f/\St f (O) w') ?_ ?_)
     .rintro k i _ l ⟨f,rfl,q,st⟩;obtain rfl:=sI i;exact aJ (lY ⟨f,rfl,q,st⟩)
     intro k i K;refine cW 1 st (a.drop 1) (bI i (WN st) ?_);rintro x i _ y ⟨l,rfl,n,st⟩;refine bP 1 34 i ?_ ?_<;>intro A i
     .exact cW 1 st ((a.o n).drop 2) (aM 3 (K i ⟨l,rfl,q.t n,st⟩))
     exact aM 5 (K i ⟨l,rfl,q.t n,st⟩)
    cases i;exact lC (cO ⟨h,rfl,q,st⟩)
   intro s i f;refine aK i ?_ ?_<;>intro A i
   .exact iL (f i ⟨c,rfl,q,st,a⟩)
   refine bF i ?_ ?_<;>intro A i
   .exact iL (f i ⟨c,rfl,q,st,a⟩)
   exact cB 2 (xE (f i ⟨c,rfl,q,st,a⟩))
  intro p i f;refine aK i ?_ ?_<;>intro A i
  .exact iL (f i ⟨g,rfl,q,st,a⟩)
  exact cB 2 (xE (f i ⟨g,rfl,q,st,a⟩))
 intro o i c;refine aK i ?_ ?_<;>intro A i
 .exact iL (c i ⟨v,rfl,q.t u,st,a⟩)
 exact cB 2 (xE (c i ⟨v,rfl,q.t u,st,a⟩))
def qDu(N:Nat)(p0:Int):Option mF:=
 (aO ([(0,0),(2,3),(2,3),(0,0),(0,0),(0,0),(0,3),(0,0)]:List mF) p0).bind fun a=>(aO ([(0,0),(2,3),(2,3),(0,0),(0,0),(0,0),(0,3),(0,0)]:List mF) p0).bind fun b=>some (a.1,b.2)
theorem qTi{p0:Int}{r:mF}(st:St m (O) w)(i:qDu N p0=some r):Calls prog 55 #[vI p0] w fun e w'=>∃m',eU m m' e (.tuple #[vI r.1,vI r.2]) (O) w':=by
 refine bY st func55 rfl ntmps55 fun q=>bJ (bK 4 (eE 4 139 (.agg #[vI 0,vI 0,vI 0,vI 0,vI 0,vI 0,vI 0,vI 0,vI 0,vI 0,vI 0,vI 0,vI 0,vI 0,vI 0,vI 0]) st fun c v st=>cL (.agg #[vI 0,vI 0,vI 2,vI 3,vI 2,vI 3,vI 0,vI 0,vI 0,vI 0,vI 0,vI 0,vI 0,vI 3,vI 0,vI 0]) st fun z st=> ?_));obtain⟨l,u,st,d⟩:=St.settle st;refine aJ (aG (eH [(10,fun w'=>Inv l w'/\True)] kr st fun A _ st=> ?_));have g:=l.le_refl;refine tA st g (aT 0 ?_);have⟨n,a,i⟩:=aU i;have p:=TC (f:=(fun x:mF=>([vI x.1,vI x.2]:List Value))) (k:=2) d (fun _=>rfl) a;refine HO (t:=139) (e:=138) (x:=(.tmp 4)) (y:=(.tmp 9)) (nn:=8) (k:=2) 1 10 (Int.toNat p0*2) (kT _).symm kr rfl kr (.head _) (aH eY) (ev (vP c 0)) (ev (vI p0)) kr (CR a).1 (CR a).2 ?_;refine HO (t:=138) (e:=3) (x:=(.tmp 10)) (y:=(.const (vI 0))) (nn:=2) (k:=1) 2 11 (Int.toNat p0*2) kr kr rfl kr (.head _) (aH eY) (ev (.pointer (some ⟨c,Int.toNat p0*2,none⟩))) (ev (vI 0)) kr ac ac ?_;refine cR 3 p (aT 4 ?_);have⟨o,b,i⟩:=aU i;have s:=TC (f:=(fun x:mF=>([vI x.1,vI x.2]:List Value))) (k:=2) d (fun _=>rfl) b
 refine HO (t:=139) (e:=138) (x:=(.tmp 4)) (y:=(.tmp 13)) (nn:=8) (k:=2) 5 14 (Int.toNat p0*2) (kT _).symm kr rfl kr (.head _) (aH eY) (ev (vP c 0)) (ev (vI p0)) kr (CR b).1 (CR b).2 ?_;refine HO (t:=138) (e:=3) (x:=(.tmp 14)) (y:=(.const (vI 1))) (nn:=2) (k:=1) 6 15 (Int.toNat p0*2+1) kr kr rfl kr (.head _) (aH eY) (ev (.pointer (some ⟨c,Int.toNat p0*2,none⟩))) (ev (vI 1)) kr ac ac ?_;cases i;exact cR 7 (s.drop 1) (aX 2 [8,9] (cE kr (mM ⟨l,rfl,q.t u,st⟩)))
def EM(N:Nat)(p0:pG)(p1:Int):Option (pG×Int):=
 (EH N p1).bind fun y1=>if(!y1)then(some ((0,(⟨#[]⟩:BA),(⟨#[]⟩:BA)),3)) else((EK N p0).bind fun a=>if(!a)then(some ((0,(⟨#[]⟩:BA),(⟨#[]⟩:BA)),1)) else((qDu N p0.1).bind fun a=>if(p1==a.1)then(some ((6,p0.2.1,(⟨#[]⟩:BA)),0)) else(if(p1==a.2)then(some ((7,p0.2.1,(⟨#[]⟩:BA)),0)) else(some (p0,0)))))
theorem qEh{p0:pG}{p1:Int}{r:pG×Int}(st:St m (O) w)(i:EM N p0 p1=some r):Calls prog 35 #[.agg (Vh p0),vI p1] w fun e w'=>∃m',eU m m' e (.tuple #[.agg (Vh r.1),vI r.2]) (O) w':=by
 refine bY st func35 rfl ntmps35 fun q=>aC (iK 2 90 (.agg (Vh p0)) st fun d v x l st a=>eE 4 90 (.agg BL) st fun u y st=>eF (aY 1 i (SN st) ?_));rintro y1 i _ z ⟨n,rfl,g,st⟩;have q:=(q.t l).t g;have a:=a.o g;refine eK i ?_ ?_<;>intro A i
 .cases i;exact bK 1 (cL (.agg BL) st fun b st=>bH (bU (bL (lQ st.h ⟨n,rfl,q,st.t⟩))))
 refine aL (aG (aC (cI st a (bI i (qUg (p0:=p0) st) ?_))));rintro p i _ B ⟨o,rfl,b,st⟩;refine eK i ?_ ?_<;>intro A i
 .cases i;exact bK 1 (cL (.agg BL) st fun c st=>bH (bU (bL (lQ st.h ⟨o,rfl,q.t b,st.t⟩))))
 refine aL (iQ 1 st (a.o b) (bI i (qTi st) ?_));rintro c i _ D ⟨f,rfl,k,st⟩;have q:=(q.t b).t k;have a:=(a.o b).o k;refine eF (bJ (bA (bF i ?_ ?_)))<;>intro A i
 .cases i;exact iQ 1 st (a.drop 1) (cH 1 (cL (.agg (Vj 6 p0.2.1 eB)) st fun s st=>bH (bU (cN (bL (lQ st.h ⟨f,rfl,q,st.t⟩))))))
 refine bF i ?_ ?_<;>intro A i
 .cases i;exact iQ 1 st (a.drop 1) (cH 1 (cL (.agg (Vj 7 p0.2.1 eB)) st fun s st=>bH (bU (cN (bL (lQ st.h ⟨f,rfl,q,st.t⟩))))))
 cases i;exact lC (aC (cI st a (cL (.agg (Vh p0)) st fun s st=>bH (bU (lQ st.h ⟨f,rfl,q,st.t⟩)))))
def KG(p0:iW):Option iW:=JJ 40 p0
theorem qRd{p0:iW}{r:iW}(st:St m (O) w)(o:RepS C8 m a1 c1 p0)(i:KG p0=some r):Calls prog 56 #[vS a1 p0 c1] w fun e w'=>∃a k T m',e= .returned (vS a r k)/\m.le m'/\OAS a r.length k 3 T/\St m' (bO a (aN cP r T) 90::O) w':=by
 unfold KG at i;refine bY st func56 rfl ntmps56 fun q=>cA (bK 1 ?_);rcases iO (Option.isNone a1) with hnil|hnil
 .refine cU (qJr (d:=4) (t:=41) (t2:=41) (e:=90) (x:=(.tmp 3)) (y:=(.const (v6))) true kr rfl (ev (vS a1 p0 c1)) kr rfl hnil (aJ (NT true kr ?_ (fun h=>Bool.noConfusion h))));intro _;refine bJ (bU (bL ?_));have hp:p0=[]:=by
   cases a1 with
   |none=>exact o.none_nil.1
   |some p=>cases hnil
  subst hp;have hr':r=[]:=by simp[JJ] at i;first|exact i|exact i.symm
  subst hr';exact vJ ⟨none,0,[],m,rfl,q,⟨jN _,jW _,rfl⟩,(st.nilroom 0 0)⟩
 refine cU (qJr (d:=4) (t:=41) (t2:=41) (e:=90) (x:=(.tmp 3)) (y:=(.const (v6))) false kr rfl (ev (vS a1 p0 c1)) kr rfl hnil (aJ (NT false kr (fun h=>Bool.noConfusion h) ?_)));intro _;exact aL (aC (cU (oX (d:=5) (t:=41) (e:=90) (len:=0) (parts:= #[]) C8 (xs:=([]:iW)) [] kr rfl (fun _=>qTs ae kr _) rfl rfl st rfl fun l s z n st v=>cH 1 (cU (zAu (d:=7) (t:=41) (u:=41) (e:=90) (by_:=40) (x:=(.tmp 5)) (y:=(.tmp 6)) (c:=C8) (f:=cP) (a:=(aP l)) (fun _ _ _ h=>by obtain⟨_,_,rfl,rfl,⟨_,_,rfl,rfl,rfl⟩⟩:=h;rfl) (fun _=>rfl) kr rfl (ev (.slice (aP l) 0 0)) (ev (vS a1 p0 c1)) st kr (.inl kr) (o.o n).src i fun b g T2 A hs st=>bH (bU (vJ ⟨b,g,T2,s,rfl,q.t n,hs,st⟩)))))))
def ME(N:Nat)(p0:Int):Tk:=
 some (p0 !=p0)
theorem qDn{p0:Int}{r:Bool}(st:St m (O) w)(i:ME N p0=some r):Calls prog 114 #[vI p0] w fun e w'=>∃m',eU m m' e (vB r) (O) w':=by
 cases i;exact bY st func114 rfl ntmps114 fun q=>oL (eT ⟨m,rfl,q,st⟩)
def SM(N:Nat)(p0:Int)(p1:Int):Td:=
 (ME N p0).bind fun y1=>(ME N p1).bind fun a=>if y1 then(if a then(some 0) else(some (-1))) else(if a then(some 1) else(if(decide (p0<p1))then(some (-1)) else(if(decide (p0>p1))then(some 1) else(some 0))))
theorem qTg{p0:Int}{p1:Int}{r:Int}(st:St m (O) w)(i:SM N p0 p1=some r):Calls prog 83 #[vI p0,vI p1] w fun e w'=>∃m',eU m m' e (vI r) (O) w':=by
 refine bY st func83 rfl ntmps83 fun q=>bJ (aY 1 i (qDn st) ?_);rintro y1 i _ g ⟨f,rfl,c,st⟩;refine bH (aY 1 i (qDn st) ?_);rintro b i _ h ⟨a,rfl,d,st⟩;have q:=(q.t c).t d;refine eF (bF i ?_ ?_)<;>intro A i
 .refine aG (bF i ?_ ?_)<;>intro A i
  .cases i;exact cO ⟨a,rfl,q,st⟩
  cases i;exact aL (cO ⟨a,rfl,q,st⟩)
 refine aL (aG (bF i ?_ ?_))<;>intro A i
 .cases i;exact cO ⟨a,rfl,q,st⟩
 refine aL (aG (bF i ?_ ?_))<;>intro A i
 .cases i;exact cO ⟨a,rfl,q,st⟩
 refine aL (aG (bF i ?_ ?_))<;>intro A i
 .cases i;exact cO ⟨a,rfl,q,st⟩
 cases i;exact aL (cO ⟨a,rfl,q,st⟩)
def VM(N:Nat)(p0:BA)(p1:BA):Td:=
 some (oU p0 p1)
theorem qRa{p0:BA}{p1:BA}{r:Int}(st:St m (O) w)(i:VM N p0 p1=some r):Calls prog 115 #[vT p0,vT p1] w fun e w'=>∃m',eU m m' e (vI r) (O) w':=by
 cases i;exact bY st func115 rfl ntmps115 fun q=>bJ (bK 2 (cU (qXi (d:=7) (f:=132) (x:=(.tmp 5)) (y:=(.tmp 6)) (ts:= #[9,9]) kr rfl (ev (vT p0)) (ev (vT p1)) func132 kr kr (eT ⟨m,rfl,q,st⟩))))
def MC(N:Nat)(p0:BA)(p1:BA):Td:=
 (VM N p0 p1).bind fun y1=>some y1
theorem qDl{p0:BA}{p1:BA}{r:Int}(st:St m (O) w)(i:MC N p0 p1=some r):Calls prog 84 #[vT p0,vT p1] w fun e w'=>∃m',eU m m' e (vI r) (O) w':=by
 refine bY st func84 rfl ntmps84 fun q=>bJ (aY 2 i (qRa st) ?_);rintro y1 i _ c ⟨b,rfl,a,st⟩;obtain rfl:=sI i;exact eT ⟨b,rfl,q.t a,st⟩
def WQ(N:Nat)(p0:Te)(s1:Int):zR:=
 if(decide (s1<(List.length p0:Int)))then((aO p0 s1).bind fun a=>if(a !=0)then(some (.inr (.inr (a)))) else(some (.inl (IntKind.wrap .i64 (s1+1))))) else(some (.inr (.inl ())))
def TA(N:Nat)(p0:Te):Td:=
 (aB (WQ N p0) N 0).bind fun a=>(match a with| .inl a=>some 0| .inr (z)=>some z)
theorem qUa{p0:Te}{r:Int}(st:St m (O) w)(k:RepS (aI .i64) m a1 c1 p0)(i:TA N p0=some r):Calls prog 82 #[vS a1 p0 c1] w fun e w'=>∃m',eU m m' e (vI r) (O) w':=by
 refine bY st func82 rfl ntmps82 fun q=>bJ (cA (bJ (bA ?_)));have⟨c,i,o⟩:=aU i;refine lF (.exit 0) (fun L' w'=>∃(p:Unit),∃h,(.inl p)=c/\L'=[(3,vI 0)]/\m.le h/\St h (O) w') ?_ ?_
 .rintro _ a ⟨p,h,rfl,rfl,q,st⟩;have i:=o;cases i;exact eS (cO ⟨h,rfl,q,st⟩)
 intro f;refine cY (fun g L' w'=>∃(s1:Int),∃a,aB (WQ N p0) g s1=some c/\L'=[(3,vI 0),(6,vS a1 p0 c1),(7,vI (p0.length:Int)),(8,vI s1)]/\m.le a/\St a (O) w'/\RepS (aI .i64) a a1 c1 p0) N ⟨0,m,i,rfl,q,st,k⟩ ?_;rintro g _ x ⟨s1,a,hL,rfl,q,st,k⟩;obtain⟨g,u,rfl,i,l,b⟩:=cZ hL;refine cA (aK i ?_ ?_)<;>intro A i
 .refine aL (aG (bA (aC (iE k i ?_))));rintro d i v s t rfl n;refine cI st n (bH (bF i ?_ ?_))<;>intro A i
  .refine bJ (bU (cN (bL ?_)));have ho:=b _ (sI i);subst ho;have i:=o;obtain rfl:=sI i;exact lO ⟨a,rfl,q,st⟩
  refine lC (cB 2 ?_);have hL:=l _ (sI i);exact cX ⟨wr (s1+1),a,hL,rfl,q,st,k⟩
 refine cV ?_;have ho:=b _ (sI i);exact cS (f _ _ ⟨(),a,ho,rfl,q,st⟩)
def WV(N:Nat)(p0:pG)(p1:pG):Td:=
 if((p0.1==p1.1)&&((p0.2.1.toList==p1.2.1.toList)&&((p0.2.2.toList==p1.2.2.toList)&&true)))then(some 0) else((SM N p0.1 p1.1).bind fun y1=>(MC N p0.2.1 p1.2.1).bind fun a=>(MC N p0.2.2 p1.2.2).bind fun b=>(TA N ([y1,a,b])).bind fun a=>some a)
theorem qTl{p0:pG}{p1:pG}{r:Int}(st:St m (O) w)(i:WV N p0 p1=some r):Calls prog 58 #[.agg (Vh p0),.agg (Vh p1)] w fun e w'=>∃m',eU m m' e (vI r) (O) w':=by
 refine bY st func58 rfl ntmps58 fun q=>aC (iK 2 90 (.agg (Vh p0)) st fun f H U p st b=>iK 3 90 (.agg (Vh p1)) st fun g l V k st c=> ?_);have b:=b.o k;refine eF (aC (cI st b (cI st c (cU (TE (d:=7) (t:=90) (t2:=90) (x:=(.tmp 5)) (y:=(.tmp 6)) (xs:=(Vh p0)) (ys:=(Vh p1)) ((p0.1==p1.1)&&((p0.2.1.toList==p1.2.1.toList)&&((p0.2.2.toList==p1.2.2.toList)&&true))) kr rfl (ev (.agg (Vh p0))) (ev (.agg (Vh p1))) kr kr kr (aJ (aK i ?_ ?_)))))))<;>intro A i
 .cases i;exact cO ⟨l,rfl,(q.t p).t k,st⟩
 refine aL (aG (eH [(18,fun w'=>Inv l w'/\True)] kr st fun Y _ st=> ?_));have a:=l.le_refl;refine tA st a (aT 0 (cR 1 b (aT 2 (cR 3 c (aT 5 (cR 6 (b.drop 1) (aT 7 (cR 8 (c.drop 1) (aT 10 (cR 11 (b.drop 2) (aT 12 (cR 13 (c.drop 2) (aR 4 kr (cJ i (fun _ h=>qTg st h) ?_))))))))))))));rintro y1 i _ Z ⟨K,rfl,s,st⟩;refine⟨_,rfl,?_⟩;have a:=a.t s;refine tA st a (aR 9 kr (cJ i (fun _ h=>qDl st h) ?_));rintro n i _ w5 ⟨M,rfl,u,st⟩;refine⟨_,rfl,?_⟩;have a:=a.t u;refine tA st a (aR 14 kr (cJ i (fun _ h=>qDl st h) ?_));rintro o i _ w6 ⟨R,rfl,v,st⟩;refine⟨_,rfl,?_⟩;have a:=a.t v;refine tA st a (aR 15 kr (oX (d:=23) (t:=22) (e:=3) (len:=3) (parts:= #[(0,(.tmp 12)),(1,(.tmp 17)),(2,(.tmp 22))]) (aI .i64) (xs:=[y1,n,o]) [vI y1,vI n,vI o] kr rfl (fun _=>oY kr _) rfl rfl st ⟨[vI y1],_,rfl,rfl,⟨[vI n],_,rfl,rfl,⟨[vI o],_,rfl,rfl,rfl⟩⟩⟩ fun G S w7 z st F=> ?_));have a:=a.t z;refine tA st a (aR 16 kr (cJ i (fun _ h=>qUa st F h) ?_));rintro D i _ w8 ⟨E,rfl,B,st⟩;refine⟨_,rfl,?_⟩;have a:=a.t B;refine tA st a (aT 17 (cE kr ?_));have st:=st.t;obtain rfl:=sI i;exact mM ⟨E,rfl,((((((q.t p).t k).t s).t u).t v).t z).t B,st⟩
def qTw:Go.Shelf.Ren:=⟨fun|6=>57|15=>81|14=>80|28=>112|29=>113|20=>104|21=>105|22=>106|23=>107|24=>108|25=>109|26=>110|27=>111|46=>127|47=>128|48=>129|49=>130|50=>131|57=>143|n=>n,fun|22=>41|24=>90|25=>117|3=>3|39=>142|0=>0|53=>176|55=>46|4=>4|46=>170|45=>169|50=>121|5=>5|9=>9|66=>188|70=>192|76=>200|77=>113|n=>n,fun|n=>n⟩
theorem qZw:Go.Proofs.SlLaysF0.n6 prog qTw where
 mixed:=kr
 f6:=⟨Tryz.f57.name,kr,func57.trans (congrArg some kr)⟩
 f14:=⟨Tryz.f80.name,kr,func80.trans (congrArg some kr)⟩
 f15:=func81.trans (congrArg some kr)
 f20:=⟨Tryz.f104.name,kr,func104.trans (congrArg some kr)⟩
 f21:=⟨Tryz.f105.name,kr,func105.trans (congrArg some kr)⟩
 f22:=⟨Tryz.f106.name,kr,func106.trans (congrArg some kr)⟩
 f23:=⟨Tryz.f107.name,kr,func107.trans (congrArg some kr)⟩
 f24:=⟨Tryz.f108.name,kr,func108.trans (congrArg some kr)⟩
 f25:=⟨Tryz.f109.name,kr,func109.trans (congrArg some kr)⟩
 f26:=⟨Tryz.f110.name,kr,func110.trans (congrArg some kr)⟩
 f27:=⟨Tryz.f111.name,kr,func111.trans (congrArg some kr)⟩
 f28:=func112.trans (congrArg some kr)
 f29:=func113.trans (congrArg some kr)
 f46:=⟨Tryz.f127.name,kr,func127.trans (congrArg some kr)⟩
 f47:=func128.trans (congrArg some kr)
 f48:=func129.trans (congrArg some kr)
 f49:=⟨Tryz.f130.name,kr,func130.trans (congrArg some kr)⟩
 f50:=⟨Tryz.f131.name,kr,func131.trans (congrArg some kr)⟩
 f57:=⟨Tryz.f143.name,kr,func143.trans (congrArg some kr)⟩
 t0:=Tryz.underlying0
 a0:=Tryz.isAgg0
 z0:=Tryz.sizeOf0
 v0:=Tryz.zeroValue0
 t3:=Tryz.underlying3
 a3:=Tryz.isAgg3
 z3:=Tryz.sizeOf3
 v3:=Tryz.zeroValue3
 t4:=Tryz.underlying4
 a4:=Tryz.isAgg4
 z4:=Tryz.sizeOf4
 v4:=Tryz.zeroValue4
 t5:=Tryz.underlying5
 a5:=Tryz.isAgg5
 z5:=Tryz.sizeOf5
 v5:=Tryz.zeroValue5
 t9:=Tryz.underlying9
 a9:=Tryz.isAgg9
 z9:=Tryz.sizeOf9
 v9:=Tryz.zeroValue9
 t22:=Tryz.underlying41
 a22:=Tryz.isAgg41
 z22:=Tryz.sizeOf41
 v22:=Tryz.zeroValue41
 t25:=Tryz.underlying117
 a25:=Tryz.isAgg117
 z25:=Tryz.sizeOf117
 v25:=Tryz.zeroValue117
 t39:=Tryz.underlying142
 a39:=Tryz.isAgg142
 z39:=Tryz.sizeOf142
 v39:=Tryz.zeroValue142
 t45:=Tryz.underlying169
 a45:=Tryz.isAgg169
 z45:=Tryz.sizeOf169
 v45:=Tryz.zeroValue169
 t46:=Tryz.underlying170
 a46:=Tryz.isAgg170
 z46:=Tryz.sizeOf170
 v46:=Tryz.zeroValue170
 t50:=Tryz.underlying121
 a50:=Tryz.isAgg121
 z50:=Tryz.sizeOf121
 v50:=Tryz.zeroValue121
 t53:=Tryz.underlying176
 a53:=Tryz.isAgg176
 z53:=Tryz.sizeOf176
 v53:=Tryz.zeroValue176
 t55:=Tryz.underlying46
 a55:=Tryz.isAgg46
 z55:=Tryz.sizeOf46
 v55:=Tryz.zeroValue46
 t66:=Tryz.underlying188
 a66:=Tryz.isAgg188
 z66:=Tryz.sizeOf188
 v66:=Tryz.zeroValue188
 t70:=Tryz.underlying192
 a70:=Tryz.isAgg192
 z70:=Tryz.sizeOf192
 v70:=Tryz.zeroValue192
 t76:=Tryz.underlying200
 a76:=Tryz.isAgg200
 z76:=Tryz.sizeOf200
 v76:=Tryz.zeroValue200
 t77:=Tryz.underlying113
 a77:=Tryz.isAgg113
 z77:=Tryz.sizeOf113
 v77:=Tryz.zeroValue113
theorem qUb(x y:Int):SM N x y=some (sS x y):=by
 have h:∀z:Int,ME N z=some false:=fun z=>by simp[ME]
 simp only[SM,h,j0,sS]
 by_cases h1:x<y
 .simp[h1]
 by_cases h2:x>y
 .simp[h1,h2]
 simp[h1,h2]
theorem qTh(x y:BA):MC N x y=some (oU x y):=by simp[MC,VM]
theorem zAc(hN:10<=N)(a b c:Int):TA N [a,b,c]=some (if a≠0 then a else if b≠0 then b else c):=by
 obtain⟨k,rfl⟩:∃k,N=k+4:=⟨N-4,by omega⟩;have e:wr 1=1:=by decide
 have g:wr 2=2:=by decide
 have l:wr 3=3:=by decide
 have h:aO [a,b,c] 0=some a:=rfl;have d:aO [a,b,c] 1=some b:=rfl;have f:aO [a,b,c] 2=some c:=rfl;simp only[TA,aB,WQ,jC,jD,h,j0]
 by_cases ha:a=0
 .subst ha
  by_cases hb:b=0
  .subst hb
   by_cases A:c=0
   .subst A;simp[e,g,l,d,f]
   simp[e,g,d,f,A]
  simp[e,d,hb]
 simp[ha]
theorem qTp(hN:10<=N)(x y:pG):WV N x y=some (qG sS (qG oU oU) x y):=by
 have hl:Lin (qG sS (qG oU oU)):=IC cmpI_lin (IC cmpS_lin cmpS_lin);simp only[WV,qUb,qTh,zAc hN,j0]
 by_cases h:x=y
 .rw[if_pos (by subst h;simp),(hl.zero x y).2 h]
 split
 .rename_i g
  simp only[jK,kI,and_true] at g;have bt:∀{a b:BA},a.toList=b.toList->a=b:=fun {a b} e=>by
   rw[ByteArray.toList_eq,ByteArray.toList_eq] at e;exact Go.WideShapes.bytes_inj e
  exact absurd (Prod.ext g.1 (Prod.ext (bt g.2.1) (bt g.2.2))) h
 rfl
def DR(N:Nat)(l:iW):Option iW:=if 10<=N/\l.length<4611686018427387904 then some (l.mergeSort fun x y=> !(Go.Proofs.ltOf (qG sS (qG oU oU)) y x)) else none
theorem qQy{l r:iW}(h:DR N l=some r):r.length=l.length:=by
 unfold DR at h
 split at h
 .simp only[jO] at h;subst h;simp
 cases h
theorem qQx{a:Option Addr}{nn cc:Nat}{T:List Value}{l r:iW}{e:TypeId}(st:St m (bO a (aN cP l T) e::O) w)(hs:OAS a nn cc 3 T)(hn:List.length l=nn)(h:DR N l=some r):
  Calls prog 57 #[.slice a nn cc,.func (.func 58) #[] #[]] w fun e' w'=>e'= .returned (.tuple #[])/\St m (bO a (aN cP r T) e::O) w':=by
 unfold DR at h
 split at h
 .rename_i hb
  obtain⟨hN,hlen⟩:=hb;simp only[jO] at h;subst h;subst hn;have hl:Lin (qG sS (qG oU oU)):=IC cmpI_lin (IC cmpS_lin cmpS_lin);have:=qVb (f:=cP) (k:=3) qZw Tryz.isAgg90 Tryz.sizeOf90 (fun _=>rfl) (fun _ _ hv=>by simp only[jJ,gE,hU] at hv;rcases hv with rfl|rfl|rfl<;>rfl) (qG sS (qG oU oU)) hl.swo hl.total 58 (enters_of func58 kr rfl) (fun x y W=>by
   refine(qTl (qMm W) (qTp hN x y)).mono fun e' w' h=> ?_;obtain⟨m',b,c,d⟩:=h;exact⟨m',b,c,d⟩) st hs hlen
  exact this
 cases h
end
section
open Go Go.Dc Go.Proofs.Tryz
set_option maxHeartbeats 4000000
set_option maxRecDepth 100000
variable {N c1:Nat} {m:Mem} {O:List Piece} {w:World} {a1:Option Addr}
def MM(N:Nat)(b:iW)(s1:Int)(a:Int×BJ):Option (Int×BJ⊕BJ):=
 if(decide (a.2.1<((Int.toNat (List.length b:Int)-Int.toNat s1:Nat):Int)))then(((aO (List.drop (Int.toNat s1) (List.take (Int.toNat (List.length b:Int)) a.2.2)) a.2.1).bind fun c=>(aO (List.drop (Int.toNat s1) (List.take (Int.toNat (List.length b:Int)) a.2.2)) (IntKind.wrap .i64 (a.2.1-1))).bind fun d=>if(!((c.1==d.1)&&((c.2.1.toList==d.2.1.toList)&&((c.2.2.toList==d.2.2.toList)&&true))))then((aO (List.drop (Int.toNat s1) (List.take (Int.toNat (List.length b:Int)) a.2.2)) a.2.1).bind fun b=>(aO a.2.2 a.1).bind fun c=>some (IntKind.wrap .i64 (a.1+1),List.set a.2.2 (Int.toNat a.1) b)) else(some (a.1,a.2.2)):Option BJ).bind fun b=>some (.inl (b.1,IntKind.wrap .i64 (a.2.1+1),b.2))) else(some (.inr (a.1,a.2.2)))
def ML(N:Nat)(y1:iW)(a:iW)(s1:Int):Option (Int⊕Unit⊕iW):=
 if(decide (s1<((List.length y1):Int)))then((aO a s1).bind fun b=>(aO a (IntKind.wrap .i64 (s1-1))).bind fun c=>if((b.1==c.1)&&((b.2.1.toList==c.2.1.toList)&&((b.2.2.toList==c.2.2.toList)&&true)))then((pW a s1 (List.length a:Int)).bind fun b=>(aB (MM N a s1) N (s1,1,a)).bind fun a=>(pW a.2 a.1 (List.length a.2:Int)).bind fun b=>(FC a.2 a.1 (0,(⟨#[]⟩:BA),(⟨#[]⟩:BA))).bind fun b=>(pW b 0 a.1).bind fun c=>some (.inr (.inr (List.take (Int.toNat a.1) b)))) else(some (.inl (IntKind.wrap .i64 (s1+1))))) else(some (.inr (.inl ())))
def TM(N:Nat)(p0:iW):Option iW:=
 (KG p0).bind fun y1=>(DR N y1).bind fun b=>(if(decide (((List.length y1):Int)<2))then(some b) else((aB (ML N y1 b) N 1).bind fun a=>(match a with| .inl o2=>some b| .inr (z)=>some z)):Option iW).bind fun a=>some a
theorem qWe{p0:iW}{r}(st:St m (O) w)(r1:RepS C8 m a1 c1 p0)(i:TM N p0=some r):Calls prog 38 #[vS a1 p0 c1] w fun e w'=>∃a9 b0 m',eA m m' e (vS a9 r b0) (kR a9 r b0 90 3::O) w' (RepS C8 m' a9 b0 r):=by
 refine bY st func38 rfl ntmps38 fun q=>bJ (aY 1 i (qRd st r1) ?_);rintro y1 i _ w1 ⟨a,b,T1,m1,rfl,e1,n,st⟩;refine bH (bK 1 ?_);have⟨s,b4,i⟩:=aU i;refine cU (sM 6 57 #[vS a y1 b,.func (.func 58) #[] #[]] kr rfl ((qQx st n rfl b4).mono ?_));rintro _ w2 ⟨rfl,st⟩;refine⟨_,rfl,?_⟩;have p:=((qQy b4).trans rfl);refine aJ (bK 1 ?_);have⟨o1,i,j1⟩:=aU i;refine cU (sM 8 59 #[vS a y1 b] kr rfl (qHx (fun v' w'=>∃K M m3,v'=(vS K o1 M)/\m.le m3/\St m3 (kR K o1 M 90 3::O) w'/\RepS C8 m3 K M o1) ?_ ?_))
 .have i:=j1;rintro _ B ⟨K,M,m3,rfl,q,st,g⟩;refine⟨_,rfl,?_⟩;obtain rfl:=sI i;exact eT ⟨K,M,m3,rfl,q,st,g⟩
 refine uJ func59 rfl ntmps59 (cA (bF i ?_ ?_))<;>intro A i
 .refine bJ (bU (bL ?_));obtain rfl:=sI i;obtain⟨B,g,st,D⟩:=St.freezeM (c:=C8) (f:=cP) st n p (fun _=>rfl) (fun _ x=>⟨_,_,rfl,rfl,⟨_,_,rfl,rfl,rfl⟩⟩);refine JC [(2,vS a s b)] (by(try simp only[vS,p]);kernel_rfl) ?_;exact vJ ⟨_,rfl,⟨a,b,B,rfl,(q.t e1).t g,st,D⟩⟩
 refine aL (aG (bJ (bA ?_)));have⟨a8,i,j2⟩:=aU i;refine lF (.exit 0) (fun L' w'=>∃(o2:Unit),∃m5,(.inl o2)=a8/\L'=[(0,vS a y1 b)]/\m.le m5/\St m5 (bO a (aN cP s T1) 90::O) w'/\List.length s=y1.length) ?_ ?_
 .rintro _ E ⟨o2,m5,rfl,rfl,q,st,p⟩;have i:=j2;refine eS (bJ (bU ?_));obtain rfl:=sI i;obtain⟨g,B,st,D⟩:=St.freezeM (c:=C8) (f:=cP) st n p (fun _=>rfl) (fun _ x=>⟨_,_,rfl,rfl,⟨_,_,rfl,rfl,rfl⟩⟩);refine JC [(2,vS a s b)] (by(try simp only[vS,p]);kernel_rfl) ?_;exact vJ ⟨_,rfl,⟨a,b,g,rfl,q.t B,st,D⟩⟩
 intro b1;refine cY (fun k1 L' w'=>∃(s1:Int),∃F,aB (ML N y1 s) k1 s1=some a8/\L'=[(0,vS a y1 b),(3,vI s1)]/\m.le F/\St F (bO a (aN cP s T1) 90::O) w'/\List.length s=y1.length) N ⟨1,m1,i,rfl,q.t e1,st,p⟩ ?_;rintro k1 _ w5 ⟨s1,F,hL,rfl,q,st,p⟩;obtain⟨k1,d1,rfl,i,c3,a0⟩:=cZ hL;refine aG (bF i ?_ ?_)<;>intro A i
 .refine aL (aG (bA (aG (eH [(10,fun w'=>Inv F w'/\Piece.holds F w' (bO a (aN cP s T1) 90)/\True)] kr st fun w6 _ st=> ?_))));have a3:=F.le_refl;refine⟨aS (aF st a3),aX 2 [0,1] ?_⟩;have⟨S,b5,i⟩:=aU i;refine wQ (t:=41) (e:=90) (x:=(.tmp 16)) (y:=(.tmp 17)) (k:=3) 2 18 kr rfl kr (.head _) (aH (bQ (aH (aH (bQ (aH eY)))))) (ev (vS a y1 b)) (ev (vI s1)) kr n p b5 ?_;refine wR (t:=90) (x:=(.tmp 18)) (o:=0) (f:=cP) (z:=S) (v:= .agg (Vh S)) 3 19 (fun _=>rfl) (Int.toNat s1*3) rfl kr rfl kr (.head _) (aH (bQ (aH (aH (bQ (aH eY)))))) eC (ev (.pointer (some ⟨ab a,Int.toNat s1*3,none⟩))) n p b5 kr ?_;refine aX 3 [4,5,6] ?_;have⟨U,b6,i⟩:=aU i;refine wQ (t:=41) (e:=90) (x:=(.tmp 20)) (y:=(.tmp 22)) (k:=3) 7 23 kr rfl kr (.head _) (aH (bQ (aH (aH (bQ (aH eY)))))) (ev (vS a y1 b)) (ev (vI (wr (s1-1)))) kr n p b6 ?_;refine wR (t:=90) (x:=(.tmp 23)) (o:=0) (f:=cP) (z:=U) (v:= .agg (Vh U)) 8 24 (fun _=>rfl) (Int.toNat (wr (s1-1))*3) rfl kr rfl kr (.head _) (aH (bQ (aH (aH (bQ (aH eY)))))) eC (ev (.pointer (some ⟨ab a,Int.toNat (wr (s1-1))*3,none⟩))) n p b6 kr ?_
  refine aR 9 kr (TE (d:=25) (t:=90) (t2:=90) (x:=(.tmp 19)) (y:=(.tmp 24)) (xs:=(Vh S)) (ys:=(Vh U)) ((S.1==U.1)&&((S.2.1.toList==U.2.1.toList)&&((S.2.2.toList==U.2.2.toList)&&true))) kr rfl (ev (.agg (Vh S))) (ev (.agg (Vh U))) kr kr kr ⟨aS (aF st a3),cE kr (bC (aK i ?_ ?_))⟩)<;>intro A i
  .refine bK 2 ?_;have⟨u3,b7,i⟩:=aU i;refine cU (YO (d:=28) (t:=41) (e:=90) (k:=3) (x:=(.tmp 26)) (lo:=(some (.tmp 27))) (hi:=none) (li:=s1) (hix:=(s.length:Int)) kr rfl (ev (vS a y1 b)) kr (.inr ⟨_,_,rfl,(ev (vI s1))⟩) (.inl ⟨rfl,congrArg Nat.cast p⟩) n p b7 ?_);have E:=OK b7 p;refine eF (bJ (bA (bV (.exit 2) i (fun H L' w'=>∃(B:BJ),∃m7,B=H/\L'=[(0,vS a y1 b),(3,vI B.1)]/\m.le m7/\St m7 (bO a (aN cP B.2 T1) 90::O) w'/\List.length B.2=y1.length) ?_ ?_)))
   .rintro H i _ w7 ⟨B,m7,rfl,rfl,q,st,g⟩;refine eS (bK 2 ?_);have⟨u6,G,i⟩:=aU i;refine cU (YO (d:=56) (t:=41) (e:=90) (k:=3) (x:=(.tmp 54)) (lo:=(some (.tmp 55))) (hi:=none) (li:=B.1) (hix:=(B.2.length:Int)) kr rfl (ev (vS a y1 b)) kr (.inr ⟨_,_,rfl,(ev (vI B.1))⟩) (.inl ⟨rfl,congrArg Nat.cast g⟩) n g G ?_);have a7:=OK G g;have⟨Z,R,i⟩:=aU i;refine cU (qWh (t:=41) (e:=90) (k:=3) (x:=(.tmp 56)) (f:=cP) (l:=B.2) (lo:=B.1) (z:= .agg BL) (z0:=(0,eB,eB)) (fun _=>rfl) (fun _ _ hv=>by simp only[jJ,gE,hU] at hv;rcases hv with rfl|rfl|rfl<;>rfl) kr (ev (.slice (nG a b (Int.toNat B.1) 3) (Int.toNat (B.2.length:Int)-Int.toNat B.1) (b-Int.toNat B.1))) rfl kr kr rfl st n g R fun b2 st=> ?_);have D:=((qWo R).trans g);refine aJ (bK 2 ?_);have⟨u7,V,i⟩:=aU i;refine cU (YO (d:=59) (t:=41) (e:=90) (k:=3) (x:=(.tmp 57)) (lo:=none) (hi:=(some (.tmp 58))) (li:=0) (hix:=B.1) kr rfl (ev (vS a y1 b)) kr (.inl ⟨rfl,rfl⟩) (.inr ⟨_,_,rfl,(ev (vI B.1))⟩) n D V ?_);have Y:=OK V D;refine bH (bU (cN (bL ?_)));have ho:=a0 _ (sI i);subst ho;have i:=j2;refine bL (cN (bL ?_));obtain rfl:=sI i;have a5:=zIn (k:=3) (l:=Z) n D Y
    obtain⟨a6,e4,st,r5⟩:=St.freezeView (c:=C8) (f:=cP) (hi:=B.1) st n D (fun _=>rfl) (fun _ x=>⟨_,_,rfl,rfl,⟨_,_,rfl,rfl,rfl⟩⟩) Y;refine JC [(2,.slice a (List.length (List.take (Int.toNat B.1) Z)) b)] (by(try simp only[vS,a5]);kernel_rfl) ?_;exact vJ ⟨_,rfl,⟨a,b,a6,rfl,q.t e4,st,r5⟩⟩
   intro H i b2;refine cY (fun k2 L' w'=>∃(g:Int×BJ),∃G,aB (MM N s s1) k2 g=some H/\L'=[(0,vS a y1 b),(3,vI g.1),(4,.slice (nG a b (Int.toNat s1) 3) (Int.toNat (s.length:Int)-Int.toNat s1) (b-Int.toNat s1)),(5,vI g.2.1)]/\m.le G/\St G (bO a (aN cP g.d T1) 90::O) w'/\List.length g.d=y1.length) N ⟨(s1,1,s),F,i,rfl,q,st,p⟩ ?_;rintro k2 _ w8 ⟨g,G,hL,rfl,q,st,D⟩;obtain⟨k2,d2,rfl,i,c5,c0⟩:=cZ hL;refine aG (bF i ?_ ?_)<;>intro A i
   .refine aL (aG (bV .normal i (fun R L' w'=>∃m9,L'=[(0,vS a y1 b),(3,vI R.1),(4,.slice (nG a b (Int.toNat s1) 3) (Int.toNat (s.length:Int)-Int.toNat s1) (b-Int.toNat s1)),(5,vI g.2.1)]/\m.le m9/\St m9 (bO a (aN cP R.2 T1) 90::O) w'/\List.length R.2=y1.length) ?_ ?_))
    .rintro R i _ Y ⟨m9,rfl,q,st,V⟩;refine bC (cB 3 ?_);have hL:=c5 _ (sI i);exact cX ⟨(R.1,wr (g.2.1+1),R.2),m9,hL,rfl,q,st,V⟩
    intro R i b3;refine bA (aG (eH [(10,fun w'=>Inv G w'/\Piece.holds G w' (bO a (aN cP g.d T1) 90)/\True)] kr st fun d3 _ st=> ?_));have a5:=G.le_refl;refine⟨aS (aF st a5),aX 2 [0,1] ?_⟩;have⟨V,b8,i⟩:=aU i;refine qEk (t:=41) (e:=90) (k:=3) (x:=(.tmp 35)) (y:=(.tmp 36)) (lo:=s1) (hi:=(s.length:Int)) (ix:=g.2.1) 2 37 kr rfl kr (.head _) (aH (bQ (aH (aH (bQ (aH (bQ (aH (aH (bQ (aH eY))))))))))) (ev (.slice (nG a b (Int.toNat s1) 3) (Int.toNat (s.length:Int)-Int.toNat s1) (b-Int.toNat s1))) (ev (vI g.2.1)) kr n D E b8 ?_;have c8:=(TO E.1 b8).1;refine wR (t:=90) (x:=(.tmp 37)) (o:=0) (f:=cP) (z:=V) (v:= .agg (Vh V)) 3 38 (fun _=>rfl) (Int.toNat (s1+g.2.1)*3) rfl kr rfl kr (.head _) (aH (bQ (aH (aH (bQ (aH (bQ (aH (aH (bQ (aH eY))))))))))) eC (ev (.pointer (some ⟨ab a,Int.toNat (s1+g.2.1)*3,none⟩))) n D c8 kr ?_;refine aX 3 [4,5,6] ?_;have⟨Y,b9,i⟩:=aU i
    refine qEk (t:=41) (e:=90) (k:=3) (x:=(.tmp 39)) (y:=(.tmp 41)) (lo:=s1) (hi:=(s.length:Int)) (ix:=wr (g.2.1-1)) 7 42 kr rfl kr (.head _) (aH (bQ (aH (aH (bQ (aH (bQ (aH (aH (bQ (aH eY))))))))))) (ev (.slice (nG a b (Int.toNat s1) 3) (Int.toNat (s.length:Int)-Int.toNat s1) (b-Int.toNat s1))) (ev (vI (wr (g.2.1-1)))) kr n D E b9 ?_;have c9:=(TO E.1 b9).1;refine wR (t:=90) (x:=(.tmp 42)) (o:=0) (f:=cP) (z:=Y) (v:= .agg (Vh Y)) 8 43 (fun _=>rfl) (Int.toNat (s1+(wr (g.2.1-1)))*3) rfl kr rfl kr (.head _) (aH (bQ (aH (aH (bQ (aH (bQ (aH (aH (bQ (aH eY))))))))))) eC (ev (.pointer (some ⟨ab a,Int.toNat (s1+(wr (g.2.1-1)))*3,none⟩))) n D c9 kr ?_;refine aR 9 kr (YN (d:=44) (t:=90) (t2:=90) (x:=(.tmp 38)) (y:=(.tmp 43)) (xs:=(Vh V)) (ys:=(Vh Y)) ((V.1==Y.1)&&((V.2.1.toList==Y.2.1.toList)&&((V.2.2.toList==Y.2.2.toList)&&true))) kr rfl (ev (.agg (Vh V))) (ev (.agg (Vh Y))) kr kr kr ⟨aS (aF st a5),cE kr (bC (aK i ?_ ?_))⟩)<;>intro A i
    .refine bK 4 ?_;have⟨Z,a6,i⟩:=aU i;refine cU (qUf (d:=49) (t:=41) (e:=90) (k:=3) (x:=(.tmp 47)) (y:=(.tmp 48)) (lo:=s1) (hi:=(s.length:Int)) (ix:=g.2.1) kr rfl (ev (.slice (nG a b (Int.toNat s1) 3) (Int.toNat (s.length:Int)-Int.toNat s1) (b-Int.toNat s1))) (ev (vI g.2.1)) kr n D E a6 ?_);have c6:=(TO E.1 a6).1;refine cU (qEt (d:=50) (t:=90) (x:=(.tmp 49)) (o:=0) (f:=cP) (z:=Z) (v:= .agg (Vh Z)) (fun _=>rfl) (Int.toNat (s1+g.2.1)*3) rfl kr rfl (ev (.pointer (some ⟨ab a,Int.toNat (s1+g.2.1)*3,none⟩))) st.h n D c6 kr ?_);have⟨x6,a7,i⟩:=aU i;refine cU (WP (d:=51) (t:=41) (e:=90) (x:=(.tmp 45)) (y:=(.tmp 46)) (k:=3) kr rfl (ev (vS a y1 b)) (ev (vI g.1)) kr n D a7 (cU (SS (t:=90) (x:=(.tmp 51)) (y:=(.tmp 50)) (o:=0) (f:=cP) (z:=x6) (u:=Z) (v:= .agg (Vh Z)) (fun _=>rfl) (Int.toNat g.1*3) rfl kr (ev (.pointer (some ⟨ab a,Int.toNat g.1*3,none⟩))) (ev (.agg (Vh Z))) st n D a7 kr rfl fun d4 st=> ?_)));have c7:List.length (List.set g.d (Int.toNat g.1) Z)=y1.length:=IJ D _ _;exact aJ (cB 3 (iX (b3 i ⟨G,rfl,q,st,c7⟩)))
    exact oQ (iX (b3 i ⟨G,rfl,q,st,D⟩))
   refine cV ?_;have ho:=c0 _ (sI i);exact cS (b2 rfl ⟨(g.1,g.d),G,ho,rfl,q,st,D⟩)
  refine lC (cB 3 ?_);have hL:=c3 _ (sI i);exact cX ⟨wr (s1+1),F,hL,rfl,q,st,p⟩
 refine cV ?_;have ho:=a0 _ (sI i);exact cS (b1 _ _ ⟨(),F,ho,rfl,q,st,p⟩)
def CD(N:Nat)(p0:iW)(p1:Int)(s1:yK):Option (yK⊕iW⊕yK):=
 if(decide (s1.2<(List.length p0:Int)))then((aO p0 s1.2).bind fun a=>(EM N a p1).bind fun a=>if(a.2 !=0)then(some (.inr (.inr ((([]:iW),a.2))))) else((iU 40 s1.1 ([a.1])).bind fun a=>some (.inl (a,IntKind.wrap .i64 (s1.2+1))))) else(some (.inr (.inl s1.1)))
def CF(N:Nat)(p0:iW)(p1:Int):Option yK:=
 (EH N p1).bind fun y1=>if(!y1)then(some (([]:iW),3)) else((aB (CD N p0 p1) N (([]:iW),0)).bind fun a=>(match a with| .inl a=>(TM N a).bind fun a=>some (a,0)| .inr (z)=>some z))
theorem qDx{p0:iW}{p1:Int}{r:yK}(st:St m (O) w)(y:RepS C8 m a1 c1 p0)(i:CF N p0 p1=some r):Calls prog 10 #[vS a1 p0 c1,vI p1] w fun e w'=>∃o p m',eA m m' e (.tuple (V1 r o p)) (kR o r.1 p 90 3::O) w' (RepS C8 m' o p r.1):=by
 refine bY st func10 rfl ntmps10 fun q=>cA (aY 1 i (SN st) ?_);rintro y1 i _ w1 ⟨S,rfl,B,st⟩;refine eK i ?_ ?_<;>intro A i
 .cases i;exact cO ⟨none,0,S,rfl,q.t B,(st.nilroom 90 3),(RepS.nil _ _)⟩
 refine aL (cA (bJ (bA ?_)));have⟨n,i,M⟩:=aU i;refine lF (.exit 0) (fun L' w'=>∃(f:iW),∃g k x,(.inl f)=n/\L'=[(6,vS g f k)]/\m.le x/\St x (kR g f k 90 3::O) w'/\RepS C8 x g k f) ?_ ?_
 .rintro _ z ⟨f,g,k,x,rfl,rfl,q,st,s⟩;have i:=M;refine eS (aY 1 i (qWe st s) ?_);rintro c i _ v ⟨a,b,l,rfl,d,st,u⟩;refine eD 2 ?_;have st:=st.f1.t;obtain rfl:=sI i;exact mM ⟨a,b,l,rfl,q.t d,st,u⟩
 intro s;refine cY (fun v L' w'=>∃(s1:yK),∃b c d,aB (CD N p0 p1) v s1=some n/\L'=[(1,vI p1),(6,vS b s1.1 c),(14,vS a1 p0 c1),(15,vI (p0.length:Int)),(16,vI s1.2)]/\m.le d/\St d (kR b s1.1 c 90 3::O) w'/\RepS C8 d b c s1.1/\RepS C8 d a1 c1 p0) N ⟨(([]:iW),0),none,0,S,i,rfl,q.t B,(st.nilroom 90 3),(RepS.nil _ _),y.o B⟩ ?_;rintro v _ w3 ⟨s1,b,c,d,hL,rfl,q,st,U,y⟩;obtain⟨v,a6,rfl,i,E,l⟩:=cZ hL;refine cA (aK i ?_ ?_)<;>intro A i
 .refine aL (aG (bA (aC (iE y i ?_))));rintro z i b1 V a0 ⟨_,_,rfl,rfl,⟨_,_,rfl,rfl,rfl⟩⟩ K;refine cI st K (eE 8 90 (.agg BL) st fun b2 w4 st=>cL (.agg (Vh z)) st fun w5 st=>aJ (aC (cF st.h (eR 1 i (qEh (p0:=z) st) ?_))));rintro a i _ w6 ⟨Y,rfl,u,st⟩;refine cH 3 (eE 9 90 (.agg BL) st fun b3 w7 st=>cL (.agg (Vh a.1)) st fun w8 st=>eF (bF i ?_ ?_))<;>intro A i
  .refine bK 3 (lK ?_);have st:=st.f2.t;refine bC (bU (bL (cN (bL ?_))));have ho:=l _ (sI i);subst ho;have i:=M;refine bL (cN (bL ?_));cases i;refine vL [4,5] [ve,vI a.2] ?_;have st:=(st.nilroom 90 3).front1;exact⟨none,0,Y,rfl,q.t u,st.t.f1.t,(RepS.nil _ _)⟩
  refine aL (iN 1 (cF st.h (lG 31 90 1 C8 [a.1] st fun b4 m5 w9 D st r4=>pL 32 41 41 90 40 29 31 st.f3 (.inl kr) ((U.o u).o D) r4.src i fun R i F G Z a7 H st r5=>eD 1 ?_)));have st:=st.f1.t;refine qI (cB 2 ?_);have hL:=E _ (sI i);exact cX ⟨(R,wr (s1.2+1)),F,G,Z,hL,rfl,((q.t u).t D).t H,st.f1.t.f1.t,r5,((y.o u).o D).o H⟩
 refine cV ?_;have ho:=l _ (sI i);exact cS (s _ _ ⟨s1.1,b,c,d,ho,rfl,q,st,U⟩)
def XD(N:Nat)(p0:Int)(p1:Int):Tk:=
 ((EH N p0).bind fun y1=>if y1 then((EH N p1).bind fun a=>if a then((aO ([0,1,2,3]:Te) p0).bind fun a=>(aO ([0,1,2,3]:Te) p1).bind fun b=>some (decide (a<b))) else(some false)) else(some false):Tk).bind fun a=>some a
theorem qTu{p0:Int}{p1:Int}{r:Bool}(st:St m (O) w)(i:XD N p0 p1=some r):Calls prog 36 #[vI p0,vI p1] w fun e w'=>∃m',eU m m' e (vB r) (O) w':=by
 refine bY st func36 rfl ntmps36 fun q=>bJ (bK 1 (eE 5 115 (.agg #[vI 0,vI 0,vI 0,vI 0]) st fun u M st=>cL (.agg #[vI 0,vI 1,vI 2,vI 3]) st fun R st=> ?_));obtain⟨E,G,st,z⟩:=St.settle st;refine aJ (aG (bV .normal i (fun n L' w'=>∃l,L'=[(4,vB n)]/\m.le l/\St l (O) w') ?_ ?_))
 .rintro n i _ a ⟨l,rfl,q,st⟩;obtain rfl:=sI i;exact mM ⟨l,rfl,q,st⟩
 intro n i K;refine eH [(16,fun w'=>Inv E w'/\True)] kr st fun S _ st=> ?_;have a:=E.le_refl;refine tA st a ?_;have hb1S:=z;refine aT 0 (aR 1 kr (cJ i (fun _ h=>SN st h) ?_));rintro y1 i _ U ⟨H,rfl,v,st⟩;refine⟨_,rfl,?_⟩;have q:=(q.t G).t v;have a:=a.t v;refine tA st a (aT 2 ?_);rcases iO y1 with A|A
 .rw[if_pos A] at i;refine nB (t:=9) (b:=true) y1 kr A (aT 3 (aR 4 kr (cJ i (fun _ h=>SN st h) ?_)));rintro g i _ V ⟨F,rfl,s,st⟩;refine⟨_,rfl,?_⟩;have a:=a.t s;refine tA st a (aX 2 [5,6] ?_);rcases iO g with A|A
  .rw[if_pos A] at i;refine nB (t:=13) (b:=true) g kr A (aT 7 ?_);have⟨o,c,i⟩:=aU i;have B:=TC (f:=(fun x:Int=>([vI x]:List Value))) (k:=1) hb1S (fun _=>rfl) c;refine HO (t:=115) (e:=3) (x:=(.tmp 5)) (y:=(.tmp 14)) (nn:=4) (k:=1) 8 15 (Int.toNat p0*1) (kT _).symm kr rfl kr (.head _) (aH eY) (ev (vP u 0)) (ev (vI p0)) kr (CR c).1 (CR c).2 ?_;have hq1S:=B;refine cR 9 hq1S (aT 10 ?_);have⟨p,d,i⟩:=aU i;have D:=TC (f:=(fun x:Int=>([vI x]:List Value))) (k:=1) hb1S (fun _=>rfl) d;refine HO (t:=115) (e:=3) (x:=(.tmp 5)) (y:=(.tmp 17)) (nn:=4) (k:=1) 11 18 (Int.toNat p1*1) (kT _).symm kr rfl kr (.head _) (aH eY) (ev (vP u 0)) (ev (vI p1)) kr (CR d).1 (CR d).2 ?_;have hq2S:=D;exact cR 12 hq2S (aX 3 [13,14,15] (cE kr (xE (K i ⟨F,rfl,q.t s,st⟩))))
  rw[if_neg (not_true A)] at i;exact nB (t:=13) (b:=false) g kr A (aX 9 [7,8,9,10,11,12,13,14,15] (cE kr (xE (K i ⟨F,rfl,q.t s,st⟩))))
 rw[if_neg (not_true A)] at i;exact nB (t:=9) (b:=false) y1 kr A (aX 13 [3,4,5,6,7,8,9,10,11,12,13,14,15] (cE kr (xE (K i ⟨H,rfl,q,st⟩))))
def LX(N:Nat):Tk:=
 (EM N (1,(⟨#[112]⟩:BA),(⟨#[102]⟩:BA)) 2).bind fun y1=>(CF N ([(1,(⟨#[112]⟩:BA),(⟨#[102]⟩:BA)),(2,(⟨#[112]⟩:BA),(⟨#[116]⟩:BA))]) 3).bind fun a=>(if(y1.2==0)then(if(a.2==0)then(if((y1.1.1==6)&&((y1.1.2.1.toList==(⟨#[112]⟩:BA).toList)&&((y1.1.2.2.toList==(⟨#[]⟩:BA).toList)&&true)))then(if((List.length a.1:Int)==1)then((aO a.1 0).bind fun a=>if(a.1==7)then((XD N 1 2).bind fun a=>some a) else(some false)) else(some false)) else(some false)) else(some false)) else(some false):Tk).bind fun a=>some a
theorem qDc{r:Bool}(st:St m (O) w)(i:LX N=some r):Calls prog 9 #[] w fun e w'=>∃m',eU m m' e (vB r) (O) w':=by
 refine bY st func9 rfl ntmps9 fun q=>bJ (aY 1 i (qEh (p0:=(1,be,bm)) st) ?_);rintro y1 i _ U ⟨R,rfl,u,st⟩;refine cH 3 (eE 1 90 (.agg BL) st fun p V st=>cL (.agg (Vh y1.1)) st fun Y st=>bH (bK 2 (lG 13 90 2 C8 [(1,be,bm),(2,be,bf)] st fun M S Z v st E=>bI i (qDx st E) ?_)));rintro a i _ w5 ⟨g,k,b,rfl,z,st,F⟩;have q:=((q.t u).t v).t z;refine eD 5 ?_;have st:=st.f1.t;refine bC (aC (iG 27 i (fun f L' w'=>∃c,L'=[(0,vB f)]/\m.le c/\St c (kB p (Vh y1.1) 90::kR g a.1 k 90 3::O) w') ?_ ?_))
 .rintro f i _ l ⟨c,rfl,q,st⟩;obtain rfl:=sI i;exact aJ (lY ⟨c,rfl,q,st.t.t⟩)
 intro f i K;refine bP 3 19 i ?_ ?_<;>intro A i
 .refine bP 4 23 i ?_ ?_<;>intro A i
  .refine cF st.t.h (cH 1 (cU (TE (d:=26) (t:=90) (t2:=90) (x:=(.tmp 24)) (y:=(.tmp 25)) (xs:=(Vh y1.1)) (ys:=(Vj 6 be eB)) ((y1.1.1==6)&&((y1.1.2.1.toList==be.toList)&&((y1.1.2.2.toList==eB.toList)&&true))) kr rfl (ev (.agg (Vh y1.1))) (ev (.agg (Vj 6 be eB))) kr kr kr (bP 2 28 i ?_ ?_))))<;>intro A i
   .refine bP 5 33 i ?_ ?_<;>intro A i
    .refine cH 1 (iE F i ?_);rintro o i s l H ⟨_,_,rfl,rfl,⟨_,_,rfl,rfl,rfl⟩⟩ n;refine cW 1 st n (bP 3 40 i ?_ ?_)<;>intro A i
     .refine bI i (qTu st) ?_;rintro G i _ w7 ⟨D,rfl,B,st⟩;exact aM 2 (K i ⟨D,rfl,q.t B,st.f1⟩)
     exact aM 3 (K i ⟨b,rfl,q,st.f1⟩)
    exact aM 10 (K i ⟨b,rfl,q,st.f1⟩)
   exact aM 15 (K i ⟨b,rfl,q,st.f1⟩)
  exact aM 20 (K i ⟨b,rfl,q,st.f1⟩)
 exact aM 24 (K i ⟨b,rfl,q,st.f1⟩)
def SC(N:Nat)(p0:pG):Tk:=
 (if(p0.1==1)then(some (p0.1==1)) else(some (p0.1==2)):Tk).bind fun a=>if a then(((xP N p0.2.1).bind fun y1=>if y1 then((xP N p0.2.2).bind fun a=>some a) else(some false):Tk).bind fun o2=>some o2) else((if(p0.1==3)then(some (p0.1==3)) else(some (p0.1==4)):Tk).bind fun a=>if a then(((xQ N p0.2.1).bind fun a=>if a then(some (p0.2.2.toList==(⟨#[]⟩:BA).toList)) else(some false):Tk).bind fun a=>some a) else((if(p0.1==5)then(some (p0.1==5)) else(if(p0.1==6)then(some (p0.1==6)) else(some (p0.1==7))):Tk).bind fun a=>if a then(((xP N p0.2.1).bind fun a=>if a then(some (p0.2.2.toList==(⟨#[]⟩:BA).toList)) else(some false):Tk).bind fun a=>some a) else(some false)))
theorem qSm{p0:pG}{r:Bool}(st:St m (O) w)(i:SC N p0=some r):Calls prog 39 #[.agg (Vh p0)] w fun e w'=>∃m',eU m m' e (vB r) (O) w':=by
 refine bY st func39 rfl ntmps39 fun q=>aC (iK 1 90 (.agg (Vh p0)) st fun b v z u st a=>eF (iQ 1 st a (aJ (bA (aG (bJ (bV .normal i (fun o L' w'=>∃g,L'=[(1,vP b 0),(4,vI p0.1),(5,vB o)]/\m.le g/\St g (O) w'/\MRow g b 0 (Vi p0)) ?_ ?_)))))))
 .rintro o i _ B ⟨g,rfl,q,st,a⟩;refine bC (aK i ?_ ?_)<;>intro A i
  .refine aC (iG 9 i (fun o2 L' w'=>∃c,L'=[(2,vB o2)]/\m.le c/\St c (O) w') ?_ ?_)
   .rintro o2 i _ f ⟨c,rfl,q,st⟩;obtain rfl:=sI i;exact aJ (lY ⟨c,rfl,q,st⟩)
   intro o2 i K;refine cW 1 st (a.drop 1) (bI i (BW st) ?_);rintro y1 i _ p ⟨k,rfl,f,st⟩;refine bP 1 11 i ?_ ?_<;>intro A i
   .refine cW 1 st ((a.o f).drop 2) (bI i (BW st) ?_);rintro n i _ s ⟨l,rfl,h,st⟩;exact aM 2 (K i ⟨l,rfl,(q.t f).t h,st⟩)
   exact aM 5 (K i ⟨k,rfl,q.t f,st⟩)
  refine aG (bJ (bV .normal i (fun p L' w'=>∃c,L'=[(1,vP b 0),(4,vI p0.1),(16,vB p)]/\m.le c/\St c (O) w'/\MRow c b 0 (Vi p0)) ?_ ?_))
  .rintro p i _ D ⟨c,rfl,q,st,a⟩;refine bC (aK i ?_ ?_)<;>intro A i
   .refine aC (iG 9 i (fun h L' w'=>∃f,L'=[(2,vB h)]/\m.le f/\St f (O) w') ?_ ?_)
    .rintro h i _ k ⟨f,rfl,q,st⟩;obtain rfl:=sI i;exact aJ (lY ⟨f,rfl,q,st⟩)
    intro h i K;refine cW 1 st (a.drop 1) (bI i (DU st) ?_);rintro n i _ s ⟨l,rfl,k,st⟩;refine bP 1 22 i ?_ ?_<;>intro A i
    .exact cW 1 st ((a.o k).drop 2) (aM 3 (K i ⟨l,rfl,q.t k,st⟩))
    exact aM 5 (K i ⟨l,rfl,q.t k,st⟩)
   refine aG (bJ (bV .normal i (fun s L' w'=>∃h,L'=[(1,vP b 0),(27,vB s)]/\m.le h/\St h (O) w'/\MRow h b 0 (Vi p0)) ?_ ?_))
   .rintro s i _ E ⟨h,rfl,q,st,a⟩;refine bC (aK i ?_ ?_)<;>intro A i
    .refine aC (iG 9 i (fun k L' w'=>∃f,L'=[(2,vB k)]/\m.le f/\St f (O) w') ?_ ?_)
     .rintro k i _ l ⟨f,rfl,q,st⟩;obtain rfl:=sI i;exact aJ (lY ⟨f,rfl,q,st⟩)
     intro k i K;refine cW 1 st (a.drop 1) (bI i (BW st) ?_);rintro x i _ y ⟨l,rfl,n,st⟩;refine bP 1 34 i ?_ ?_<;>intro A i
     .exact cW 1 st ((a.o n).drop 2) (aM 3 (K i ⟨l,rfl,q.t n,st⟩))
     exact aM 5 (K i ⟨l,rfl,q.t n,st⟩)
    cases i;exact lC (cO ⟨h,rfl,q,st⟩)
   intro s i f;refine aK i ?_ ?_<;>intro A i
   .exact iL (f i ⟨c,rfl,q,st,a⟩)
   refine bF i ?_ ?_<;>intro A i
   .exact iL (f i ⟨c,rfl,q,st,a⟩)
   exact cB 2 (xE (f i ⟨c,rfl,q,st,a⟩))
  intro p i f;refine aK i ?_ ?_<;>intro A i
  .exact iL (f i ⟨g,rfl,q,st,a⟩)
  exact cB 2 (xE (f i ⟨g,rfl,q,st,a⟩))
 intro o i c;refine aK i ?_ ?_<;>intro A i
 .exact iL (c i ⟨v,rfl,q.t u,st,a⟩)
 exact cB 2 (xE (c i ⟨v,rfl,q.t u,st,a⟩))
def xO(N:Nat)(p0:BA):Tk:=
 ((xP N p0).bind fun y1=>if y1 then((KU N p0).bind fun a=>some (!a)) else(some false):Tk).bind fun a=>some a
theorem BV{p0:BA}{r:Bool}(st:St m (O) w)(i:xO N p0=some r):Calls prog 133 #[vT p0] w fun e w'=>∃m',eU m m' e (vB r) (O) w':=by
 refine bY st func133 rfl ntmps133 fun q=>oL (iG 8 i (fun b L' w'=>∃a,L'=[(2,vB b)]/\m.le a/\St a (O) w') ?_ ?_)
 .rintro b i _ c ⟨a,rfl,q,st⟩;obtain rfl:=sI i;exact aJ (lY ⟨a,rfl,q,st⟩)
 intro b i K;refine eR 1 i (BW st) ?_;rintro y1 i _ k ⟨f,rfl,c,st⟩;refine bP 1 5 i ?_ ?_<;>intro A i
 .refine eR 1 i (qCn st) ?_;rintro h i _ l ⟨g,rfl,d,st⟩;exact aM 3 (K i ⟨g,rfl,(q.t c).t d,st⟩)
 exact aM 5 (K i ⟨f,rfl,q.t c,st⟩)
def RY(N:Nat)(p0:nL)(p1:Int):Tk:=
 (if(p0.1==3)then(some true) else(if(p0.1==6)then(some true) else(if(p0.1==7)then(some true) else(if(p0.1==8)then(some true) else(some (p0.1==9))))):Tk).bind fun a=>(if(p0.1==1)then(some true) else(if(p0.1==2)then(some true) else(some (p0.1==10))):Tk).bind fun o2=>(if(decide (p0.1<1))then(some true) else(if(decide (p0.1>10))then(some true) else(if(!a)then(if(!(p0.2.2.2.1.toList==(⟨#[]⟩:BA).toList))then(some true) else(if(!o2)then(if(p0.2.1 !=0)then(some true) else(if(p0.1 !=4)then(some (p0.2.2.1 !=0)) else(some false))) else(if(p0.1 !=4)then(some (p0.2.2.1 !=0)) else(some false)))) else(if(!o2)then(if(p0.2.1 !=0)then(some true) else(if(p0.1 !=4)then(some (p0.2.2.1 !=0)) else(some false))) else(if(p0.1 !=4)then(some (p0.2.2.1 !=0)) else(some false))))):Tk).bind fun a=>if a then(some false) else(if(p0.1==1)then((if(decide (p0.2.1>=(-9007199254740992)))then(some (decide (p0.2.1<=9007199254740992))) else(some false):Tk).bind fun a=>some a) else(if(p0.1==2)then((if(decide (p0.2.1>=0))then(some (decide (p0.2.1<p1))) else(some false):Tk).bind fun a=>some a) else(if(p0.1==10)then((if(decide (p0.2.1>=0))then(some (decide (p0.2.1<64))) else(some false):Tk).bind fun a=>some a) else(if(p0.1==4)then((if(decide (p0.2.2.1>=1))then(some (decide (p0.2.2.1<=7))) else(some false):Tk).bind fun a=>some a) else(if(p0.1==3)then((xO N p0.2.2.2.1).bind fun y1=>some y1) else(if(p0.1==9)then((xP N p0.2.2.2.1).bind fun a=>some a) else((if(p0.1==6)then(some (p0.1==6)) else(if(p0.1==7)then(some (p0.1==7)) else(some (p0.1==8))):Tk).bind fun a=>if a then((xQ N p0.2.2.2.1).bind fun a=>some a) else(some true))))))))
theorem qSi{p0:nL}{p1:Int}{r:Bool}(st:St m (O) w)(c:RepS (aI .i64) m a1 c1 p0.f)(i:RY N p0 p1=some r):Calls prog 134 #[.agg (V9 p0 a1 c1),vI p1] w fun e w'=>∃m',eU m m' e (vB r) (O) w':=by
 refine bY st func134 rfl ntmps134 fun q=>aC (iK 2 133 (.agg (V9 p0 a1 c1)) st fun b o D u st a=> ?_);have q:=q.t u;have c:=c.o u;refine vA ?_;have⟨p,i,J⟩:=aU i;refine zG (j:=24) (fun L' w'=>∃l,L'=[(1,vI p1),(2,vP b 0),(5,vB p)]/\m.le l/\St l (O) w'/\MRow l b 0 (Va p0 a1 c1)/\RepS (aI .i64) l a1 c1 p0.f) ?_ ?_
 .have i:=J;rintro _ E ⟨l,rfl,q,st,a,c⟩;refine aJ (aC ?_);have⟨o2,i,J⟩:=aU i;refine zG (j:=14) (fun L' w'=>∃g,L'=[(1,vI p1),(2,vP b 0),(5,vB p),(6,vB o2)]/\m.le g/\St g (O) w'/\MRow g b 0 (Va p0 a1 c1)/\RepS (aI .i64) g a1 c1 p0.f) ?_ ?_
  .have i:=J;rintro _ F ⟨g,rfl,q,st,a,c⟩;refine aJ (aG (aC ?_));have⟨y,i,J⟩:=aU i;refine zG (j:=36) (fun L' w'=>∃h,L'=[(1,vI p1),(2,vP b 0),(78,vB y)]/\m.le h/\St h (O) w'/\MRow h b 0 (Va p0 a1 c1)/\RepS (aI .i64) h a1 c1 p0.f) ?_ ?_
   .have i:=J;rintro _ G ⟨h,rfl,q,st,a,c⟩;refine aJ (aK i ?_ ?_)<;>intro A i
    .cases i;exact cO ⟨h,rfl,q,st⟩
    refine aL (aG (iQ 1 st a (aJ (bA (bF i ?_ ?_)))))<;>intro A i
    .refine aC (iG 9 i (fun n L' w'=>∃k,L'=[(4,vB n)]/\m.le k/\St k (O) w') ?_ ?_)
     .rintro n i _ s ⟨k,rfl,q,st⟩;obtain rfl:=sI i;exact aJ (lY ⟨k,rfl,q,st⟩)
     intro n i K;refine cW 1 st (a.drop 1) (bP 2 86 i ?_ ?_)<;>intro A i
     .exact cW 1 st (a.drop 1) (aM 3 (K i ⟨h,rfl,q,st⟩))
     exact aM 5 (K i ⟨h,rfl,q,st⟩)
    refine bF i ?_ ?_<;>intro A i
    .refine aC (iG 10 i (fun n L' w'=>∃k,L'=[(4,vB n)]/\m.le k/\St k (O) w') ?_ ?_)
     .rintro n i _ s ⟨k,rfl,q,st⟩;obtain rfl:=sI i;exact aJ (lY ⟨k,rfl,q,st⟩)
     intro n i K;refine cW 1 st (a.drop 1) (bP 2 96 i ?_ ?_)<;>intro A i
     .exact cW 1 st (a.drop 1) (aM 4 (K i ⟨h,rfl,q,st⟩))
     exact aM 6 (K i ⟨h,rfl,q,st⟩)
    refine bF i ?_ ?_<;>intro A i
    .refine aC (iG 9 i (fun n L' w'=>∃k,L'=[(4,vB n)]/\m.le k/\St k (O) w') ?_ ?_)
     .rintro n i _ s ⟨k,rfl,q,st⟩;obtain rfl:=sI i;exact aJ (lY ⟨k,rfl,q,st⟩)
     intro n i K;refine cW 1 st (a.drop 1) (bP 2 107 i ?_ ?_)<;>intro A i
     .exact cW 1 st (a.drop 1) (aM 3 (K i ⟨h,rfl,q,st⟩))
     exact aM 5 (K i ⟨h,rfl,q,st⟩)
    refine bF i ?_ ?_<;>intro A i
    .refine aC (iG 9 i (fun n L' w'=>∃k,L'=[(4,vB n)]/\m.le k/\St k (O) w') ?_ ?_)
     .rintro n i _ s ⟨k,rfl,q,st⟩;obtain rfl:=sI i;exact aJ (lY ⟨k,rfl,q,st⟩)
     intro n i K;refine cW 1 st (a.drop 2) (bP 2 117 i ?_ ?_)<;>intro A i
     .exact cW 1 st (a.drop 2) (aM 3 (K i ⟨h,rfl,q,st⟩))
     exact aM 5 (K i ⟨h,rfl,q,st⟩)
    refine bF i ?_ ?_<;>intro A i
    .refine iQ 1 st (a.drop 3) (bI i (BV st) ?_);rintro y1 i _ s ⟨n,rfl,k,st⟩;obtain rfl:=sI i;exact eT ⟨n,rfl,q.t k,st⟩
    refine bF i ?_ ?_<;>intro A i
    .refine iQ 1 st (a.drop 3) (bI i (BW st) ?_);rintro n i _ v ⟨k,rfl,s,st⟩;obtain rfl:=sI i;exact eT ⟨k,rfl,q.t s,st⟩
    refine aG (bJ (bV .normal i (fun s L' w'=>∃k,L'=[(2,vP b 0),(132,vB s)]/\m.le k/\St k (O) w'/\MRow k b 0 (Va p0 a1 c1)/\RepS (aI .i64) k a1 c1 p0.f) ?_ ?_))
    .rintro s i _ z ⟨k,rfl,q,st,a,c⟩;refine bC (aK i ?_ ?_)<;>intro A i
     .refine iQ 1 st (a.drop 3) (bI i (DU st) ?_);rintro v i _ B ⟨n,rfl,x,st⟩;obtain rfl:=sI i;exact eT ⟨n,rfl,q.t x,st⟩
     cases i;exact lC (cO ⟨k,rfl,q,st⟩)
    intro s i n;refine aK i ?_ ?_<;>intro A i
    .exact iL (n i ⟨h,rfl,q,st,a,c⟩)
    refine bF i ?_ ?_<;>intro A i
    .exact iL (n i ⟨h,rfl,q,st,a,c⟩)
    exact cB 2 (xE (n i ⟨h,rfl,q,st,a,c⟩))
   intro K;refine cW 1 st a (bP 2 46 i ?_ ?_)<;>intro A i
   .cases i;exact aM 32 (K _ _ ⟨g,rfl,q,st,a,c⟩)
   refine cW 1 st a (bP 3 51 i ?_ ?_)<;>intro A i
   .cases i;exact aM 27 (K _ _ ⟨g,rfl,q,st,a,c⟩)
   refine bP 3 54 i ?_ ?_<;>intro A i
   .refine cW 1 st (a.drop 3) (bP 4 60 i ?_ ?_)<;>intro A i
    .cases i;exact aM 18 (K _ _ ⟨g,rfl,q,st,a,c⟩)
    refine bP 3 63 i ?_ ?_<;>intro A i
    .refine cW 1 st (a.drop 1) (bP 4 69 i ?_ ?_)<;>intro A i
     .cases i;exact aM 9 (K _ _ ⟨g,rfl,q,st,a,c⟩)
     refine cW 1 st a (bP 2 73 i ?_ ?_)<;>intro A i
     .cases i;exact cW 1 st (a.drop 2) (aM 3 (K _ _ ⟨g,rfl,q,st,a,c⟩))
     cases i;exact aM 5 (K _ _ ⟨g,rfl,q,st,a,c⟩)
    refine cW 7 st a (bP 2 73 i ?_ ?_)<;>intro A i
    .cases i;exact cW 1 st (a.drop 2) (aM 3 (K _ _ ⟨g,rfl,q,st,a,c⟩))
    cases i;exact aM 5 (K _ _ ⟨g,rfl,q,st,a,c⟩)
   refine bP 9 63 i ?_ ?_<;>intro A i
   .refine cW 1 st (a.drop 1) (bP 4 69 i ?_ ?_)<;>intro A i
    .cases i;exact aM 9 (K _ _ ⟨g,rfl,q,st,a,c⟩)
    refine cW 1 st a (bP 2 73 i ?_ ?_)<;>intro A i
    .cases i;exact cW 1 st (a.drop 2) (aM 3 (K _ _ ⟨g,rfl,q,st,a,c⟩))
    cases i;exact aM 5 (K _ _ ⟨g,rfl,q,st,a,c⟩)
   refine cW 7 st a (bP 2 73 i ?_ ?_)<;>intro A i
   .cases i;exact cW 1 st (a.drop 2) (aM 3 (K _ _ ⟨g,rfl,q,st,a,c⟩))
   cases i;exact aM 5 (K _ _ ⟨g,rfl,q,st,a,c⟩)
  intro K;refine cW 1 st a (bP 2 33 i ?_ ?_)<;>intro A i
  .cases i;exact aM 10 (K _ _ ⟨l,rfl,q,st,a,c⟩)
  refine cW 1 st a (bP 3 38 i ?_ ?_)<;>intro A i
  .cases i;exact aM 5 (K _ _ ⟨l,rfl,q,st,a,c⟩)
  cases i;exact cW 1 st a (aM 3 (K _ _ ⟨l,rfl,q,st,a,c⟩))
 intro K;refine cW 1 st a (bP 2 10 i ?_ ?_)<;>intro A i
 .cases i;exact aM 20 (K _ _ ⟨o,rfl,q,st,a,c⟩)
 refine cW 1 st a (bP 3 15 i ?_ ?_)<;>intro A i
 .cases i;exact aM 15 (K _ _ ⟨o,rfl,q,st,a,c⟩)
 refine cW 1 st a (bP 3 20 i ?_ ?_)<;>intro A i
 .cases i;exact aM 10 (K _ _ ⟨o,rfl,q,st,a,c⟩)
 refine cW 1 st a (bP 3 25 i ?_ ?_)<;>intro A i
 .cases i;exact aM 5 (K _ _ ⟨o,rfl,q,st,a,c⟩)
 cases i;exact cW 1 st a (aM 3 (K _ _ ⟨o,rfl,q,st,a,c⟩))
def SD(N:Nat)(p0:Int):Td:=
 if(p0==3)then(some (-1)) else(if(p0==4)then(some 2) else(if(p0==5)then(some 3) else(if(p0==6)then(some 1) else(some 0))))
theorem qSl{p0:Int}{r:Int}(st:St m (O) w)(i:SD N p0=some r):Calls prog 144 #[vI p0] w fun e w'=>∃m',eU m m' e (vI r) (O) w':=by
 refine bY st func144 rfl ntmps144 fun q=>cA (bJ (bA (bF i ?_ ?_)))<;>intro A i
 .cases i;exact cO ⟨m,rfl,q,st⟩
 refine bF i ?_ ?_<;>intro A i
 .cases i;exact cO ⟨m,rfl,q,st⟩
 refine bF i ?_ ?_<;>intro A i
 .cases i;exact cO ⟨m,rfl,q,st⟩
 refine bF i ?_ ?_<;>intro A i
 .cases i;exact cO ⟨m,rfl,q,st⟩
 cases i;exact lC (cO ⟨m,rfl,q,st⟩)
def KK(N:Nat)(s1:Tf)(b:nL)(o2:Int)(a:Int):Tj:=
 if(decide (a<o2))then((aO b.2.2.2.2 a).bind fun b=>(aO s1.1 (IntKind.wrap .i64 ((IntKind.wrap .i64 (((List.length s1.1):Int)-o2))+a))).bind fun c=>if(b !=c)then(some (.inr (.inr (false)))) else(some (.inl (IntKind.wrap .i64 (a+1))))) else(some (.inr (.inl ())))
def KN(N:Nat)(p0:eX)(s1:Tf):Option (Tf⊕Te⊕Bool):=
 if(decide (s1.2<(List.length p0:Int)))then((aO p0 s1.2).bind fun a=>(SD N a.1).bind fun y1=>(if(decide (y1<0))then(some (List.length a.2.2.2.2:Int)) else(some y1):Td).bind fun o2=>(if((List.length a.2.2.2.2:Int) !=o2)then(some true) else(some (decide (o2>((List.length s1.1):Int)))):Tk).bind fun b=>if b then(some (.inr (.inr (false)))) else((aB (KK N s1 a o2) N 0).bind fun a=>(match a with| .inl a=>(wK s1.1 0 (IntKind.wrap .i64 (((List.length s1.1):Int)-o2))).bind fun a=>(iU 8 a ([s1.2])).bind fun a=>some (.inl (a,IntKind.wrap .i64 (s1.2+1)))| .inr (z)=>some (.inr (.inr (z)))))) else(some (.inr (.inl s1.1)))
def RH(N:Nat)(p0:eX):Tk:=
 (aB (KN N p0) N (([]:Te),0)).bind fun a=>(match a with| .inl a=>some (((List.length a):Int)==1)| .inr (z)=>some z)
theorem qSb{p0:eX}{r:Bool}(st:St m (O) w)(p:RepS C5 m a1 c1 p0)(i:RH N p0=some r):Calls prog 135 #[vS a1 p0 c1] w fun e w'=>∃m',eU m m' e (vB r) (O) w':=by
 refine bY st func135 rfl ntmps135 fun q=>bJ (cA (bJ (bA ?_)));have st:=ZK (f:=(fun x:Int=>([vI x]:List Value))) (st.nilroom 3 1);have⟨a0,i,j1⟩:=aU i;refine lF (.exit 0) (fun L' w'=>∃(R:Te),∃a2 c2 T1 m1,(.inl R)=a0/\L'=[(3,vS a2 R c2)]/\m.le m1/\St m1 (bO a2 (aN (fun x:Int=>([vI x]:List Value)) R T1) 3::O) w'/\OAS a2 R.length c2 1 T1) ?_ ?_
 .rintro _ b ⟨R,a2,c2,T1,m1,rfl,rfl,q,st,a⟩;have i:=j1;obtain rfl:=sI i;exact eS (cO ⟨m1,rfl,q,st.t⟩)
 intro a7;refine cY (fun k1 L' w'=>∃(s1:Tf),∃a s T2 Y,aB (KN N p0) k1 s1=some a0/\L'=[(3,vS a s1.1 s),(8,vS a1 p0 c1),(9,vI (p0.length:Int)),(10,vI s1.2)]/\m.le Y/\St Y (bO a (aN (fun x:Int=>([vI x]:List Value)) s1.1 T2) 3::O) w'/\RepS C5 Y a1 c1 p0/\OAS a s1.1.length s 1 T2) N ⟨(([]:Te),0),none,0,[],m,i,rfl,q,st,p,(OAS.nil 1)⟩ ?_;rintro k1 _ w2 ⟨s1,a,s,T2,Y,hL,rfl,q,st,p,S⟩;obtain⟨k1,c7,rfl,i,b0,G⟩:=cZ hL;refine cA (aK i ?_ ?_)<;>intro A i
 .refine aL (aG (bA (bK 1 (iE p i ?_))));rintro b i b1 f1 c0 ⟨_,_,rfl,rfl,⟨_,_,rfl,rfl,⟨_,_,rfl,rfl,⟨_,_,rfl,rfl,⟨g,n,rfl,E⟩⟩⟩⟩⟩ b7;refine cI st b7 (eE 5 133 (.agg #[vI 0,vI 0,vI 0,vT eB,v6]) st fun F w3 st=>cH 1 (cL (.agg (V9 b g n)) st fun w4 st=>aJ (aC (aV 1 st.h (bI i (qSl st) ?_)))));rintro y1 i _ w5 ⟨m3,rfl,U,st⟩;refine eF (bJ (bV .normal i (fun o2 L' w'=>∃H,L'=[(3,vS a s1.1 s),(4,vI s1.2),(5,vP F 0),(6,vI o2),(8,vS a1 p0 c1),(9,vI (p0.length:Int)),(10,vI s1.2)]/\m.le H/\St H (kB F (V9 b g n) 133::bO a (aN (fun x:Int=>([vI x]:List Value)) s1.1 T2) 3::O) w'/\RepS C5 H a1 c1 p0/\RepS (aI .i64) H g n b.f) ?_ ?_))
  .rintro o2 i _ w6 ⟨H,rfl,q,st,p,E⟩;refine mD (aC (iG 11 i (fun o3 L' w'=>∃M,L'=[(3,vS a s1.1 s),(4,vI s1.2),(5,vP F 0),(6,vI o2),(8,vS a1 p0 c1),(9,vI (p0.length:Int)),(10,vI s1.2),(33,vB o3)]/\m.le M/\St M (kB F (V9 b g n) 133::bO a (aN (fun x:Int=>([vI x]:List Value)) s1.1 T2) 3::O) w'/\RepS C5 M a1 c1 p0/\RepS (aI .i64) M g n b.f) ?_ ?_))
   .rintro o3 i _ w7 ⟨M,rfl,q,st,p,E⟩;refine aJ (aK i ?_ ?_)<;>intro A i
    .refine bJ (bU (bL (cN (bL ?_))));have ho:=G _ (sI i);subst ho;have i:=j1;cases i;exact lO ⟨M,rfl,q,st.t.t⟩
    refine aL (aG (bJ (bA ?_)));have⟨a6,i,j3⟩:=aU i;refine lF (.exit 2) (fun L' w'=>∃(o4:Unit),∃Z,(.inl o4)=a6/\L'=[(3,vS a s1.1 s),(4,vI s1.2),(6,vI o2),(8,vS a1 p0 c1),(9,vI (p0.length:Int)),(10,vI s1.2)]/\m.le Z/\St Z (kB F (V9 b g n) 133::bO a (aN (fun x:Int=>([vI x]:List Value)) s1.1 T2) 3::O) w'/\RepS C5 Z a1 c1 p0/\RepS (aI .i64) Z g n b.f) ?_ ?_
    .rintro _ w8 ⟨o4,Z,rfl,rfl,q,st,p,E⟩;have i:=j3;refine eS (iN 5 ?_);have st:=st.f1;have⟨l1,b5,i⟩:=aU i;refine cU (zCb (d:=59) (t:=22) (e:=3) (x:=(.tmp 54)) (y:=(.tmp 58)) (f:=(fun x:Int=>([vI x]:List Value))) (l:=s1.1) (fun _=>rfl) kr rfl (ev (vS a s1.1 s)) (ev (vI (wr ((s1.1.length:Int)-o2)))) kr st S rfl b5 fun T3 a8 st=>cH 1 (lG 61 3 1 (aI .i64) [s1.2] st fun b4 m8 b8 V st r3=> ?_));have st:=st.f1;have⟨l2,b6,i⟩:=aU i;refine cU (SY (d:=62) (t:=22) (u:=22) (e:=3) (by_:=8) (x:=(.tmp 59)) (y:=(.tmp 61)) (c:=(aI .i64)) (f:=(fun x:Int=>([vI x]:List Value))) (l:=l1) (fun _ _ _ h=>by obtain rfl:=h;rfl) (fun _=>rfl) kr rfl (ev (vS a l1 s)) (ev (vS (aP b4) ([s1.2]) 1)) st a8 rfl kr (.inl kr) r3.src b6 fun B D T4 b9 a9 st=>eD 1 ?_);have st:=st.f1.t;refine qI (cB 2 ?_);have hL:=b0 _ (sI i);exact cX ⟨(l2,wr (s1.2+1)),B,D,T4,m8,hL,rfl,q.t V,st.f1.t,p.o V,a9⟩
    intro a8;refine cY (fun k2 L' w'=>∃(B:Int),∃D,aB (KK N s1 b o2) k2 B=some a6/\L'=[(3,vS a s1.1 s),(4,vI s1.2),(5,vP F 0),(6,vI o2),(7,vI B),(8,vS a1 p0 c1),(9,vI (p0.length:Int)),(10,vI s1.2)]/\m.le D/\St D (kB F (V9 b g n) 133::bO a (aN (fun x:Int=>([vI x]:List Value)) s1.1 T2) 3::O) w'/\RepS C5 D a1 c1 p0/\RepS (aI .i64) D g n b.f) N ⟨0,M,i,rfl,q,st.f1.f1,p,E⟩ ?_;rintro k2 _ w9 ⟨B,D,hL,rfl,q,st,p,E⟩;obtain⟨k2,c8,rfl,i,b5,V⟩:=cZ hL;refine aG (bF i ?_ ?_)<;>intro A i
    .refine aL (aG (bA (aG (eH [(15,fun w'=>Inv D w'/\Piece.holds D w' (kB F (V9 b g n) 133)/\Piece.holds D w' (bO a (aN (fun x:Int=>([vI x]:List Value)) s1.1 T2) 3)/\True)] kr st fun c9 _ st=> ?_))));have b6:=D.le_refl;refine⟨aS (aF st b6),aT 0 (eI 1 eC (aT 2 ?_))⟩;have⟨x2,b9,i⟩:=aU i;refine mT (t:=22) (e:=3) (x:=(.tmp 40)) (y:=(.tmp 41)) 3 42 (aI .i64) kr rfl kr (.head _) (aH (bQ (aH (aH (bQ (aH (bQ (aH (aH (bQ (aH eY))))))))))) (ev (vS g b.f n)) (ev (vI B)) kr E b9 ?_;rintro b3 f2 c6 rfl b8;refine cR 4 b8 (aX 7 [5,6,7,8,9,10,11] ?_);have⟨x3,a9,i⟩:=aU i;refine wQ (t:=22) (e:=3) (x:=(.tmp 44)) (y:=(.tmp 50)) (k:=1) 12 51 kr rfl kr (.head _) (aH (bQ (aH (aH (bQ (aH (bQ (aH (aH (bQ (aH eY))))))))))) (ev (vS a s1.1 s)) (ev (vI (wr ((wr ((s1.1.length:Int)-o2))+B)))) kr S rfl a9 ?_
     refine wR (t:=3) (x:=(.tmp 51)) (o:=0) (f:=(fun x:Int=>([vI x]:List Value))) (z:=x3) (v:=vI x3) 13 52 (fun _=>rfl) (Int.toNat (wr ((wr ((s1.1.length:Int)-o2))+B))*1) rfl kr rfl kr (.head _) (aH (bQ (aH (aH (bQ (aH (bQ (aH (aH (bQ (aH eY))))))))))) uN (ev (.pointer (some ⟨ab a,Int.toNat (wr ((wr ((s1.1.length:Int)-o2))+B))*1,none⟩))) S rfl a9 kr ?_;refine aT 14 (cE kr (bC (aK i ?_ ?_)))<;>intro A i
     .refine bJ (bU (cN (bL ?_)));have ho:=V _ (sI i);subst ho;have i:=j3;refine bL (cN (bL (cN (bL ?_))));have ho:=G _ (sI i);subst ho;have i:=j1;cases i;exact lO ⟨D,rfl,q,st.t.t⟩
     refine lC (cB 3 ?_);have hL:=b5 _ (sI i);exact cX ⟨wr (B+1),D,hL,rfl,q,st.f1.f1,p,E⟩
    refine cV ?_;have ho:=V _ (sI i);have st:=st.f1.f1;exact cS (a8 _ _ ⟨(),D,ho,rfl,q,st,p,E⟩)
   intro o3 i K;refine aV 1 st.h (bP 4 28 i ?_ ?_)<;>intro A i
   .exact aM 5 (K i ⟨H,rfl,q,st.f1.f1,p,E⟩)
   exact aM 5 (K i ⟨H,rfl,q,st.f1.f1,p,E⟩)
  intro o2 i B;refine aK i ?_ ?_<;>intro A i
  .exact tV (aV 1 st.h (eD 2 (xE (B i ⟨m3,rfl,q.t U,st.f1.f1,p.o U,E.o U⟩))))
  exact iL (B i ⟨m3,rfl,q.t U,st.f1.f1,p.o U,E.o U⟩)
 refine cV ?_;have ho:=G _ (sI i);exact cS (a7 _ _ ⟨s1.1,a,s,T2,Y,ho,rfl,q,st,S⟩)
def LF(N:Nat)(Rb:eX->(Int)->Td)(p0:eX)(p1:Int)(a:nL)(s1:mF):Option (mF⊕Int):=
 if(decide (s1.2<(List.length a.2.2.2.2:Int)))then((aO a.2.2.2.2 s1.2).bind fun a=>(Rb p0 a).bind fun y1=>(aO p0 p1).bind fun a=>(if(a.1 !=4)then(some (IntKind.wrap .i64 (y1+1))) else(some y1):Td).bind fun o2=>some (.inl (if o2>s1.1 then o2 else s1.1,IntKind.wrap .i64 (s1.2+1)))) else(some (.inr s1.1))
def RR(N:Nat)(Rb:eX->(Int)->Td)(p0:eX)(p1:Int):Td:=
 (aO p0 p1).bind fun a=>(aB (LF N Rb p0 p1 a) N (1,0)).bind fun a=>some a
def DZ(N:Nat):Nat->(eX->(Int)->Td)
 |0=>(fun _ _=>none)
 |D+1=>RR N (DZ N D)
def SF(N:Nat)(p0:eX)(p1:Int):Td:=(DZ N N) p0 p1
abbrev qSv(F:eX->(Int)->Td):Prop:=∀{m O w} {p0:eX} {p1:Int} {a b} {r:Int} (st:St m (O) w) (c:RepS C5 m a b p0) (i:F p0 p1=some r),Calls prog 136 #[vS a p0 b,vI p1] w fun e w'=>∃m',eU m m' e (vI r) (O) w'
theorem qSe{Rb}(a:qSv Rb){p0:eX}{p1:Int}{r:Int}(st:St m (O) w)(b:RepS C5 m a1 c1 p0)(i:RR N Rb p0 p1=some r):Calls prog 136 #[vS a1 p0 c1,vI p1] w fun e w'=>∃m',eU m m' e (vI r) (O) w':=by
 refine bY st func136 rfl ntmps136 fun q=>bJ (cA (bK 2 (iE b i ?_)));rintro c i M S V ⟨_,_,rfl,rfl,⟨_,_,rfl,rfl,⟨_,_,rfl,rfl,⟨_,_,rfl,rfl,⟨l,n,rfl,g⟩⟩⟩⟩⟩ E;refine cW 1 st (E.drop 4) (lL (bV (.exit 0) i (fun d L' w'=>∃(p:Int),∃v,p=d/\L'=[(5,vI p)]/\m.le v/\St v (O) w') ?_ ?_))
 .rintro d i _ h ⟨p,v,rfl,rfl,q,st⟩;obtain rfl:=sI i;exact eS (cO ⟨v,rfl,q,st⟩)
 intro d i s;refine cY (fun u L' w'=>∃(s1:mF),∃h,aB (LF N Rb p0 p1 c) u s1=some d/\L'=[(0,vS a1 p0 c1),(1,vI p1),(5,vI s1.1),(13,vS l c.f n),(14,vI (c.2.2.2.2.length:Int)),(15,vI s1.2)]/\m.le h/\St h (O) w'/\RepS C5 h a1 c1 p0/\RepS (aI .i64) h l n c.f) N ⟨(1,0),m,i,rfl,q,st,b,g⟩ ?_;rintro u _ w2 ⟨s1,h,hL,rfl,q,st,b,g⟩;obtain⟨u,a0,rfl,i,z,y⟩:=cZ hL;refine cA (aK i ?_ ?_)<;>intro A i
 .refine aL (aG (bA (aC (iE g i ?_))));rintro B i b2 U Y rfl F;refine cI st F (bH (aY 2 i (a st b) ?_));rintro y1 i _ w3 ⟨H,rfl,o,st⟩;have b:=b.o o;refine eF (bK 2 (iE b i ?_));rintro K i R D Z ⟨_,_,rfl,rfl,⟨_,_,rfl,rfl,⟨_,_,rfl,rfl,⟨_,_,rfl,rfl,⟨a3,c3,rfl,r3⟩⟩⟩⟩⟩ G;refine cW 1 st G (bH (bV .normal i (fun o2 L' w'=>∃k,L'=[(0,vS a1 p0 c1),(1,vI p1),(5,vI s1.1),(8,vI o2),(13,vS l c.f n),(14,vI (c.2.2.2.2.length:Int)),(15,vI s1.2)]/\m.le k/\St k (O) w'/\RepS C5 k a1 c1 p0/\RepS (aI .i64) k l n c.f) ?_ ?_))
  .rintro o2 i _ x ⟨k,rfl,q,st,b,g⟩;refine bC (cB 4 (qI (cB 2 ?_)));have hL:=z _ (sI i);exact cX ⟨(if o2>s1.1 then o2 else s1.1,wr (s1.2+1)),k,hL,rfl,q,st,b,g⟩
  intro o2 i x;refine aK i ?_ ?_<;>intro A i
  .exact cB 3 (xE (x i ⟨H,rfl,q.t o,st,b,g.o o⟩))
  exact iL (x i ⟨H,rfl,q.t o,st,b,g.o o⟩)
 refine cV ?_;have ho:=y _ (sI i);exact cS (s rfl ⟨s1.1,h,ho,rfl,q,st⟩)
theorem qCy(N:Nat):∀D:Nat,(∀{m:Mem} {O:List Piece} {w:World} {p0:eX} {p1:Int} {a:Option Addr} {b:Nat} {r:Int} (st:St m (O) w) (c:RepS C5 m a b p0) (i:(DZ N D) p0 p1=some r),Calls prog 136 #[vS a p0 b,vI p1] w fun e w'=>∃m',eU m m' e (vI r) (O) w')
 |0=>fun _ _ i=>(by cases i)
 |D+1=>fun st c i=>qSe (qCy N D) st c i
theorem qSt{p0:eX}{p1:Int}{r:Int}(st:St m (O) w)(a:RepS C5 m a1 c1 p0)(i:SF N p0 p1=some r):Calls prog 136 #[vS a1 p0 c1,vI p1] w fun e w'=>∃m',eU m m' e (vI r) (O) w':=
 (qCy N N) st a i
end
section
open Go Go.Dc Go.Proofs.Tryz
set_option maxHeartbeats 4000000
set_option maxRecDepth 100000
variable {N c1 c2:Nat} {m:Mem} {O:List Piece} {w:World} {a1 a2:Option Addr}
def GT(N:Nat)(p0:eL)(s1:Int):zR:=
 if(decide (s1<(List.length p0.2.1:Int)))then((aO p0.2.1 s1).bind fun a=>(xO N a).bind fun a=>if(!a)then(some (.inr (.inr (9)))) else(some (.inl (IntKind.wrap .i64 (s1+1))))) else(some (.inr (.inl ())))
def GV(N:Nat)(b:DQ)(a:Int):zR:=
 if(decide (a<(List.length b.2.2.1:Int)))then((aO b.2.2.1 a).bind fun b=>(xO N b).bind fun b=>if(!b)then(some (.inr (.inr (9)))) else(some (.inl (IntKind.wrap .i64 (a+1))))) else(some (.inr (.inl ())))
def GR(N:Nat)(b:DQ)(a:Int):zR:=
 if(decide (a<(List.length b.2.2.2:Int)))then((aO b.2.2.2 a).bind fun c=>(RY N c (List.length b.2.2.1:Int)).bind fun b=>if(!b)then(some (.inr (.inr (9)))) else(some (.inl (IntKind.wrap .i64 (a+1))))) else(some (.inr (.inl ())))
def GY(N:Nat)(p0:eL)(c:Int):zR:=
 if(decide (c<(List.length p0.2.2:Int)))then((aO p0.2.2 c).bind fun a=>(if(decide (a.1<1))then(some true) else(if(decide (a.1>3))then(some true) else(if(a.1 !=1)then(if(decide ((List.length a.2.2.1:Int)>0))then(some true) else(if(a.1==3)then((xQ N a.2.1).bind fun b=>if(!b)then(some true) else(if(a.1 !=3)then((xO N a.2.1).bind fun b=>some (!b)) else(some false))) else(if(a.1 !=3)then((xO N a.2.1).bind fun y5=>some (!y5)) else(some false)))) else(if(a.1==3)then((xQ N a.2.1).bind fun b=>if(!b)then(some true) else(if(a.1 !=3)then((xO N a.2.1).bind fun b=>some (!b)) else(some false))) else(if(a.1 !=3)then((xO N a.2.1).bind fun b=>some (!b)) else(some false))))):Tk).bind fun b=>if b then(some (.inr (.inr (9)))) else((aB (GV N a) N 0).bind fun b=>(match b with| .inl b=>(aB (GR N a) N 0).bind fun b=>(match b with| .inl b=>(RH N a.2.2.2).bind fun a=>if(!a)then(some (.inr (.inr (9)))) else(some (.inl (IntKind.wrap .i64 (c+1))))| .inr (z)=>some (.inr (.inr (z))))| .inr (z)=>some (.inr (.inr (z)))))) else(some (.inr (.inl ())))
def GU(N:Nat)(p0:eL)(a:Int):zR:=
 if(decide (a<(List.length p0.2.1:Int)))then((aO p0.2.1 a).bind fun b=>(if(b.toList==p0.1.toList)then(some true) else((wK p0.2.1 0 a).bind fun c=>(tU N c b).bind fun b=>some b):Tk).bind fun b=>if b then(some (.inr (.inr (10)))) else(some (.inl (IntKind.wrap .i64 (a+1))))) else(some (.inr (.inl ())))
def GW(N:Nat)(b:DQ)(a:Int):zR:=
 if(decide (a<(List.length b.2.2.1:Int)))then((aO b.2.2.1 a).bind fun c=>(wK b.2.2.1 0 a).bind fun b=>(tU N b c).bind fun b=>if b then(some (.inr (.inr (10)))) else(some (.inl (IntKind.wrap .i64 (a+1))))) else(some (.inr (.inl ())))
def GX(N:Nat)(p0:eL)(a:Int):zR:=
 if(decide (a<(List.length p0.2.2:Int)))then((aO p0.2.2 a).bind fun b=>(wK p0.2.2 0 a).bind fun c=>(BZ N ((⟨#[]⟩:BA),([]:Tb),c) b.1 b.2.1).bind fun c=>if c then(some (.inr (.inr (10)))) else((aB (GW N b) N 0).bind fun b=>(match b with| .inl b=>some (.inl (IntKind.wrap .i64 (a+1)))| .inr (z)=>some (.inr (.inr (z)))))) else(some (.inr (.inl ())))
def GS(N:Nat)(p0:eL)(b:Int):zR:=
 if(decide (b<(List.length p0.2.2:Int)))then((aO p0.2.2 b).bind fun a=>(if(decide ((List.length a.2.2.1:Int)>8))then(some true) else(if(decide ((List.length a.2.2.2:Int)>256))then(some true) else((SF N a.2.2.2 (IntKind.wrap .i64 ((List.length a.2.2.2:Int)-1))).bind fun a=>some (decide (a>32)))):Tk).bind fun a=>if a then(some (.inr (.inr (2)))) else(some (.inl (IntKind.wrap .i64 (b+1))))) else(some (.inr (.inl ())))
def LT(N:Nat)(p0:eL):Td:=
 (xO N p0.1).bind fun y1=>if(!y1)then(some 9) else((aB (GT N p0) N 0).bind fun a=>(match a with| .inl a=>(aB (GY N p0) N 0).bind fun a=>(match a with| .inl o2=>(aB (GU N p0) N 0).bind fun a=>(match a with| .inl a=>(aB (GX N p0) N 0).bind fun a=>(match a with| .inl a=>(if(decide ((List.length p0.2.1:Int)>8))then(some true) else(some (decide ((List.length p0.2.2:Int)>64))):Tk).bind fun a=>if a then(some 2) else((aB (GS N p0) N 0).bind fun a=>(match a with| .inl a=>some 0| .inr (z)=>some z))| .inr (z)=>some z)| .inr (z)=>some z)| .inr (z)=>some z)| .inr (z)=>some z))
theorem qSq{p0:eL}{r:Int}(st:St m (O) w)(c:RepS aD m a1 c1 p0.2.1)(b:RepS C6 m a2 c2 p0.d)(i:LT N p0=some r):Calls prog 116 #[.agg (V7 p0 a1 c1 a2 c2)] w fun e w'=>∃m',eU m m' e (vI r) (O) w':=by
 refine bY st func116 rfl ntmps116 fun q=>aC (iK 1 78 (.agg (V7 p0 a1 c1 a2 c2)) st fun g m1 w1 e1 st a=>eF (iQ 1 st a (bI i (BV st) ?_)));rintro y1 i _ w2 ⟨m2,rfl,R,st⟩;refine eK i ?_ ?_<;>intro A i
 .cases i;exact cO ⟨m2,rfl,(q.t e1).t R,st⟩
 refine aL (aG (iQ 1 st ((a.o R).drop 1) (lL ?_)));have⟨a0,i,j1⟩:=aU i;refine lF (.exit 0) (fun L' w'=>∃(o1:Unit),∃S,(.inl o1)=a0/\L'=[(1,vP g 0)]/\m.le S/\St S (O) w'/\MRow S g 0 (Vb p0 a1 c1 a2 c2)/\P5 S a1 c1 a2 c2 p0.2) ?_ ?_
 .rintro _ w3 ⟨o1,S,rfl,rfl,q,st,a,c,b⟩;have i:=j1;refine eS (aG (iQ 1 st (a.drop 2) (lL ?_)));have⟨b0,i,j2⟩:=aU i;refine lF (.exit 2) (fun L' w'=>∃(o2:Unit),∃U,(.inl o2)=b0/\L'=[(1,vP g 0)]/\m.le U/\St U (O) w'/\MRow U g 0 (Vb p0 a1 c1 a2 c2)/\P5 U a1 c1 a2 c2 p0.2) ?_ ?_
  .rintro _ w6 ⟨o2,U,rfl,rfl,q,st,a,c,b⟩;have i:=j2;refine eS (aG (iQ 1 st (a.drop 1) (lL ?_)));have⟨c0,i,j6⟩:=aU i;refine lF (.exit 8) (fun L' w'=>∃(o6:Unit),∃D,(.inl o6)=c0/\L'=[(1,vP g 0)]/\m.le D/\St D (O) w'/\MRow D g 0 (Vb p0 a1 c1 a2 c2)/\P5 D a1 c1 a2 c2 p0.2) ?_ ?_
   .rintro _ g7 ⟨o6,D,rfl,rfl,q,st,a,c,b⟩;have i:=j6;refine eS (aG (iQ 1 st (a.drop 2) (lL ?_)));have⟨d1,i,j8⟩:=aU i;refine lF (.exit 10) (fun L' w'=>∃(o8:Unit),∃y,(.inl o8)=d1/\L'=[(1,vP g 0)]/\m.le y/\St y (O) w'/\MRow y g 0 (Vb p0 a1 c1 a2 c2)/\P5 y a1 c1 a2 c2 p0.2) ?_ ?_
    .rintro _ g0 ⟨o8,y,rfl,rfl,q,st,a,c,b⟩;have i:=j8;refine eS (aG (aC ?_));have⟨d7,i,J⟩:=aU i;refine zG (j:=10) (fun L' w'=>∃l,L'=[(1,vP g 0),(176,vB d7)]/\m.le l/\St l (O) w'/\MRow l g 0 (Vb p0 a1 c1 a2 c2)/\P5 l a1 c1 a2 c2 p0.2) ?_ ?_
     .have i:=J;rintro _ g1 ⟨l,rfl,q,st,a,c,b⟩;refine aJ (aK i ?_ ?_)<;>intro A i
      .cases i;exact cO ⟨l,rfl,q,st⟩
      refine aL (aG (iQ 1 st (a.drop 2) (lL ?_)));have⟨V,i,d2⟩:=aU i;refine lF (.exit 14) (fun L' w'=>∃(d3:Unit),∃F,(.inl d3)=V/\L'=[]/\m.le F/\St F (O) w') ?_ ?_
      .rintro _ f ⟨d3,F,rfl,rfl,q,st⟩;have i:=d2;cases i;exact eS (cO ⟨F,rfl,q,st⟩)
      intro H;refine cY (fun Z L' w'=>∃(z:Int),∃n,aB (GS N p0) Z z=some V/\L'=[(178,vS a2 p0.d c2),(179,vI (p0.2.2.length:Int)),(180,vI z)]/\m.le n/\St n (O) w'/\RepS C6 n a2 c2 p0.d) N ⟨0,l,i,rfl,q,st,b⟩ ?_;rintro Z _ g2 ⟨z,n,hL,rfl,q,st,b⟩;obtain⟨Z,d9,rfl,i,Y,E⟩:=cZ hL;refine cA (aK i ?_ ?_)<;>intro A i
      .refine aL (aG (bA (aC (iE b i ?_))));rintro p i f0 f8 f9 ⟨_,_,rfl,rfl,⟨_,_,rfl,rfl,⟨_,_,rfl,⟨s,u,rfl,G⟩,⟨f,k,rfl,v⟩⟩⟩⟩ d5;refine cI st d5 (eE 18 109 (.agg #[vI 0,vT eB,v6,v6]) st fun d4 g3 st=>cL (.agg (V8 p s u f k)) st fun g4 st=>aJ (aC (iG 20 i (fun M L' w'=>∃o,L'=[(178,vS a2 p0.d c2),(179,vI (p0.2.2.length:Int)),(180,vI z),(203,vB M)]/\m.le o/\St o (kB d4 (V8 p s u f k) 109::O) w'/\RepS C6 o a2 c2 p0.d/\P2 o s u f k p.d) ?_ ?_)))
       .rintro M i _ B ⟨o,rfl,q,st,b,G,v⟩;refine aJ (aK i ?_ ?_)<;>intro A i
        .refine bJ (bU (cN (bL ?_)));have ho:=E _ (sI i);subst ho;have i:=d2;cases i;exact lO ⟨o,rfl,q,st.t⟩
        refine lC (cB 2 ?_);have hL:=Y _ (sI i);exact cX ⟨wr (z+1),o,hL,rfl,q,st.t,b⟩
       intro M i K;refine aV 1 st.h (bP 3 188 i ?_ ?_)<;>intro A i
       .exact aM 15 (K i ⟨n,rfl,q,st,b,G,v⟩)
       refine aV 1 st.h (bP 4 194 i ?_ ?_)<;>intro A i
       .exact aM 9 (K i ⟨n,rfl,q,st,b,G,v⟩)
       refine aV 1 st.h (aV 1 st.h (eR 2 i (qSt st v) ?_));rintro d8 i _ g5 ⟨d6,rfl,B,st⟩;exact aM 2 (K i ⟨d6,rfl,q.t B,st,b.o B,G.o B,v.o B⟩)
      refine cV ?_;have ho:=E _ (sI i);exact cS (H _ _ ⟨(),n,ho,rfl,q,st⟩)
     intro K;refine cW 1 st (a.drop 1) (bP 3 171 i ?_ ?_)<;>intro A i
     .cases i;exact aM 5 (K _ _ ⟨y,rfl,q,st,a,c,b⟩)
     cases i;exact cW 1 st (a.drop 2) (aM 3 (K _ _ ⟨y,rfl,q,st,a,c,b⟩))
    intro V;refine cY (fun k6 L' w'=>∃(p:Int),∃k,aB (GX N p0) k6 p=some d1/\L'=[(1,vP g 0),(134,vS a2 p0.d c2),(135,vI (p0.2.2.length:Int)),(136,vI p)]/\m.le k/\St k (O) w'/\MRow k g 0 (Vb p0 a1 c1 a2 c2)/\P5 k a1 c1 a2 c2 p0.2) N ⟨0,D,i,rfl,q,st,a,c,b⟩ ?_;rintro k6 _ g8 ⟨p,k,hL,rfl,q,st,a,c,b⟩;obtain⟨k6,g5,rfl,i,d5,H⟩:=cZ hL;refine cA (aK i ?_ ?_)<;>intro A i
    .refine aL (aG (bA (bK 1 (iE b i ?_))));rintro f i b9 f6 g3 ⟨_,_,rfl,rfl,⟨_,_,rfl,rfl,⟨_,_,rfl,⟨s,u,rfl,M⟩,⟨F,G,rfl,r8⟩⟩⟩⟩ d9;refine cI st d9 (eE 14 109 (.agg #[vI 0,vT eB,v6,v6]) st fun B g9 st=>cH 1 (cL (.agg (V8 f s u F G)) st fun h0 st=>aJ (aG (aG (eH [(10,fun w'=>Inv k w'/\Piece.holds k w' (kB B (V8 f s u F G) 109)/\True)] kr st fun h1 _ st=> ?_)))));have E:=k.le_refl;refine⟨aS (aF st E),aT 0 (cR 1 (a.drop 2) (aT 2 ?_))⟩;have⟨l2,d7,i⟩:=aU i;refine zCk (t:=76) (e:=109) (x:=(.tmp 142)) (lo:=none) (hi:=(some (.tmp 143))) 3 144 C6 kr rfl kr (.head _) (aH (aH (bQ (aH (aH (bQ (aH eY))))))) (ev (vS a2 p0.d c2)) kr b (.inl ⟨rfl,rfl⟩) (.inr ⟨_,_,rfl,(ev (vI p))⟩) d7 ?_;intro a9 c9 r9;refine aX 2 [4,5] (eI 6 eC (aT 7 (eI 8 eC (aR 9 kr (cJ i (fun _ h=>qDe (p0:=(eB,([]:Tb),l2)) st (RepS.nil _ _) r9 h) ?_)))));rintro h5 i _ h2 ⟨d3,rfl,l,st⟩;refine⟨_,rfl,?_⟩;have E:=E.t l;refine⟨aS (aF st E),cE kr (bC (aK i ?_ ?_))⟩<;>intro A i
     .refine bJ (bU (bL (cN (bL ?_))));have ho:=H _ (sI i);subst ho;have i:=j8;cases i;exact lO ⟨d3,rfl,q.t l,st.t⟩
     refine aL (aC (aV 1 st.h (lL ?_)));have⟨d2,i,j9⟩:=aU i;refine lF (.exit 12) (fun L' w'=>∃(o9:Unit),∃n,(.inl o9)=d2/\L'=[(1,vP g 0),(134,vS a2 p0.d c2),(135,vI (p0.2.2.length:Int)),(136,vI p)]/\m.le n/\St n (kB B (V8 f s u F G) 109::O) w'/\MRow n g 0 (Vb p0 a1 c1 a2 c2)/\RepS aD n a1 c1 p0.2.1/\RepS C6 n a2 c2 p0.d/\P2 n s u F G f.d) ?_ ?_
     .rintro _ o ⟨o9,n,rfl,rfl,q,st,a,c,b,M,r8⟩;have i:=j9;refine uT (qI (cB 2 ?_));have hL:=d5 _ (sI i);exact cX ⟨wr (p+1),n,hL,rfl,q,st.t,a,c,b⟩
     intro Y;refine cY (fun k7 L' w'=>∃(z:Int),∃o,aB (GW N f) k7 z=some d2/\L'=[(1,vP g 0),(14,vP B 0),(134,vS a2 p0.d c2),(135,vI (p0.2.2.length:Int)),(136,vI p),(152,vS s f.d.1 u),(153,vI (f.2.2.1.length:Int)),(154,vI z)]/\m.le o/\St o (kB B (V8 f s u F G) 109::O) w'/\MRow o g 0 (Vb p0 a1 c1 a2 c2)/\RepS aD o a1 c1 p0.2.1/\RepS C6 o a2 c2 p0.d/\P2 o s u F G f.d) N ⟨0,d3,i,rfl,q.t l,st,a.o l,c.o l,b.o l,M.o l,r8.o l⟩ ?_;rintro k7 _ h3 ⟨z,o,hL,rfl,q,st,a,c,b,M,r8⟩;obtain⟨k7,g6,rfl,i,d6,Z⟩:=cZ hL;refine cA (aK i ?_ ?_)<;>intro A i
     .refine aL (aG (bA (bK 1 (iE M i ?_))));rintro x7 i g1 f7 g4 rfl f0;refine cI st f0 (vA (aV 1 st.h (cH 1 ?_)));have⟨l3,d8,i⟩:=aU i;refine cU (YS (d:=162) (t:=50) (e:=9) (x:=(.tmp 160)) (lo:=none) (hi:=(some (.tmp 161))) aD kr rfl (ev (vS s f.d.1 u)) kr M (.inl ⟨rfl,rfl⟩) (.inr ⟨_,_,rfl,(ev (vI z))⟩) d8 ?_);intro g0 g2 f9;refine eR 1 i (RW st f9) ?_;rintro h6 i _ h4 ⟨d4,rfl,v,st⟩;refine aJ (aK i ?_ ?_)<;>intro A i
      .refine bJ (bU (cN (bL ?_)));have ho:=Z _ (sI i);subst ho;have i:=j9;refine bL (cN (cN (bL ?_)));have ho:=H _ (sI i);subst ho;have i:=j8;cases i;exact lO ⟨d4,rfl,q.t v,st.t⟩
      refine lC (cB 2 ?_);have hL:=d6 _ (sI i);exact cX ⟨wr (z+1),d4,hL,rfl,q.t v,st,a.o v,c.o v,b.o v,M.o v,r8.o v⟩
     refine cV ?_;have ho:=Z _ (sI i);exact cS (Y _ _ ⟨(),o,ho,rfl,q,st,a,c,b,M,r8⟩)
    refine cV ?_;have ho:=H _ (sI i);exact cS (V _ _ ⟨(),k,ho,rfl,q,st,a,c,b⟩)
   intro s;refine cY (fun u L' w'=>∃(l:Int),∃f,aB (GU N p0) u l=some c0/\L'=[(1,vP g 0),(113,vS a1 p0.2.1 c1),(114,vI (p0.2.1.length:Int)),(115,vI l)]/\m.le f/\St f (O) w'/\MRow f g 0 (Vb p0 a1 c1 a2 c2)/\P5 f a1 c1 a2 c2 p0.2) N ⟨0,U,i,rfl,q,st,a,c,b⟩ ?_;rintro u _ Y ⟨l,f,hL,rfl,q,st,a,c,b⟩;obtain⟨u,V,rfl,i,v,o⟩:=cZ hL;refine cA (aK i ?_ ?_)<;>intro A i
   .refine aL (aG (bA (bK 1 (iE c i ?_))));rintro p i b8 G M rfl B;refine cI st B (vA (iG 12 i (fun z L' w'=>∃k,L'=[(1,vP g 0),(113,vS a1 p0.2.1 c1),(114,vI (p0.2.1.length:Int)),(115,vI l),(131,vB z)]/\m.le k/\St k (O) w'/\MRow k g 0 (Vb p0 a1 c1 a2 c2)/\P5 k a1 c1 a2 c2 p0.2) ?_ ?_))
    .rintro z i _ n ⟨k,rfl,q,st,a,c,b⟩;refine aJ (aK i ?_ ?_)<;>intro A i
     .refine bJ (bU (cN (bL ?_)));have ho:=o _ (sI i);subst ho;have i:=j6;cases i;exact lO ⟨k,rfl,q,st⟩
     refine lC (cB 2 ?_);have hL:=v _ (sI i);exact cX ⟨wr (l+1),k,hL,rfl,q,st,a,c,b⟩
    intro z i K;refine cW 2 st a (bP 2 124 i ?_ ?_)<;>intro A i
    .exact aM 7 (K i ⟨f,rfl,q,st,a,c,b⟩)
    refine cW 1 st (a.drop 1) (cH 1 ?_);have⟨l1,y,i⟩:=aU i;refine cU (YS (d:=128) (t:=50) (e:=9) (x:=(.tmp 126)) (lo:=none) (hi:=(some (.tmp 127))) aD kr rfl (ev (vS a1 p0.2.1 c1)) kr c (.inl ⟨rfl,rfl⟩) (.inr ⟨_,_,rfl,(ev (vI l))⟩) y ?_);intro a6 c6 H;refine eR 1 i (RW st H) ?_;rintro F i _ Z ⟨E,rfl,n,st⟩;exact aM 1 (K i ⟨E,rfl,q.t n,st,a.o n,c.o n,b.o n⟩)
   refine cV ?_;have ho:=o _ (sI i);exact cS (s _ _ ⟨(),f,ho,rfl,q,st,a,c,b⟩)
  intro Z;refine cY (fun k2 L' w'=>∃(F:Int),∃E,aB (GY N p0) k2 F=some b0/\L'=[(1,vP g 0),(35,vS a2 p0.d c2),(36,vI (p0.2.2.length:Int)),(37,vI F)]/\m.le E/\St E (O) w'/\MRow E g 0 (Vb p0 a1 c1 a2 c2)/\P5 E a1 c1 a2 c2 p0.2) N ⟨0,S,i,rfl,q,st,a,c,b⟩ ?_;rintro k2 _ w7 ⟨F,E,hL,rfl,q,st,a,c,b⟩;obtain⟨k2,d9,rfl,i,d2,B⟩:=cZ hL;refine cA (aK i ?_ ?_)<;>intro A i
  .refine aL (aG (bA (aC (iE b i ?_))));rintro f i b3 f2 d7 ⟨_,_,rfl,rfl,⟨_,_,rfl,rfl,⟨_,_,rfl,⟨n,o,rfl,l⟩,⟨p,s,rfl,k⟩⟩⟩⟩ d4;refine cI st d4 (eE 6 109 (.agg #[vI 0,vT eB,v6,v6]) st fun v w8 st=>cL (.agg (V8 f n o p s)) st fun w9 st=>aJ (aG (aC (iG 41 i (fun o3 L' w'=>∃G,L'=[(1,vP g 0),(6,vP v 0),(35,vS a2 p0.d c2),(36,vI (p0.2.2.length:Int)),(37,vI F),(81,vB o3)]/\m.le G/\St G (kB v (V8 f n o p s) 109::O) w'/\MRow G g 0 (Vb p0 a1 c1 a2 c2)/\RepS aD G a1 c1 p0.2.1/\RepS C6 G a2 c2 p0.d/\P2 G n o p s f.d) ?_ ?_))))
   .rintro o3 i _ f9 ⟨G,rfl,q,st,a,c,b,l,k⟩;refine aJ (aK i ?_ ?_)<;>intro A i
    .refine bJ (bU (bL (cN (bL ?_))));have ho:=B _ (sI i);subst ho;have i:=j2;cases i;exact lO ⟨G,rfl,q,st.t⟩
    refine aL (aG (aC (aV 1 st.h (lL ?_))));have⟨V,i,j3⟩:=aU i;refine lF (.exit 4) (fun L' w'=>∃(o4:Unit),∃y,(.inl o4)=V/\L'=[(1,vP g 0),(6,vP v 0),(35,vS a2 p0.d c2),(36,vI (p0.2.2.length:Int)),(37,vI F)]/\m.le y/\St y (kB v (V8 f n o p s) 109::O) w'/\MRow y g 0 (Vb p0 a1 c1 a2 c2)/\RepS aD y a1 c1 p0.2.1/\RepS C6 y a2 c2 p0.d/\P2 y n o p s f.d) ?_ ?_
    .rintro _ g0 ⟨o4,y,rfl,rfl,q,st,a,c,b,l,k⟩;have i:=j3;refine eS (aG (aC (aV 1 st.h (lL ?_))));have⟨Y,i,j4⟩:=aU i;refine lF (.exit 6) (fun L' w'=>∃(o5:Unit),∃D,(.inl o5)=Y/\L'=[(1,vP g 0),(6,vP v 0),(35,vS a2 p0.d c2),(36,vI (p0.2.2.length:Int)),(37,vI F)]/\m.le D/\St D (kB v (V8 f n o p s) 109::O) w'/\MRow D g 0 (Vb p0 a1 c1 a2 c2)/\RepS aD D a1 c1 p0.2.1/\RepS C6 D a2 c2 p0.d/\P2 D n o p s f.d) ?_ ?_
     .rintro _ M ⟨o5,D,rfl,rfl,q,st,a,c,b,l,k⟩;have i:=j4;refine eS (aC (aV 1 st.h (bI i (qSb st k) ?_)));rintro H i _ c0 ⟨z,rfl,u,st⟩;refine eK i ?_ ?_<;>intro A i
      .refine bJ (bU (cN (bL ?_)));have ho:=B _ (sI i);subst ho;have i:=j2;cases i;exact lO ⟨z,rfl,q.t u,st.t⟩
      refine lC (cB 2 ?_);have hL:=d2 _ (sI i);exact cX ⟨wr (F+1),z,hL,rfl,q.t u,st.t,a.o u,c.o u,b.o u⟩
     intro c0;refine cY (fun k4 L' w'=>∃(H:Int),∃u,aB (GR N f) k4 H=some Y/\L'=[(1,vP g 0),(6,vP v 0),(35,vS a2 p0.d c2),(36,vI (p0.2.2.length:Int)),(37,vI F),(94,vS p f.e s),(95,vI (f.2.2.2.length:Int)),(96,vI H)]/\m.le u/\St u (kB v (V8 f n o p s) 109::O) w'/\MRow u g 0 (Vb p0 a1 c1 a2 c2)/\RepS aD u a1 c1 p0.2.1/\RepS C6 u a2 c2 p0.d/\RepS C5 u p s f.e/\RepS aD u n o f.d.1) N ⟨0,y,i,rfl,q,st,a,c,b,k,l⟩ ?_;rintro k4 _ g1 ⟨H,u,hL,rfl,q,st,a,c,b,k,l⟩;obtain⟨k4,f0,rfl,i,d3,M⟩:=cZ hL;refine cA (aK i ?_ ?_)<;>intro A i
     .refine aL (aG (bA (aC (iE k i ?_))));rintro x4 i b6 f4 d8 ⟨_,_,rfl,rfl,⟨_,_,rfl,rfl,⟨_,_,rfl,rfl,⟨_,_,rfl,rfl,⟨a5,c5,rfl,r5⟩⟩⟩⟩⟩ d5;refine cI st d5 (eE 10 133 (.agg #[vI 0,vI 0,vI 0,vT eB,v6]) st fun b7 g2 st=>cL (.agg (V9 x4 a5 c5)) st fun g3 st=>aJ (aC (cF st.h (aV 1 st.t.h (eR 1 i (qSi (p0:=x4) st r5) ?_)))));rintro d6 i _ g4 ⟨d1,rfl,z,st⟩;refine eK i ?_ ?_<;>intro A i
      .refine bJ (bU (cN (bL ?_)));have ho:=M _ (sI i);subst ho;have i:=j4;refine bL (cN (bL (cN (bL ?_))));have ho:=B _ (sI i);subst ho;have i:=j2;cases i;exact lO ⟨d1,rfl,q.t z,st.t.t⟩
      refine lC (cB 2 ?_);have hL:=d3 _ (sI i);exact cX ⟨wr (H+1),d1,hL,rfl,q.t z,st.t,a.o z,c.o z,b.o z,k.o z,l.o z⟩
     refine cV ?_;have ho:=M _ (sI i);exact cS (c0 _ _ ⟨(),u,ho,rfl,q,st,a,c,b,l,k⟩)
    intro M;refine cY (fun Y L' w'=>∃(D:Int),∃u,aB (GV N f) Y D=some V/\L'=[(1,vP g 0),(6,vP v 0),(35,vS a2 p0.d c2),(36,vI (p0.2.2.length:Int)),(37,vI F),(83,vS n f.d.1 o),(84,vI (f.2.2.1.length:Int)),(85,vI D)]/\m.le u/\St u (kB v (V8 f n o p s) 109::O) w'/\MRow u g 0 (Vb p0 a1 c1 a2 c2)/\RepS aD u a1 c1 p0.2.1/\RepS C6 u a2 c2 p0.d/\P2 u n o p s f.d) N ⟨0,G,i,rfl,q,st,a,c,b,l,k⟩ ?_;rintro Y _ d8 ⟨D,u,hL,rfl,q,st,a,c,b,l,k⟩;obtain⟨Y,d6,rfl,i,d1,H⟩:=cZ hL;refine cA (aK i ?_ ?_)<;>intro A i
    .refine aL (aG (bA (aC (iE l i ?_))));rintro x3 i b5 f3 d5 rfl d3;refine cI st d3 (bH (aY 1 i (BV st) ?_));rintro y9 i _ f0 ⟨c0,rfl,z,st⟩;refine eK i ?_ ?_<;>intro A i
     .refine bJ (bU (cN (bL ?_)));have ho:=H _ (sI i);subst ho;have i:=j3;refine bL (cN (bL (cN (bL ?_))));have ho:=B _ (sI i);subst ho;have i:=j2;cases i;exact lO ⟨c0,rfl,q.t z,st.t⟩
     refine lC (cB 2 ?_);have hL:=d1 _ (sI i);exact cX ⟨wr (D+1),c0,hL,rfl,q.t z,st,a.o z,c.o z,b.o z,l.o z,k.o z⟩
    refine cV ?_;have ho:=H _ (sI i);exact cS (M _ _ ⟨(),u,ho,rfl,q,st,a,c,b,l,k⟩)
   intro o3 i K;refine aV 1 st.h (bP 2 44 i ?_ ?_)<;>intro A i
   .exact aM 37 (K i ⟨E,rfl,q,st,a,c,b,l,k⟩)
   refine aV 1 st.h (bP 3 49 i ?_ ?_)<;>intro A i
   .exact aM 32 (K i ⟨E,rfl,q,st,a,c,b,l,k⟩)
   refine aV 1 st.h (bP 2 53 i ?_ ?_)<;>intro A i
   .refine aV 1 st.h (bP 5 60 i ?_ ?_)<;>intro A i
    .exact aM 21 (K i ⟨E,rfl,q,st,a,c,b,l,k⟩)
    refine aV 1 st.h (bP 2 64 i ?_ ?_)<;>intro A i
    .refine aV 1 st.h (bI i (DU st) ?_);rintro H i _ V ⟨D,rfl,u,st⟩;have q:=q.t u;have a:=a.o u;have c:=c.o u;have b:=b.o u;have l:=l.o u;have k:=k.o u;refine bP 4 71 i ?_ ?_<;>intro A i
     .exact aM 10 (K i ⟨D,rfl,q,st,a,c,b,l,k⟩)
     refine aV 1 st.h (bP 2 75 i ?_ ?_)<;>intro A i
     .refine aV 1 st.h (bI i (BV st) ?_);rintro M i _ Y ⟨z,rfl,y,st⟩;exact aM 3 (K i ⟨z,rfl,q.t y,st,a.o y,c.o y,b.o y,l.o y,k.o y⟩)
     exact aM 6 (K i ⟨D,rfl,q,st,a,c,b,l,k⟩)
    refine aV 8 st.h (bP 2 75 i ?_ ?_)<;>intro A i
    .refine aV 1 st.h (bI i (BV st) ?_);rintro y5 i _ z ⟨y,rfl,u,st⟩;exact aM 3 (K i ⟨y,rfl,q.t u,st,a.o u,c.o u,b.o u,l.o u,k.o u⟩)
    exact aM 6 (K i ⟨E,rfl,q,st,a,c,b,l,k⟩)
   refine aV 8 st.h (bP 2 64 i ?_ ?_)<;>intro A i
   .refine aV 1 st.h (bI i (DU st) ?_);rintro H i _ V ⟨z,rfl,u,st⟩;have q:=q.t u;have a:=a.o u;have c:=c.o u;have b:=b.o u;have l:=l.o u;have k:=k.o u;refine bP 4 71 i ?_ ?_<;>intro A i
    .exact aM 10 (K i ⟨z,rfl,q,st,a,c,b,l,k⟩)
    refine aV 1 st.h (bP 2 75 i ?_ ?_)<;>intro A i
    .refine aV 1 st.h (bI i (BV st) ?_);rintro M i _ Y ⟨D,rfl,y,st⟩;exact aM 3 (K i ⟨D,rfl,q.t y,st,a.o y,c.o y,b.o y,l.o y,k.o y⟩)
    exact aM 6 (K i ⟨z,rfl,q,st,a,c,b,l,k⟩)
   refine aV 8 st.h (bP 2 75 i ?_ ?_)<;>intro A i
   .refine aV 1 st.h (bI i (BV st) ?_);rintro z i _ D ⟨y,rfl,u,st⟩;exact aM 3 (K i ⟨y,rfl,q.t u,st,a.o u,c.o u,b.o u,l.o u,k.o u⟩)
   exact aM 6 (K i ⟨E,rfl,q,st,a,c,b,l,k⟩)
  refine cV ?_;have ho:=B _ (sI i);exact cS (Z _ _ ⟨(),E,ho,rfl,q,st,a,c,b⟩)
 intro n;refine cY (fun o L' w'=>∃(s1:Int),∃f,aB (GT N p0) o s1=some a0/\L'=[(1,vP g 0),(24,vS a1 p0.2.1 c1),(25,vI (p0.2.1.length:Int)),(26,vI s1)]/\m.le f/\St f (O) w'/\MRow f g 0 (Vb p0 a1 c1 a2 c2)/\P5 f a1 c1 a2 c2 p0.2) N ⟨0,m2,i,rfl,(q.t e1).t R,st,a.o R,(c.o e1).o R,(b.o e1).o R⟩ ?_;rintro o _ F ⟨s1,f,hL,rfl,q,st,a,c,b⟩;obtain⟨o,D,rfl,i,p,l⟩:=cZ hL;refine cA (aK i ?_ ?_)<;>intro A i
 .refine aL (aG (bA (aC (iE c i ?_))));rintro s i E y B rfl u;refine cI st u (bH (aY 1 i (BV st) ?_));rintro z i _ G ⟨v,rfl,k,st⟩;refine eK i ?_ ?_<;>intro A i
  .refine bJ (bU (cN (bL ?_)));have ho:=l _ (sI i);subst ho;have i:=j1;cases i;exact lO ⟨v,rfl,q.t k,st⟩
  refine lC (cB 2 ?_);have hL:=p _ (sI i);exact cX ⟨wr (s1+1),v,hL,rfl,q.t k,st,a.o k,c.o k,b.o k⟩
 refine cV ?_;have ho:=l _ (sI i);exact cS (n _ _ ⟨(),f,ho,rfl,q,st,a,c,b⟩)
def LK(N:Nat)(p0:eL)(a:Tp):Option Tq:=
 if(decide (a.2<(List.length p0.2.1:Int)))then((aO p0.2.1 a.2).bind fun b=>(bG (⟨#[105,109,112,111,114,116,32]⟩:BA) b).bind fun b=>(bG b (⟨#[59,10]⟩:BA)).bind fun b=>(bG a.1 b).bind fun b=>some (.inl (b,IntKind.wrap .i64 (a.2+1)))) else(some (.inr a.1))
def MB(N:Nat)(p0:eL):Tl:=
 (bG (⟨#[112,97,99,107,97,103,101,32]⟩:BA) p0.1).bind fun s1=>(bG s1 (⟨#[59,10]⟩:BA)).bind fun a=>(aB (LK N p0) N (a,0)).bind fun a=>some a
theorem qSy{p0:eL}{r:BA}(st:St m (O) w)(l:RepS aD m a1 c1 p0.2.1)(H:RepS C6 m a2 c2 p0.d)(i:MB N p0=some r):Calls prog 117 #[.agg (V7 p0 a1 c1 a2 c2)] w fun e w'=>∃m',eU m m' e (vT r) (O) w':=by
 refine bY st func117 rfl ntmps117 fun q=>aC (iK 1 78 (.agg (V7 p0 a1 c1 a2 c2)) st fun u D R v st n=>bH (iQ 1 st n (eN i fun s1 i=>eN i fun y i=>eF (iQ 1 st (n.drop 1) (lL (bV (.exit 0) i (fun a L' w'=>∃(f:BA),∃k,f=a/\L'=[(3,vT f)]/\m.le k/\St k (O) w') ?_ ?_))))))
 .rintro a i _ b ⟨f,k,rfl,rfl,q,st⟩;obtain rfl:=sI i;exact eS (cO ⟨k,rfl,q,st⟩)
 intro a i g;refine cY (fun h L' w'=>∃(b:Tp),∃c,aB (LK N p0) h b=some a/\L'=[(3,vT b.1),(11,vS a1 p0.2.1 c1),(12,vI (p0.2.1.length:Int)),(13,vI b.2)]/\m.le c/\St c (O) w'/\RepS aD c a1 c1 p0.2.1) N ⟨(y,0),D,i,rfl,q.t v,st,l.o v⟩ ?_;rintro h _ S ⟨b,c,hL,rfl,q,st,l⟩;obtain⟨h,F,rfl,i,p,o⟩:=cZ hL;refine cA (aK i ?_ ?_)<;>intro A i
 .refine aL (aG (bA (aC (iE l i ?_))));rintro s i G B E rfl x;refine cI st x (bH (iN 2 (eN i fun K i=>eN i fun M i=>eN i fun z i=>eD 1 (qI (cB 2 ?_)))));have hL:=p _ (sI i);exact cX ⟨(z,wr (b.2+1)),c,hL,rfl,q,st,l⟩
 refine cV ?_;have ho:=o _ (sI i);exact cS (g rfl ⟨b.1,c,ho,rfl,q,st⟩)
def QZ(N:Nat)(Rc:(Int)->Tl)(p0:Int):Tl:=
 if(decide (p0<10))then((sP (⟨#[48,49,50,51,52,53,54,55,56,57]⟩:BA) p0 (IntKind.wrap .u64 (p0+1))).bind fun s1=>some s1) else((Rc (IntKind.wrap .u64 (Int.tdiv p0 10))).bind fun y1=>(Rc (Int.tmod p0 10)).bind fun a=>(bG y1 a).bind fun a=>some a)
def KZ(N:Nat):Nat->((Int)->Tl)
 |0=>(fun _=>none)
 |D+1=>QZ N (KZ N D)
def RV(N:Nat)(p0:Int):Tl:=(KZ N N) p0
abbrev qSf(F:(Int)->Tl):Prop:=∀{m O w} {p0:Int} {r:BA} (st:St m (O) w) (i:F p0=some r),Calls prog 87 #[.int .u64 p0] w fun e w'=>∃m',eU m m' e (vT r) (O) w'
theorem qRs{Rc}(a:qSf Rc){p0:Int}{r:BA}(st:St m (O) w)(i:QZ N Rc p0=some r):Calls prog 87 #[.int .u64 p0] w fun e w'=>∃m',eU m m' e (vT r) (O) w':=by
 refine bY st func87 rfl ntmps87 fun q=>cA (bF i ?_ ?_)<;>intro A i
 .refine bK 3 ?_;have⟨s1,b,i⟩:=aU i;obtain rfl:=sI i;exact cU (yT (d:=8) (t:=9) (x:=(.const (vT bl))) (lo:=(some (.tmp 5))) (hi:=(some (.tmp 7))) kr rfl (ev (vT bl)) kr (.inr ⟨_,_,rfl,(ev (.int .u64 p0))⟩) (.inr ⟨_,_,rfl,(ev (.int .u64 (IntKind.wrap .u64 (p0+1))))⟩) b (eT ⟨m,rfl,q,st⟩))
 refine aL (aY 2 i (a st) ?_);rintro y1 i _ k ⟨h,rfl,c,st⟩;refine eR 2 i (a st) ?_;rintro n i _ l ⟨g,rfl,f,st⟩;refine eN i fun b i=>bH ?_;obtain rfl:=sI i;exact lY ⟨g,rfl,(q.t c).t f,st⟩
theorem qCo(N:Nat):∀D:Nat,(∀{m:Mem} {O:List Piece} {w:World} {p0:Int} {r:BA} (st:St m (O) w) (i:(KZ N D) p0=some r),Calls prog 87 #[.int .u64 p0] w fun e w'=>∃m',eU m m' e (vT r) (O) w')
 |0=>fun _ i=>(by cases i)
 |D+1=>fun st i=>qRs (N:=N) (qCo N D) st i
theorem qCu{p0:Int}{r:BA}(st:St m (O) w)(i:RV N p0=some r):Calls prog 87 #[.int .u64 p0] w fun e w'=>∃m',eU m m' e (vT r) (O) w':=
 (qCo N N) st i
def EA(N:Nat)(p0:Int):Tl:=
 if(decide (p0<0))then((RV N (IntKind.wrap .u64 ((IntKind.wrap .u64 (IntKind.wrap .i64 (0-(IntKind.wrap .i64 (p0+1)))))+1))).bind fun y1=>(bG (⟨#[45]⟩:BA) y1).bind fun s1=>some s1) else((RV N (IntKind.wrap .u64 p0)).bind fun a=>some a)
theorem VW{p0:Int}{r:BA}(st:St m (O) w)(i:EA N p0=some r):Calls prog 63 #[vI p0] w fun e w'=>∃m',eU m m' e (vT r) (O) w':=by
 refine bY st func63 rfl ntmps63 fun q=>cA (bF i ?_ ?_)<;>intro A i
 .refine aY 5 i (qCu st) ?_;rintro y1 i _ c ⟨b,rfl,a,st⟩;refine eN i fun s1 i=>bH ?_;obtain rfl:=sI i;exact lY ⟨b,rfl,q.t a,st⟩
 refine aL (aY 2 i (qCu st) ?_);rintro a i _ d ⟨c,rfl,b,st⟩;obtain rfl:=sI i;exact eT ⟨c,rfl,q.t b,st⟩
def CA(N:Nat)(p0:nL):Td:=
 if(p0.1==5)then(some 0) else(if(p0.1 !=4)then(some 4) else((if(p0.2.2.1==1)then(some (p0.2.2.1==1)) else(some (p0.2.2.1==2)):Tk).bind fun a=>if a then(some 2) else((if(p0.2.2.1==6)then(some (p0.2.2.1==6)) else(some (p0.2.2.1==7)):Tk).bind fun o2=>if o2 then(some 1) else(some 3))))
theorem qDa{p0:nL}{r:Int}(st:St m (O) w)(o:RepS (aI .i64) m a1 c1 p0.f)(i:CA N p0=some r):Calls prog 145 #[.agg (V9 p0 a1 c1)] w fun e w'=>∃m',eU m m' e (vI r) (O) w':=by
 refine bY st func145 rfl ntmps145 fun q=>aC (iK 1 133 (.agg (V9 p0 a1 c1)) st fun k g p n st b=> ?_);have q:=q.t n;refine eF (iQ 1 st b (eK i ?_ ?_))<;>intro A i
 .cases i;exact cO ⟨g,rfl,q,st⟩
 refine aL (aG (iQ 1 st b (eK i ?_ ?_)))<;>intro A i
 .cases i;exact cO ⟨g,rfl,q,st⟩
 refine aL (aG (iQ 1 st (b.drop 2) (aJ (bA (aG (bJ (bV .normal i (fun l L' w'=>∃a,L'=[(10,vI p0.d.1),(11,vB l)]/\m.le a/\St a (O) w') ?_ ?_)))))))
 .rintro l i _ s ⟨a,rfl,q,st⟩;refine bC (aK i ?_ ?_)<;>intro A i
  .cases i;exact cO ⟨a,rfl,q,st⟩
  refine aG (bJ (bV .normal i (fun o2 L' w'=>∃c,L'=[(14,vB o2)]/\m.le c/\St c (O) w') ?_ ?_))
  .rintro o2 i _ h ⟨c,rfl,q,st⟩;refine bC (aK i ?_ ?_)<;>intro A i
   .cases i;exact cO ⟨c,rfl,q,st⟩
   cases i;exact lC (cO ⟨c,rfl,q,st⟩)
  intro o2 i h;refine aK i ?_ ?_<;>intro A i
  .exact iL (h i ⟨a,rfl,q,st⟩)
  exact cB 2 (xE (h i ⟨a,rfl,q,st⟩))
 intro l i c;refine aK i ?_ ?_<;>intro A i
 .exact iL (c i ⟨g,rfl,q,st⟩)
 exact cB 2 (xE (c i ⟨g,rfl,q,st⟩))
def KV(N:Nat)(Rd:eX->(Int)->Tb->(Int)->Tl)(p0:eX)(p2:Tb)(b:nL)(a:Tp):Option Tq:=
 if(decide (a.2<(List.length b.2.2.2.2:Int)))then((aO b.2.2.2.2 a.2).bind fun c=>(if(decide (a.2>0))then((bG a.1 (⟨#[44,32]⟩:BA)).bind fun b=>some b) else(some a.1):Tl).bind fun b=>(Rd p0 c p2 0).bind fun c=>(bG b c).bind fun b=>some (.inl (b,IntKind.wrap .i64 (a.2+1)))) else(some (.inr a.1))
def wO(N:Nat)(Rd:eX->(Int)->Tb->(Int)->Tl)(p0:eX)(p1:Int)(p2:Tb)(p3:Int):Tl:=
 (aO p0 p1).bind fun a=>(if(a.1==1)then((EA N a.2.1).bind fun y1=>some y1) else(if(a.1==2)then((aO p2 a.2.1).bind fun b=>some b) else(if(a.1==3)then((bG a.2.2.2.1 (⟨#[40]⟩:BA)).bind fun s1=>(aB (KV N Rd p0 p2 a) N (s1,0)).bind fun o2=>(bG o2 (⟨#[41]⟩:BA)).bind fun b=>some b) else(if(a.1==4)then((CA N a).bind fun b=>(if(b==1)then(some 2) else(some b):Td).bind fun c=>(aO a.2.2.2.2 0).bind fun d=>(aO a.2.2.2.2 1).bind fun e=>(Rd p0 d p2 c).bind fun c=>(bG c (⟨#[32]⟩:BA)).bind fun c=>(aO ([(⟨#[]⟩:BA),(⟨#[43]⟩:BA),(⟨#[45]⟩:BA),(⟨#[42]⟩:BA),(⟨#[47]⟩:BA),(⟨#[37]⟩:BA),(⟨#[60]⟩:BA),(⟨#[61,61]⟩:BA)]) a.2.2.1).bind fun d=>(bG c d).bind fun c=>(bG c (⟨#[32]⟩:BA)).bind fun c=>(Rd p0 e p2 (IntKind.wrap .i64 (b+1))).bind fun y5=>(bG c y5).bind fun b=>some b) else(if(a.1==5)then((aO a.2.2.2.2 0).bind fun b=>(aO a.2.2.2.2 1).bind fun c=>(aO a.2.2.2.2 2).bind fun d=>(Rd p0 b p2 0).bind fun b=>(bG (⟨#[105,102,32]⟩:BA) b).bind fun b=>(bG b (⟨#[32,116,104,101,110,32]⟩:BA)).bind fun b=>(Rd p0 c p2 0).bind fun c=>(bG b c).bind fun b=>(bG b (⟨#[32,101,108,115,101,32]⟩:BA)).bind fun b=>(Rd p0 d p2 0).bind fun c=>(bG b c).bind fun b=>some b) else(if(a.1==6)then((bG (⟨#[114,101,97,100,40,34]⟩:BA) a.2.2.2.1).bind fun b=>(bG b (⟨#[34,44,32]⟩:BA)).bind fun b=>(aO a.2.2.2.2 0).bind fun c=>(Rd p0 c p2 0).bind fun c=>(bG b c).bind fun b=>(bG b (⟨#[41]⟩:BA)).bind fun b=>some b) else(if(a.1==7)then((bG (⟨#[115,105,122,101,40,34]⟩:BA) a.2.2.2.1).bind fun b=>(bG b (⟨#[34,41]⟩:BA)).bind fun b=>some b) else(if(a.1==8)then((bG (⟨#[104,97,115,40,34]⟩:BA) a.2.2.2.1).bind fun b=>(bG b (⟨#[34,41]⟩:BA)).bind fun b=>some b) else(if(a.1==9)then((bG (⟨#[101,110,118,40,34]⟩:BA) a.2.2.2.1).bind fun b=>(bG b (⟨#[34,41]⟩:BA)).bind fun b=>some b) else(if(a.1==10)then((EA N a.2.1).bind fun b=>(bG (⟨#[102,108,105,112,40]⟩:BA) b).bind fun b=>(bG b (⟨#[41]⟩:BA)).bind fun b=>some b) else(some (⟨#[]⟩:BA))))))))))):Tl).bind fun b=>(CA N a).bind fun a=>if(decide (a<p3))then((bG (⟨#[40]⟩:BA) b).bind fun a=>(bG a (⟨#[41]⟩:BA)).bind fun a=>some a) else(some b)
def DW(N:Nat):Nat->(eX->(Int)->Tb->(Int)->Tl)
 |0=>(fun _ _ _ _=>none)
 |D+1=>wO N (DW N D)
def SA(N:Nat)(p0:eX)(p1:Int)(p2:Tb)(p3:Int):Tl:=(DW N N) p0 p1 p2 p3
abbrev qSh(F:eX->(Int)->Tb->(Int)->Tl):Prop:=∀{m O w} {p0:eX} {p1:Int} {p2:Tb} {p3:Int} {a c b d} {r:BA} (st:St m (O) w) (f:RepS C5 m a c p0) (f:RepS aD m b d p2) (i:F p0 p1 p2 p3=some r),Calls prog 137 #[vS a p0 c,vI p1,vS b p2 d,vI p3] w fun e w'=>∃m',eU m m' e (vT r) (O) w'
theorem qRy{Rd}(a:qSh Rd){p0:eX}{p1:Int}{p2:Tb}{p3:Int}{r:BA}(st:St m (O) w)(o:RepS C5 m a1 c1 p0)(p:RepS aD m a2 c2 p2)(i:wO N Rd p0 p1 p2 p3=some r):Calls prog 137 #[vS a1 p0 c1,vI p1,vS a2 p2 c2,vI p3] w fun e w'=>∃m',eU m m' e (vT r) (O) w':=by
 refine bY st func137 rfl ntmps137 fun q=>bJ (bK 2 (iE o i ?_));rintro c i b1 f1 c4 ⟨_,_,rfl,rfl,⟨_,_,rfl,rfl,⟨_,_,rfl,rfl,⟨_,_,rfl,rfl,⟨k,l,rfl,g⟩⟩⟩⟩⟩ a8;refine cI st a8 (eE 9 133 (.agg #[vI 0,vI 0,vI 0,vT eB,v6]) st fun v w1 st=>cL (.agg (V9 c k l)) st fun w2 st=>aJ (cA (aC (aV 1 st.h (aJ (bV .normal i (fun S L' w'=>∃m1,L'=[(3,vI p3),(9,vP v 0),(10,vT S)]/\m.le m1/\St m1 (kB v (V9 c k l) 133::O) w'/\RepS (aI .i64) m1 k l c.f) ?_ ?_))))))
 .rintro S i _ D ⟨m1,rfl,q,st,g⟩;refine mD (aC (cF st.h (bI i (qDa (p0:=c) st g) ?_)));rintro u i _ B ⟨n,rfl,b,st⟩;refine eK i ?_ ?_<;>intro A i
  .refine bK 1 (eN i fun z i=>eN i fun s i=>bH ?_);obtain rfl:=sI i;exact lY ⟨n,rfl,q.t b,st.t⟩
  obtain rfl:=sI i;exact aL (cO ⟨n,rfl,q.t b,st.t⟩)
 intro S i u;refine bA (bF i ?_ ?_)<;>intro A i
 .refine tV (aV 1 st.h (bI i (VW st) ?_));rintro y1 i _ s ⟨n,rfl,b,st⟩;exact eD 1 (iX (u i ⟨n,rfl,q.t b,st,g.o b⟩))
 refine bF i ?_ ?_<;>intro A i
 .refine iN 2 (cF st.h (iE p i ?_));rintro n i B s z rfl b;exact cI st b (eD 1 (iX (u i ⟨m,rfl,q,st,g⟩)))
 refine bF i ?_ ?_<;>intro A i
 .refine aC (aV 1 st.h (eN i fun s1 i=>eF (aC (aV 1 st.h (lL (bV (.exit 1) i (fun s L' w'=>∃(o2:BA),∃B,o2=s/\L'=[(3,vI p3),(9,vP v 0),(10,vT o2)]/\m.le B/\St B (kB v (V9 c k l) 133::O) w'/\RepS (aI .i64) B k l c.f) ?_ ?_))))))
  .rintro s i _ n ⟨o2,B,rfl,rfl,q,st,g⟩;exact eS (iN 1 (eN i fun b i=>eD 1 (iX (u i ⟨B,rfl,q,st,g⟩))))
  intro s i D;refine cY (fun F L' w'=>∃(b:Tp),∃n,aB (KV N Rd p0 p2 c) F b=some s/\L'=[(0,vS a1 p0 c1),(2,vS a2 p2 c2),(3,vI p3),(9,vP v 0),(10,vT b.1),(40,vS k c.f l),(41,vI (c.2.2.2.2.length:Int)),(42,vI b.2)]/\m.le n/\St n (kB v (V9 c k l) 133::O) w'/\RepS C5 n a1 c1 p0/\RepS aD n a2 c2 p2/\RepS (aI .i64) n k l c.f) N ⟨(s1,0),m,i,rfl,q,st,o,p,g⟩ ?_;rintro F _ w6 ⟨b,n,hL,rfl,q,st,o,p,g⟩;obtain⟨F,a0,rfl,i,M,K⟩:=cZ hL;refine cA (aK i ?_ ?_)<;>intro A i
  .refine aL (aG (bA (bK 1 (iE g i ?_))));rintro H i b4 V Z rfl R;refine cI st R (eF (bJ (bV .normal i (fun G L' w'=>∃z,L'=[(0,vS a1 p0 c1),(2,vS a2 p2 c2),(3,vI p3),(9,vP v 0),(10,vT G),(12,vI H),(40,vS k c.f l),(41,vI (c.2.2.2.2.length:Int)),(42,vI b.2)]/\m.le z/\St z (kB v (V9 c k l) 133::O) w'/\RepS C5 z a1 c1 p0/\RepS aD z a2 c2 p2/\RepS (aI .i64) z k l c.f) ?_ ?_)))
   .rintro G i _ w7 ⟨z,rfl,q,st,o,p,g⟩;refine bC (iN 4 (bI i (a st o p) ?_));rintro y2 i _ w8 ⟨Y,rfl,E,st⟩;refine eN i fun U i=>eD 1 (qI (cB 2 ?_));have hL:=M _ (sI i);exact cX ⟨(U,wr (b.2+1)),Y,hL,rfl,q.t E,st,o.o E,p.o E,g.o E⟩
   intro G i E;refine aK i ?_ ?_<;>intro A i
   .exact iN 1 (eN i fun U i=>eD 1 (xE (E i ⟨n,rfl,q,st,o,p,g⟩)))
   exact iL (E i ⟨n,rfl,q,st,o,p,g⟩)
  refine cV ?_;have ho:=K _ (sI i);exact cS (D rfl ⟨b.1,n,ho,rfl,q,st,g⟩)
 refine bF i ?_ ?_<;>intro A i
 .refine aC (cF st.h (bI i (qDa (p0:=c) st g) ?_));rintro U i _ w9 ⟨m7,rfl,H,st⟩;refine bH (cA (bJ (bV .normal i (fun o4 L' w'=>∃F,L'=[(0,vS a1 p0 c1),(2,vS a2 p2 c2),(3,vI p3),(9,vP v 0),(14,vI o4),(15,vI (wr (U+1)))]/\m.le F/\St F (kB v (V9 c k l) 133::O) w'/\RepS C5 F a1 c1 p0/\RepS aD F a2 c2 p2/\RepS (aI .i64) F k l c.f) ?_ ?_)))
  .rintro o4 i _ c7 ⟨F,rfl,q,st,o,p,g⟩;refine bC (eH [(26,fun w'=>Inv F w'/\Piece.holds F w' (kB v (V9 c k l) 133)/\True)] kr st fun c8 _ st=> ?_);have b:=F.le_refl;refine⟨aS (aF st b),aX 2 [0,1] (eI 2 eC ?_)⟩;have⟨x4,a5,i⟩:=aU i;refine mT (t:=22) (e:=3) (x:=(.tmp 71)) (y:=(.const (vI 0))) 3 72 (aI .i64) kr rfl kr (.head _) (bQ (aH eY)) (ev (vS k c.f l)) (ev (vI 0)) kr g a5 ?_;rintro b5 f4 c5 rfl a9;refine cR 4 a9 (aX 3 [5,6,10] (eI 11 eC (aX 2 [16,17] (eI 18 eC ?_))));have⟨x5,a6,i⟩:=aU i;refine mT (t:=22) (e:=3) (x:=(.tmp 87)) (y:=(.const (vI 1))) 19 88 (aI .i64) kr rfl kr (.head _) (bQ (aH eY)) (ev (vS k c.f l)) (ev (vI 1)) kr g a6 ?_;rintro b6 f5 c6 rfl b0;refine cR 20 b0 (aX 2 [21,22] (sZ [7,9] kr ae (sY ?_ ?_)))
   .refine cJ i (fun _ h=>a st o p h) ?_;rintro y4 i _ c0 ⟨m9,rfl,D,st⟩;refine⟨_,rfl,?_⟩;have q:=q.t D;have o:=o.o D;have p:=p.o D;have g:=g.o D;have b:=b.t D;refine⟨aS (aF st b),iI 9 9 76 ((.const (vT BH))) 8 77 i fun s6 i=>sZ [9,23] kr ae (sY ?_ ?_)⟩
    .refine oX (d:=78) (t:=50) (e:=9) (len:=8) (parts:= #[(0,(.const (vT eB))),(1,(.const (vT bp))),(2,(.const (vT bq))),(3,(.const (vT br))),(4,(.const (vT bs))),(5,(.const (vT bu))),(6,(.const (vT bv))),(7,(.const (vT bw)))]) aD (xs:=[eB,bp,bq,br,bs,bu,bv,bw]) [vT eB,vT bp,vT bq,vT br,vT bs,vT bu,vT bv,vT bw] kr rfl (fun _=>oY kr _) rfl rfl st ⟨[vT eB],_,rfl,rfl,⟨[vT bp],_,rfl,rfl,⟨[vT bq],_,rfl,rfl,⟨[vT br],_,rfl,rfl,⟨[vT bs],_,rfl,rfl,⟨[vT bu],_,rfl,rfl,⟨[vT bv],_,rfl,rfl,⟨[vT bw],_,rfl,rfl,rfl⟩⟩⟩⟩⟩⟩⟩⟩ fun V Y a0 n st Z=> ?_;have b:=b.t n;refine⟨aS (aF st b),?_⟩;have⟨R,a7,i⟩:=aU i;refine mT (t:=50) (e:=9) (x:=(.tmp 78)) (y:=(.tmp 80)) 12 81 aD kr rfl kr (.head _) (bQ (aH eY)) (ev (.slice (aP V) (List.length ([eB,bp,bq,br,bs,bu,bv,bw])) 8)) (ev (vI c.d.1)) kr Z a7 ?_;rintro G K a4 rfl B;refine sZ [13,23] kr ae (sY ?_ ?_)
     .refine EF (d:=82) (t:=9) (x:=(.tmp 81)) (vT R) kr rfl (ev (vP G K)) st B kr ?_;refine⟨aS (aF st b),iI 9 9 77 82 14 83 i fun s7 i=>iI 9 9 83 ((.const (vT BH))) 15 84 i fun s8 i=>aR 23 kr (cJ i (fun _ h=>a st (o.o n) (p.o n) h) ?_)⟩;rintro y5 i _ M ⟨z,rfl,s,st⟩;refine⟨_,rfl,?_⟩;have b:=b.t s;refine⟨aS (aF st b),iI 9 9 84 92 24 93 i fun E i=>aT 25 (cE kr ?_)⟩;have st:=st.t;exact iX (u i ⟨z,rfl,(q.t n).t s,st,(g.o n).o s⟩)
     replace i:=qBk i;refine cJ i (fun _ h=>a st (o.o n) (p.o n) h) ?_;rintro y5 i _ M ⟨z,rfl,s,st⟩;refine⟨_,rfl,?_⟩;have b:=b.t s;refine⟨aS (aF st b),aR 13 kr (EF (d:=82) (t:=9) (x:=(.tmp 81)) (vT R) kr rfl (ev (vP G K)) st (B.o s) kr ⟨aS (aF st b),iI 9 9 77 82 14 83 i fun s7 i=>iI 9 9 83 ((.const (vT BH))) 15 84 i fun s8 i=>iI 9 9 84 92 24 93 i fun E i=>aT 25 (cE kr ?_)⟩)⟩;have st:=st.t;exact iX (u i ⟨z,rfl,(q.t n).t s,st,(g.o n).o s⟩)
    replace i:=zFm i;refine cJ i (fun _ h=>a st o p h) ?_;rintro y5 i _ a0 ⟨Y,rfl,n,st⟩;refine⟨_,rfl,?_⟩;have b:=b.t n;refine⟨aS (aF st b),aR 9 kr (oX (d:=78) (t:=50) (e:=9) (len:=8) (parts:= #[(0,(.const (vT eB))),(1,(.const (vT bp))),(2,(.const (vT bq))),(3,(.const (vT br))),(4,(.const (vT bs))),(5,(.const (vT bu))),(6,(.const (vT bv))),(7,(.const (vT bw)))]) aD (xs:=[eB,bp,bq,br,bs,bu,bv,bw]) [vT eB,vT bp,vT bq,vT br,vT bs,vT bu,vT bv,vT bw] kr rfl (fun _=>oY kr _) rfl rfl st ⟨[vT eB],_,rfl,rfl,⟨[vT bp],_,rfl,rfl,⟨[vT bq],_,rfl,rfl,⟨[vT br],_,rfl,rfl,⟨[vT bs],_,rfl,rfl,⟨[vT bu],_,rfl,rfl,⟨[vT bv],_,rfl,rfl,⟨[vT bw],_,rfl,rfl,rfl⟩⟩⟩⟩⟩⟩⟩⟩ fun V z M s st Z=> ?_)⟩;have b:=b.t s;refine⟨aS (aF st b),?_⟩;have⟨R,a7,i⟩:=aU i;refine mT (t:=50) (e:=9) (x:=(.tmp 78)) (y:=(.tmp 80)) 12 81 aD kr rfl kr (.head _) (bQ (aH eY)) (ev (.slice (aP V) (List.length ([eB,bp,bq,br,bs,bu,bv,bw])) 8)) (ev (vI c.d.1)) kr Z a7 ?_;rintro G K a4 rfl B;refine aR 13 kr (EF (d:=82) (t:=9) (x:=(.tmp 81)) (vT R) kr rfl (ev (vP G K)) st B kr ⟨aS (aF st b),iI 9 9 77 82 14 83 i fun s7 i=>iI 9 9 83 ((.const (vT BH))) 15 84 i fun s8 i=>iI 9 9 84 92 24 93 i fun E i=>aT 25 (cE kr ?_)⟩);have st:=st.t;exact iX (u i ⟨z,rfl,(q.t n).t s,st,(g.o n).o s⟩)
   replace i:=qBk i;refine oX (d:=78) (t:=50) (e:=9) (len:=8) (parts:= #[(0,(.const (vT eB))),(1,(.const (vT bp))),(2,(.const (vT bq))),(3,(.const (vT br))),(4,(.const (vT bs))),(5,(.const (vT bu))),(6,(.const (vT bv))),(7,(.const (vT bw)))]) aD (xs:=[eB,bp,bq,br,bs,bu,bv,bw]) [vT eB,vT bp,vT bq,vT br,vT bs,vT bu,vT bv,vT bw] kr rfl (fun _=>oY kr _) rfl rfl st ⟨[vT eB],_,rfl,rfl,⟨[vT bp],_,rfl,rfl,⟨[vT bq],_,rfl,rfl,⟨[vT br],_,rfl,rfl,⟨[vT bs],_,rfl,rfl,⟨[vT bu],_,rfl,rfl,⟨[vT bv],_,rfl,rfl,⟨[vT bw],_,rfl,rfl,rfl⟩⟩⟩⟩⟩⟩⟩⟩ fun V m9 c0 D st Z=> ?_;have q:=q.t D;have o:=o.o D;have p:=p.o D;have g:=g.o D;have b:=b.t D;refine⟨aS (aF st b),?_⟩;have⟨R,a7,i⟩:=aU i;refine mT (t:=50) (e:=9) (x:=(.tmp 78)) (y:=(.tmp 80)) 12 81 aD kr rfl kr (.head _) (bQ (aH eY)) (ev (.slice (aP V) (List.length ([eB,bp,bq,br,bs,bu,bv,bw])) 8)) (ev (vI c.d.1)) kr Z a7 ?_;rintro G K a4 rfl B;refine sZ [7,13] kr ae (sY ?_ ?_)
   .refine cJ i (fun _ h=>a st o p h) ?_;rintro y4 i _ a0 ⟨Y,rfl,n,st⟩;refine⟨_,rfl,?_⟩;have b:=b.t n;refine⟨aS (aF st b),iI 9 9 76 ((.const (vT BH))) 8 77 i fun s6 i=>sZ [13,23] kr ae (sY ?_ ?_)⟩
    .refine EF (d:=82) (t:=9) (x:=(.tmp 81)) (vT R) kr rfl (ev (vP G K)) st (B.o n) kr ?_;refine⟨aS (aF st b),iI 9 9 77 82 14 83 i fun s7 i=>iI 9 9 83 ((.const (vT BH))) 15 84 i fun s8 i=>aR 23 kr (cJ i (fun _ h=>a st (o.o n) (p.o n) h) ?_)⟩;rintro y5 i _ M ⟨z,rfl,s,st⟩;refine⟨_,rfl,?_⟩;have b:=b.t s;refine⟨aS (aF st b),iI 9 9 84 92 24 93 i fun E i=>aT 25 (cE kr ?_)⟩;have st:=st.t;exact iX (u i ⟨z,rfl,(q.t n).t s,st,(g.o n).o s⟩)
    replace i:=qBk i;refine cJ i (fun _ h=>a st (o.o n) (p.o n) h) ?_;rintro y5 i _ M ⟨z,rfl,s,st⟩;refine⟨_,rfl,?_⟩;have b:=b.t s;refine⟨aS (aF st b),aR 13 kr (EF (d:=82) (t:=9) (x:=(.tmp 81)) (vT R) kr rfl (ev (vP G K)) st ((B.o n).o s) kr ⟨aS (aF st b),iI 9 9 77 82 14 83 i fun s7 i=>iI 9 9 83 ((.const (vT BH))) 15 84 i fun s8 i=>iI 9 9 84 92 24 93 i fun E i=>aT 25 (cE kr ?_)⟩)⟩;have st:=st.t;exact iX (u i ⟨z,rfl,(q.t n).t s,st,(g.o n).o s⟩)
   refine EF (d:=82) (t:=9) (x:=(.tmp 81)) (vT R) kr rfl (ev (vP G K)) st B kr ?_;refine⟨aS (aF st b),aR 7 kr (cJ i (fun _ h=>a st o p h) ?_)⟩;rintro y4 i _ a0 ⟨Y,rfl,n,st⟩;refine⟨_,rfl,?_⟩;have b:=b.t n;refine⟨aS (aF st b),iI 9 9 76 ((.const (vT BH))) 8 77 i fun s6 i=>iI 9 9 77 82 14 83 i fun s7 i=>iI 9 9 83 ((.const (vT BH))) 15 84 i fun s8 i=>aR 23 kr (cJ i (fun _ h=>a st (o.o n) (p.o n) h) ?_)⟩;rintro y5 i _ M ⟨z,rfl,s,st⟩;refine⟨_,rfl,?_⟩;have b:=b.t s;refine⟨aS (aF st b),iI 9 9 84 92 24 93 i fun E i=>aT 25 (cE kr ?_)⟩;have st:=st.t;exact iX (u i ⟨z,rfl,(q.t n).t s,st,(g.o n).o s⟩)
  intro o4 i b;refine aK i ?_ ?_<;>intro A i
  .exact cB 1 (xE (b i ⟨m7,rfl,q.t H,st,o.o H,p.o H,g.o H⟩))
  exact iL (b i ⟨m7,rfl,q.t H,st,o.o H,p.o H,g.o H⟩)
 refine bF i ?_ ?_<;>intro A i
 .refine eH [(27,fun w'=>Inv m w'/\Piece.holds m w' (kB v (V9 c k l) 133)/\True)] kr st fun c8 _ st=> ?_;have b:=m.le_refl;refine⟨aS (aF st b),aX 2 [0,1] (eI 2 eC ?_)⟩;have⟨Y,B,i⟩:=aU i;refine mT (t:=22) (e:=3) (x:=(.tmp 98)) (y:=(.const (vI 0))) 3 99 (aI .i64) kr rfl kr (.head _) (bQ (aH eY)) (ev (vS k c.f l)) (ev (vI 0)) kr g B ?_;rintro b9 R a5 rfl F;refine cR 4 F (aX 3 [5,9,10] (eI 11 eC ?_));have⟨Z,D,i⟩:=aU i;refine mT (t:=22) (e:=3) (x:=(.tmp 107)) (y:=(.const (vI 1))) 12 108 (aI .i64) kr rfl kr (.head _) (bQ (aH eY)) (ev (vS k c.f l)) (ev (vI 1)) kr g D ?_;rintro a0 U a6 rfl G;refine cR 13 G (aX 3 [14,18,19] (eI 20 eC ?_));have⟨x9,E,i⟩:=aU i;refine mT (t:=22) (e:=3) (x:=(.tmp 116)) (y:=(.const (vI 2))) 21 117 (aI .i64) kr rfl kr (.head _) (bQ (aH eY)) (ev (vS k c.f l)) (ev (vI 2)) kr g E ?_;rintro a4 V a7 rfl H;refine cR 22 H (aT 23 (aR 6 kr (cJ i (fun _ h=>a st o p h) ?_)));rintro y6 i _ c9 ⟨a9,rfl,n,st⟩;refine⟨_,rfl,?_⟩;have b:=b.t n;refine⟨aS (aF st b),iI 9 9 ((.const (vT (⟨#[105,102,32]⟩:BA)))) 102 7 103 i fun c0 i=>iI 9 9 103 ((.const (vT (⟨#[32,116,104,101,110,32]⟩:BA)))) 8 104 i fun c5 i=>aR 15 kr (cJ i (fun _ h=>a st (o.o n) (p.o n) h) ?_)⟩;rintro y7 i _ d1 ⟨b0,rfl,s,st⟩;refine⟨_,rfl,?_⟩
  have b:=b.t s;refine⟨aS (aF st b),iI 9 9 104 111 16 112 i fun c6 i=>iI 9 9 112 ((.const (vT (⟨#[32,101,108,115,101,32]⟩:BA)))) 17 113 i fun c7 i=>aR 24 kr (cJ i (fun _ h=>a st ((o.o n).o s) ((p.o n).o s) h) ?_)⟩;rintro y8 i _ d2 ⟨K,rfl,z,st⟩;refine⟨_,rfl,?_⟩;have b:=b.t z;exact⟨aS (aF st b),iI 9 9 113 120 25 121 i fun M i=>aT 26 (cE kr (iX (u i ⟨K,rfl,((q.t n).t s).t z,st,((g.o n).o s).o z⟩)))⟩
 refine bF i ?_ ?_<;>intro A i
 .refine eH [(14,fun w'=>Inv m w'/\Piece.holds m w' (kB v (V9 c k l) 133)/\True)] kr st fun U _ st=> ?_;have b:=m.le_refl;refine⟨aS (aF st b),aT 0 (eI 1 eC (iI 9 9 ((.const (vT (⟨#[114,101,97,100,40,34]⟩:BA)))) 125 2 126 i fun K i=>iI 9 9 126 ((.const (vT (⟨#[34,44,32]⟩:BA)))) 3 127 i fun M i=>aX 2 [4,5] (eI 6 eC ?_)))⟩;have⟨F,z,i⟩:=aU i;refine mT (t:=22) (e:=3) (x:=(.tmp 130)) (y:=(.const (vI 0))) 7 131 (aI .i64) kr rfl kr (.head _) (bQ (aH eY)) (ev (vS k c.f l)) (ev (vI 0)) kr g z ?_;rintro H B G rfl s;refine cR 8 s (aT 9 (aR 10 kr (cJ i (fun _ h=>a st o p h) ?_)));rintro Y i _ V ⟨D,rfl,n,st⟩;refine⟨_,rfl,?_⟩;have b:=b.t n;exact⟨aS (aF st b),iI 9 9 127 134 11 135 i fun R i=>iI 9 9 135 ((.const (vT bo))) 12 136 i fun E i=>aT 13 (cE kr (iX (u i ⟨D,rfl,q.t n,st,g.o n⟩)))⟩
 refine bF i ?_ ?_<;>intro A i
 .exact tV (aV 1 st.h (eN i fun n i=>eN i fun b i=>eD 1 (iX (u i ⟨m,rfl,q,st,g⟩))))
 refine bF i ?_ ?_<;>intro A i
 .exact tV (aV 1 st.h (eN i fun n i=>eN i fun b i=>eD 1 (iX (u i ⟨m,rfl,q,st,g⟩))))
 refine bF i ?_ ?_<;>intro A i
 .exact tV (aV 1 st.h (eN i fun n i=>eN i fun b i=>eD 1 (iX (u i ⟨m,rfl,q,st,g⟩))))
 refine bF i ?_ ?_<;>intro A i
 .refine tV (aV 1 st.h (bI i (VW st) ?_));rintro D i _ B ⟨n,rfl,b,st⟩;exact eN i fun z i=>eN i fun s i=>eD 1 (iX (u i ⟨n,rfl,q.t b,st,g.o b⟩))
 exact oQ (iX (u i ⟨m,rfl,q,st,g⟩))
theorem qCt(N:Nat):∀D:Nat,(∀{m:Mem} {O:List Piece} {w:World} {p0:eX} {p1:Int} {p2:Tb} {p3:Int} {a:Option Addr} {c:Nat} {b:Option Addr} {d:Nat} {r:BA} (st:St m (O) w) (f:RepS C5 m a c p0) (g:RepS aD m b d p2) (i:(DW N D) p0 p1 p2 p3=some r),Calls prog 137 #[vS a p0 c,vI p1,vS b p2 d,vI p3] w fun e w'=>∃m',eU m m' e (vT r) (O) w')
 |0=>fun _ _ _ i=>(by cases i)
 |D+1=>fun st f g i=>qRy (qCt N D) st f g i
theorem qSo{p0:eX}{p1:Int}{p2:Tb}{p3:Int}{r:BA}(st:St m (O) w)(a:RepS C5 m a1 c1 p0)(b:RepS aD m a2 c2 p2)(i:SA N p0 p1 p2 p3=some r):Calls prog 137 #[vS a1 p0 c1,vI p1,vS a2 p2 c2,vI p3] w fun e w'=>∃m',eU m m' e (vT r) (O) w':=
 (qCt N N) st a b i
def DV(N:Nat)(p0:DQ)(a:Tp):Option Tq:=
 if(decide (a.2<(List.length p0.2.2.1:Int)))then((aO p0.2.2.1 a.2).bind fun c=>(if(decide (a.2>0))then((bG a.1 (⟨#[44,32]⟩:BA)).bind fun b=>some b) else(some a.1):Tl).bind fun b=>(bG b c).bind fun b=>some (.inl (b,IntKind.wrap .i64 (a.2+1)))) else(some (.inr a.1))
def MA(N:Nat)(p0:DQ):Tl:=
 (if(p0.1==1)then((bG (⟨#[102,117,110,99,32]⟩:BA) p0.2.1).bind fun s1=>(bG s1 (⟨#[40]⟩:BA)).bind fun a=>(aB (DV N p0) N (a,0)).bind fun o2=>(bG o2 (⟨#[41]⟩:BA)).bind fun a=>some a) else(if(p0.1==2)then((bG (⟨#[116,101,115,116,32]⟩:BA) p0.2.1).bind fun a=>some a) else(if(p0.1==3)then((bG (⟨#[103,101,110,32,34]⟩:BA) p0.2.1).bind fun a=>(bG a (⟨#[34]⟩:BA)).bind fun a=>some a) else(some (⟨#[]⟩:BA)))):Tl).bind fun a=>(bG a (⟨#[32,61,32]⟩:BA)).bind fun a=>(SA N p0.2.2.2 (IntKind.wrap .i64 ((List.length p0.2.2.2:Int)-1)) p0.2.2.1 0).bind fun y1=>(bG a y1).bind fun a=>(bG a (⟨#[59,10]⟩:BA)).bind fun a=>some a
theorem qSs{p0:DQ}{r:BA}(st:St m (O) w)(b:RepS aD m a1 c1 p0.d.1)(f:RepS C5 m a2 c2 p0.e)(i:MA N p0=some r):Calls prog 118 #[.agg (V8 p0 a1 c1 a2 c2)] w fun e w'=>∃m',eU m m' e (vT r) (O) w':=by
 refine bY st func118 rfl ntmps118 fun q=>aC (iK 1 109 (.agg (V8 p0 a1 c1 a2 c2)) st fun c v V D st a=> ?_);have q:=q.t D;have b:=b.o D;have f:=f.o D;refine bH (cA (iQ 1 st a (aJ (bV .normal i (fun x L' w'=>∃p,L'=[(1,vP c 0),(3,vT x)]/\m.le p/\St p (O) w'/\MRow p c 0 (Vc p0 a1 c1 a2 c2)/\P2 p a1 c1 a2 c2 p0.d) ?_ ?_))))
 .rintro x i _ o ⟨p,rfl,q,st,a,b,f⟩;refine yG 1 (eN i fun l i=>cW 1 st (a.drop 3) (cW 1 st (a.drop 3) (cW 3 st (a.drop 2) (bI i (qSo st f b) ?_))));rintro y1 i _ s ⟨k,rfl,h,st⟩;refine eN i fun n i=>eN i fun g i=>bH ?_;obtain rfl:=sI i;exact lY ⟨k,rfl,q.t h,st⟩
 intro x i l;refine bA (bF i ?_ ?_)<;>intro A i
 .refine iQ 1 st (a.drop 1) (eN i fun s1 i=>eN i fun H i=>eF (iQ 1 st (a.drop 2) (lL (bV (.exit 1) i (fun h L' w'=>∃(o2:BA),∃n,o2=h/\L'=[(1,vP c 0),(3,vT o2)]/\m.le n/\St n (O) w'/\MRow n c 0 (Vc p0 a1 c1 a2 c2)/\P2 n a1 c1 a2 c2 p0.d) ?_ ?_))))
  .rintro h i _ k ⟨o2,n,rfl,rfl,q,st,a,b,f⟩;exact eS (iN 1 (eN i fun g i=>eD 1 (iX (l i ⟨n,rfl,q,st,a,b,f⟩))))
  intro h i s;refine cY (fun u L' w'=>∃(g:Tp),∃k,aB (DV N p0) u g=some h/\L'=[(1,vP c 0),(3,vT g.1),(15,vS a1 p0.d.1 c1),(16,vI (p0.2.2.1.length:Int)),(17,vI g.2)]/\m.le k/\St k (O) w'/\MRow k c 0 (Vc p0 a1 c1 a2 c2)/\P2 k a1 c1 a2 c2 p0.d) N ⟨(H,0),v,i,rfl,q,st,a,b,f⟩ ?_;rintro u _ Y ⟨g,k,hL,rfl,q,st,a,b,f⟩;obtain⟨u,S,rfl,i,F,E⟩:=cZ hL;refine cA (aK i ?_ ?_)<;>intro A i
  .refine aL (aG (bA (bK 1 (iE b i ?_))));rintro z i U K R rfl G;refine cI st G (eF (bJ (bV .normal i (fun y L' w'=>∃o,L'=[(1,vP c 0),(3,vT y),(5,vT z),(15,vS a1 p0.d.1 c1),(16,vI (p0.2.2.1.length:Int)),(17,vI g.2)]/\m.le o/\St o (O) w'/\MRow o c 0 (Vc p0 a1 c1 a2 c2)/\P2 o a1 c1 a2 c2 p0.d) ?_ ?_)))
   .rintro y i _ M ⟨o,rfl,q,st,a,b,f⟩;refine bC (iN 2 (eN i fun B i=>eD 1 (qI (cB 2 ?_))));have hL:=F _ (sI i);exact cX ⟨(B,wr (g.2+1)),o,hL,rfl,q,st,a,b,f⟩
   intro y i B;refine aK i ?_ ?_<;>intro A i
   .exact iN 1 (eN i fun M i=>eD 1 (xE (B i ⟨k,rfl,q,st,a,b,f⟩)))
   exact iL (B i ⟨k,rfl,q,st,a,b,f⟩)
  refine cV ?_;have ho:=E _ (sI i);exact cS (s rfl ⟨g.1,k,ho,rfl,q,st,a,b,f⟩)
 refine bF i ?_ ?_<;>intro A i
 .exact iN 1 (cI st (a.drop 1) (eN i fun g i=>eD 1 (iX (l i ⟨v,rfl,q,st,a,b,f⟩))))
 refine bF i ?_ ?_<;>intro A i
 .exact iN 1 (cI st (a.drop 1) (eN i fun h i=>eN i fun g i=>eD 1 (iX (l i ⟨v,rfl,q,st,a,b,f⟩))))
 exact oQ (iX (l i ⟨v,rfl,q,st,a,b,f⟩))
def HG(N:Nat)(p0:eL)(p1:Int):Option Tp:=
 (LT N p0).bind fun y1=>if(y1 !=0)then(some ((⟨#[]⟩:BA),y1)) else((if(decide (p1<0))then(some true) else(some (decide (p1>=(List.length p0.2.2:Int)))):Tk).bind fun a=>if a then(some ((⟨#[]⟩:BA),3)) else((aO p0.2.2 p1).bind fun a=>(MB N p0).bind fun b=>(MA N a).bind fun a=>(bG b a).bind fun s1=>some (s1,0)))
theorem qSu{p0:eL}{p1:Int}{r:Tp}(st:St m (O) w)(f:RepS aD m a1 c1 p0.2.1)(d:RepS C6 m a2 c2 p0.2.2)(i:HG N p0 p1=some r):Calls prog 86 #[.agg (V7 p0 a1 c1 a2 c2),vI p1] w fun e w'=>∃m',eU m m' e (.tuple #[vT r.1,vI r.2]) (O) w':=by
 refine bY st func86 rfl ntmps86 fun q=>aC (iK 2 78 (.agg (V7 p0 a1 c1 a2 c2)) st fun k V Z n st b=> ?_);have f:=f.o n;have d:=d.o n;refine eF (aC (cI st b (bI i (qSq (p0:=p0) st f d) ?_)));rintro y1 i _ w2 ⟨o,rfl,g,st⟩;have q:=(q.t n).t g;have b:=b.o g;refine bH (bF i ?_ ?_)<;>intro A i
 .obtain rfl:=sI i;exact cO ⟨o,rfl,q,st⟩
 refine aL (aG (aC (iG 9 i (fun p L' w'=>∃c,L'=[(1,vI p1),(2,vP k 0),(20,vB p)]/\m.le c/\St c (O) w'/\MRow c k 0 (Vb p0 a1 c1 a2 c2)/\P5 c a1 c1 a2 c2 p0.2) ?_ ?_)))
 .rintro p i _ w3 ⟨c,rfl,q,st,b,f,d⟩;refine aJ (aK i ?_ ?_)<;>intro A i
  .cases i;exact cO ⟨c,rfl,q,st⟩
  refine aL (aG (eH [(11,fun w'=>Inv c w'/\True)] kr st fun w4 _ st=> ?_));have a:=c.le_refl;refine tA st a (cR 0 b (aT 2 (cR 3 (b.drop 2) (aT 4 ?_))));have⟨z,v,i⟩:=aU i;refine mT (t:=76) (e:=109) (x:=(.tmp 24)) (y:=(.tmp 25)) 5 26 C6 kr rfl kr (.head _) (aH eY) (ev (vS a2 p0.2.2 c2)) (ev (vI p1)) kr d v ?_;rintro U G S ⟨_,_,rfl,rfl,⟨_,_,rfl,rfl,⟨_,_,rfl,⟨B,E,rfl,M⟩,⟨D,F,rfl,R⟩⟩⟩⟩ u;refine cR 6 u (aR 1 kr (cJ i (fun _ h=>qSy (p0:=p0) st f d h) ?_));rintro y2 i _ w5 ⟨Y,rfl,l,st⟩;refine⟨_,rfl,?_⟩;have a:=a.t l;refine tA st a (aR 7 kr (cJ i (fun _ h=>qSs (p0:=z) st (M.o l) (R.o l) h) ?_));rintro y3 i _ w6 ⟨H,rfl,s,st⟩;refine⟨_,rfl,?_⟩;have a:=a.t s;refine tA st a (iI 9 9 22 28 8 29 i fun s1 i=>aX 2 [9,10] (cE kr ?_));obtain rfl:=sI i;exact mM ⟨H,rfl,(q.t l).t s,st⟩
 intro p i K;refine bP 3 14 i ?_ ?_<;>intro A i
 .exact aM 6 (K i ⟨o,rfl,q,st,b,f.o g,d.o g⟩)
 exact cW 2 st (b.drop 2) (aM 3 (K i ⟨o,rfl,q,st,b,f.o g,d.o g⟩))
def tT(N:Nat)(p0:mQ)(p1:Int)(p2:BA)(p3:BA):Tl:=
 (wP N p0 p1 p2 p3).bind fun y1=>if(y1.2.2.2.2.2==0)then(some (⟨#[45]⟩:BA)) else(if(decide (y1.2.2.2.2.2>1))then(some (⟨#[63]⟩:BA)) else((BX N p0 y1).bind fun a=>(HG N a.1 a.2).bind fun a=>(bG (⟨#[61]⟩:BA) a.1).bind fun s1=>some s1))
theorem VV{p0:mQ}{p1:Int}{p2:BA}{p3:BA}{r:BA}(st:St m (O) w)(o:RepS aD m a1 c1 p0.1)(p:RepS C7 m a2 c2 p0.2)(i:tT N p0 p1 p2 p3=some r):Calls prog 60 #[.agg (Vd p0 a1 c1 a2 c2),vI p1,vT p2,vT p3] w fun e w'=>∃m',eU m m' e (vT r) (O) w':=by
 refine bY st func60 rfl ntmps60 fun q=>aC (iK 4 84 (.agg (Vd p0 a1 c1 a2 c2)) st fun B F H b st d=>vA (cI st d (eR 3 i (QT (p0:=p0) st (o.o b) (p.o b)) ?_)));rintro y1 i _ K ⟨n,rfl,c,st⟩;have q:=(q.t b).t c;refine eE 9 74 (.agg lU) st fun D M st=>cL (.agg (Ve y1)) st fun R st=>aJ (aG (bA (aC (aV 1 st.h (eK i ?_ ?_)))))<;>intro A i
 .cases i;exact cO ⟨n,rfl,q,st.t⟩
 refine aC (aV 1 st.h (eK i ?_ ?_))<;>intro A i
 .cases i;exact cO ⟨n,rfl,q,st.t⟩
 refine lC (aC (cI st (d.o c) (cF st.h (bI i (AB (p0:=p0) (p1:=y1) st ((o.o b).o c) ((p.o b).o c)) ?_))));rintro a i _ S ⟨f,k,g,l,G,rfl,u,st,y,z⟩;refine cH 3 (eE 10 78 (.agg #[vT eB,v6,v6]) st fun E U st=>cL (.agg (V7 a.1 f k g l)) st fun V st=>vA (cF st.h (eR 1 i (qSu (p0:=a.1) st y z) ?_)));rintro s i _ Y ⟨x,rfl,v,st⟩;refine bH (bK 1 (eN i fun s1 i=>bH ?_));obtain rfl:=sI i;exact lY ⟨x,rfl,(q.t u).t v,st.t.t⟩
def KL(N:Nat)(s1:Int×Tv):Option (Int×Tv⊕Int×Tv):=
 if(decide (s1.1>=128))then((iU 1 s1.2 ([xC (IntKind.wrap .u8 ((IntKind.wrap .u8 (Int.tmod s1.1 128))+128))])).bind fun a=>some (.inl (IntKind.wrap .u64 (Int.tdiv s1.1 128),a))) else(some (.inr s1))
def RO(N:Nat)(p0:Tv)(p1:Int):Option Tv:=
 (iU 1 ([]:Tv) p0).bind fun a=>(aB (KL N) N (p1,a)).bind fun a=>(iU 1 a.2 ([xC (IntKind.wrap .u8 a.1)])).bind fun a=>some a
theorem qSa{p0:Tv}{p1:Int}{r}(st:St m (O) w)(S:RepS cU8 m a1 c1 p0)(i:RO N p0 p1=some r):Calls prog 89 #[vS a1 p0 c1,.int .u64 p1] w fun e w'=>∃l n m',eA m m' e (vS l r n) (kR l r n 5 1::O) w' (RepS cU8 m' l n r):=by
 refine bY st func89 rfl ntmps89 fun q=>bJ (bK 1 (pL 7 124 124 5 1 ((.const (v6))) 6 (st.nilroom 5 1) (.inl kr) (RepS.nil _ _) S.src i fun E i x z M w1 H st U=>eF (bA (bV (.exit 0) i (fun b L' w'=>∃(a:Int×Tv),∃g h s,a=b/\L'=[(1,.int .u64 a.1),(5,vS g a.2 h)]/\m.le s/\St s (kR g a.2 h 5 1::O) w'/\RepS cU8 s g h a.2) ?_ ?_))))
 .rintro b i _ G ⟨a,g,h,s,rfl,rfl,q,st,v⟩;refine eS (bK 3 (cU (oX (d:=22) (t:=124) (e:=5) (len:=1) (parts:= #[(0,(.tmp 21))]) cU8 (xs:=[xC (IntKind.wrap .u8 a.1)]) [.int .u8 (IntKind.wrap .u8 a.1)] kr rfl (fun _=>oY kr _) rfl rfl st ⟨[.int .u8 (IntKind.wrap .u8 a.1)],_,rfl,(qFa _),rfl⟩ fun D F K k st y=>pL 23 124 124 5 1 19 22 st.f1 (.inl kr) (v.o k) y.src i fun o i c f u R p st B=>eD 1 ?_)));have st:=st.f1.t;obtain rfl:=sI i;exact mM ⟨c,f,u,rfl,(q.t k).t p,st,B⟩
 intro b i o;refine cY (fun p L' w'=>∃(s1:Int×Tv),∃c f k,aB (KL N) p s1=some b/\L'=[(1,.int .u64 s1.1),(5,vS c s1.2 f)]/\m.le k/\St k (kR c s1.2 f 5 1::O) w'/\RepS cU8 k c f s1.2) N ⟨(p1,E),x,z,M,i,rfl,q.t H,st,U⟩ ?_;rintro p _ w3 ⟨s1,c,f,k,hL,rfl,q,st,G⟩;obtain⟨p,Z,rfl,i,v,u⟩:=cZ hL;refine aG (bF i ?_ ?_)<;>intro A i
 .refine aL (bA (bK 5 (cU (oX (d:=15) (t:=124) (e:=5) (len:=1) (parts:= #[(0,(.tmp 14))]) cU8 (xs:=[xC (IntKind.wrap .u8 ((IntKind.wrap .u8 (Int.tmod s1.1 128))+128))]) [.int .u8 (IntKind.wrap .u8 ((IntKind.wrap .u8 (Int.tmod s1.1 128))+128))] kr rfl (fun _=>oY kr _) rfl rfl st ⟨[.int .u8 (IntKind.wrap .u8 ((IntKind.wrap .u8 (Int.tmod s1.1 128))+128))],_,rfl,(qFa _),rfl⟩ fun b1 m4 w4 D st V=>pL 16 124 124 5 1 10 15 st.f1 (.inl kr) (G.o D) V.src i fun F i y B R w5 K st Y=>eD 1 ?_))));have st:=st.f1.t;refine bC (cB 3 (nA ?_));have hL:=v _ (sI i);exact cX ⟨(IntKind.wrap .u64 (Int.tdiv s1.1 128),F),y,B,R,hL,rfl,(q.t D).t K,st,Y⟩
 refine cV ?_;have ho:=u _ (sI i);exact cS (o rfl ⟨s1,c,f,k,ho,rfl,q,st,G⟩)
def DX(N:Nat)(p0:Tv)(p1:BA):Option Tv:=
 (RO N p0 (IntKind.wrap .u64 (ByteArray.size p1:Int))).bind fun y1=>(iU 1 y1 p1.data.toList).bind fun a=>some a
theorem QS{p0:Tv}{p1:BA}{r}(st:St m (O) w)(l:RepS cU8 m a1 c1 p0)(i:DX N p0 p1=some r):Calls prog 66 #[vS a1 p0 c1,vT p1] w fun e w'=>∃a b m',eA m m' e (vS a r b) (kR a r b 5 1::O) w' (RepS cU8 m' a b r):=by
 refine bY st func66 rfl ntmps66 fun q=>bJ (aY 4 i (qSa st l) ?_);rintro y1 i _ v ⟨p,s,u,rfl,g,st,n⟩;refine cH 1 (pL 11 124 9 5 1 9 10 st (.inr kr) n (Gives.str _) i fun f i c d k x h st o=>bH ?_);obtain rfl:=sI i;exact lY ⟨c,d,k,rfl,(q.t g).t h,st,o⟩
end
section
open Go Go.Dc Go.Proofs.Tryz
set_option maxHeartbeats 4000000
set_option maxRecDepth 100000
variable {N c1 c2 c3 c4:Nat} {m:Mem} {O:List Piece} {w:World} {a1 a2 a3 a4:Option Addr}
def KS(N:Nat)(p0:Ts)(p1:mQ)(p2:BA)(s1:KB):Option (KB⊕Tv):=
 if(decide (s1.2<(List.length p1.2:Int)))then(((aO p1.2 s1.2).bind fun a=>if(a.1.toList==p2.toList)then((aO p1.1 s1.2).bind fun a=>(uR N p0 a).bind fun y1=>(aO p1.1 s1.2).bind fun a=>(DX N s1.1 a).bind fun a=>(DX N a y1.1).bind fun a=>some a) else(some s1.1):Option Tv).bind fun o2=>some (.inl (o2,IntKind.wrap .i64 (s1.2+1)))) else(some (.inr s1.1))
def HD(N:Nat)(p0:Ts)(p1:mQ)(p2:BA):Tl:=
 (aB (KS N p0 p1 p2) N (([]:Tv),0)).bind fun a=>(bG (⟨#[61]⟩:BA) (eJ a)).bind fun a=>some a
theorem qDd{p0:Ts}{p1:mQ}{p2:BA}{r:BA}(st:St m (O) w)(v:RepS C1 m a1 c1 p0)(n:RepS aD m a2 c2 p1.1)(z:RepS C7 m a3 c3 p1.2)(i:HD N p0 p1 p2=some r):Calls prog 64 #[.agg #[vS a1 p0 c1],.agg (Vd p1 a2 c2 a3 c3),vT p2] w fun e w'=>∃m',eU m m' e (vT r) (O) w':=by
 refine bY st func64 rfl ntmps64 fun q=>aC (iK 3 28 (.agg #[vS a1 p0 c1]) st fun S m1 w1 U st c=>iK 4 84 (.agg (Vd p1 a2 c2 a3 c3)) st fun p m2 w2 K st a=>bH (cA (iQ 1 st (a.drop 1) (lL (bV (.exit 0) i (fun l L' w'=>∃(u:Tv),∃B D M,u=l/\L'=[(7,vS B u D)]/\m.le M/\St M (kR B u D 5 1::O) w'/\RepS cU8 M B D u) ?_ ?_)))))
 .rintro l i _ g ⟨u,B,D,M,rfl,rfl,q,st,f⟩;refine eS (bK 1 (cU (WU (d:=45) (t1:=124) (t2:=9) (e:=5) (x:=(.tmp 44)) kr rfl (ev (vS B u D)) kr kr st f (eN i fun b i=>eD 1 ?_))));have st:=st.t;obtain rfl:=sI i;exact mM ⟨M,rfl,q,st⟩
 intro l i R;refine cY (fun V L' w'=>∃(s1:KB),∃o s b,aB (KS N p0 p1 p2) V s1=some l/\L'=[(2,vT p2),(3,vP S 0),(4,vP p 0),(7,vS o s1.1 s),(13,vS a3 p1.2 c3),(14,vI (p1.2.length:Int)),(15,vI s1.2)]/\m.le b/\St b (kR o s1.1 s 5 1::O) w'/\MRow b S 0 [vS a1 p0 c1]/\RepS C1 b a1 c1 p0/\MRow b p 0 (Vg p1 a2 c2 a3 c3)/\RepS aD b a2 c2 p1.1/\RepS C7 b a3 c3 p1.2/\RepS cU8 b o s s1.1) N ⟨(([]:Tv),0),none,0,m2,i,rfl,(q.t U).t K,(st.nilroom 5 1),c.o K,(v.o U).o K,a,(n.o U).o K,(z.o U).o K,(RepS.nil _ _)⟩ ?_;rintro V _ w4 ⟨s1,o,s,b,hL,rfl,q,st,c,v,a,n,z,r5⟩;obtain⟨V,d7,rfl,i,b8,b7⟩:=cZ hL;refine cA (aK i ?_ ?_)<;>intro A i
 .refine aL (aG (bV .normal i (fun o2 L' w'=>∃G H g,L'=[(2,vT p2),(3,vP S 0),(4,vP p 0),(7,vS G o2 H),(13,vS a3 p1.2 c3),(14,vI (p1.2.length:Int)),(15,vI s1.2)]/\m.le g/\St g (kR G o2 H 5 1::O) w'/\MRow g S 0 [vS a1 p0 c1]/\RepS C1 g a1 c1 p0/\MRow g p 0 (Vg p1 a2 c2 a3 c3)/\RepS aD g a2 c2 p1.1/\RepS C7 g a3 c3 p1.2/\RepS cU8 g G H o2) ?_ ?_))
  .rintro o2 i _ k ⟨G,H,g,rfl,q,st,c,v,a,n,z,f⟩;refine bC (cB 2 ?_);have hL:=b8 _ (sI i);exact cX ⟨(o2,wr (s1.2+1)),G,H,g,hL,rfl,q,st,c,v,a,n,z,f⟩
  intro o2 i Z;refine bA (bK 1 (iE z i ?_));rintro Y i b3 f1 d4 ⟨_,_,rfl,rfl,⟨_,_,rfl,⟨a7,c7,rfl,r7⟩,⟨a8,c8,rfl,r8⟩⟩⟩ b9;refine cI st b9 (eE 9 78 (.agg #[vT eB,v6,v6]) st fun b4 w6 st=>cH 1 (cL (.agg (V7 Y a7 c7 a8 c8)) st fun w7 st=>aJ (aC (aV 1 st.h (eK i ?_ ?_)))))<;>intro A i
  .refine aG (eH [(12,fun w'=>Inv b w'/\True)] kr st fun w8 _ st=> ?_);have k:=b.le_refl;refine tA st k (cR 0 c (aT 1 (cR 2 a (aT 3 ?_))));have⟨x2,d2,i⟩:=aU i;refine mT (t:=50) (e:=9) (x:=(.tmp 27)) (y:=(.tmp 28)) 4 29 aD kr rfl kr (.head _) (aH (bQ (aH (aH (bQ (aH eY)))))) (ev (vS a2 p1.1 c2)) (ev (vI s1.2)) kr n d2 ?_;rintro b5 f2 d5 rfl c0;refine cR 5 c0 (aR 6 kr (cJ i (fun _ h=>BU st v h) ?_));rintro y1 i _ w9 ⟨m6,rfl,f,st⟩;refine⟨_,rfl,?_⟩;have k:=k.t f;refine tA st k (aX 5 [7,8,9,10,11] (cE kr (bC (iN 2 (cI st (a.o f) (cH 1 (iE (n.o f) i ?_)))))));rintro x3 i b6 f3 d6 rfl d1;refine cI st d1 (bI i (QS st (r5.o f)) ?_);rintro y2 i _ d8 ⟨a9,c9,m7,rfl,E,st,r9⟩;refine eR 1 i (QS st r9) ?_;rintro y3 i _ d9 ⟨a0,b0,m8,rfl,F,st,d3⟩;refine eD 1 ?_;have st:=st.f1.t.f2.t;exact iX (Z i ⟨a0,b0,m8,rfl,((q.t f).t E).t F,st.f1.t,((c.o f).o E).o F,((v.o f).o E).o F,((a.o f).o E).o F,((n.o f).o E).o F,((z.o f).o E).o F,d3⟩)
  exact oQ (iX (Z i ⟨o,s,b,rfl,q,st.t,c,v,a,n,z,r5⟩))
 refine cV ?_;have ho:=b7 _ (sI i);exact cS (R rfl ⟨s1.1,o,s,b,ho,rfl,q,st,r5⟩)
def LG(N:Nat)(b:rL)(c:BA)(a:Int):Tj:=
 if(decide (a<((List.length b.1):Int)))then((aO b.1 a).bind fun b=>if(b.toList==c.toList)then(some (.inr (.inr (true)))) else(some (.inl (IntKind.wrap .i64 (a+1))))) else(some (.inr (.inl ())))
def RG(N:Nat)(s1:rL)(b:eL)(a:rL):Option (rL⊕Tb):=
 if(decide (a.2<(List.length b.2.1:Int)))then(((aO b.2.1 a.2).bind fun c=>((aO a.1 s1.2).bind fun d=>if(b.1.toList==d.toList)then(((aB (LG N a c) N 0).bind fun b=>(match b with| .inl b=>some false| .inr (z)=>some z):Tk).bind fun b=>some (!b)) else(some false):Tk).bind fun b=>if b then((iU 16 a.1 ([c])).bind fun b=>some b) else(some a.1):Tc).bind fun b=>some (.inl (b,IntKind.wrap .i64 (a.2+1)))) else(some (.inr a.1))
def RP(N:Nat)(p0:mQ)(s1:rL)(a:rL):Option (rL⊕Tb):=
 if(decide (a.2<(List.length p0.2:Int)))then((aO p0.2 a.2).bind fun b=>(aB (RG N s1 b) N (a.1,0)).bind fun b=>some (.inl (b,IntKind.wrap .i64 (a.2+1)))) else(some (.inr a.1))
def WI(N:Nat)(p0:mQ)(s1:rL):Option (rL⊕Tb):=
 if(decide (s1.2<((List.length s1.1):Int)))then((aB (RP N p0 s1) N (s1.1,0)).bind fun o2=>some (.inl (o2,IntKind.wrap .i64 (s1.2+1)))) else(some (.inr s1.1))
def RK(N:Nat)(a:GD):Option (GD⊕Tb):=
 (if(decide (a.1>0))then((aO a.2 a.1).bind fun b=>(aO a.2 (IntKind.wrap .i64 (a.1-1))).bind fun c=>some (Op.bytesLess b.toList c.toList)) else(some false):Tk).bind fun b=>if b then((aO a.2 (IntKind.wrap .i64 (a.1-1))).bind fun b=>(aO a.2 a.1).bind fun c=>(aO a.2 a.1).bind fun d=>(aO (List.set a.2 (Int.toNat a.1) b) (IntKind.wrap .i64 (a.1-1))).bind fun d=>some (.inl (IntKind.wrap .i64 (a.1-1),List.set (List.set a.2 (Int.toNat a.1) b) (Int.toNat (IntKind.wrap .i64 (a.1-1))) c))) else(some (.inr a.2))
def WH(N:Nat)(b:Tb)(a:GD):Option (GD⊕Tb):=
 if(decide (a.1<((List.length b):Int)))then((aB (RK N) N a).bind fun b=>some (.inl (IntKind.wrap .i64 (a.1+1),b))) else(some (.inr a.2))
def SG(N:Nat)(p0:mQ)(p1:BA):Tc:=
 (aB (WI N p0) N (([p1]:Tb),0)).bind fun a=>(aB (WH N a) N (0,a)).bind fun a=>some a
theorem qSz{p0:mQ}{p1:BA}{r}(st:St m (O) w)(E:RepS aD m a1 c1 p0.1)(D:RepS C7 m a2 c2 p0.2)(i:SG N p0 p1=some r):Calls prog 65 #[.agg (Vd p0 a1 c1 a2 c2),vT p1] w fun e w'=>∃d8 d9 m',eA m m' e (vS d8 r d9) (kR d8 r d9 9 1::O) w' (RepS aD m' d8 d9 r):=by
 refine bY st func65 rfl ntmps65 fun q=>aC (iK 2 84 (.agg (Vd p0 a1 c1 a2 c2)) st fun V m1 w1 e1 st g=>bH (bK 1 (cU (qXe (d:=14) (t:=50) (e:=9) (len:=1) (parts:= #[(0,(.tmp 13))]) (f:=nQ) (xs:=([p1]:Tb)) (cs:=[vT p1]) (fun _=>rfl) kr rfl (fun _=>oY kr _) rfl rfl rfl st fun a3 c3 T1 w3 g4 st=>eF (bJ (bA (bV (.exit 0) i (fun b9 L' w'=>∃(p:Tb),∃n F T2 m3,p=b9/\L'=[(5,vS n p F)]/\m.le m3/\St m3 (bO n (aN nQ p T2) 9::O) w'/\OAS n p.length F 1 T2) ?_ ?_)))))))
 .rintro b9 i _ w4 ⟨p,n,F,T2,m3,rfl,rfl,q,st,B⟩;refine eS (aG (bJ (bA (bV (.exit 6) i (fun S L' w'=>∃(o8:Tb),∃b8,o8=S/\L'=[(5,vS n p F)]/\m.le b8/\St b8 (bO n (aN nQ o8 T2) 9::O) w'/\List.length o8=p.length) ?_ ?_))))
  .rintro S i _ M ⟨o8,b8,rfl,rfl,q,st,a⟩;refine eS (bJ (bU ?_));obtain rfl:=sI i;obtain⟨s,G,st,H⟩:=St.freezeM (c:=aD) (f:=nQ) st B a (fun _=>rfl) (fun _ x=>rfl);refine JC [(4,vS n o8 F)] (by(try simp only[vS,a]);kernel_rfl) ?_;exact vJ ⟨n,F,s,rfl,q.t G,st,H⟩
  intro S i d1;refine cY (fun k5 L' w'=>∃(G:GD),∃Y,aB (WH N p) k5 G=some S/\L'=[(5,vS n p F),(55,vI (p.length:Int)),(56,vI G.1)]/\m.le Y/\St Y (bO n (aN nQ G.2 T2) 9::O) w'/\List.length G.2=p.length) N ⟨(0,p),m3,i,rfl,q,st,rfl⟩ ?_;rintro k5 _ f0 ⟨G,Y,hL,rfl,q,st,d3⟩;obtain⟨k5,e8,rfl,i,e2,d6⟩:=cZ hL;refine cA (aK i ?_ ?_)<;>intro A i
  .refine aL (aG (bA (bJ (bJ (bA (bV (.exit 8) i (fun U L' w'=>∃(o9:Tb),∃a0,o9=U/\L'=[(5,vS n p F),(55,vI (p.length:Int)),(56,vI G.1)]/\m.le a0/\St a0 (bO n (aN nQ o9 T2) 9::O) w'/\List.length o9=p.length) ?_ ?_))))))
   .rintro U i _ s ⟨o9,a0,rfl,rfl,q,st,a⟩;refine uT (qI (cB 2 ?_));have hL:=e2 _ (sI i);exact cX ⟨(wr (G.1+1),o9),a0,hL,rfl,q,st,a⟩
   intro U i d2;refine cY (fun k6 L' w'=>∃(a:GD),∃M,aB (RK N) k6 a=some U/\L'=[(5,vS n p F),(12,vI a.1),(55,vI (p.length:Int)),(56,vI G.1)]/\m.le M/\St M (bO n (aN nQ a.2 T2) 9::O) w'/\List.length a.2=p.length) N ⟨G,Y,i,rfl,q,st,d3⟩ ?_;rintro k6 _ f3 ⟨a,M,hL,rfl,q,st,s⟩;obtain⟨k6,e9,rfl,i,e5,d7⟩:=cZ hL;refine aG (aG (bV .normal i (fun c0 L' w'=>∃H,L'=[(5,vS n p F),(12,vI a.1),(55,vI (p.length:Int)),(56,vI G.1),(73,vB c0)]/\m.le H/\St H (bO n (aN nQ a.2 T2) 9::O) w'/\List.length a.2=p.length) ?_ ?_))
   .rintro c0 i _ f4 ⟨H,rfl,q,st,s⟩;refine bC (aK i ?_ ?_)<;>intro A i
    .refine aL (aG (bA (eH [(18,fun w'=>Inv H w'/\True),(15,fun w'=>Inv H w'/\Piece.holds H w' (bO n (aN nQ a.2 T2) 9)/\True)] kr st fun f5 _ st=> ?_)));have R:=H.le_refl;refine⟨lZ (aF st R) (aF st R),aX 8 [0,1,2,3,4,5,6,7] ?_⟩;have⟨Z,d4,i⟩:=aU i;refine wQ (t:=50) (e:=9) (x:=(.tmp 81)) (y:=(.tmp 83)) (k:=1) 8 84 kr rfl kr (.head _) (bQ (aH (aH (bQ (bQ (aH (aH (bQ (aH eY))))))))) (ev (vS n p F)) (ev (vI (wr (a.1-1)))) kr B s d4 ?_;refine wR (t:=9) (x:=(.tmp 84)) (o:=0) (f:=nQ) (z:=Z) (v:=vT Z) 9 85 (fun _=>rfl) (Int.toNat (wr (a.1-1))*1) rfl kr rfl kr (.tail _ (.head _)) (bQ (aH (aH (bQ (bQ (aH (aH (bQ (aH eY))))))))) eC (ev (.pointer (some ⟨ab n,Int.toNat (wr (a.1-1))*1,none⟩))) B s d4 kr ?_;refine aX 2 [10,11] ?_;have⟨x8,d5,i⟩:=aU i;refine wQ (t:=50) (e:=9) (x:=(.tmp 86)) (y:=(.tmp 87)) (k:=1) 12 88 kr rfl kr (.head _) (bQ (aH (aH (bQ (bQ (aH (aH (bQ (aH eY))))))))) (ev (vS n p F)) (ev (vI a.1)) kr B s d5 ?_
     refine wR (t:=9) (x:=(.tmp 88)) (o:=0) (f:=nQ) (z:=x8) (v:=vT x8) 13 89 (fun _=>rfl) (Int.toNat a.1*1) rfl kr rfl kr (.tail _ (.head _)) (bQ (aH (aH (bQ (bQ (aH (aH (bQ (aH eY))))))))) eC (ev (.pointer (some ⟨ab n,Int.toNat a.1*1,none⟩))) B s d5 kr ?_;have⟨x9,b2,i⟩:=aU i;refine wQ (t:=50) (e:=9) (x:=(.tmp 76)) (y:=(.tmp 77)) (k:=1) 14 90 kr rfl kr (.head _) (bQ (aH (aH (bQ (bQ (aH (aH (bQ (aH eY))))))))) (ev (vS n p F)) (ev (vI a.1)) kr B s b2 ?_;refine aR 15 kr (SS (t:=9) (x:=(.tmp 90)) (y:=(.tmp 85)) (o:=0) (f:=nQ) (z:=x9) (u:=Z) (v:=vT Z) (fun _=>rfl) (Int.toNat a.1*1) rfl kr (ev (.pointer (some ⟨ab n,Int.toNat a.1*1,none⟩))) (ev (vT Z)) st B s b2 kr rfl fun f6 st=> ?_);have b0:List.length (List.set a.2 (Int.toNat a.1) Z)=p.length:=IJ s _ _;refine⟨uK (aF st R),?_⟩;have⟨e7,b7,i⟩:=aU i;refine wQ (t:=50) (e:=9) (x:=(.tmp 78)) (y:=(.tmp 80)) (k:=1) 16 91 kr rfl kr (.head _) (bQ (aH (aH (bQ (bQ (aH (aH (bQ (aH eY))))))))) (ev (vS n p F)) (ev (vI (wr (a.1-1)))) kr B b0 b7 ?_
     refine aR 17 kr (SS (t:=9) (x:=(.tmp 91)) (y:=(.tmp 89)) (o:=0) (f:=nQ) (z:=e7) (u:=x8) (v:=vT x8) (fun _=>rfl) (Int.toNat (wr (a.1-1))*1) rfl kr (ev (.pointer (some ⟨ab n,Int.toNat (wr (a.1-1))*1,none⟩))) (ev (vT x8)) st B b0 b7 kr rfl fun f7 st=> ?_);have e6:List.length (List.set (List.set a.2 (Int.toNat a.1) Z) (Int.toNat (wr (a.1-1))) x8)=p.length:=IJ b0 _ _;refine⟨uK (aF st R),cE kr (qI (cB 3 ?_))⟩;have hL:=e5 _ (sI i);exact cX ⟨(wr (a.1-1),List.set (List.set a.2 (Int.toNat a.1) Z) (Int.toNat (wr (a.1-1))) x8),H,hL,rfl,q,st,e6⟩
    refine cV ?_;have ho:=d7 _ (sI i);exact cS (d2 rfl ⟨a.2,H,ho,rfl,q,st,s⟩)
   intro c0 i K;refine eH [(14,fun w'=>Inv M w'/\Piece.holds M w' (bO n (aN nQ a.2 T2) 9)/\True)] kr st fun d4 _ st=> ?_;have b7:=M.le_refl;refine⟨aS (aF st b7),aX 3 [0,1,2] ?_⟩;rcases iO (decide (a.1>0)) with A|A
   .rw[if_pos A] at i;refine nB (t:=62) (b:=true) (decide (a.1>0)) kr A (aX 2 [3,4] ?_);have⟨R,b0,i⟩:=aU i;refine wQ (t:=50) (e:=9) (x:=(.tmp 63)) (y:=(.tmp 64)) (k:=1) 5 65 kr rfl kr (.head _) (aH (aH (aH (bQ (bQ (aH (aH (bQ (aH eY))))))))) (ev (vS n p F)) (ev (vI a.1)) kr B s b0 ?_;refine wR (t:=9) (x:=(.tmp 65)) (o:=0) (f:=nQ) (z:=R) (v:=vT R) 6 66 (fun _=>rfl) (Int.toNat a.1*1) rfl kr rfl kr (.head _) (aH (aH (aH (bQ (bQ (aH (aH (bQ (aH eY))))))))) eC (ev (.pointer (some ⟨ab n,Int.toNat a.1*1,none⟩))) B s b0 kr ?_;refine aX 3 [7,8,9] ?_;have⟨Z,b2,i⟩:=aU i;refine wQ (t:=50) (e:=9) (x:=(.tmp 67)) (y:=(.tmp 69)) (k:=1) 10 70 kr rfl kr (.head _) (aH (aH (aH (bQ (bQ (aH (aH (bQ (aH eY))))))))) (ev (vS n p F)) (ev (vI (wr (a.1-1)))) kr B s b2 ?_;refine wR (t:=9) (x:=(.tmp 70)) (o:=0) (f:=nQ) (z:=Z) (v:=vT Z) 11 71 (fun _=>rfl) (Int.toNat (wr (a.1-1))*1) rfl kr rfl kr (.head _) (aH (aH (aH (bQ (bQ (aH (aH (bQ (aH eY))))))))) eC (ev (.pointer (some ⟨ab n,Int.toNat (wr (a.1-1))*1,none⟩))) B s b2 kr ?_;exact aX 2 [12,13] (cE kr (xE (K i ⟨M,rfl,q,st,s⟩)))
   rw[if_neg (not_true A)] at i;exact nB (t:=62) (b:=false) (decide (a.1>0)) kr A (aX 11 [3,4,5,6,7,8,9,10,11,12,13] (cE kr (xE (K i ⟨M,rfl,q,st,s⟩))))
  refine cV ?_;have ho:=d6 _ (sI i);exact cS (d1 rfl ⟨G.2,Y,ho,rfl,q,st,d3⟩)
 intro b9 i e2;refine cY (fun k1 L' w'=>∃(s1:rL),∃a5 c5 T3 m4,aB (WI N p0) k1 s1=some b9/\L'=[(2,vP V 0),(5,vS a5 s1.1 c5),(6,vI s1.2)]/\m.le m4/\St m4 (bO a5 (aN nQ s1.1 T3) 9::O) w'/\MRow m4 V 0 (Vg p0 a1 c1 a2 c2)/\RepS aD m4 a1 c1 p0.1/\RepS C7 m4 a2 c2 p0.2/\OAS a5 s1.1.length c5 1 T3) N ⟨(([p1]:Tb),0),a3,c3,T1,m1,i,rfl,q.t e1,st,g,E.o e1,D.o e1,g4⟩ ?_;rintro k1 _ w5 ⟨s1,a5,c5,T3,m4,hL,rfl,q,st,g,E,D,e9⟩;obtain⟨k1,g7,rfl,i,f8,f5⟩:=cZ hL;refine aG (bF i ?_ ?_)<;>intro A i
 .refine aL (aG (bA (iQ 1 st (g.drop 1) (lL (bV (.exit 2) i (fun c0 L' w'=>∃(o2:Tb),∃a6 c6 T4 m5,o2=c0/\L'=[(2,vP V 0),(5,vS a6 o2 c6),(6,vI s1.2)]/\m.le m5/\St m5 (bO a6 (aN nQ o2 T4) 9::O) w'/\MRow m5 V 0 (Vg p0 a1 c1 a2 c2)/\RepS aD m5 a1 c1 p0.1/\RepS C7 m5 a2 c2 p0.2/\OAS a6 o2.length c6 1 T4) ?_ ?_)))))
  .rintro c0 i _ s ⟨o2,a6,c6,T4,m5,rfl,rfl,q,st,g,E,D,a⟩;refine uT (qI (cB 3 ?_));have hL:=f8 _ (sI i);exact cX ⟨(o2,wr (s1.2+1)),a6,c6,T4,m5,hL,rfl,q,st,g,E,D,a⟩
  intro c0 i e6;refine cY (fun k2 L' w'=>∃(s2:rL),∃a7 c7 T5 m6,aB (RP N p0 s1) k2 s2=some c0/\L'=[(2,vP V 0),(5,vS a7 s2.1 c7),(6,vI s1.2),(22,vS a2 p0.2 c2),(23,vI (p0.2.length:Int)),(24,vI s2.2)]/\m.le m6/\St m6 (bO a7 (aN nQ s2.1 T5) 9::O) w'/\MRow m6 V 0 (Vg p0 a1 c1 a2 c2)/\RepS aD m6 a1 c1 p0.1/\RepS C7 m6 a2 c2 p0.2/\OAS a7 s2.1.length c7 1 T5) N ⟨(s1.1,0),a5,c5,T3,m4,i,rfl,q,st,g,E,D,e9⟩ ?_;rintro k2 _ w7 ⟨s2,a7,c7,T5,m6,hL,rfl,q,st,g,E,D,f0⟩;obtain⟨k2,g8,rfl,i,f9,f6⟩:=cZ hL;refine cA (aK i ?_ ?_)<;>intro A i
  .refine aL (aG (bA (aC (iE D i ?_))));rintro a i b3 f1 g5 ⟨_,_,rfl,rfl,⟨_,_,rfl,⟨H,M,rfl,S⟩,⟨Z,c9,rfl,U⟩⟩⟩ g2;refine cI st g2 (eE 8 78 (.agg #[vT eB,v6,v6]) st fun b4 w8 st=>cL (.agg (V7 a H M Z c9)) st fun w9 st=>aJ (aC (aV 1 st.h (lL (bV (.exit 4) i (fun d1 L' w'=>∃(o3:Tb),∃d2 d4 T6 m7,o3=d1/\L'=[(2,vP V 0),(5,vS d2 o3 d4),(6,vI s1.2),(22,vS a2 p0.2 c2),(23,vI (p0.2.length:Int)),(24,vI s2.2)]/\m.le m7/\St m7 (kB b4 (V7 a H M Z c9) 78::bO d2 (aN nQ o3 T6) 9::O) w'/\MRow m7 V 0 (Vg p0 a1 c1 a2 c2)/\RepS aD m7 a1 c1 p0.1/\RepS C7 m7 a2 c2 p0.2/\RepS aD m7 H M a.2.1/\RepS C6 m7 Z c9 a.2.2/\OAS d2 o3.length d4 1 T6) ?_ ?_)))))
   .rintro d1 i _ B ⟨o3,d2,d4,T6,m7,rfl,rfl,q,st,g,E,D,S,U,s⟩;refine uT (qI (cB 2 ?_));have hL:=f9 _ (sI i);exact cX ⟨(o3,wr (s2.2+1)),d2,d4,T6,m7,hL,rfl,q,st.t,g,E,D,s⟩
   intro d1 i e7;refine cY (fun k3 L' w'=>∃(B:rL),∃s G T7 Y,aB (RG N s1 a) k3 B=some d1/\L'=[(2,vP V 0),(5,vS s B.1 G),(6,vI s1.2),(8,vP b4 0),(22,vS a2 p0.2 c2),(23,vI (p0.2.length:Int)),(24,vI s2.2),(29,vS H a.2.1 M),(30,vI (a.2.1.length:Int)),(31,vI B.2)]/\m.le Y/\St Y (kB b4 (V7 a H M Z c9) 78::bO s (aN nQ B.1 T7) 9::O) w'/\MRow Y V 0 (Vg p0 a1 c1 a2 c2)/\RepS aD Y a1 c1 p0.1/\RepS C7 Y a2 c2 p0.2/\RepS aD Y H M a.2.1/\RepS C6 Y Z c9 a.2.2/\OAS s B.1.length G 1 T7) N ⟨(s2.1,0),a7,c7,T5,m6,i,rfl,q,st.f1.f1,g,E,D,S,U,f0⟩ ?_;rintro k3 _ h1 ⟨B,s,G,T7,Y,hL,rfl,q,st,g,E,D,S,U,b8⟩;obtain⟨k3,g9,rfl,i,g0,f7⟩:=cZ hL;refine cA (aK i ?_ ?_)<;>intro A i
   .refine aL (aG (bV .normal i (fun o4 L' w'=>∃d3 d5 T8 m9,L'=[(2,vP V 0),(5,vS d3 o4 d5),(6,vI s1.2),(8,vP b4 0),(22,vS a2 p0.2 c2),(23,vI (p0.2.length:Int)),(24,vI s2.2),(29,vS H a.2.1 M),(30,vI (a.2.1.length:Int)),(31,vI B.2)]/\m.le m9/\St m9 (kB b4 (V7 a H M Z c9) 78::bO d3 (aN nQ o4 T8) 9::O) w'/\MRow m9 V 0 (Vg p0 a1 c1 a2 c2)/\RepS aD m9 a1 c1 p0.1/\RepS C7 m9 a2 c2 p0.2/\RepS aD m9 H M a.2.1/\RepS C6 m9 Z c9 a.2.2/\OAS d3 o4.length d5 1 T8) ?_ ?_))
    .rintro o4 i _ a0 ⟨d3,d5,T8,m9,rfl,q,st,g,E,D,S,U,R⟩;refine bC (cB 2 ?_);have hL:=g0 _ (sI i);exact cX ⟨(o4,wr (B.2+1)),d3,d5,T8,m9,hL,rfl,q,st.f1.f1,g,E,D,S,U,R⟩
    intro o4 i e8;refine bA (aC (iE S i ?_));rintro x2 i b5 f2 g6 rfl g3;refine cI st g3 (eF (bV .normal i (fun o5 L' w'=>∃b7,L'=[(2,vP V 0),(5,vS s B.1 G),(6,vI s1.2),(8,vP b4 0),(10,vT x2),(22,vS a2 p0.2 c2),(23,vI (p0.2.length:Int)),(24,vI s2.2),(29,vS H a.2.1 M),(30,vI (a.2.1.length:Int)),(31,vI B.2),(47,vB o5)]/\m.le b7/\St b7 (kB b4 (V7 a H M Z c9) 78::bO s (aN nQ B.1 T7) 9::O) w'/\MRow b7 V 0 (Vg p0 a1 c1 a2 c2)/\RepS aD b7 a1 c1 p0.1/\RepS C7 b7 a2 c2 p0.2/\P5 b7 H M Z c9 a.2) ?_ ?_))
    .rintro o5 i _ e5 ⟨b7,rfl,q,st,g,E,D,S,U⟩;refine bC (aK i ?_ ?_)<;>intro A i
     .refine iN 2 (lG 50 9 1 aD [x2] st fun b6 d7 f3 R st r6=> ?_);have st:=st.f2;have⟨l1,d6,i⟩:=aU i;refine cU (SY (d:=51) (t:=50) (u:=50) (e:=9) (by_:=16) (x:=(.tmp 48)) (y:=(.tmp 50)) (c:=aD) (f:=nQ) (l:=B.1) (fun _ _ _ h=>by obtain rfl:=h;rfl) (fun _=>rfl) kr rfl (ev (vS s B.1 G)) (ev (vS (aP b6) ([x2]) 1)) st b8 rfl kr (.inl kr) r6.src d6 fun a0 b0 T9 f4 b2 st=>eD 1 ?_);have st:=st.f1.t;exact iX (e8 i ⟨a0,b0,T9,d7,rfl,q.t R,st.f1,g.o R,E.o R,D.o R,S.o R,U.o R,b2⟩)
     exact oQ (iX (e8 i ⟨s,G,T7,b7,rfl,q,st.f1.f1,g,E,D,S,U,b8⟩))
    intro o5 i K;refine eH [(13,fun w'=>Inv Y w'/\Piece.holds Y w' (kB b4 (V7 a H M Z c9) 78)/\Piece.holds Y w' (bO s (aN nQ B.1 T7) 9)/\True)] kr st fun h2 _ st=> ?_;have R:=Y.le_refl;refine⟨aS (aF st R),aT 0 (eI 1 eC (aX 2 [2,3] ?_))⟩;have⟨x3,f3,i⟩:=aU i;refine wQ (t:=50) (e:=9) (x:=(.tmp 37)) (y:=(.tmp 38)) (k:=1) 4 39 kr rfl kr (.head _) (aH (bQ (aH (aH (bQ (bQ (aH (aH (bQ (bQ (aH (aH (bQ (aH eY)))))))))))))) (ev (vS s B.1 G)) (ev (vI s1.2)) kr b8 rfl f3 ?_;refine wR (t:=9) (x:=(.tmp 39)) (o:=0) (f:=nQ) (z:=x3) (v:=vT x3) 5 40 (fun _=>rfl) (Int.toNat s1.2*1) rfl kr rfl kr (.head _) (aH (bQ (aH (aH (bQ (bQ (aH (aH (bQ (bQ (aH (aH (bQ (aH eY)))))))))))))) uN (ev (.pointer (some ⟨ab s,Int.toNat s1.2*1,none⟩))) b8 rfl f3 kr ?_;refine aX 2 [6,7] ?_;rcases iO (a.1.toList==x3.toList) with A|A
    .rw[if_pos A] at i;refine nB (t:=42) (b:=true) (a.1.toList==x3.toList) kr A (aX 2 [8,9] ?_);have⟨o6,i,j5⟩:=aU i;refine aR 10 kr (sM 45 88 #[vS s B.1 G,vT x2] kr rfl (qHx (fun v' w'=>∃b0,v'=(vB o6)/\m.le b0/\Y.le b0/\St b0 (kB b4 (V7 a H M Z c9) 78::bO s (aN nQ B.1 T7) 9::O) w'/\MRow b0 V 0 (Vg p0 a1 c1 a2 c2)/\RepS aD b0 a1 c1 p0.1/\RepS C7 b0 a2 c2 p0.2/\P5 b0 H M Z c9 a.2) ?_ ?_))
     .have i:=j5;rintro _ a0 ⟨b0,rfl,q,R,st,g,E,D,S,U⟩;refine⟨_,rfl,?_⟩;exact⟨aS (aF st R),aX 2 [11,12] (cE kr (xE (K i ⟨b0,rfl,q,st.f1.f1,g,E,D,S,U⟩)))⟩
     refine uJ func88 rfl ntmps88 (cA (bJ (bA ?_)));have⟨d7,i,j6⟩:=aU i;refine lF (.exit 0) (fun L' w'=>∃(o7:Unit),∃b2,(.inl o7)=d7/\L'=[]/\m.le b2/\Y.le b2/\St b2 (kB b4 (V7 a H M Z c9) 78::bO s (aN nQ B.1 T7) 9::O) w'/\MRow b2 V 0 (Vg p0 a1 c1 a2 c2)/\RepS aD b2 a1 c1 p0.1/\RepS C7 b2 a2 c2 p0.2/\P5 b2 H M Z c9 a.2) ?_ ?_
     .rintro _ a0 ⟨o7,b2,rfl,rfl,q,R,st,g,E,D,S,U⟩;have i:=j6;cases i;exact eS (cO ⟨_,rfl,⟨b2,rfl,q,R,st.f1.f1,g,E,D,S,U⟩⟩)
     intro e5;refine cY (fun k4 L' w'=>∃(s4:Int),∃a0,aB (LG N B x2) k4 s4=some d7/\L'=[(1,vT x2),(7,vS s B.1 G),(8,vI (B.1.length:Int)),(9,vI s4)]/\m.le a0/\Y.le a0/\St a0 (kB b4 (V7 a H M Z c9) 78::bO s (aN nQ B.1 T7) 9::O) w'/\MRow a0 V 0 (Vg p0 a1 c1 a2 c2)/\RepS aD a0 a1 c1 p0.1/\RepS C7 a0 a2 c2 p0.2/\P5 a0 H M Z c9 a.2) N ⟨0,Y,i,rfl,q,R,st.f1.f1,g,E,D,S,U⟩ ?_;rintro k4 _ h3 ⟨s4,a0,hL,rfl,q,R,st,g,E,D,S,U⟩;obtain⟨k4,h0,rfl,i,g1,d6⟩:=cZ hL;refine cA (aK i ?_ ?_)<;>intro A i
     .refine aL (aG (bA (aC ?_)));have⟨x4,f4,i⟩:=aU i;refine cU (WP (d:=11) (t:=50) (e:=9) (x:=(.tmp 7)) (y:=(.tmp 9)) (k:=1) kr rfl (ev (vS s B.1 G)) (ev (vI s4)) kr b8 rfl f4 (cU (qEt (d:=12) (t:=9) (x:=(.tmp 11)) (o:=0) (f:=nQ) (z:=x4) (v:=vT x4) (fun _=>rfl) (Int.toNat s4*1) rfl kr rfl (ev (.pointer (some ⟨ab s,Int.toNat s4*1,none⟩))) st.t.h b8 rfl f4 kr (bH (bF i ?_ ?_)))))<;>intro A i
      .refine bJ (bU (cN (bL ?_)));have ho:=d6 _ (sI i);subst ho;have i:=j6;cases i;exact lO ⟨_,rfl,⟨a0,rfl,q,R,st.f1.f1,g,E,D,S,U⟩⟩
      refine lC (cB 2 ?_);have hL:=g1 _ (sI i);exact cX ⟨wr (s4+1),a0,hL,rfl,q,R,st.f1.f1,g,E,D,S,U⟩
     refine cV ?_;have ho:=d6 _ (sI i);have st:=st.f1.f1;exact cS (e5 _ _ ⟨(),a0,ho,rfl,q,R,st,g,E,D,S,U⟩)
    rw[if_neg (not_true A)] at i;exact nB (t:=42) (b:=false) (a.1.toList==x3.toList) kr A (aX 5 [8,9,10,11,12] (cE kr (xE (K i ⟨Y,rfl,q,st.f1.f1,g,E,D,S,U⟩))))
   refine cV ?_;have ho:=f7 _ (sI i);have st:=st.f1.f1;exact cS (e7 rfl ⟨B.1,s,G,T7,Y,ho,rfl,q,st,g,E,D,S,U,b8⟩)
  refine cV ?_;have ho:=f6 _ (sI i);exact cS (e6 rfl ⟨s2.1,a7,c7,T5,m6,ho,rfl,q,st,g,E,D,f0⟩)
 refine cV ?_;have ho:=f5 _ (sI i);exact cS (e2 rfl ⟨s1.1,a5,c5,T3,m4,ho,rfl,q,st,e9⟩)
def LW(N:Nat)(p0:Ts)(p1:mQ)(b:Tb)(a:KB):Option (KB⊕Tv):=
 if(decide (a.2<(List.length b:Int)))then((aO b a.2).bind fun b=>(DX N a.1 b).bind fun c=>(HD N p0 p1 b).bind fun b=>(DX N c b).bind fun b=>some (.inl (b,IntKind.wrap .i64 (a.2+1)))) else(some (.inr a.1))
def nS(N:Nat)(p0:Ts)(p1:mQ)(p2:pQ)(p3:pG):Tl:=
 if(p3.1==1)then((tT N p1 1 p3.2.1 p3.2.2).bind fun y1=>some y1) else(if(p3.1==2)then((tT N p1 2 p3.2.1 p3.2.2).bind fun a=>some a) else(if(p3.1==3)then((tT N p1 3 (⟨#[]⟩:BA) p3.2.1).bind fun a=>some a) else(if(p3.1==4)then((uR N p0 p3.2.1).bind fun a=>if a.2 then((bG (⟨#[61]⟩:BA) a.1).bind fun s1=>some s1) else(some (⟨#[45]⟩:BA))) else(if(p3.1==5)then((BT N p2 p3.2.1).bind fun y5=>if y5.2 then((EA N y5.1).bind fun a=>(bG (⟨#[61]⟩:BA) a).bind fun a=>some a) else(some (⟨#[45]⟩:BA))) else(if(p3.1==6)then((HD N p0 p1 p3.2.1).bind fun a=>some a) else((SG N p1 p3.2.1).bind fun a=>(aB (LW N p0 p1 a) N (([]:Tv),0)).bind fun a=>(bG (⟨#[61]⟩:BA) (eJ a)).bind fun a=>some a))))))
theorem qTf{p0:Ts}{p1:mQ}{p2:pQ}{p3:pG}{r:BA}(st:St m (O) w)(v:RepS C1 m a1 c1 p0)(k:RepS aD m a2 c2 p1.1)(l:RepS C7 m a3 c3 p1.2)(r4:RepS C3 m a4 c4 p2)(i:nS N p0 p1 p2 p3=some r):Calls prog 40 #[.agg #[vS a1 p0 c1],.agg (Vd p1 a2 c2 a3 c3),.agg #[vS a4 p2 c4],.agg (Vh p3)] w fun e w'=>∃m',eU m m' e (vT r) (O) w':=by
 refine bY st func40 rfl ntmps40 fun q=>aC (iK 4 28 (.agg #[vS a1 p0 c1]) st fun b1 m1 w1 U st p=>iK 5 84 (.agg (Vd p1 a2 c2 a3 c3)) st fun b2 m2 w2 S st c=>iK 6 33 (.agg #[vS a4 p2 c4]) st fun b3 m3 w3 F st b7=>iK 7 90 (.agg (Vh p3)) st fun u m4 w4 B st f=> ?_);have q:=(((q.t U).t S).t F).t B;have v:=(((v.o U).o S).o F).o B;have k:=(((k.o U).o S).o F).o B;have l:=(((l.o U).o S).o F).o B;have p:=((p.o S).o F).o B;have c:=(c.o F).o B;refine eF (iQ 1 st f (aJ (bA (bF i ?_ ?_))))<;>intro A i
 .refine aC (cI st c (cW 1 st (f.drop 1) (cW 1 st (f.drop 2) (bI i (VV (p0:=p1) st k l) ?_))));rintro y1 i _ g ⟨b,rfl,a,st⟩;obtain rfl:=sI i;exact eT ⟨b,rfl,q.t a,st⟩
 refine bF i ?_ ?_<;>intro A i
 .refine aC (cI st c (cW 1 st (f.drop 1) (cW 1 st (f.drop 2) (bI i (VV (p0:=p1) st k l) ?_))));rintro a i _ n ⟨g,rfl,b,st⟩;obtain rfl:=sI i;exact eT ⟨g,rfl,q.t b,st⟩
 refine bF i ?_ ?_<;>intro A i
 .refine aC (cI st c (cW 1 st (f.drop 1) (bI i (VV (p0:=p1) st k l) ?_)));rintro a i _ n ⟨g,rfl,b,st⟩;obtain rfl:=sI i;exact eT ⟨g,rfl,q.t b,st⟩
 refine bF i ?_ ?_<;>intro A i
 .refine aG (aC (cI st p (cW 1 st (f.drop 1) (bI i (BU st v) ?_))));rintro a i _ n ⟨g,rfl,b,st⟩;refine bH (bF i ?_ ?_)<;>intro A i
  .refine bK 1 (eN i fun s1 i=>bH ?_);obtain rfl:=sI i;exact lY ⟨g,rfl,q.t b,st⟩
  cases i;exact aL (cO ⟨g,rfl,q.t b,st⟩)
 refine bF i ?_ ?_<;>intro A i
 .refine aG (aC (cI st (b7.o B) (cW 1 st (f.drop 1) (bI i (qCq st ((((r4.o U).o S).o F).o B)) ?_))));rintro y5 i _ y ⟨o,rfl,b,st⟩;refine bH (bF i ?_ ?_)<;>intro A i
  .refine aY 1 i (VW st) ?_;rintro z i _ s ⟨g,rfl,a,st⟩;refine eN i fun n i=>bH ?_;obtain rfl:=sI i;exact lY ⟨g,rfl,(q.t b).t a,st⟩
  cases i;exact aL (cO ⟨o,rfl,q.t b,st⟩)
 refine bF i ?_ ?_<;>intro A i
 .refine aC (cI st p (cI st c (cW 1 st (f.drop 1) (bI i (qDd (p1:=p1) st v k l) ?_))));rintro g i _ n ⟨b,rfl,a,st⟩;obtain rfl:=sI i;exact eT ⟨b,rfl,q.t a,st⟩
 refine lC (cA (aC (cI st c (cW 1 st (f.drop 1) (bI i (qSz (p0:=p1) st k l) ?_)))));rintro E i _ d5 ⟨Y,Z,b9,rfl,y,st,r5⟩;refine lL (bV (.exit 1) i (fun z L' w'=>∃(G:Tv),∃H M D,G=z/\L'=[(13,vS H G M)]/\m.le D/\St D (kR Y E Z 9 1::kR H G M 5 1::O) w'/\RepS cU8 D H M G) ?_ ?_)
 .rintro z i _ g ⟨G,H,M,D,rfl,rfl,q,st,b⟩;refine eS (bK 1 (cU (WU (d:=91) (t1:=124) (t2:=9) (e:=5) (x:=(.tmp 90)) kr rfl (ev (vS H G M)) kr kr st b (eN i fun a i=>eD 1 ?_))));have st:=st.t.t;obtain rfl:=sI i;exact mM ⟨D,rfl,q,st⟩
 intro z i V;have st:=(st.nilroom 5 1).front1;refine cY (fun k1 L' w'=>∃(s:KB),∃K R b,aB (LW N p0 p1 E) k1 s=some z/\L'=[(4,vP b1 0),(5,vP b2 0),(13,vS K s.1 R),(75,vS Y E Z),(76,vI (E.length:Int)),(77,vI s.2)]/\m.le b/\St b (kR Y E Z 9 1::kR K s.1 R 5 1::O) w'/\MRow b b1 0 [vS a1 p0 c1]/\RepS C1 b a1 c1 p0/\MRow b b2 0 (Vg p1 a2 c2 a3 c3)/\RepS aD b a2 c2 p1.1/\RepS C7 b a3 c3 p1.2/\RepS cU8 b K R s.1/\RepS aD b Y Z E) N ⟨(([]:Tv),0),none,0,b9,i,rfl,q.t y,st,p.o y,v.o y,c.o y,k.o y,l.o y,(RepS.nil _ _),r5⟩ ?_;rintro k1 _ d6 ⟨s,K,R,b,hL,rfl,q,st,p,v,c,k,l,r7,r5⟩;obtain⟨k1,d4,rfl,i,b6,b0⟩:=cZ hL;refine cA (aK i ?_ ?_)<;>intro A i
 .refine aL (aG (bA (aC (iE r5 i ?_))));rintro x1 i b5 f1 d1 rfl b8;refine cI st b8 (bH (eH [(9,fun w'=>Inv b w'/\True)] kr st fun d7 _ st=> ?_));have a:=b.le_refl;refine tA st a (aX 2 [0,1] (cR 3 p (cR 4 c (aT 5 (aR 2 kr (cJ i (fun _ h=>QS st r7 h) ?_))))));rintro y9 i _ d8 ⟨a8,c8,d2,rfl,n,st,r8⟩;refine⟨_,rfl,?_⟩;have v:=v.o n;have k:=k.o n;have l:=l.o n;have a:=a.t n;refine tA st a (aR 6 kr (cJ i (fun _ h=>qDd (p1:=p1) st v k l h) ?_));rintro f3 i _ d9 ⟨d3,rfl,g,st⟩;refine⟨_,rfl,?_⟩;have a:=a.t g;refine tA st a (aR 7 kr (cJ i (fun _ h=>QS st (r8.o g) h) ?_));rintro a0 i _ f0 ⟨a9,c9,c0,rfl,o,st,r9⟩;refine⟨_,rfl,?_⟩;have a:=a.t o;refine tA st a (aT 8 (cE kr ?_));have st:=st.f1.t.f2.t;refine qI (cB 2 ?_);have hL:=b6 _ (sI i);exact cX ⟨(a0,wr (s.2+1)),a9,c9,c0,hL,rfl,((q.t n).t g).t o,st.f1,((p.o n).o g).o o,(v.o g).o o,((c.o n).o g).o o,(k.o g).o o,(l.o g).o o,r9,((r5.o n).o g).o o⟩
 refine cV ?_;have ho:=b0 _ (sI i);have st:=st.f1.f1;exact cS (V rfl ⟨s.1,K,R,b,ho,rfl,q,st,r7⟩)
def KJ(N:Nat)(p0:Ts)(p1:pQ)(p2:iW)(b:mQ)(s1:rL):Option (rL⊕Tb⊕rL):=
 if(decide (s1.2<(List.length p2:Int)))then((aO p2 s1.2).bind fun a=>(SC N a).bind fun c=>if(!c)then(some (.inr (.inr ((([]:Tb),1))))) else((nS N p0 b p1 a).bind fun y5=>(iU 16 s1.1 ([y5])).bind fun a=>some (.inl (a,IntKind.wrap .i64 (s1.2+1))))) else(some (.inr (.inl s1.1)))
def KT(N:Nat)(p0:Ts)(p1:pQ)(p2:iW):Option rL:=
 ((ED N p0).bind fun y1=>if(y1 !=0)then(some true) else((zX N p1).bind fun a=>some (!a)):Tk).bind fun a=>if a then(some (([]:Tb),1)) else((HF N p0).bind fun a=>(aB (KJ N p0 p1 p2 a) N (([]:Tb),0)).bind fun a=>(match a with| .inl o2=>some (o2,0)| .inr (z)=>some z))
theorem qCr{p0:Ts}{p1:pQ}{p2:iW}{r:rL}(st:St m (O) w)(g:RepS C1 m a1 c1 p0)(k:RepS C3 m a2 c2 p1)(D:RepS C8 m a3 c3 p2)(i:KT N p0 p1 p2=some r):Calls prog 11 #[.agg #[vS a1 p0 c1],.agg #[vS a2 p1 c2],vS a3 p2 c3] w fun e w'=>∃Z a0 m',eA m m' e (.tuple (V1 r Z a0)) (kR Z r.1 a0 9 1::O) w' (RepS aD m' Z a0 r.1):=by
 refine bY st func11 rfl ntmps11 fun q=>aC (iK 3 28 (.agg #[vS a1 p0 c1]) st fun b1 m1 w1 G st a=>iK 4 33 (.agg #[vS a2 p1 c2]) st fun b2 m2 w2 B st c=> ?_);have g:=(g.o G).o B;have a:=a.o B;refine eF (aC (iG 8 i (fun o1 L' w'=>∃o,L'=[(2,vS a3 p2 c3),(3,vP b1 0),(4,vP b2 0),(19,vB o1)]/\m.le o/\St o (O) w'/\RepS C8 o a3 c3 p2/\MRow o b1 0 [vS a1 p0 c1]/\RepS C1 o a1 c1 p0/\MRow o b2 0 [vS a2 p1 c2]/\RepS C3 o a2 c2 p1) ?_ ?_))
 .rintro o1 i _ w3 ⟨o,rfl,q,st,D,a,g,c,k⟩;refine aJ (aK i ?_ ?_)<;>intro A i
  .cases i;exact cO ⟨none,0,o,rfl,q,(st.nilroom 9 1),(RepS.nil _ _)⟩
  refine aL (aC (cI st a (bI i (WG st g) ?_)));rintro d i _ w6 ⟨p,u,s,v,m6,rfl,H,st,R,S⟩;refine eE 8 84 (.agg #[v6,v6]) st fun b3 w7 st=>cL (.agg (Vd d p u s v)) st fun w8 st=>aJ (cA (bJ (bA ?_)));have⟨Y,i,j1⟩:=aU i;refine lF (.exit 0) (fun L' w'=>∃(o2:Tb),∃y z M,(.inl o2)=Y/\L'=[(9,vS y o2 z)]/\m.le M/\St M (kB b3 (Vd d p u s v) 84::kR p d.1 u 9 1::kR s d.2 v 78 3::kR y o2 z 9 1::O) w'/\RepS aD M y z o2/\P6 M p u s v d) ?_ ?_
  .rintro _ f ⟨o2,y,z,M,rfl,rfl,q,st,b,R,S⟩;have i:=j1;obtain rfl:=sI i;exact eS (cO ⟨y,z,M,rfl,q,st.t.t.t,b⟩)
  intro a9;have st:=(st.nilroom 9 1).front3.front3.front3;refine cY (fun k1 L' w'=>∃(s1:rL),∃E F f,aB (KJ N p0 p1 p2 d) k1 s1=some Y/\L'=[(3,vP b1 0),(4,vP b2 0),(8,vP b3 0),(9,vS E s1.1 F),(22,vS a3 p2 c3),(23,vI (p2.length:Int)),(24,vI s1.2)]/\m.le f/\St f (kB b3 (Vd d p u s v) 84::kR p d.1 u 9 1::kR s d.2 v 78 3::kR E s1.1 F 9 1::O) w'/\MRow f b1 0 [vS a1 p0 c1]/\RepS C1 f a1 c1 p0/\MRow f b2 0 [vS a2 p1 c2]/\RepS C3 f a2 c2 p1/\RepS aD f E F s1.1/\RepS C8 f a3 c3 p2/\P6 f p u s v d) N ⟨(([]:Tb),0),none,0,m6,i,rfl,q.t H,st,a.o H,g.o H,c.o H,k.o H,(RepS.nil _ _),D.o H,R,S⟩ ?_;rintro k1 _ d2 ⟨s1,E,F,f,hL,rfl,q,st,a,g,c,k,r7,D,R,S⟩;obtain⟨k1,d1,rfl,i,b0,V⟩:=cZ hL;refine cA (aK i ?_ ?_)<;>intro A i
  .refine aL (aG (bA (aC (iE D i ?_))));rintro U i b4 f1 b9 ⟨_,_,rfl,rfl,⟨_,_,rfl,rfl,rfl⟩⟩ b7;refine cI st b7 (eE 11 90 (.agg BL) st fun b5 d3 st=>cL (.agg (Vh U)) st fun d4 st=>aJ (aG (aC (cF st.h (bI i (qSm (p0:=U) st) ?_)))));rintro y4 i _ d5 ⟨m9,rfl,b,st⟩;refine eK i ?_ ?_<;>intro A i
   .refine bK 2 (lK ?_);have st:=st.f4.t;refine bC (bU (bL (cN (bL ?_))));have ho:=V _ (sI i);subst ho;have i:=j1;refine bL (cN (bL ?_));cases i;refine vL [6,7] [v2,vI 1] ?_;have st:=(st.nilroom 9 1).front1;exact⟨none,0,m9,rfl,q.t b,st.t.f1.t.f1.t.f1.t,(RepS.nil _ _)⟩
   refine aL (iN 1 (cI st (a.o b) (cF st.t.h (cI st (c.o b) (cF st.h (bI i (qTf (p1:=d) (p3:=U) st (g.o b) (R.o b) (S.o b) (k.o b)) ?_))))));rintro y5 i _ d6 ⟨c0,rfl,l,st⟩;refine lG 37 9 1 aD [y5] st fun b6 c9 d7 n st r8=>pL 38 50 50 9 16 31 37 st.f5 (.inl kr) (((r7.o b).o l).o n) r8.src i fun l1 i a8 c8 b8 d8 x st r9=>eD 1 ?_;have st:=st.f1.t;refine qI (cB 2 ?_);have hL:=b0 _ (sI i);exact cX ⟨(l1,wr (s1.2+1)),a8,c8,b8,hL,rfl,(((q.t b).t l).t n).t x,st.f1.t.f3.f3.f3,(((a.o b).o l).o n).o x,(((g.o b).o l).o n).o x,(((c.o b).o l).o n).o x,(((k.o b).o l).o n).o x,r9,(((D.o b).o l).o n).o x,(((R.o b).o l).o n).o x,(((S.o b).o l).o n).o x⟩
  refine cV ?_;have ho:=V _ (sI i);have st:=st.f3.f3.f3.f3;exact cS (a9 _ _ ⟨s1.1,E,F,f,ho,rfl,q,st,r7,R,S⟩)
 intro o1 i K;refine cI st a (bI i (KY st g) ?_);rintro y1 i _ p ⟨f,rfl,b,st⟩;have c:=c.o b;have k:=((k.o G).o B).o b;refine bP 2 15 i ?_ ?_<;>intro A i
 .exact aM 4 (K i ⟨f,rfl,((q.t G).t B).t b,st,((D.o G).o B).o b,a.o b,g.o b,c,k⟩)
 refine cI st c (bI i (qCk st k) ?_);rintro n i _ s ⟨l,rfl,d,st⟩;exact aM 2 (K i ⟨l,rfl,(((q.t G).t B).t b).t d,st,(((D.o G).o B).o b).o d,(a.o b).o d,(g.o b).o d,c.o d,k.o d⟩)
def KX(N:Nat)(p3:Tb)(y1:rL)(s1:Int):Option (Int⊕Unit⊕mF):=
 if(decide (s1<(List.length y1.1:Int)))then((aO y1.1 s1).bind fun a=>(aO p3 s1).bind fun b=>if(!(a.toList==b.toList))then(some (.inr (.inr ((s1,0))))) else(some (.inl (IntKind.wrap .i64 (s1+1))))) else(some (.inr (.inl ())))
def SE(N:Nat)(p0:Ts)(p1:pQ)(p2:iW)(p3:Tb):Option mF:=
 (KT N p0 p1 p2).bind fun y1=>(if(y1.2 !=0)then(some true) else(some ((List.length p2:Int) !=(List.length p3:Int))):Tk).bind fun a=>if a then(some (0,1)) else((aB (KX N p3 y1) N 0).bind fun a=>(match a with| .inl o2=>some ((-1),0)| .inr (z)=>some z))
theorem qSp{p0:Ts}{p1:pQ}{p2:iW}{p3:Tb}{r:mF}(st:St m (O) w)(r1:RepS C1 m a1 c1 p0)(r2:RepS C3 m a2 c2 p1)(r3:RepS C8 m a3 c3 p2)(k:RepS aD m a4 c4 p3)(i:SE N p0 p1 p2 p3=some r):Calls prog 12 #[.agg #[vS a1 p0 c1],.agg #[vS a2 p1 c2],vS a3 p2 c3,vS a4 p3 c4] w fun e w'=>∃m',eU m m' e (.tuple #[vI r.1,vI r.2]) (O) w':=by
 refine bY st func12 rfl ntmps12 fun q=>aC (iK 4 28 (.agg #[vS a1 p0 c1]) st fun b1 m1 w1 f st E=>iK 5 33 (.agg #[vS a2 p1 c2]) st fun b2 m2 w2 d st F=>vA (cI st (E.o d) (cI st F (eR 1 i (qCr st ((r1.o f).o d) ((r2.o f).o d) ((r3.o f).o d)) ?_))));rintro y1 i _ w3 ⟨a,b,U,rfl,s,st,l⟩;refine eF (aC (iG 9 i (fun D L' w'=>∃g,L'=[(3,vS a4 p3 c4),(10,vS a y1.1 b),(28,vB D)]/\m.le g/\St g (kR a y1.1 b 9 1::O) w'/\RepS aD g a4 c4 p3/\RepS aD g a b y1.1) ?_ ?_))
 .rintro D i _ w4 ⟨g,rfl,q,st,k,l⟩;refine aJ (aK i ?_ ?_)<;>intro A i
  .refine bK 2 (lK ?_);have st:=st.t;cases i;exact mM ⟨g,rfl,q,st⟩
  refine aL (aG (bJ (bA ?_)));have⟨o,i,S⟩:=aU i;refine lF (.exit 0) (fun L' w'=>∃(o2:Unit),∃v,(.inl o2)=o/\L'=[]/\m.le v/\St v (kR a y1.1 b 9 1::O) w') ?_ ?_
  .rintro _ c ⟨o2,v,rfl,rfl,q,st⟩;have i:=S;refine eS (bK 2 (lK ?_));have st:=st.t;cases i;exact mM ⟨v,rfl,q,st⟩
  intro p;refine cY (fun u L' w'=>∃(s1:Int),∃c,aB (KX N p3 y1) u s1=some o/\L'=[(3,vS a4 p3 c4),(10,vS a y1.1 b),(30,vI (y1.1.length:Int)),(31,vI s1)]/\m.le c/\St c (kR a y1.1 b 9 1::O) w'/\RepS aD c a4 c4 p3/\RepS aD c a b y1.1) N ⟨0,g,i,rfl,q,st,k,l⟩ ?_;rintro u _ w6 ⟨s1,c,hL,rfl,q,st,k,l⟩;obtain⟨u,a7,rfl,i,z,n⟩:=cZ hL;refine cA (aK i ?_ ?_)<;>intro A i
  .refine aL (aG (bA (cA (eH [(9,fun w'=>Inv c w'/\True)] kr st fun w7 _ st=> ?_))));have B:=c.le_refl;refine tA st B (aX 2 [0,1] ?_);have⟨V,M,i⟩:=aU i;refine mT (t:=50) (e:=9) (x:=(.tmp 34)) (y:=(.tmp 35)) 2 36 aD kr rfl kr (.head _) (aH (bQ (aH (aH (bQ (aH eY)))))) (ev (vS a y1.1 b)) (ev (vI s1)) kr l M ?_;rintro b3 Z a0 rfl G;refine cR 3 G (aX 2 [4,5] ?_);have⟨Y,R,i⟩:=aU i;refine mT (t:=50) (e:=9) (x:=(.tmp 38)) (y:=(.tmp 39)) 6 40 aD kr rfl kr (.head _) (aH (bQ (aH (aH (bQ (aH eY)))))) (ev (vS a4 p3 c4)) (ev (vI s1)) kr k R ?_;rintro b4 f2 a6 rfl H;refine cR 7 H (aT 8 (cE kr (bC (aK i ?_ ?_))))<;>intro A i
   .refine bK 3 (lK ?_);have st:=st.t;refine bC (bU (cN (bL ?_)));have ho:=n _ (sI i);subst ho;have i:=S;obtain rfl:=sI i;exact lO ⟨c,rfl,q,st⟩
   refine lC (cB 2 ?_);have hL:=z _ (sI i);exact cX ⟨wr (s1+1),c,hL,rfl,q,st,k,l⟩
  refine cV ?_;have ho:=n _ (sI i);exact cS (p _ _ ⟨(),c,ho,rfl,q,st⟩)
 intro D i K;refine bP 3 22 i ?_ ?_<;>intro A i
 .exact aM 6 (K i ⟨U,rfl,((q.t f).t d).t s,st,((k.o f).o d).o s,l⟩)
 exact aM 6 (K i ⟨U,rfl,((q.t f).t d).t s,st,((k.o f).o d).o s,l⟩)
def GN(N:Nat)(p0:zU)(p1:zU)(s1:Int):Tj:=
 if(decide (s1<(List.length p0.2.2.1:Int)))then((aO p0.2.2.1 s1).bind fun a=>(aO p1.2.2.1 s1).bind fun b=>if(!((a.1==b.1)&&((a.2.1.toList==b.2.1.toList)&&((a.2.2.toList==b.2.2.toList)&&true))))then(some (.inr (.inr (false)))) else(some (.inl (IntKind.wrap .i64 (s1+1))))) else(some (.inr (.inl ())))
def LB(N:Nat)(p0:zU)(p1:zU):Tk:=
 (if(!((p0.1.1==p1.1.1)&&((p0.1.2.1==p1.1.2.1)&&((p0.1.2.2==p1.1.2.2)&&true))))then(some true) else(if(!(p0.2.1==p1.2.1))then(some true) else(if(p0.2.2.2 !=p1.2.2.2)then(some true) else(some ((List.length p0.2.2.1:Int) !=(List.length p1.2.2.1:Int))))):Tk).bind fun a=>if a then(some false) else((aB (GN N p0 p1) N 0).bind fun a=>(match a with| .inl o2=>some true| .inr (z)=>some z))
theorem qRt{p0:zU}{p1:zU}{r:Bool}(st:St m (O) w)(f:RepS C8 m a1 c1 p0.d.1)(g:RepS C8 m a2 c2 p1.d.1)(i:LB N p0 p1=some r):Calls prog 13 #[.agg (Vk p0.1.1 p0.1.2.1 p0.1.d p0.2.1 a1 p0.d.1 c1 p0.e),.agg (Vk p1.1.1 p1.1.2.1 p1.1.d p1.2.1 a2 p1.d.1 c2 p1.e)] w fun e w'=>∃m',eU m m' e (vB r) (O) w':=by
 refine bY st func13 rfl ntmps13 fun q=>aC (iK 2 43 (.agg (Vk p0.1.1 p0.1.2.1 p0.1.d p0.2.1 a1 p0.d.1 c1 p0.e)) st fun k m1 w1 G st a=>iK 3 43 (.agg (Vk p1.1.1 p1.1.2.1 p1.1.d p1.2.1 a2 p1.d.1 c2 p1.e)) st fun l E w2 B st b=> ?_);have q:=(q.t G).t B;have f:=(f.o G).o B;have g:=(g.o G).o B;have a:=a.o B;refine eF (aC (iG 28 i (fun M L' w'=>∃n,L'=[(2,vP k 0),(3,vP l 0),(33,vB M)]/\m.le n/\St n (O) w'/\MRow n k 0 [vI p0.1.1,vI p0.1.2.1,vI p0.1.d,vB p0.2.1,vS a1 p0.d.1 c1,vI p0.e]/\RepS C8 n a1 c1 p0.d.1/\MRow n l 0 [vI p1.1.1,vI p1.1.2.1,vI p1.1.d,vB p1.2.1,vS a2 p1.d.1 c2,vI p1.e]/\RepS C8 n a2 c2 p1.d.1) ?_ ?_))
 .rintro M i _ w3 ⟨n,rfl,q,st,a,f,b,g⟩;refine aJ (aK i ?_ ?_)<;>intro A i
  .cases i;exact cO ⟨n,rfl,q,st⟩
  refine aL (aG (iQ 1 st (a.drop 4) (lL ?_)));have⟨v,i,Y⟩:=aU i;refine lF (.exit 0) (fun L' w'=>∃(o2:Unit),∃F,(.inl o2)=v/\L'=[]/\m.le F/\St F (O) w') ?_ ?_
  .rintro _ c ⟨o2,F,rfl,rfl,q,st⟩;have i:=Y;cases i;exact eS (cO ⟨F,rfl,q,st⟩)
  intro z;refine cY (fun D L' w'=>∃(s1:Int),∃c,aB (GN N p0 p1) D s1=some v/\L'=[(2,vP k 0),(3,vP l 0),(36,vI (p0.2.2.1.length:Int)),(37,vI s1)]/\m.le c/\St c (O) w'/\MRow c k 0 [vI p0.1.1,vI p0.1.2.1,vI p0.1.d,vB p0.2.1,vS a1 p0.d.1 c1,vI p0.e]/\RepS C8 c a1 c1 p0.d.1/\MRow c l 0 [vI p1.1.1,vI p1.1.2.1,vI p1.1.d,vB p1.2.1,vS a2 p1.d.1 c2,vI p1.e]/\RepS C8 c a2 c2 p1.d.1) N ⟨0,n,i,rfl,q,st,a,f,b,g⟩ ?_;rintro D _ w5 ⟨s1,c,hL,rfl,q,st,a,f,b,g⟩;obtain⟨D,a6,rfl,i,H,s⟩:=cZ hL;refine cA (aK i ?_ ?_)<;>intro A i
  .refine aL (aG (bA (cA (eH [(11,fun w'=>Inv c w'/\True)] kr st fun w6 _ st=> ?_))));have u:=c.le_refl;refine tA st u (aT 0 (cR 1 (a.drop 4) (aT 2 ?_)));have⟨o,U,i⟩:=aU i;refine mT (t:=41) (e:=90) (x:=(.tmp 41)) (y:=(.tmp 42)) 3 43 C8 kr rfl kr (.head _) (aH (bQ (aH (aH (bQ (aH eY)))))) (ev (vS a1 p0.d.1 c1)) (ev (vI s1)) kr f U ?_;rintro b3 Z a0 ⟨_,_,rfl,rfl,⟨_,_,rfl,rfl,rfl⟩⟩ R;refine cR 4 R (aT 5 (cR 6 (b.drop 4) (aT 7 ?_)));have⟨p,V,i⟩:=aU i;refine mT (t:=41) (e:=90) (x:=(.tmp 46)) (y:=(.tmp 47)) 8 48 C8 kr rfl kr (.head _) (aH (bQ (aH (aH (bQ (aH eY)))))) (ev (vS a2 p1.d.1 c2)) (ev (vI s1)) kr g V ?_;rintro b4 f2 a5 ⟨_,_,rfl,rfl,⟨_,_,rfl,rfl,rfl⟩⟩ S;refine cR 9 S (aR 10 kr (YN (d:=50) (t:=90) (t2:=90) (x:=(.tmp 44)) (y:=(.tmp 49)) (xs:=(Vh o)) (ys:=(Vh p)) ((o.1==p.1)&&((o.2.1.toList==p.2.1.toList)&&((o.2.2.toList==p.2.2.toList)&&true))) kr rfl (ev (.agg (Vh o))) (ev (.agg (Vh p))) kr kr kr (tA st u (cE kr (bC (aK i ?_ ?_))))))<;>intro A i
   .refine bJ (bU (cN (bL ?_)));have ho:=s _ (sI i);subst ho;have i:=Y;cases i;exact lO ⟨c,rfl,q,st⟩
   refine lC (cB 2 ?_);have hL:=H _ (sI i);exact cX ⟨wr (s1+1),c,hL,rfl,q,st,a,f,b,g⟩
  refine cV ?_;have ho:=s _ (sI i);exact cS (z _ _ ⟨(),c,ho,rfl,q,st⟩)
 intro M i K;refine cW 1 st a (cW 1 st b (cU (YN (d:=10) (t:=40) (t2:=40) (x:=(.tmp 7)) (y:=(.tmp 9)) (xs:=(Vl p0.1)) (ys:=(Vl p1.1)) ((p0.1.1==p1.1.1)&&((p0.1.2.1==p1.1.2.1)&&((p0.1.d==p1.1.d)&&true))) kr rfl (ev (.agg (Vl p0.1))) (ev (.agg (Vl p1.1))) kr kr kr (bP 1 11 i ?_ ?_))))<;>intro A i
 .exact aM 22 (K i ⟨E,rfl,q,st,a,f,b,g⟩)
 refine cW 1 st (a.drop 3) (cW 1 st (b.drop 3) (bP 3 18 i ?_ ?_))<;>intro A i
 .exact aM 15 (K i ⟨E,rfl,q,st,a,f,b,g⟩)
 refine cW 1 st (a.drop 5) (cW 1 st (b.drop 5) (bP 3 25 i ?_ ?_))<;>intro A i
 .exact aM 8 (K i ⟨E,rfl,q,st,a,f,b,g⟩)
 exact cW 1 st (a.drop 4) (cW 2 st (b.drop 4) (aM 3 (K i ⟨E,rfl,q,st,a,f,b,g⟩)))
def DS(N:Nat)(y1:Tz)(c:Tz)(a:T19)(d:T1a)(y5:zU×Int)(s1:Int):Tj:=
 if(decide (s1<=3))then((CF N y5.1.2.2.1 s1).bind fun b=>if(b.2 !=0)then(some (.inr (.inr (false)))) else((KT N y1.2 a.2 b.1).bind fun e=>(SE N c.2 a.2 b.1 e.1).bind fun b=>(yR N c.2 a.2 5 d.2).bind fun a=>(if(b.1==(-1))then(if(a.2 !=0)then(some true) else((LB N (y5.1.1,y5.1.2.1,y5.1.2.2.1,y5.1.2.2.2) (a.1.1,a.1.2.1,a.1.2.2.1,a.1.2.2.2)).bind fun a=>some (!a))) else(some false):Tk).bind fun o2=>if o2 then(some (.inr (.inr (false)))) else(some (.inl (IntKind.wrap .i64 (s1+1)))))) else(some (.inr (.inl ())))
def QV(N:Nat)(p0:Te):Tk:=
 (RJ N (p0,0)).bind fun y1=>(SK N y1.1 y1.2).bind fun b=>(QR N b.1).bind fun a=>(SJ N a.1).bind fun c=>(yR N y1.2 a.2 5 c.2).bind fun y5=>if(y5.2 !=0)then((LX N).bind fun d=>some d) else((aB (DS N y1 b a c y5) N 1).bind fun a=>(match a with| .inl a=>(LX N).bind fun a=>some a| .inr (z)=>some z))
theorem qRr{p0:Te}{r:Bool}(st:St m (O) w)(r1:RepS (aI .i64) m a1 c1 p0)(i:QV N p0=some r):Calls prog 3 #[vS a1 p0 c1] w fun e w'=>∃m',eU m m' e (vB r) (O) w':=by
 refine bY st func3 rfl ntmps3 fun q=>bJ (bK 2 (cU (IS 21 25 20 (.agg #[vS a1 p0 c1,vI 0]) st fun V w1 st=>bH (aY 1 i (qRx (p0:=(p0,0)) st r1) ?_))));rintro y1 i _ w2 ⟨a2,c2,s,v,m2,rfl,e2,st,r2,o⟩;refine eE 4 28 (.agg #[v6]) st fun b2 w3 st=>cL (.agg #[vS s y1.2 v]) st fun w4 st=>aJ (bK 1 (cF st.h (bI i (qTa (p0:=y1.1) st.f2 r2 o) ?_)));rintro p i _ w5 ⟨a4,c4,z,B,m3,rfl,e3,st,r4,g⟩;refine eE 5 28 (.agg #[v6]) st fun b3 w6 st=>cL (.agg #[vS z p.2 B]) st fun w7 st=>aJ (aY 1 i (qRq (p0:=p.1) st.f2 r4) ?_);rintro f i _ w8 ⟨a6,c6,l,n,m4,rfl,e4,st,r6,b⟩;refine eE 6 33 (.agg #[v6]) st fun b4 w9 st=>cL (.agg #[vS l f.2 n]) st fun f3 st=>aJ (aY 1 i (qTb (p0:=f.1) st.f2 r6) ?_);rintro k i _ g0 ⟨a8,c8,m5,rfl,e5,st,E⟩;refine eE 7 36 (.agg #[vT eB,vT eB]) st fun b5 g1 st=>cL (.agg (V2 k.2)) st fun g2 st=>aJ (aC (cF st.t.t.t.t.t.t.h (cF st.t.t.h (cF st.h (bI i (qDj (p3:=k.2) st (((o.o e3).o e4).o e5) (b.o e5)) ?_)))));rintro y5 i _ g3 ⟨u,x,m6,rfl,e6,st,y⟩;refine cH 3 (eE 8 43 (.agg #[vI 0,vI 0,vI 0,vB false,v6,vI 0]) st fun b6 g4 st=>cL (.agg (Vk y5.1.1.1 y5.1.1.2.1 y5.1.1.d y5.1.2.1 u y5.1.d.1 x y5.1.e)) st fun g5 st=>eF (bF i ?_ ?_))<;>intro A i
 .refine aC (bI i (qDc st) ?_);rintro a i _ F ⟨D,rfl,c,st⟩;obtain rfl:=sI i;exact eT ⟨D,rfl,(((((q.t e2).t e3).t e4).t e5).t e6).t c,st.t.t.t.t.t.t.t.t.t.t⟩
 refine aL (aG (bJ (bA ?_)));have⟨b9,i,j1⟩:=aU i;refine lF (.exit 0) (fun L' w'=>∃(o1:Unit),∃Y,(.inl o1)=b9/\L'=[]/\m.le Y/\St Y (kB b6 (Vk y5.1.1.1 y5.1.1.2.1 y5.1.1.d y5.1.2.1 u y5.1.d.1 x y5.1.e) 43::kB b5 (V2 k.2) 36::kB V (V1 k.1 a8 c8) 25::kB b4 #[vS l f.2 n] 33::kB b3 #[vS z p.2 B] 28::kB b2 #[vS s y1.2 v] 28::kR u y5.1.d.1 x 90 3::kR l f.2 n 70 2::kR z p.2 B 63 2::kR s y1.2 v 63 2::O) w'/\RepS C8 Y u x y5.1.d.1/\RepS (aI .i64) Y a8 c8 k.1.1/\RepS C3 Y l n f.2/\RepS C1 Y z B p.2/\RepS C1 Y s v y1.2) ?_ ?_
 .rintro _ F ⟨o1,Y,rfl,rfl,q,st,y,E,b,g,o⟩;have i:=j1;refine eS (aC (bI i (qDc st) ?_));rintro a i _ G ⟨D,rfl,c,st⟩;obtain rfl:=sI i;exact eT ⟨D,rfl,q.t c,st.t.t.t.t.t.t.t.t.t.t⟩
 intro c0;refine cY (fun k1 L' w'=>∃(s1:Int),∃U,aB (DS N y1 p f k y5) k1 s1=some b9/\L'=[(4,vP b2 0),(5,vP b3 0),(6,vP b4 0),(7,vP b5 0),(8,vP b6 0),(10,vI s1)]/\m.le U/\St U (kB b6 (Vk y5.1.1.1 y5.1.1.2.1 y5.1.1.d y5.1.2.1 u y5.1.d.1 x y5.1.e) 43::kB b5 (V2 k.2) 36::kB V (V1 k.1 a8 c8) 25::kB b4 #[vS l f.2 n] 33::kB b3 #[vS z p.2 B] 28::kB b2 #[vS s y1.2 v] 28::kR u y5.1.d.1 x 90 3::kR l f.2 n 70 2::kR z p.2 B 63 2::kR s y1.2 v 63 2::O) w'/\RepS C8 U u x y5.1.d.1/\RepS (aI .i64) U a8 c8 k.1.1/\RepS C3 U l n f.2/\RepS C1 U z B p.2/\RepS C1 U s v y1.2) N ⟨1,m6,i,rfl,((((q.t e2).t e3).t e4).t e5).t e6,st.f9.f8.f7.f4.f9.f9.f9.f9.f9.f9,y,E.o e6,(b.o e5).o e6,((g.o e4).o e5).o e6,(((o.o e3).o e4).o e5).o e6⟩ ?_;rintro k1 _ g6 ⟨s1,U,hL,rfl,q,st,y,E,b,g,o⟩;obtain⟨k1,f1,rfl,i,d5,a0⟩:=cZ hL;refine aG (bF i ?_ ?_)<;>intro A i
 .refine aL (aG (bA (aC (aV 1 st.h (eR 1 i (qDx st y) ?_)))));rintro y7 i _ g7 ⟨b0,b8,d6,rfl,R,st,d4⟩;have b:=b.o R;refine eF (bF i ?_ ?_)<;>intro A i
  .refine bK 1 (lK ?_);have st:=st.t;refine bC (bU (bL (cN (bL ?_))));have ho:=a0 _ (sI i);subst ho;have i:=j1;cases i;exact lO ⟨d6,rfl,q.t R,st.t.t.t.t.t.t.t.t.t.t⟩
  refine aL (aC (cF st.t.t.t.t.t.t.h (cF st.t.t.t.t.h (eR 1 i (qCr st (o.o R) b d4) ?_))));rintro y8 i _ g8 ⟨d1,d2,e1,rfl,S,st,d8⟩;refine vA (cF st.t.t.t.t.t.t.h (cF st.t.t.t.t.t.h (eR 2 i (qSp st ((g.o R).o S) (b.o S) (d4.o S) d8) ?_)));rintro y9 i _ g9 ⟨f0,rfl,H,st⟩;have g:=((g.o R).o S).o H;have b:=(b.o S).o H;refine eD 5 ?_;have st:=st.t.t;refine bC (aC (cF st.t.t.t.t.h (cF st.t.t.t.h (cF st.t.h (bI i (qDj (p3:=k.2) st g b) ?_)))));rintro a i _ h0 ⟨F,G,d3,rfl,M,st,Z⟩;have q:=(((q.t R).t S).t H).t M;have g:=g.o M;have b:=b.o M;have y:=(((y.o R).o S).o H).o M;have E:=(((E.o R).o S).o H).o M;have o:=(((o.o R).o S).o H).o M
  refine cH 3 (eE 17 43 (.agg #[vI 0,vI 0,vI 0,vB false,v6,vI 0]) st fun b7 h1 st=>cL (.agg (Vk a.1.1.1 a.1.1.2.1 a.1.1.d a.1.2.1 F a.1.d.1 G a.1.e)) st fun h2 st=>vA (iG 12 i (fun o2 L' w'=>∃c,L'=[(4,vP b2 0),(5,vP b3 0),(6,vP b4 0),(7,vP b5 0),(8,vP b6 0),(10,vI s1),(87,vB o2)]/\m.le c/\St c (kB b7 (Vk a.1.1.1 a.1.1.2.1 a.1.1.d a.1.2.1 F a.1.d.1 G a.1.e) 43::kB b6 (Vk y5.1.1.1 y5.1.1.2.1 y5.1.1.d y5.1.2.1 u y5.1.d.1 x y5.1.e) 43::kB b5 (V2 k.2) 36::kB V (V1 k.1 a8 c8) 25::kB b4 #[vS l f.2 n] 33::kB b3 #[vS z p.2 B] 28::kB b2 #[vS s y1.2 v] 28::kR F a.1.d.1 G 90 3::kR u y5.1.d.1 x 90 3::kR l f.2 n 70 2::kR z p.2 B 63 2::kR s y1.2 v 63 2::O) w'/\RepS C8 c F G a.1.d.1/\RepS C8 c u x y5.1.d.1/\RepS (aI .i64) c a8 c8 k.1.1/\RepS C3 c l n f.2/\RepS C1 c z B p.2/\RepS C1 c s v y1.2) ?_ ?_))
  .rintro o2 i _ D ⟨c,rfl,q,st,Z,y,E,b,g,o⟩;refine aJ (aK i ?_ ?_)<;>intro A i
   .refine bJ (bU (cN (bL ?_)));have ho:=a0 _ (sI i);subst ho;have i:=j1;cases i;exact lO ⟨c,rfl,q,st.t.t.t.t.t.t.t.t.t.t.t.t⟩
   refine lC (cB 3 ?_);have hL:=d5 _ (sI i);exact cX ⟨wr (s1+1),c,hL,rfl,q,st.t.f6.t.f9.f9.f9.f9.f9.f9.f9.f9.f9.f9,y,E,b,g,o⟩
  intro o2 i K;refine bP 3 78 i ?_ ?_<;>intro A i
  .refine bP 3 81 i ?_ ?_<;>intro A i
   .exact aM 6 (K i ⟨d3,rfl,q,st.f11.f11.f11.f11.f5.f11.f11.f11.f11.f11.f11.f11,Z,y,E,b,g,o⟩)
   refine cF st.t.t.h (cF st.h (bI i (qRt (p0:=y5.1) (p1:=a.1) st y Z) ?_));rintro d9 i _ h3 ⟨d7,rfl,D,st⟩;exact aM 3 (K i ⟨d7,rfl,q.t D,st.f11.f11.f11.f11.f5.f11.f11.f11.f11.f11.f11.f11,Z.o D,y.o D,E.o D,b.o D,g.o D,o.o D⟩)
  exact aM 9 (K i ⟨d3,rfl,q,st.f11.f11.f11.f11.f5.f11.f11.f11.f11.f11.f11.f11,Z,y,E,b,g,o⟩)
 refine cV ?_;have ho:=a0 _ (sI i);have st:=st.f9.f9.f9.f9.f9.f9.f9.f9.f9.f9;exact cS (c0 _ _ ⟨(),U,ho,rfl,q,st,y,E,b,g,o⟩)
end
end Go.Proofs.YteclmpmonbnooaaGreatDoor
section
namespace Go.Dc
theorem YY{σ β:Type}{f:σ->Option (σ⊕β)}(st:Nat->σ)(k:Nat)(res:β)(step:∀i,i<k->f (st i)=some (.inl (st (i+1))))(stop:f (st k)=some (.inr res)){N:Nat}(b:k<N):aB f N (st 0)=some res:=by
 have key:∀d i M,i+d=k->d<M->aB f M (st i)=some res:=by
  intro d
  induction d with
  |zero=>intro i M h a;obtain⟨M',rfl⟩:∃M',M=M'+1:=⟨M-1,by omega⟩;simp only[gY] at h;subst h;simp[aB,stop]
  |succ d c=>
   intro i M h a
   obtain⟨M',rfl⟩:∃M',M=M'+1:=⟨M-1,by omega⟩
   have:=c (i+1) M' aa aa
   simp[aB,step i aa,this]
 exact key k 0 N aa b
section
variable {ν:Type}
theorem qVi{l:List (Int×ν)}{k c:Int}{v:ν}(h:c≠k):eV (l.map fun p=>if k=p.1 then(k,v) else p) c=eV l c:=by
 induction l with
 |nil=>rfl
 |cons p l a=>
  simp only[kF,eV]
  by_cases hk:k=p.1
  .subst hk;rw[if_pos rfl,if_neg h,if_neg h,a]
  rw[if_neg hk,a]
theorem qWa{l:List (Int×ν)}{k:Int}{v:ν}(h:(eV l k).isSome=true):eV (l.map fun p=>if k=p.1 then(k,v) else p) k=some v:=by
 induction l with
 |nil=>cases h
 |cons p l a=>
  simp only[kF,eV] at h ⊢
  by_cases hk:k=p.1
  .subst hk;simp
  rw[if_neg hk] at h ⊢
  rw[if_neg hk]
  exact a h
theorem qYm{l:List (Int×ν)}{k:Int}{v:ν}(h:eV l k=none)(c:Int):eV (mins l k v) c=if c=k then some v else eV l c:=by
 induction l with
 |nil=>rfl
 |cons p l a=>
  simp only[eV] at h
  split at h
  .cases h
  rename_i hk
  simp only[mins]
  split
  .simp only[eV]
  simp only[eV,a h]
  by_cases hc:c=k
  .subst hc;simp[hk]
  simp[hc]
theorem qZl(l:List (Int×ν))(k:Int)(v:ν)(c:Int):eV (mset l k v) c=if c=k then some v else eV l c:=by
 unfold mset
 split
 .rename_i h
  split
  .rename_i hc;subst hc;exact qWa h
  rename_i hc;exact qVi hc
 rename_i h
 exact qYm (by simpa using h) c
def Srt(l:List (Int×ν)):Prop:=(l.map (·.1)).Pairwise (· < ·)
theorem Srt.nil:Srt ([]:List (Int×ν)):=List.Pairwise.nil
theorem Srt.mins{l:List (Int×ν)}{k:Int}{v:ν}(d:Srt l)(h:eV l k=none):Srt (mins l k v):=by
 induction l with
 |nil=>simp[Srt,Go.Dc.mins]
 |cons p l f=>
  have hs':=d
  simp only[Srt,kF,kS] at d
  simp only[eV] at h
  split at h
  .cases h
  rename_i hk
  simp only[Go.Dc.mins]
  split
  .rename_i b
   have b:k<p.1:=by simpa[KOrd.lt] using b
   refine kS.2 ⟨fun a c=> ?_,hs'⟩
   simp only[kF,jJ] at c
   rcases c with rfl|c
   .exact b
   exact Int.lt_trans b (d.1 a c)
  rename_i b
  have b:¬k<p.1:=by simpa[KOrd.lt] using b
  refine kS.2 ⟨fun a c=> ?_,f d.2 h⟩
  obtain⟨q,e,rfl⟩:=gL.1 c
  rcases jJ.1 ((qHq l k v).mem_iff.1 e) with rfl|e
  .show p.1<k;omega
  exact d.1 _ (gV e)
theorem Srt.mset{l:List (Int×ν)}(a:Srt l)(k:Int)(v:ν):Srt (mset l k v):=by
 unfold Go.Dc.mset
 split
 .unfold Srt
  have:(l.map fun p=>if k=p.1 then(k,v) else p).map (·.1)=l.map (·.1):=by
   rw[List.map_map]
   refine dN fun p _=> ?_
   simp only[Function.comp_apply]
   split
   .rename_i h;exact h
   rfl
  rw[this];exact a
 rename_i h
 exact a.mins (by simpa using h)
theorem Srt.out{l:List (Int×ν)}{c:Int}(h:∀a∈l.map (·.1),c<a):eV l c=none:=by
 rw[YL];intro b;exact Int.lt_irrefl _ (h c b)
theorem Srt.ext:∀{l k:List (Int×ν)},Srt l->Srt k->(∀c,eV l c=eV k c)->l=k
 |[],[],_,_,_=>rfl
 |[],q::k,_,_,h=>by have:=h q.1;simp[eV] at this
 |p::l,[],_,_,h=>by have:=h p.1;simp[eV] at this
 |p::l,q::k,n,g,h=>by
  have hl':(∀a∈l.map (·.1),p.1<a)/\Srt l:=kS.1 n
  have hk':(∀a∈k.map (·.1),q.1<a)/\Srt k:=kS.1 g
  have e:p.1=q.1:=by
   rcases Int.lt_trichotomy p.1 q.1 with d|f|d
   .have:=h p.1
    rw[Srt.out (l:=q::k) (c:=p.1)] at this
    .simp[eV] at this
    intro a b
    rcases jJ.1 b with rfl|b
    .exact d
    exact Int.lt_trans d (hk'.1 a b)
   .exact f
   have:=h q.1
   rw[Srt.out (l:=p::l) (c:=q.1)] at this
   .simp[eV] at this
   intro a b
   rcases jJ.1 b with rfl|b
   .exact d
   exact Int.lt_trans d (hl'.1 a b)
  have d:p.2=q.2:=by have:=h p.1;simpa[eV,e] using this
  have f:l=k:=by
   refine Srt.ext hl'.2 hk'.2 fun c=> ?_
   by_cases hc:c=p.1
   .rw[Srt.out (l:=l) (fun a b=>hc▸hl'.1 a b),Srt.out (l:=k) (fun a b=>by rw[hc,e];exact hk'.1 a b)]
   have:=h c
   simpa[eV,hc,e▸hc] using this
  rw[f,Prod.ext e d]
def vC(v:ν)(m:List (Int×ν))(xs:List UInt8):List (Int×ν):=xs.foldl (fun m x=>mset m (x.toNat:Int) v) m
theorem qGf{v:ν}:∀{xs:List UInt8} {m:List (Int×ν)},Srt m->Srt (vC v m xs)
 |[],_,h=>h
 |_::xs,_,h=>qGf (xs:=xs) (h.mset _ _)
theorem qFt{v:ν}(c:Int):∀(xs:List UInt8) (m:List (Int×ν)),eV (vC v m xs) c=if xs.any (fun x=>decide ((x.toNat:Int)=c))then some v else eV m c
 |[],m=>by simp[vC]
 |x::xs,m=>by
  have:=qFt (v:=v) c xs (mset m (x.toNat:Int) v)
  rw[show vC v m (x::xs)=vC v (mset m (x.toNat:Int) v) xs from rfl,this,qZl]
  by_cases h1:xs.any (fun x=>decide ((x.toNat:Int)=c))=true
  .simp[h1]
  by_cases h2:(x.toNat:Int)=c
  .subst h2;simp[h1]
  have a:¬c=(x.toNat:Int):=fun e=>h2 e.symm
  simp[h1,h2,a]
end
end Go.Dc
namespace Go.Proofs.YteclmpmonbnooaaGreatDoor
open Go Go.Dc
def allK:List (Int×BA):=[(1,⟨#[97,98,99,100,101,102,103,104,105,106,107,108,109,110,111,112,113,114,115,116,117,118,119,120,121,122]⟩),(2,⟨#[48,49,50,51,52,53,54,55,56,57]⟩),(3,⟨#[95]⟩),(4,⟨#[46]⟩),(5,⟨#[9,10,13,32]⟩),(6,⟨#[35]⟩),(7,⟨#[34]⟩),(8,⟨#[59,44,40,41,43,45,42,47,37,60,61]⟩)]
def kdL:List (Int×Int):=[(9,5),(10,5),(13,5),(32,5),(34,7),(35,6),(37,8),(40,8),(41,8),(42,8),(43,8),(44,8),(45,8),(46,4),(47,8),(48,2),(49,2),(50,2),(51,2),(52,2),(53,2),(54,2),(55,2),(56,2),(57,2),(59,8),(60,8),(61,8),(95,3),(97,1),(98,1),(99,1),(100,1),(101,1),(102,1),(103,1),(104,1),(105,1),(106,1),(107,1),(108,1),(109,1),(110,1),(111,1),(112,1),(113,1),(114,1),(115,1),(116,1),(117,1),(118,1),(119,1),(120,1),(121,1),(122,1)]
def yM(c:Int):Int:=(eV kdL c).getD 0
def zT(e:Int×BA)(c:Int):Bool:=e.2.data.toList.any fun x=>decide ((x.toNat:Int)=c)
def DK(m:List (Int×Int))(k:List (Int×BA)):List (Int×Int):=k.foldl (fun m e=>vC e.1 m e.2.data.toList) m
theorem qKk:∀{k:List (Int×BA)} {m:List (Int×Int)},Srt m->Srt (DK m k)
 |[],_,h=>h
 |_::k,_,h=>qKk (k:=k) (qGf h)
theorem qKv(c:Int):∀(k:List (Int×BA)) (m:List (Int×Int)),(∀e∈k,zT e c=true->e.1=yM c)->(∀v,eV m c=some v->v=yM c)->
  eV (DK m k) c=if(k.any fun e=>zT e c)then some (yM c) else eV m c
 |[],m,_,_=>by simp[DK]
 |e::k,m,h,f=>by
  have b:=qFt (v:=e.1) c e.2.data.toList m
  have:=qKv c k (vC e.1 m e.2.data.toList) (fun e' d=>h e' (jH _ d)) (fun v a=>by
   rw[b] at a
   split at a
   .rename_i hi
    rw[<-kG a]
    exact h e (jF ..) hi
   exact f v a)
  rw[show DK m (e::k)=DK (vC e.1 m e.2.data.toList) k from rfl,this,b]
  by_cases h1:(k.any fun e=>zT e c)=true
  .simp[h1]
  by_cases h2:zT e c=true
  .have:=h e (jF ..) h2
   have h2':(e.2.data.toList.any fun x=>decide ((x.toNat:Int)=c))=true:=h2
   simp only[dI,h2,Bool.true_or,jI,h1,h2',this]
   simp
  have h2':(e.2.data.toList.any fun x=>decide ((x.toNat:Int)=c))=false:=by simpa[zT] using h2
  simp only[dI,h1,h2',Bool.or_false,jA,jG]
  simp[h2]
theorem qKb:(allK.all fun e=>e.2.data.toList.all fun x=>decide (e.1=yM (x.toNat:Int)))=true/\(kdL.all fun p=>allK.any fun e=>zT e p.1)=true:=⟨by kernel_rfl,by kernel_rfl⟩
theorem qQb{e:Int×BA}{c:Int}(d:e∈allK)(h:zT e c=true):e.1=yM c:=by
 have:=jZ.1 qKb.1 e d
 obtain⟨x,f,a⟩:=fG.1 h
 have b:=jZ.1 this x f
 have a:(x.toNat:Int)=c:=by simpa using a
 subst a
 simpa using b
theorem zEh(c:Int):eV kdL c=if(allK.any fun e=>zT e c)then some (yM c) else none:=by
 cases h:eV kdL c with
 |none=>
  rw[if_neg]
  intro f
  obtain⟨e,a,hi⟩:=fG.1 f
  have d:=qQb a hi
  have b:yM c=0:=by simp[yM,h]
  have:(allK.all fun e=>decide (e.1≠0))=true:=by kernel_rfl
  have:=jZ.1 this e a
  simp[d,b] at this
 |some v=>
  have a:(c,v)∈kdL:=(ZF (l:=kdL) (by
   have:decide ((kdL.map (·.1)).Nodup)=true:=by kernel_rfl
   simpa using this)).1 h
  have:=jZ.1 qKb.2 _ a
  rw[if_pos this]
  simp[yM,h]
theorem zEy:Srt kdL:=by
 have:decide ((kdL.map (·.1)).Pairwise (· < ·))=true:=by kernel_rfl
 simpa[Srt] using this
theorem qZe{k:List (Int×BA)}(h:k.Perm allK):DK [] k=kdL:=by
 refine Srt.ext (qKk Srt.nil) zEy fun c=> ?_
 rw[qKv c k [] (fun e a hi=>qQb (h.mem_iff.1 a) hi) (fun v b=>by cases b),zEh]
 have:(k.any fun e=>zT e c)=(allK.any fun e=>zT e c):=by
  rw[kP,fG,fG]
  exact⟨fun⟨e,a,hi⟩=>⟨e,h.mem_iff.1 a,hi⟩,fun⟨e,a,hi⟩=>⟨e,h.mem_iff.2 a,hi⟩⟩
 rw[this]
 rfl
theorem zBc{N:Nat}{e:Int×BA}(m:List (Int×Int))(d:e.2.size<=26)(c:30<N):CC N (some e) (some m)=some (.inl (some (vC e.1 m e.2.data.toList))):=by
 have b:e.2.data.toList.length=e.2.size:=by simp
 have a:bytesOf e.2=some e.2.data.toList:=by unfold bytesOf;rw[if_pos (by simp only[maxLen];omega)]
 simp only[CC,a,j0]
 have key:=YY (f:=MD N e e.2.data.toList) (fun i=>((i:Int),some (vC e.1 m (e.2.data.toList.take i)))) e.2.data.toList.length (some (vC e.1 m e.2.data.toList)) (fun i hi=> ?_) ?_ (N:=N) aa
 .simp only[Int.natCast_zero,List.take_zero] at key
  rw[show vC e.1 m []=m from rfl] at key
  rw[key];rfl
 .simp only[MD]
  rw[if_pos (by simpa using hi),cQ hi]
  simp only[j0,tJ,gO]
  rw[bB aa aa,kU hi]
  simp[vC]
 simp only[MD]
 rw[if_neg ae,dX]
theorem qHj{N:Nat}(a:30<N):∀(k:List (Int×BA)) (m:List (Int×Int)),(∀e∈k,e.2.size<=26)->nO (CC N) k (some m)=some (some (DK m k))
 |[],m,_=>by simp[nO,CC,DK]
 |e::k,m,h=>by
  have:=qHj a k (vC e.1 m e.2.data.toList) (fun e' b=>h e' (jH _ b))
  simp only[nO,zBc m (h e (jF ..)) a,j0,this]
  rfl
theorem qKw{N:Nat}(d:30<N):MH N=some (some kdL):=by
 have c:∀e∈allK,e.2.size<=26:=by
  have:(allK.all fun e=>decide (e.2.size<=26))=true:=by kernel_rfl
  intro e a
  simpa using jZ.1 this e a
 have key:CQ (CC N) allK (some [])=some (some kdL):=qZv fun k b=>by
  rw[qHj d k [] (fun e a=>c e (b.mem_iff.1 a)),qZe b]
 have a:MH N=(CQ (CC N) allK (some [])).bind fun f=>some f:=by kernel_rfl
 rw[a,key];rfl
end Go.Proofs.YteclmpmonbnooaaGreatDoor
end
namespace Go.Proofs.YteclmpmonbnooaaGreatDoor
section
open Go Go.Dc
theorem mZ(s:BA):s.data.toList.length=s.size:=by simp
theorem qK{s:BA}{i:Nat}(h:i<s.data.toList.length):lI s (i:Int)=some (s.data.toList[i]):=by
 have h':i<s.size:=by simpa using h
 rw[ZQ h']
 simp[ByteArray.getElem_eq_getElem_data]
def tw(p:UInt8->Bool)(l:List UInt8)(a:Nat):Nat:=a+((l.drop a).takeWhile p).length
section
variable {p:UInt8->Bool} {l:List UInt8} {a:Nat}
theorem sN(h:a<=l.length):a<=tw p l a/\tw p l a<=l.length:=by
 have:=(List.takeWhile_sublist p (l:=l.drop a)).length_le
 simp only[gF] at this
 unfold tw;omega
theorem NO(h:a<l.length)(b:p l[a]=true):tw p l (a+1)=tw p l a:=by
 unfold tw
 rw[kA h,gM b]
 simp only[jC];omega
theorem NM(h:a<l.length)(b:p l[a]=false):tw p l a=a:=by
 unfold tw
 rw[kA h,fA (by simp[b])]
 simp
theorem qBf(h:l.length<=a):tw p l a=a:=by
 unfold tw
 rw[jU h];rfl
theorem IK{β:Type}{f:Int->Option (Int⊕β)}(out:Nat->β)(go:∀i:Nat,∀h:i<l.length,p l[i]=true->f (i:Int)=some (.inl ((i:Int)+1)))
  (no:∀i:Nat,∀h:i<l.length,p l[i]=false->f (i:Int)=some (.inr (out i))) (en:f (l.length:Int)=some (.inr (out l.length))):
  ∀(d a N:Nat),a+d=l.length->d<N->aB f N (a:Int)=some (out (tw p l a))
 |d,a,0,_,h=>by omega
 |0,a,N+1,c,h=>by
  have:a=l.length:=by omega
  subst this
  rw[qBf (jN _)];simp[aB,en]
 |d+1,a,N+1,c,h=>by
  have b:a<l.length:=by omega
  cases hb:p l[a] with
  |true=>
   have:=IK out go no en d (a+1) N aa aa
   rw[NO b hb] at this
   simpa[aB,go a b hb] using this
  |false=>
   rw[NM b hb];simp[aB,no a b hb]
end
def kd(c:UInt8):Int:=yM (c.toNat:Int)
def bN(ks:List Int)(c:UInt8):Bool:=ks.any fun k=>kd c==k
theorem qHk{N:Nat}{s:BA}{ks:List Int}{i:Nat}(h:i<s.data.toList.length)(c:ks.length<=10)(b:10<N):aB (HL N s (some kdL) ks (i:Int)) N (false,0)=some (bN ks (s.data.toList[i])):=by
 have key:=YY (f:=HL N s (some kdL) ks (i:Int)) (fun j=>((ks.take j).any (fun k=>kd (s.data.toList[i])==k),(j:Int))) ks.length (bN ks (s.data.toList[i])) (fun j a=> ?_) ?_ (N:=N) aa
 .simpa using key
 .simp only[HL]
  rw[if_pos (by simpa using a),cQ a,qK h]
  simp only[j0]
  rw[bB aa aa,kU a,List.any_append]
  cases(ks.take j).any (fun k=>kd (s.data.toList[i])==k)
  .simp[kd,yM,uC]
  simp
 simp only[HL]
 rw[if_neg ae,dX]
 rfl
theorem qNa{N:Nat}{s:BA}{ks:List Int}{i:Nat}(hi:i<=s.data.toList.length)(e:s.data.toList.length<1000000)(c:ks.length<=10)(d:s.data.toList.length+10<N):
  HS N s (i:Int) (some kdL) ks=some ((tw (bN ks) s.data.toList i:Nat):Int):=by
 have g:=mZ s
 have key:=IK (f:=HM N s (some kdL) ks) (l:=s.data.toList) (p:=bN ks) (fun n=>(n:Int)) (fun j b a=>by
   simp only[HM]
   rw[if_pos ad,qHk b c aa,a]
   simp only[j0]
   rw[bB aa aa]
   rfl) (fun j b a=>by
   simp only[HM]
   rw[if_pos ad,qHk b c aa,a]
   rfl) (by
   simp only[HM]
   rw[if_neg ad]) (s.data.toList.length-i) i N aa aa
 unfold HS
 rw[key]
 rfl
theorem zGh(c:UInt8):(uC (some kdL) (c.toNat:Int)).getD 0=kd c:=rfl
theorem qZ{l:List UInt8}{i:Nat}(h:i<l.length):l.getD i 0=l[i]:=by simp[jS,h]
def DG(n:Int)(c:UInt8):Int:=if 9007199254740993<10*n+((c.toNat:Int)-48) then 9007199254740993 else 10*n+((c.toNat:Int)-48)
def sQ(ds:List UInt8):Int:=ds.foldl DG 0
def oT(c:UInt8):Bool:=decide (32<=c.toNat)&&decide (c.toNat<=126)&&c !=34
def FK:Int×BA×Int×Int:=(0,⟨#[]⟩,0,0)
def uD(l:List UInt8)(i:Nat):Nat:=if l.getD i 0=61/\l.getD (i+1) 0=61 then i+2 else i+1
def iT(s:BA)(i:Nat):(Int×BA×Int×Int)×Int×Int:=
 if kd (s.data.toList.getD i 0)=1 then
  if tw (bN [1,2,3]) s.data.toList i-i>24 then(FK,0,2) else((1,s.extract i (tw (bN [1,2,3]) s.data.toList i),0,0),((tw (bN [1,2,3]) s.data.toList i:Nat):Int),0)
 else if kd (s.data.toList.getD i 0)=2 then
  if sQ ((s.data.toList.drop i).takeWhile (bN [2]))>9007199254740992 then(FK,0,3) else((2,⟨#[]⟩,sQ ((s.data.toList.drop i).takeWhile (bN [2])),0),((tw (bN [2]) s.data.toList i:Nat):Int),0)
 else if kd (s.data.toList.getD i 0)=7 then
  if s.data.toList.getD (tw oT s.data.toList (i+1)) 0=34 then((3,s.extract (i+1) (tw oT s.data.toList (i+1)),0,0),((tw oT s.data.toList (i+1)+1:Nat):Int),0) else(FK,0,9)
 else if kd (s.data.toList.getD i 0)=8 then
  ((4,s.extract i (uD s.data.toList i),0,0),((uD s.data.toList i:Nat):Int),0)
 else(FK,0,9)
theorem qKg:∀c:UInt8,kd c=2->48<=c.toNat/\c.toNat<=57:=by
 have h:((List.range 256).all fun n=> !(decide (kd (UInt8.ofNat n)=2))||(decide (48<=n)&&decide (n<=57)))=true:=by kernel_rfl
 intro c a
 have:=jZ.1 h c.toNat (hJ.2 c.toNat_lt)
 simpa[a] using this
theorem qUc{s:BA}{p:UInt8->Bool}{i:Nat}:(s.extract i (tw p s.data.toList i)).data.toList=(s.data.toList.drop i).takeWhile p:=by
 simp only[ByteArray.data_extract,fV]
 have h:=List.prefix_iff_eq_take.1 (dA p (l:=s.data.toList.drop i))
 rw[gU,show tw p s.data.toList i-i=((s.data.toList.drop i).takeWhile p).length by unfold tw;omega]
 exact h.symm
theorem XV(l:List UInt8)(c:UInt8):sQ (l++[c])=DG (sQ l) c:=by simp[sQ]
theorem qAv{p:UInt8->Bool}:∀{l:List UInt8} {c:UInt8},c∈l.takeWhile p->p c=true
 |[],_,h=>by simp at h
 |x::l,c,h=>by
  cases hx:p x with
  |true=>
   rw[gM hx] at h
   rcases jJ.1 h with rfl|h
   .exact hx
   exact qAv h
  |false=>rw[fA (by simp[hx])] at h;cases h
theorem NH{s:BA}{i e:Nat}(a:i<=e)(b:e<=s.data.toList.length):sP s (i:Int) (e:Int)=some (s.extract i e):=by
 have:=mZ s
 rw[MT aa aa aa]
 simp
theorem qXx{s:BA}{i:Nat}(a:i<=s.data.toList.length):sP s (i:Int) (s.size:Int)=some (s.extract i s.data.toList.length):=by
 have b:=mZ s
 rw[<-NH a (jN _),b]
theorem oZ(x y:BA):(x.toList==y.toList)=decide (x=y):=by
 rw[kP]
 simp only[kI,j7]
 constructor
 .intro h
  rw[ByteArray.toList_eq,ByteArray.toList_eq] at h
  exact Go.WideShapes.bytes_inj h
 rintro rfl;rfl
theorem qPe{p:UInt8->Bool}{l:List UInt8}(h:∀c∈l,p c=true):tw p l 0=l.length:=by
 unfold tw
 have:l.takeWhile p=l:=by
  induction l with
  |nil=>rfl
  |cons c l b=>rw[gM (h c (jF ..)),b fun d a=>h d (jH _ a)]
 simp[this]
abbrev bD:=Int×BA×Int×Int
theorem NI{ks:List Int}{k:Int}{c:UInt8}(a:k∈ks)(h:kd c=k):bN ks c=true:=by
 unfold bN;exact fG.2 ⟨k,a,by simp[h]⟩
theorem AQ{p:UInt8->Bool}{l:List UInt8}{a:Nat}(h:a<l.length)(b:p l[a]=true):a<tw p l a:=by
 rw[<-NO h b];have:=(sN (p:=p) (l:=l) (a:=a+1) aa).1;omega
theorem IF{l:List UInt8}{i:Nat}(h:l.getD i 0≠0):i<l.length:=by
 rcases dU i l.length with h'|h'
 .exact h'
 exfalso;apply h;rw[jS,List.getElem?_eq_none h'];rfl
theorem UJ{s:BA}{i:Nat}(hi:i<s.data.toList.length)(h:(iT s i).2.2=0):∃e:Nat,(iT s i).2.1=(e:Int)/\i<e/\e<=s.data.toList.length/\
  (((iT s i).1.1=1\/(iT s i).1.1=4)/\(iT s i).1.2.1=s.extract i e\/(iT s i).1.1=2/\(iT s i).1.2.1=⟨#[]⟩\/(iT s i).1.1=3/\(iT s i).1.2.1.size+i<e):=by
 have d:=mZ s
 unfold iT at h ⊢
 rw[qZ hi] at h ⊢
 by_cases h1:kd (s.data.toList[i])=1
 .rw[if_pos h1] at h ⊢
  split at h
  .cases h
  rename_i h24
  rw[if_neg h24]
  have b:=sN (p:=bN [1,2,3]) (l:=s.data.toList) (a:=i) aa
  exact⟨_,rfl,AQ hi (NI ae h1),b.2,.inl ⟨.inl rfl,rfl⟩⟩
 rw[if_neg h1] at h ⊢
 by_cases h2:kd (s.data.toList[i])=2
 .rw[if_pos h2] at h ⊢
  split at h
  .cases h
  rename_i h24
  rw[if_neg h24]
  have b:=sN (p:=bN [2]) (l:=s.data.toList) (a:=i) aa
  exact⟨_,rfl,AQ hi (NI ae h2),b.2,.inr (.inl ⟨rfl,rfl⟩)⟩
 rw[if_neg h2] at h ⊢
 by_cases h7:kd (s.data.toList[i])=7
 .rw[if_pos h7] at h ⊢
  split at h
  .rename_i h24
   rw[if_pos h24]
   have b:=sN (p:=oT) (l:=s.data.toList) (a:=i+1) aa
   have c:tw oT s.data.toList (i+1)<s.data.toList.length:=IF (by rw[h24];decide)
   refine⟨_,rfl,by omega,by omega,.inr (.inr ⟨rfl,?_⟩)⟩
   simp only[ByteArray.size_extract]
   omega
  cases h
 rw[if_neg h7] at h ⊢
 by_cases h8:kd (s.data.toList[i])=8
 .rw[if_pos h8] at h ⊢
  refine⟨_,rfl,?_,?_,.inl ⟨.inr rfl,rfl⟩⟩
  .unfold uD;split<;>omega
  unfold uD
  split
  .rename_i hh
   have:i+1<s.data.toList.length:=IF (by rw[hh.2];decide)
   omega
  omega
 rw[if_neg h8] at h
 cases h
def oR(c:UInt8):Bool:=c !=10
def oM:Nat->BA->Nat->(Int×Int)⊕List bD
 |0,_,_=> .inr []
 |k+1,s,i=>
  if tw (bN [5]) s.data.toList i=s.data.toList.length then .inr [(5,⟨#[]⟩,0,(s.data.toList.length:Int))]
  else if kd (s.data.toList.getD (tw (bN [5]) s.data.toList i) 0)=6 then oM k s (tw oR s.data.toList (tw (bN [5]) s.data.toList i))
  else if(iT s (tw (bN [5]) s.data.toList i)).2.2≠0 then .inl ((tw (bN [5]) s.data.toList i:Nat),(iT s (tw (bN [5]) s.data.toList i)).2.2)
  else match oM k s (iT s (tw (bN [5]) s.data.toList i)).2.1.toNat with
   | .inl x=> .inl x
   | .inr r=> .inr (((iT s (tw (bN [5]) s.data.toList i)).1.1,(iT s (tw (bN [5]) s.data.toList i)).1.2.1,(iT s (tw (bN [5]) s.data.toList i)).1.2.2.1,((tw (bN [5]) s.data.toList i:Nat):Int))::r)
def FN(acc:List bD):(Int×Int)⊕List bD->List bD×Int×Int
 | .inl x=>([],x.1,x.2)
 | .inr r=>(acc++r,0,0)
def mP(s:BA):List bD×Int×Int:=if s.data.toList.length>16384 then([],0,2) else FN [] (oM (s.data.toList.length+1) s 0)
def DB(t:bD):Int:=t.2.2.2+(t.2.1.size:Int)+(if t.1=2 then 1 else 0)
def qBp(s:BA):Int->List bD->Prop
 |_,[]=>True
 |e,t::r=>e<=t.2.2.2/\t.2.2.2+(t.2.1.size:Int)<=s.size/\(t.1=5↔r=[])/\(t.1=1\/t.1=4->s.extract t.2.2.2.toNat (t.2.2.2+(t.2.1.size:Int)).toNat=t.2.1/\0<t.2.1.size)/\qBp s (DB t) r
theorem XE{s:BA}:∀(k i:Nat) (e:Int) (r:List bD),i<=s.data.toList.length->s.data.toList.length<i+k->e<=i->oM k s i= .inr r->qBp s e r/\r≠[]/\r.length<=s.data.toList.length+1-i
 |0,i,e,r,A,G,H,c=>by omega
 |k+1,i,e,r,A,G,H,c=>by
  have M:=mZ s
  have K:=sN (p:=bN [5]) (l:=s.data.toList) (a:=i) A
  simp only[oM] at c
  generalize hE:tw (bN [5]) s.data.toList i=a at K c
  split at c
  .obtain rfl:=(Sum.inr.inj c).symm
   refine⟨⟨by show e<=(s.data.toList.length:Int);omega,by show(s.data.toList.length:Int)+((0:Nat):Int)<=_;omega,by simp,fun h=>by simp at h,trivial⟩,by simp,by simp;omega⟩
  rename_i he
  have o:a<s.data.toList.length:=by omega
  split at c
  .rename_i h6
   have u:=sN (p:=oR) (l:=s.data.toList) (a:=a) aa
   have d:=AQ (p:=oR) o (by
    rw[qZ o] at h6
    simp only[oR,dE,uB]
    intro e;rw[e] at h6;exact absurd h6 ac)
   obtain⟨v,y,F⟩:=XE k _ e r u.2 aa aa c
   exact⟨v,y,by omega⟩
  split at c
  .cases c
  rename_i h0
  obtain⟨b,B,u,D,E⟩:=UJ o (by simpa using h0)
  rw[B,jQ] at c
  generalize (iT s a).1=t at c E
  cases z:oM k s b with
  |inl x=>rw[z] at c;cases c
  |inr q=>
   rw[z] at c
   obtain rfl:=(Sum.inr.inj c).symm
   have g:(s.extract a b).size=b-a:=by rw[ByteArray.size_extract];omega
   have f:DB (t.1,t.2.1,t.2.2.1,(a:Int))<=b/\(a:Int)+(t.2.1.size:Int)<=b/\t.1≠5/\(t.1=1\/t.1=4->t.2.1=s.extract a b):=by
    rcases E with ⟨n,d⟩|⟨n,d⟩|⟨n,d⟩
    .refine⟨?_,?_,by omega,fun _=>d⟩
     .simp only[DB,d,g];rw[if_neg aa];omega
     rw[d,g];omega
    .have:(⟨#[]⟩:BA).size=0:=rfl
     refine⟨?_,?_,by omega,fun h=>by omega⟩
     .simp only[DB,d,this];rw[if_pos n];omega
     rw[d,this];omega
    refine⟨?_,by omega,by omega,fun h=>by omega⟩
    simp only[DB];rw[if_neg aa];omega
   obtain⟨v,y,F⟩:=XE k b (DB (t.1,t.2.1,t.2.2.1,(a:Int))) q D aa f.1 z
   refine⟨⟨by show e<=(a:Int);omega,?_,?_,?_,v⟩,by simp,by simp only[jC];omega⟩
   .show(a:Int)+(t.2.1.size:Int)<=_;omega
   .exact⟨fun h=>absurd h f.2.2.1,fun h=>absurd h y⟩
   intro h
   have:=f.2.2.2 h
   show s.extract (Int.toNat (a:Int)) ((a:Int)+(t.2.1.size:Int)).toNat=t.2.1/\0<t.2.1.size
   rw[this,g,jQ,show((a:Int)+((b-a:Nat):Int)).toNat=b by omega]
   exact⟨rfl,by omega⟩
theorem TY{s:BA}:∀(k i:Nat) (x:Int×Int),i<=s.data.toList.length->s.data.toList.length<i+k->oM k s i= .inl x->0<=x.1/\x.1<=s.size/\x.2≠0
 |0,i,x,h,r,c=>by omega
 |k+1,i,x,h,r,c=>by
  have v:=mZ s
  have t:=sN (p:=bN [5]) (l:=s.data.toList) (a:=i) h
  simp only[oM] at c
  generalize hE:tw (bN [5]) s.data.toList i=a at t c
  split at c
  .cases c
  rename_i he
  have d:a<s.data.toList.length:=by omega
  split at c
  .rename_i h6
   have f:=sN (p:=oR) (l:=s.data.toList) (a:=a) aa
   have g:=AQ (p:=oR) d (by
    rw[qZ d] at h6
    simp only[oR,dE,uB]
    intro e;rw[e] at h6;exact absurd h6 ac)
   exact TY k _ x f.2 aa c
  split at c
  .rename_i h0
   obtain rfl:=Sum.inl.inj c
   exact⟨by simp only;omega,by simp only;omega,h0⟩
  rename_i h0
  obtain⟨b,n,f,o,u⟩:=UJ d (by simpa using h0)
  rw[n,jQ] at c
  cases g:oM k s b with
  |inl y=>rw[g] at c;obtain rfl:=Sum.inl.inj c;exact TY k b y o aa g
  |inr q=>rw[g] at c;cases c
end
end Go.Proofs.YteclmpmonbnooaaGreatDoor
