/- No condition but those of each theorem. -/
import Derived.Test.YtcdpbapbpcpflaaGreatDoorProg
import Derived.WalkKit
import Derived.Deep.LoopGhost
import Derived.KernelRfl
import Derived.OrdersHeld
import Derived.OrdersIn
import Derived.LoopNIn
import Derived.Sort.LoopGhostIn
import Derived.Laws.AppendOwn
import Derived.RangeFuncLeaves
import Derived.RangeFuncRecord
import Derived.MapKept
import Derived.Maps.RangeRun
import Derived.ChangeKeysEq
import Derived.HandedShaped
import Derived.ChangeStays
import Derived.ChangeSame
import Derived.OpenShut
import Derived.WideShapes
import Derived.JoinedOf
import Derived.ReadAgain
import Derived.ChangeAt
import Derived.RowKit
import Derived.Lib.Overlaps
import Derived.Shelf.SlSortCmp.NoneTotal
import Derived.Shelf.Sort.Plain
import Derived.Shelf.Slices.In.SortNone
import Derived.WalkSmall
import Derived.Recover
import Derived.Test.YtcdpbapbpcpflaaGreatDoorK2p4
namespace Go.Proofs.YtcdpbapbpcpflaaGreatDoor
section
open Go Go.Dc
set_option maxHeartbeats 4000000
set_option maxRecDepth 100000
variable {N bp0 c1 c2 c3:Nat} {m:Mem} {O:List Piece} {w:World} {a1 a2 a3:Option Addr}
def qEp(N:Nat)(R3:Tz→Tw→(Int)→T1a)(R4:Tz→(Int)→T1e)(R5:Tz→(Int)→T1a)(R6:Tz→(Int)→(Int)→T1a)(R7:Tz→(Int)→T1a)(p0:Tz)(p1:Tw)(p2:Int):T1a:=
 (qBi N p0 (⟨#[40]⟩:ByteArray)).bind fun y1=>(match y1 with| .inl z1=>some (.inl z1)| .inr y2=>(if(p1.2.1.toList==(⟨#[114,101,97,100]⟩:ByteArray).toList)=true then((qCy N y2).bind fun y3=>(match y3 with| .inl z2=>some (.inr (.inl z2))| .inr y4=>(qBi N y4.1 (⟨#[44]⟩:ByteArray)).bind fun y5=>(match y5 with| .inl z3=>some (.inr (.inl z3))| .inr y6=>(R7 y6 (IntKind.wrap .i64 (p2+1))).bind fun y7=>(match y7 with| .inl z4=>some (.inr (.inl z4))| .inr y8=>some (.inl (6,0,y4.2.2.1,[y8.2],y8.1.1,y8.1.2.1,y8.1.2.2.1,y8.1.2.2.2)))))) else(if(p1.2.1.toList==(⟨#[115,105,122,101]⟩:ByteArray).toList)=true then((qCy N y2).bind fun y9=>(match y9 with| .inl z5=>some (.inr (.inl z5))| .inr y10=>some (.inl (7,0,y10.2.2.1,([]:T9),y10.1.1,y10.1.2.1,y10.1.2.2.1,y10.1.2.2.2)))) else(if(p1.2.1.toList==(⟨#[104,97,115]⟩:ByteArray).toList)=true then((qCy N y2).bind fun y11=>(match y11 with| .inl z6=>some (.inr (.inl z6))| .inr y12=>some (.inl (8,0,y12.2.2.1,([]:T9),y12.1.1,y12.1.2.1,y12.1.2.2.1,y12.1.2.2.2)))) else(if(p1.2.1.toList==(⟨#[101,110,118]⟩:ByteArray).toList)=true then((qCz N y2 3).bind fun y13=>(match y13 with| .inl z7=>some (.inr (.inl z7))| .inr y14=>(qNp N y14.2.2.1).bind fun y15=>(if(!y15)=true then((qBl N y14.2 9).bind fun y16=>(match y16 with| .inl z8=>some (.inr (.inr (.inl z8)))| .inr y17=>some (.inl ()))) else(some (.inl ())):Option T1h).bind fun qu2=>(match qu2 with| .inl o2=>some (.inl (9,0,y14.2.2.1,([]:T9),y14.1.1,y14.1.2.1,y14.1.2.2.1,y14.1.2.2.2))| .inr z=>some z))) else((qCz N y2 2).bind fun y18=>(match y18 with| .inl z9=>some (.inr (.inl z9))| .inr y19=>(if(decide (y19.2.2.2.1≥64))=true then((qBl N y19.2 9).bind fun y20=>(match y20 with| .inl z10=>some (.inr (.inr (.inl z10)))| .inr y21=>some (.inl ()))) else(some (.inl ())):Option T1h).bind fun qu3=>(match qu3 with| .inl o3=>some (.inl (10,y19.2.2.2.1,(⟨#[]⟩:ByteArray),([]:T9),y19.1.1,y19.1.2.1,y19.1.2.2.1,y19.1.2.2.2))| .inr z=>some z)))))):Option T1g).bind fun qu1=>(match qu1 with| .inl o1=>(qBi N o1.2.2.2.2 (⟨#[41]⟩:ByteArray)).bind fun y22=>(match y22 with| .inl z11=>some (.inl z11)| .inr y23=>(qCf N y23 p1 (o1.1,o1.2.1,0,o1.2.2.1,o1.2.2.2.1)).bind fun y24=>(match y24 with| .inl z12=>some (.inl z12)| .inr y25=>some (.inr (y25.1,y25.2))))| .inr z=>some z))
def qDo(N:Nat)(R7:Tz→(Int)→T1a)(p1:Int)(s1:T1f):Option (T1f⊕T1f⊕T1d):=
 (R7 s1.2 (IntKind.wrap .i64 (p1+1))).bind fun y4=>(match y4 with| .inl z2=>some (.inr (.inr (.inl z2)))| .inr y5=>(qEo 8 s1.1 ([y5.2])).bind fun l1=>(qCl N y5.1 (⟨#[44]⟩:ByteArray)).bind fun y6=>if(!y6.2)=true then(some (.inr (.inl (l1,y6.1.1,y6.1.2.1,y6.1.2.2.1,y6.1.2.2.2)))) else(some (.inl (l1,y6.1.1,y6.1.2.1,y6.1.2.2.1,y6.1.2.2.2))))
def qEa(N:Nat)(R3:Tz→Tw→(Int)→T1a)(R4:Tz→(Int)→T1e)(R5:Tz→(Int)→T1a)(R6:Tz→(Int)→(Int)→T1a)(R7:Tz→(Int)→T1a)(p0:Tz)(p1:Int):T1e:=
 (qBi N p0 (⟨#[40]⟩:ByteArray)).bind fun y1=>(match y1 with| .inl z1=>some (.inl z1)| .inr y2=>(qCl N y2 (⟨#[41]⟩:ByteArray)).bind fun y3=>if y3.2=true then(some (.inr (y3.1,([]:T9)))) else((qBf (qDo N R7 p1) N (([]:T9),y3.1.1,y3.1.2.1,y3.1.2.2.1,y3.1.2.2.2)).bind fun out1=>(match out1 with| .inl o1=>(qBi N o1.2 (⟨#[41]⟩:ByteArray)).bind fun y7=>(match y7 with| .inl z3=>some (.inl z3)| .inr y8=>some (.inr (y8,o1.1)))| .inr (z)=>some z)))
def qFc(N:Nat)(R3:Tz→Tw→(Int)→T1a)(R4:Tz→(Int)→T1e)(R5:Tz→(Int)→T1a)(R6:Tz→(Int)→(Int)→T1a)(R7:Tz→(Int)→T1a)(p0:Tz)(p1:Int):T1a:=
 (qBp N p0).bind fun y1=>(if(y1.2.1==2)=true then((qCf N (y1.1.1,IntKind.wrap .i64 (y1.1.2.1+1),y1.1.2.2.1,y1.1.2.2.2) y1.2 (1,y1.2.2.2.1,0,(⟨#[]⟩:ByteArray),([]:T9))).bind fun y2=>(match y2 with| .inl z1=>some (.inr (.inl z1))| .inr y3=>some (.inr (.inr (y3.1,y3.2))))) else((qCl N y1.1 (⟨#[45]⟩:ByteArray)).bind fun y4=>if y4.2=true then((qCz N y4.1 2).bind fun y5=>(match y5 with| .inl z2=>some (.inr (.inl z2))| .inr y6=>(qCf N y6.1 y1.2 (1,IntKind.wrap .i64 (0-y6.2.2.2.1),0,(⟨#[]⟩:ByteArray),([]:T9))).bind fun y7=>(match y7 with| .inl z3=>some (.inr (.inl z3))| .inr y8=>some (.inr (.inr (y8.1,y8.2)))))) else((qCl N y4.1 (⟨#[40]⟩:ByteArray)).bind fun y9=>if y9.2=true then((R7 y9.1 (IntKind.wrap .i64 (p1+1))).bind fun y10=>(match y10 with| .inl z4=>some (.inr (.inl z4))| .inr y11=>(qBi N y11.1 (⟨#[41]⟩:ByteArray)).bind fun y12=>(match y12 with| .inl z5=>some (.inr (.inl z5))| .inr y13=>some (.inr (.inr (y13,y11.2)))))) else(if(y1.2.1 !=1)=true then((qBl N y1.2 9).bind fun y14=>(match y14 with| .inl z6=>some (.inr (.inl z6))| .inr y15=>some (.inl y9.1))) else(some (.inl y9.1))))):Option (Tz⊕T19)).bind fun qu1=>(match qu1 with| .inl o1=>(if(y1.2.2.1.toList==(⟨#[114,101,97,100]⟩:ByteArray).toList)=true then(some (y1.2.2.1.toList==(⟨#[114,101,97,100]⟩:ByteArray).toList)) else(if(y1.2.2.1.toList==(⟨#[115,105,122,101]⟩:ByteArray).toList)=true then(some (y1.2.2.1.toList==(⟨#[115,105,122,101]⟩:ByteArray).toList)) else(if(y1.2.2.1.toList==(⟨#[104,97,115]⟩:ByteArray).toList)=true then(some (y1.2.2.1.toList==(⟨#[104,97,115]⟩:ByteArray).toList)) else(if(y1.2.2.1.toList==(⟨#[101,110,118]⟩:ByteArray).toList)=true then(some (y1.2.2.1.toList==(⟨#[101,110,118]⟩:ByteArray).toList)) else(some (y1.2.2.1.toList==(⟨#[102,108,105,112]⟩:ByteArray).toList))))):Td).bind fun o2=>if o2=true then((R3 (o1.1,IntKind.wrap .i64 (o1.2.1+1),o1.2.2.1,o1.2.2.2) y1.2 p1).bind fun y16=>(match y16 with| .inl z7=>some (.inl z7)| .inr y17=>some (.inr (y17.1,y17.2)))) else((qHa N y1.2.2.1).bind fun y18=>(if y18=true then((qBl N y1.2 9).bind fun y19=>(match y19 with| .inl z8=>some (.inr (.inl z8))| .inr y20=>some (.inl ()))) else(some (.inl ())):Option T1b).bind fun qu3=>(match qu3 with| .inl o3=>(qDl N (o1.1,IntKind.wrap .i64 (o1.2.1+1),o1.2.2.1,o1.2.2.2) 4 (⟨#[40]⟩:ByteArray)).bind fun y21=>if y21.2=true then((R4 y21.1 p1).bind fun y22=>(match y22 with| .inl z9=>some (.inl z9)| .inr y23=>(qCf N y23.1 y1.2 (3,0,0,y1.2.2.1,y23.2)).bind fun y24=>(match y24 with| .inl z10=>some (.inl z10)| .inr y25=>some (.inr (y25.1,y25.2))))) else((qCv N y21.1.2.2.1 y1.2.2.1).bind fun y26=>(if(decide (y26<0))=true then((qBl N y1.2 9).bind fun y27=>(match y27 with| .inl z11=>some (.inr (.inl z11))| .inr y28=>some (.inl ()))) else(some (.inl ())):Option T1b).bind fun qu4=>(match qu4 with| .inl o4=>(qCf N y21.1 y1.2 (2,y26,0,(⟨#[]⟩:ByteArray),([]:T9))).bind fun y29=>(match y29 with| .inl z12=>some (.inl z12)| .inr y30=>some (.inr (y30.1,y30.2)))| .inr z=>some z))| .inr z=>some z))| .inr z=>some z)
def qEq(N:Nat)(R6:Tz→(Int)→(Int)→T1a)(p1:Int)(p2:Int)(s1:Int×Tz):Option (Int×Tz⊕T19):=
 (qEz N s1.2 p1).bind fun y5=>if(y5.2==0)=true then(some (.inr (.inr (y5.1,s1.1)))) else((qBp N y5.1).bind fun y6=>(R6 (y6.1.1,IntKind.wrap .i64 (y6.1.2.1+1),y6.1.2.2.1,y6.1.2.2.2) (IntKind.wrap .i64 (p1+1)) p2).bind fun y7=>(match y7 with| .inl z3=>some (.inr (.inl z3))| .inr y8=>(qCf N y8.1 y6.2 (4,0,y5.2,(⟨#[]⟩:ByteArray),[s1.1,y8.2])).bind fun y9=>(match y9 with| .inl z4=>some (.inr (.inl z4))| .inr y10=>if(p1==1)=true then(some (.inr (.inr (y10.1,y10.2)))) else(some (.inl (y10.2,y10.1.1,y10.1.2.1,y10.1.2.2.1,y10.1.2.2.2))))))
def qCx(N:Nat)(R3:Tz→Tw→(Int)→T1a)(R4:Tz→(Int)→T1e)(R5:Tz→(Int)→T1a)(R6:Tz→(Int)→(Int)→T1a)(R7:Tz→(Int)→T1a)(p0:Tz)(p1:Int)(p2:Int):T1a:=
 if(p1==4)=true then((R5 p0 p2).bind fun y1=>(match y1 with| .inl z1=>some (.inl z1)| .inr y2=>some (.inr (y2.1,y2.2)))) else((R6 p0 (IntKind.wrap .i64 (p1+1)) p2).bind fun y3=>(match y3 with| .inl z2=>some (.inl z2)| .inr y4=>(qBf (qEq N R6 p1 p2) N (y4.2,y4.1.1,y4.1.2.1,y4.1.2.2.1,y4.1.2.2.2)).bind fun z=>some z))
def qDq(N:Nat)(R3:Tz→Tw→(Int)→T1a)(R4:Tz→(Int)→T1e)(R5:Tz→(Int)→T1a)(R6:Tz→(Int)→(Int)→T1a)(R7:Tz→(Int)→T1a)(p0:Tz)(p1:Int):T1a:=
 (qBp N p0).bind fun y1=>(if(decide (p1>32))=true then((qBl N y1.2 2).bind fun y2=>(match y2 with| .inl z1=>some (.inr (.inl z1))| .inr y3=>some (.inl ()))) else(some (.inl ())):Option T1b).bind fun qu1=>(match qu1 with| .inl o1=>(qDl N y1.1 1 (⟨#[105,102]⟩:ByteArray)).bind fun y4=>if(!y4.2)=true then((R6 y4.1 1 p1).bind fun y5=>(match y5 with| .inl z2=>some (.inl z2)| .inr y6=>some (.inr (y6.1,y6.2)))) else((R7 (y4.1.1,IntKind.wrap .i64 (y4.1.2.1+1),y4.1.2.2.1,y4.1.2.2.2) (IntKind.wrap .i64 (p1+1))).bind fun y7=>(match y7 with| .inl z3=>some (.inl z3)| .inr y8=>(qEs N y8.1 (⟨#[116,104,101,110]⟩:ByteArray)).bind fun y9=>(match y9 with| .inl z4=>some (.inl z4)| .inr y10=>(R7 y10 (IntKind.wrap .i64 (p1+1))).bind fun y11=>(match y11 with| .inl z5=>some (.inl z5)| .inr y12=>(qEs N y12.1 (⟨#[101,108,115,101]⟩:ByteArray)).bind fun y13=>(match y13 with| .inl z6=>some (.inl z6)| .inr y14=>(R7 y14 (IntKind.wrap .i64 (p1+1))).bind fun y15=>(match y15 with| .inl z7=>some (.inl z7)| .inr y16=>(qCf N y16.1 y1.2 (5,0,0,(⟨#[]⟩:ByteArray),[y8.2,y12.2,y16.2])).bind fun y17=>(match y17 with| .inl z8=>some (.inl z8)| .inr y18=>some (.inr (y18.1,y18.2)))))))))| .inr z=>some z)
def qAc(N:Nat):Nat→(Tz→Tw→(Int)→T1a)×(((List (Int×ByteArray×Int×Int))×Int×List ByteArray×(List (Int×Int×Int×ByteArray×List Int)))→(Int)→T1e)×(((List (Int×ByteArray×Int×Int))×Int×List ByteArray×(List (Int×Int×Int×ByteArray×List Int)))→(Int)→T1a)×(((List (Int×ByteArray×Int×Int))×Int×List ByteArray×(List (Int×Int×Int×ByteArray×List Int)))→(Int)→(Int)→T1a)×(((List (Int×ByteArray×Int×Int))×Int×List ByteArray×(List (Int×Int×Int×ByteArray×List Int)))→(Int)→T1a)
 |0=>((fun _ _ _=>none),(fun _ _=>none),(fun _ _=>none),(fun _ _ _=>none),(fun _ _=>none))
 |D+1=>(qEp N (qAc N D).1 (qAc N D).2.1 (qAc N D).2.2.1 (qAc N D).2.2.2.1 (qAc N D).2.2.2.2,qEa N (qAc N D).1 (qAc N D).2.1 (qAc N D).2.2.1 (qAc N D).2.2.2.1 (qAc N D).2.2.2.2,qFc N (qAc N D).1 (qAc N D).2.1 (qAc N D).2.2.1 (qAc N D).2.2.2.1 (qAc N D).2.2.2.2,qCx N (qAc N D).1 (qAc N D).2.1 (qAc N D).2.2.1 (qAc N D).2.2.2.1 (qAc N D).2.2.2.2,qDq N (qAc N D).1 (qAc N D).2.1 (qAc N D).2.2.1 (qAc N D).2.2.2.1 (qAc N D).2.2.2.2)
def qKk(N:Nat)(p0:Tz)(p1:Int):T1a:=(qAc N N).2.2.2.2 p0 p1
abbrev qEg(F:Tz→Tw→(Int)→T1a):Prop:=∀{m:Mem} {O:List Piece} {w:World} {p0:Tz} {p1:Tw} {p2:Int} {bp0:Nat} {a1:Option Addr} {c1:Nat} {a2:Option Addr} {c2:Nat} {a3:Option Addr} {c3:Nat} {r:T19} (st:St m (kB bp0 (V6 p0 a1 c1 a2 c2 a3 c3) 114::kR a3 p0.2.2.2 c3 117 5::O) w) (r1:RepS C3 m a1 c1 p0.1) (r2:RepS cStr m a2 c2 p0.2.2.1) (r3:RepS C4 m a3 c3 p0.2.2.2) (i:F p0 p1 p2=some r),Calls Tryz.prog 294 #[vP bp0 0,.agg (V4 p1),vI p2] w fun e w'=>(∃(z0:Tr),∃m',r= .inl z0∧e= .panicked [{v:= .iface 110 (.agg (V7 z0)),recovered:=false}]∧m.le m'∧St m' (O) w')∨(∃(y0:T18),r= .inr y0∧∃ra1 rc1 ra2 rc2 ra3 rc3 m',e= .returned (vI y0.2)∧m.le m'∧St m' (kB bp0 (V6 y0.1 ra1 rc1 ra2 rc2 ra3 rc3) 114::kR ra3 y0.1.2.2.2 rc3 117 5::O) w'∧P1 m' ra1 rc1 ra2 rc2 ra3 rc3 y0.1)
abbrev qDp(F:Tz→(Int)→T1e):Prop:=∀{m:Mem} {O:List Piece} {w:World} {p0:Tz} {p1:Int} {bp0:Nat} {a1:Option Addr} {c1:Nat} {a2:Option Addr} {c2:Nat} {a3:Option Addr} {c3:Nat} {r:T1d} (st:St m (kB bp0 (V6 p0 a1 c1 a2 c2 a3 c3) 114::kR a3 p0.2.2.2 c3 117 5::O) w) (r1:RepS C3 m a1 c1 p0.1) (r2:RepS cStr m a2 c2 p0.2.2.1) (r3:RepS C4 m a3 c3 p0.2.2.2) (i:F p0 p1=some r),Calls Tryz.prog 295 #[vP bp0 0,vI p1] w fun e w'=>(∃(z0:Tr),∃m',r= .inl z0∧e= .panicked [{v:= .iface 110 (.agg (V7 z0)),recovered:=false}]∧m.le m'∧St m' (O) w')∨(∃(y0:T1c),r= .inr y0∧∃ra1 rc1 ra2 rc2 ra3 rc3 ra4 rc4 m',e= .returned (vS ra4 y0.2 rc4)∧m.le m'∧St m' (kR ra4 y0.2 rc4 3 1::kB bp0 (V6 y0.1 ra1 rc1 ra2 rc2 ra3 rc3) 114::kR ra3 y0.1.2.2.2 rc3 117 5::O) w'∧P2 m' ra1 rc1 ra2 rc2 ra3 rc3 ra4 rc4 y0)
abbrev qEn(F:Tz→(Int)→T1a):Prop:=∀{m:Mem} {O:List Piece} {w:World} {p0:Tz} {p1:Int} {bp0:Nat} {a1:Option Addr} {c1:Nat} {a2:Option Addr} {c2:Nat} {a3:Option Addr} {c3:Nat} {r:T19} (st:St m (kB bp0 (V6 p0 a1 c1 a2 c2 a3 c3) 114::kR a3 p0.2.2.2 c3 117 5::O) w) (r1:RepS C3 m a1 c1 p0.1) (r2:RepS cStr m a2 c2 p0.2.2.1) (r3:RepS C4 m a3 c3 p0.2.2.2) (i:F p0 p1=some r),Calls Tryz.prog 281 #[vP bp0 0,vI p1] w fun e w'=>(∃(z0:Tr),∃m',r= .inl z0∧e= .panicked [{v:= .iface 110 (.agg (V7 z0)),recovered:=false}]∧m.le m'∧St m' (O) w')∨(∃(y0:T18),r= .inr y0∧∃ra1 rc1 ra2 rc2 ra3 rc3 m',e= .returned (vI y0.2)∧m.le m'∧St m' (kB bp0 (V6 y0.1 ra1 rc1 ra2 rc2 ra3 rc3) 114::kR ra3 y0.1.2.2.2 rc3 117 5::O) w'∧P1 m' ra1 rc1 ra2 rc2 ra3 rc3 y0.1)
abbrev qEr(F:Tz→(Int)→(Int)→T1a):Prop:=∀{m:Mem} {O:List Piece} {w:World} {p0:Tz} {p1:Int} {p2:Int} {bp0:Nat} {a1:Option Addr} {c1:Nat} {a2:Option Addr} {c2:Nat} {a3:Option Addr} {c3:Nat} {r:T19} (st:St m (kB bp0 (V6 p0 a1 c1 a2 c2 a3 c3) 114::kR a3 p0.2.2.2 c3 117 5::O) w) (r1:RepS C3 m a1 c1 p0.1) (r2:RepS cStr m a2 c2 p0.2.2.1) (r3:RepS C4 m a3 c3 p0.2.2.2) (i:F p0 p1 p2=some r),Calls Tryz.prog 253 #[vP bp0 0,vI p1,vI p2] w fun e w'=>(∃(z0:Tr),∃m',r= .inl z0∧e= .panicked [{v:= .iface 110 (.agg (V7 z0)),recovered:=false}]∧m.le m'∧St m' (O) w')∨(∃(y0:T18),r= .inr y0∧∃ra1 rc1 ra2 rc2 ra3 rc3 m',e= .returned (vI y0.2)∧m.le m'∧St m' (kB bp0 (V6 y0.1 ra1 rc1 ra2 rc2 ra3 rc3) 114::kR ra3 y0.1.2.2.2 rc3 117 5::O) w'∧P1 m' ra1 rc1 ra2 rc2 ra3 rc3 y0.1)
abbrev qFo(F:Tz→(Int)→T1a):Prop:=∀{m:Mem} {O:List Piece} {w:World} {p0:Tz} {p1:Int} {bp0:Nat} {a1:Option Addr} {c1:Nat} {a2:Option Addr} {c2:Nat} {a3:Option Addr} {c3:Nat} {r:T19} (st:St m (kB bp0 (V6 p0 a1 c1 a2 c2 a3 c3) 114::kR a3 p0.2.2.2 c3 117 5::O) w) (r1:RepS C3 m a1 c1 p0.1) (r2:RepS cStr m a2 c2 p0.2.2.1) (r3:RepS C4 m a3 c3 p0.2.2.2) (i:F p0 p1=some r),Calls Tryz.prog 193 #[vP bp0 0,vI p1] w fun e w'=>(∃(z0:Tr),∃m',r= .inl z0∧e= .panicked [{v:= .iface 110 (.agg (V7 z0)),recovered:=false}]∧m.le m'∧St m' (O) w')∨(∃(y0:T18),r= .inr y0∧∃ra1 rc1 ra2 rc2 ra3 rc3 m',e= .returned (vI y0.2)∧m.le m'∧St m' (kB bp0 (V6 y0.1 ra1 rc1 ra2 rc2 ra3 rc3) 114::kR ra3 y0.1.2.2.2 rc3 117 5::O) w'∧P1 m' ra1 rc1 ra2 rc2 ra3 rc3 y0.1)
theorem qMb{R3:Tz→Tw→(Int)→T1a}{R4:Tz→(Int)→T1e}{R5:Tz→(Int)→T1a}{R6:Tz→(Int)→(Int)→T1a}{R7:Tz→(Int)→T1a}(ih_source_parser_builtin:qEg R3)(ih_source_parser_arguments:qDp R4)(ih_source_parser_factor:qEn R5)(ih_source_parser_binary:qEr R6)(ih_source_parser_expr:qFo R7){p0:Tz}{p1:Tw}{p2:Int}{r:T19}(st:St m (kB bp0 (V6 p0 a1 c1 a2 c2 a3 c3) 114::kR a3 p0.2.2.2 c3 117 5::O) w)(r1:RepS C3 m a1 c1 p0.1)(r2:RepS cStr m a2 c2 p0.2.2.1)(r3:RepS C4 m a3 c3 p0.2.2.2)(i:qEp N R3 R4 R5 R6 R7 p0 p1 p2=some r):Calls Tryz.prog 294 #[vP bp0 0,.agg (V4 p1),vI p2] w fun e w'=>(∃(z0:Tr),∃m',r= .inl z0∧e= .panicked [{v:= .iface 110 (.agg (V7 z0)),recovered:=false}]∧m.le m'∧St m' (O) w')∨(∃(y0:T18),r= .inr y0∧∃ra1 rc1 ra2 rc2 ra3 rc3 m',e= .returned (vI y0.2)∧m.le m'∧St m' (kB bp0 (V6 y0.1 ra1 rc1 ra2 rc2 ra3 rc3) 114::kR ra3 y0.1.2.2.2 rc3 117 5::O) w'∧P1 m' ra1 rc1 ra2 rc2 ra3 rc3 y0.1):=by
 unfold qEp at i;have q:=m.le_refl;refine W_cA Tryz.func294 rfl Tryz.ntmps294 ?_;refine W_sr (qAa rfl (qJw 4 181 1 (.agg (V4 p1)) st fun b1 m1 w1 e1 st hb1=>(qAe 1 [] (W_sr (qAb 1 [(10,vP bp0 0)] (qBo 11 i (fun _ h=>qBw (p0:=p0) st.f1.f1 (r1.mono e1) (r2.mono e1) (r3.mono e1) h) ?_))))));rintro y1 i _ w2 (⟨z1,m3,rfl,rfl,e3,st⟩|⟨y2,rfl,a4,c4,a5,c5,a6,c6,m2,rfl,e2,st,r4,r5,r6⟩)
 ·refine qAd ?_;obtain rfl:=sI i;exact qAj (.inl ⟨z1,m3,rfl,rfl,(q.t e1).t e3,st⟩)
 have q:=(q.t e1).t e2;have hb1:=hb1.mono e2;refine WO_e (W_sr (qAa rfl (qCm 7 117 (.agg #[vI 0,vI 0,vI 0,vT eB,v2]) st fun b2 w4 st=>(WO_e (qAr (W_sr (qAb 1 [(12,vP b1 1)] (qAa rfl (qHm (d:=13) (t:=9) (x:=(.tmp 12)) (vT p1.2.1) kr rfl (ev (vP b1 1)) st (hb1.drop 1) kr (WO_e ?_))))))))));have⟨qu1,i,j1⟩:=qAw i;refine qCg .normal (fun L' w'=>∃(o1:Int×Int×T5×T1f),∃a7 c7 a8 c8 a9 c9 a10 c10 m4,(.inl o1:T1g)=qu1∧L'=[(0,vP bp0 0),(4,vP b1 0),(7,vP b2 0)]∧m.le m4∧St m4 (kB b2 #[vI o1.1,vI o1.2.1,vI 0,vT o1.2.2.1,vS a7 o1.2.2.2.1 c7] 117::kB bp0 (V6 o1.2.2.2.2 a8 c8 a9 c9 a10 c10) 114::kR a7 o1.2.2.2.1 c7 3 1::kR a10 o1.2.2.2.2.2.2.2 c10 117 5::O) w'∧MRow m4 b1 0 [vI p1.1,vT p1.2.1,vI p1.2.2.1,vI p1.2.2.2]∧P3 m4 a7 c7 a8 c8 a9 c9 a10 c10 o1.2.2.2) ?_ ?_
 ·rintro _ w5 ⟨o1,a7,c7,a8,c8,a9,c9,a10,c10,m4,rfl,rfl,q,st,hb1,r7,r8,r9,r10⟩;have i:=j1;refine qAg (W_sr (qAb 1 [(63,vP bp0 0)] (qBo 64 i (fun _ h=>qBw (p0:=o1.2.2.2.2) st.f3.f2 r8 r9 r10 h) ?_)));rintro y22 i _ w38 (⟨z11,m28,rfl,rfl,e25,st⟩|⟨y23,rfl,a32,c32,a33,c33,a34,c34,m27,rfl,e24,st,r33,r34,r35⟩)
  ·refine qAd ?_;obtain rfl:=sI i;have st:=st.t.t;exact qAj (.inl ⟨z11,m28,rfl,rfl,q.t e25,st⟩)
  refine WO_e (W_sr (qAb 1 [(65,vP bp0 0)] (qHg 66 181 4 0 (.agg (V4 p1)) st (hb1.mono e24) (qAa rfl (qBc 67 117 7 0 (.agg #[vI o1.1,vI o1.2.1,vI 0,vT o1.2.2.1,vS a7 o1.2.2.2.1 c7]) st.t.t.h (qBo 68 i (fun _ h=>qDe (p0:=y23) st.f1.f1 r33 r34 r35 (r7.mono e24) h) ?_))))));rintro y24 i _ w40 (⟨z12,m30,rfl,rfl,e27,st⟩|⟨y25,rfl,a35,c35,a36,c36,a37,c37,m29,rfl,e26,st,r36,r37,r38⟩)
  ·refine qAd ?_;obtain rfl:=sI i;have st:=st.t.t;exact qAj (.inl ⟨z12,m30,rfl,rfl,(q.t e24).t e27,st⟩)
  refine qAe 1 [(6,vI y25.2)] (qBb ?_);cases i;exact X_rt [6] [vI y25.2] (.inr ⟨_,rfl,a35,c35,a36,c36,a37,c37,m29,rfl,(q.t e24).t e26,st.f2.t.f2.t.f1.f1,r36,r37,r38⟩)
 ·intro Ku1;refine qAy (W_sr (qAe 2 [(24,vB (p1.2.1.toList==b1t.toList))] (W_if i ?_ ?_)))
  ·intro A i;refine W_sr (qAb 1 [(26,vP bp0 0)] (qBo 27 i (fun _ h=>qGo (p0:=y2) st.f2.f2 r4 r5 r6 h) ?_));rintro y3 i _ w6 (⟨z2,m6,rfl,rfl,e5,st⟩|⟨y4,rfl,a11,c11,a12,c12,a13,c13,m5,rfl,e4,st,r11,r12,r13⟩)
   ·refine qAd ?_;refine qAx ?_;obtain rfl:=sI i;have i:=j1;refine qAd ?_;obtain rfl:=sI i;have st:=st.t;exact qAj (.inl ⟨z2,m6,rfl,rfl,q.t e5,st⟩)
   have q:=q.t e4;refine qAb 2 [(29,.agg #[vI 6,vI 0,vI 0,vT y4.2.2.1,v8])] (qAa rfl (qBn 117 7 29 (.agg #[vI 6,vI 0,vI 0,vT y4.2.2.1,v8]) st.f2 fun w8 st=>(WO_e (W_sr (qAb 1 [(30,vP bp0 0)] (qBo 31 i (fun _ h=>qBw (p0:=y4.1) st.f2.f2 r11 r12 r13 h) ?_))))));rintro y5 i _ w9 (⟨z3,m8,rfl,rfl,e7,st⟩|⟨y6,rfl,a14,c14,a15,c15,a16,c16,m7,rfl,e6,st,r14,r15,r16⟩)
   ·refine qAd ?_;refine qAx ?_;obtain rfl:=sI i;have i:=j1;refine qAd ?_;obtain rfl:=sI i;have st:=st.t;exact qAj (.inl ⟨z3,m8,rfl,rfl,q.t e7,st⟩)
   refine WO_e (qAm (qAb 3 [(32,vP bp0 0),(34,vI (wr (p2+1)))] (qBo 35 i (fun _ h=>ih_source_parser_expr (p0:=y6) st.f1.f1 r14 r15 r16 h) ?_)));rintro y7 i _ w11 (⟨z4,m10,rfl,rfl,e9,st⟩|⟨y8,rfl,a17,c17,a18,c18,a19,c19,m9,rfl,e8,st,r17,r18,r19⟩)
   ·refine qAx ?_;obtain rfl:=sI i;have i:=j1;refine qAd ?_;obtain rfl:=sI i;have st:=st.t;exact qAj (.inl ⟨z4,m10,rfl,rfl,(q.t e6).t e9,st⟩)
   refine qAa rfl (qAq (d:=36) (t:=22) (e:=3) (len:=1) (parts:= #[(0,(.tmp 35))]) (cInt .i64) (xs:=[y8.2]) [vI y8.2] kr rfl (fun _=>qAp kr _) rfl rfl st ⟨[vI y8.2],_,rfl,rfl,rfl⟩ fun b3 m11 w13 e10 st r20=>(qAb 1 [(37,vP b2 4)] (qAa rfl (qIb 22 37 36 4 (vS (aP b3) ([y8.2]) 1) #[vI 6,vI 0,vI 0,vT y4.2.2.1,vS (aP b3) ([y8.2]) 1] st.f3 fun w14 st=>(qAs rfl (qBm ?_))))));have n1:=jC i;exact xE (Ku1 _ _ ⟨(6,0,y4.2.2.1,[y8.2],y8.1.1,y8.1.2.1,y8.1.2.2.1,y8.1.2.2.2),(aP b3),1,a17,c17,a18,c18,a19,c19,m11,n1,rfl,((q.t e6).t e8).t e10,st.f3.f2.f3.f3,(((hb1.mono e4).mono e6).mono e8).mono e10,r20,r17.mono e10,r18.mono e10,r19.mono e10⟩)
  ·intro A i;refine W_sr (qAe 2 [(38,vB (p1.2.1.toList==b1u.toList))] (W_if i ?_ ?_))
   ·intro A i;refine qAm (qAb 1 [(40,vP bp0 0)] (qBo 41 i (fun _ h=>qGo (p0:=y2) st.f2.f2 r4 r5 r6 h) ?_));rintro y9 i _ w15 (⟨z5,m13,rfl,rfl,e12,st⟩|⟨y10,rfl,a20,c20,a21,c21,a22,c22,m12,rfl,e11,st,r21,r22,r23⟩)
    ·refine qAx ?_;obtain rfl:=sI i;have i:=j1;refine qAd ?_;obtain rfl:=sI i;have st:=st.t;exact qAj (.inl ⟨z5,m13,rfl,rfl,q.t e12,st⟩)
    refine qAb 2 [(43,.agg #[vI 7,vI 0,vI 0,vT y10.2.2.1,v8])] (qAa rfl (qBn 117 7 43 (.agg #[vI 7,vI 0,vI 0,vT y10.2.2.1,v8]) st.f2 fun w17 st=>(qAs rfl (qBm ?_))));have n1:=jC i;have st:=(st.nilroom 3 1).front3.front1.front3.front3;exact xE (Ku1 _ _ ⟨(7,0,y10.2.2.1,([]:T9),y10.1.1,y10.1.2.1,y10.1.2.2.1,y10.1.2.2.2),none,0,a20,c20,a21,c21,a22,c22,m12,n1,rfl,q.t e11,st,hb1.mono e11,(RepS.nil _ _),r21,r22,r23⟩)
   ·intro A i;refine W_sr (qAe 2 [(44,vB (p1.2.1.toList==b1v.toList))] (W_if i ?_ ?_))
    ·intro A i;refine qAm (qAb 1 [(46,vP bp0 0)] (qBo 47 i (fun _ h=>qGo (p0:=y2) st.f2.f2 r4 r5 r6 h) ?_));rintro y11 i _ w18 (⟨z6,m15,rfl,rfl,e14,st⟩|⟨y12,rfl,a23,c23,a24,c24,a25,c25,m14,rfl,e13,st,r24,r25,r26⟩)
     ·refine qAx ?_;obtain rfl:=sI i;have i:=j1;refine qAd ?_;obtain rfl:=sI i;have st:=st.t;exact qAj (.inl ⟨z6,m15,rfl,rfl,q.t e14,st⟩)
     refine qAb 2 [(49,.agg #[vI 8,vI 0,vI 0,vT y12.2.2.1,v8])] (qAa rfl (qBn 117 7 49 (.agg #[vI 8,vI 0,vI 0,vT y12.2.2.1,v8]) st.f2 fun w20 st=>(qAs rfl (qBm ?_))));have n1:=jC i;have st:=(st.nilroom 3 1).front3.front1.front3.front3;exact xE (Ku1 _ _ ⟨(8,0,y12.2.2.1,([]:T9),y12.1.1,y12.1.2.1,y12.1.2.2.1,y12.1.2.2.2),none,0,a23,c23,a24,c24,a25,c25,m14,n1,rfl,q.t e13,st,hb1.mono e13,(RepS.nil _ _),r24,r25,r26⟩)
    ·intro A i;refine W_sr (qAe 2 [(50,vB (p1.2.1.toList==b1w.toList))] (W_if i ?_ ?_))
     ·intro A i;refine W_sr (qAb 1 [(52,vP bp0 0)] (qBo 53 i (fun _ h=>qFq (p0:=y2) st.f2.f2 r4 r5 r6 h) ?_));rintro y13 i _ w21 (⟨z7,m17,rfl,rfl,e16,st⟩|⟨y14,rfl,a26,c26,a27,c27,a28,c28,m16,rfl,e15,st,r27,r28,r29⟩)
      ·refine qAd ?_;refine qAx ?_;obtain rfl:=sI i;have i:=j1;refine qAd ?_;obtain rfl:=sI i;have st:=st.t;exact qAj (.inl ⟨z7,m17,rfl,rfl,q.t e16,st⟩)
      refine qAa rfl (qCm 8 181 (.agg (V5 0 eB 0 0)) st fun b4 w23 st=>(qAa rfl (qBn 181 8 53 (.agg (V4 y14.2)) st fun w24 st=>(WO_e (qAr (W_sr (qCs 1 55 9 54 1 (vT y14.2.2.1) st.h (qAv 56 i (fun _ h=>qXk st h) ?_))))))));rintro y15 i _ w25 ⟨m18,rfl,e17,st⟩;have q:=(q.t e15).t e17;refine qAe 1 [(57,vB (!y15))] ?_;have⟨qu2,i,j2⟩:=qAw i;refine qCg .normal (fun L' w'=>∃(o2:Unit),∃m19,(.inl o2:T1h)=qu2∧L'=[(0,vP bp0 0),(4,vP b1 0),(7,vP b2 0),(8,vP b4 0)]∧m.le m19∧St m19 (kB b4 (V4 y14.2) 181::kB bp0 (V6 y14.1 a26 c26 a27 c27 a28 c28) 114::kB b2 #[vI 0,vI 0,vI 0,vT eB,v8] 117::kR a28 y14.1.2.2.2 c28 117 5::O) w'∧MRow m19 b1 0 [vI p1.1,vT p1.2.1,vI p1.2.2.1,vI p1.2.2.2]∧P1 m19 a26 c26 a27 c27 a28 c28 y14.1) ?_ ?_
      ·rintro _ w26 ⟨o2,m19,rfl,rfl,q,st,hb1,r27,r28,r29⟩;have i:=j2;refine qAg (qAm (qCs 1 61 9 60 1 (vT y14.2.2.1) st.h (qAb 1 [(62,.agg #[vI 9,vI 0,vI 0,vT y14.2.2.1,v8])] (qAa rfl (qBn 117 7 62 (.agg #[vI 9,vI 0,vI 0,vT y14.2.2.1,v8]) st.f2 fun w29 st=>(qAs rfl (qBm ?_)))))));have n1:=jC i;have st:=(st.nilroom 3 1).front2;exact xE (Ku1 _ _ ⟨(9,0,y14.2.2.1,([]:T9),y14.1.1,y14.1.2.1,y14.1.2.2.1,y14.1.2.2.2),none,0,a26,c26,a27,c27,a28,c28,m19,n1,rfl,q,st.t.f3.f1.f3.f3,hb1,(RepS.nil _ _),r27,r28,r29⟩)
      ·intro Ku2;refine W_if i ?_ ?_
       ·intro A i;refine qAm (qAa rfl (qBc 58 181 8 0 (.agg (V4 y14.2)) st.h (qBo 59 i (fun _ h=>qBz st h) ?_)));rintro y16 i _ w27 (⟨z8,m21,rfl,rfl,e19,st⟩|⟨y17,rfl,m20,rfl,e18,st⟩)
        ·obtain rfl:=sI i;have i:=j2;refine qAd ?_;refine qAx ?_;obtain rfl:=sI i;have i:=j1;refine qAd ?_;obtain rfl:=sI i;have st:=st.t.t.t.t;exact qAj (.inl ⟨z8,m21,rfl,rfl,q.t e19,st⟩)
        refine qAs rfl ?_;have n2:=jC i;exact xE (Ku2 _ _ ⟨(),m20,n2,rfl,q.t e18,st.f2.f3.f3.f3,((hb1.mono e15).mono e17).mono e18,(r27.mono e17).mono e18,(r28.mono e17).mono e18,(r29.mono e17).mono e18⟩)
       ·intro A i;refine qAn ?_;have n2:=jC i;exact xE (Ku2 _ _ ⟨(),m18,n2,rfl,q,st.f2.f3.f3.f3,(hb1.mono e15).mono e17,r27.mono e17,r28.mono e17,r29.mono e17⟩)
     ·intro A i;refine W_sr (qAb 1 [(14,vP bp0 0)] (qBo 15 i (fun _ h=>qFq (p0:=y2) st.f2.f2 r4 r5 r6 h) ?_));rintro y18 i _ w30 (⟨z9,m23,rfl,rfl,e21,st⟩|⟨y19,rfl,a29,c29,a30,c30,a31,c31,m22,rfl,e20,st,r30,r31,r32⟩)
      ·refine qAd ?_;refine qAx ?_;obtain rfl:=sI i;have i:=j1;refine qAd ?_;obtain rfl:=sI i;have st:=st.t;exact qAj (.inl ⟨z9,m23,rfl,rfl,q.t e21,st⟩)
      have q:=q.t e20;refine qAa rfl (qCm 9 181 (.agg (V5 0 eB 0 0)) st fun b5 w32 st=>(qAa rfl (qBn 181 9 15 (.agg (V4 y19.2)) st fun w33 st=>(WO_e (qAr (W_sr (qCs 1 17 3 16 2 (vI y19.2.2.2.1) st.h (qAe 1 [(18,vB (decide (y19.2.2.2.1≥64)))] ?_))))))));have⟨qu3,i,j3⟩:=qAw i;refine qCg .normal (fun L' w'=>∃(o3:Unit),∃m24,(.inl o3:T1h)=qu3∧L'=[(0,vP bp0 0),(4,vP b1 0),(7,vP b2 0),(9,vP b5 0)]∧m.le m24∧St m24 (kB b5 (V4 y19.2) 181::kB bp0 (V6 y19.1 a29 c29 a30 c30 a31 c31) 114::kB b2 #[vI 0,vI 0,vI 0,vT eB,v8] 117::kR a31 y19.1.2.2.2 c31 117 5::O) w'∧MRow m24 b1 0 [vI p1.1,vT p1.2.1,vI p1.2.2.1,vI p1.2.2.2]∧P1 m24 a29 c29 a30 c30 a31 c31 y19.1) ?_ ?_
      ·rintro _ w34 ⟨o3,m24,rfl,rfl,q,st,hb1,r30,r31,r32⟩;have i:=j3;refine qAg (qAm (qCs 1 22 3 21 2 (vI y19.2.2.2.1) st.h (qAb 1 [(23,.agg #[vI 10,vI y19.2.2.2.1,vI 0,vT eB,v8])] (qAa rfl (qBn 117 7 23 (.agg #[vI 10,vI y19.2.2.2.1,vI 0,vT eB,v8]) st.f2 fun w37 st=>(qAs rfl (qBm ?_)))))));have n1:=jC i;have st:=(st.nilroom 3 1).front2;exact xE (Ku1 _ _ ⟨(10,y19.2.2.2.1,eB,([]:T9),y19.1.1,y19.1.2.1,y19.1.2.2.1,y19.1.2.2.2),none,0,a29,c29,a30,c30,a31,c31,m24,n1,rfl,q,st.t.f3.f1.f3.f3,hb1,(RepS.nil _ _),r30,r31,r32⟩)
      ·intro Ku3;refine W_if i ?_ ?_
       ·intro A i;refine qAm (qAa rfl (qBc 19 181 9 0 (.agg (V4 y19.2)) st.h (qBo 20 i (fun _ h=>qBz st h) ?_)));rintro y20 i _ w35 (⟨z10,m26,rfl,rfl,e23,st⟩|⟨y21,rfl,m25,rfl,e22,st⟩)
        ·obtain rfl:=sI i;have i:=j3;refine qAd ?_;refine qAx ?_;obtain rfl:=sI i;have i:=j1;refine qAd ?_;obtain rfl:=sI i;have st:=st.t.t.t.t;exact qAj (.inl ⟨z10,m26,rfl,rfl,q.t e23,st⟩)
        refine qAs rfl ?_;have n3:=jC i;exact xE (Ku3 _ _ ⟨(),m25,n3,rfl,q.t e22,st.f2.f3.f3.f3,(hb1.mono e20).mono e22,r30.mono e22,r31.mono e22,r32.mono e22⟩)
       ·intro A i;refine qAn ?_;have n3:=jC i;exact xE (Ku3 _ _ ⟨(),m22,n3,rfl,q,st.f2.f3.f3.f3,hb1.mono e20,r30,r31,r32⟩)
theorem qLg{R3:Tz→Tw→(Int)→T1a}{R4:Tz→(Int)→T1e}{R5:Tz→(Int)→T1a}{R6:Tz→(Int)→(Int)→T1a}{R7:Tz→(Int)→T1a}(ih_source_parser_builtin:qEg R3)(ih_source_parser_arguments:qDp R4)(ih_source_parser_factor:qEn R5)(ih_source_parser_binary:qEr R6)(ih_source_parser_expr:qFo R7){p0:Tz}{p1:Int}{r:T1d}(st:St m (kB bp0 (V6 p0 a1 c1 a2 c2 a3 c3) 114::kR a3 p0.2.2.2 c3 117 5::O) w)(r1:RepS C3 m a1 c1 p0.1)(r2:RepS cStr m a2 c2 p0.2.2.1)(r3:RepS C4 m a3 c3 p0.2.2.2)(i:qEa N R3 R4 R5 R6 R7 p0 p1=some r):Calls Tryz.prog 295 #[vP bp0 0,vI p1] w fun e w'=>(∃(z0:Tr),∃m',r= .inl z0∧e= .panicked [{v:= .iface 110 (.agg (V7 z0)),recovered:=false}]∧m.le m'∧St m' (O) w')∨(∃(y0:T1c),r= .inr y0∧∃ra1 rc1 ra2 rc2 ra3 rc3 ra4 rc4 m',e= .returned (vS ra4 y0.2 rc4)∧m.le m'∧St m' (kR ra4 y0.2 rc4 3 1::kB bp0 (V6 y0.1 ra1 rc1 ra2 rc2 ra3 rc3) 114::kR ra3 y0.1.2.2.2 rc3 117 5::O) w'∧P2 m' ra1 rc1 ra2 rc2 ra3 rc3 ra4 rc4 y0):=by
 unfold qEa at i;have q:=m.le_refl;refine W_cA Tryz.func295 rfl Tryz.ntmps295 ?_;refine W_sr (qAe 1 [] (W_sr (qAe 1 [(5,v8)] (W_sr (qAb 1 [(6,vP bp0 0)] (qBo 7 i (fun _ h=>qBw (p0:=p0) st.f1.f1 r1 r2 r3 h) ?_))))));rintro y1 i _ w1 (⟨z1,m2,rfl,rfl,e2,st⟩|⟨y2,rfl,a4,c4,a5,c5,a6,c6,m1,rfl,e1,st,r4,r5,r6⟩)
 ·refine qAd ?_;obtain rfl:=sI i;exact qAj (.inl ⟨z1,m2,rfl,rfl,q.t e2,st⟩)
 refine WO_e (qAr (W_sr (qAb 1 [(8,vP bp0 0)] (qAv 9 i (fun _ h=>qDn (p0:=y2) st.f1.f1 r4 r5 r6 h) ?_))));rintro y3 i _ w3 ⟨a7,c7,a8,c8,a9,c9,m3,rfl,e3,st,r7,r8,r9⟩;refine WO_e (W_if i ?_ ?_)
 ·intro A i;refine W_sr (qAe 1 [(4,v8)] (qBb (qAf ?_)));cases i;refine X_rt [4] [v8] ?_;have st:=(st.nilroom 3 1).front2.front2.front2;exact .inr ⟨_,rfl,a7,c7,a8,c8,a9,c9,none,0,m3,rfl,(q.t e1).t e3,st,r7,r8,r9,(RepS.nil _ _)⟩
 ·intro A i;refine qAn (qAg (qAr (qAy ?_)));have⟨out1,i,j1⟩:=qAw i;refine qCg (.exit 0) (fun L' w'=>∃(o1:T1f),∃a10 c10 a11 c11 a12 c12 a13 c13 m4,(.inl o1)=out1∧L'=[(0,vP bp0 0),(5,vS a10 o1.1 c10)]∧m.le m4∧St m4 (kB bp0 (V6 o1.2 a11 c11 a12 c12 a13 c13) 114::kR a10 o1.1 c10 3 1::kR a13 o1.2.2.2.2 c13 117 5::O) w'∧P3 m4 a10 c10 a11 c11 a12 c12 a13 c13 o1) ?_ ?_
  ·rintro _ w4 ⟨o1,a10,c10,a11,c11,a12,c12,a13,c13,m4,rfl,rfl,q,st,r10,r11,r12,r13⟩;have i:=j1;refine qBk (qAg (W_sr (qAb 1 [(20,vP bp0 0)] (qBo 21 i (fun _ h=>qBw (p0:=o1.2) st.f2.f1 r11 r12 r13 h) ?_))));rintro y7 i _ w11 (⟨z3,m12,rfl,rfl,e10,st⟩|⟨y8,rfl,a25,c25,a26,c26,a27,c27,m11,rfl,e9,st,r26,r27,r28⟩)
   ·refine qAd ?_;obtain rfl:=sI i;have st:=st.t;exact qAj (.inl ⟨z3,m12,rfl,rfl,q.t e10,st⟩)
   refine WO_e (W_sr (qAe 2 [(4,vS a10 o1.1 c10)] (qBb ?_)));cases i;exact X_rt [4] [vS a10 o1.1 c10] (.inr ⟨_,rfl,a25,c25,a26,c26,a27,c27,a10,c10,m11,rfl,q.t e9,st.f1.f1.f2,r26,r27,r28,r10.mono e9⟩)
  intro K0_u1;have st:=(st.nilroom 3 1).front2.front1.front2;refine qHk _ kr (qEl (fun k1 L' w'=>∃(s1:T1f),∃a14 c14 a15 c15 a16 c16 a17 c17 m5,qBf (qDo N R7 p1) k1 s1=some out1∧L'=[(0,vP bp0 0),(1,vI p1),(5,vS a14 s1.1 c14)]∧m.le m5∧St m5 (kB bp0 (V6 s1.2 a15 c15 a16 c16 a17 c17) 114::kR a14 s1.1 c14 3 1::kR a17 s1.2.2.2.2 c17 117 5::O) w'∧P3 m5 a14 c14 a15 c15 a16 c16 a17 c17 s1) N ⟨(([]:T9),y3.1.1,y3.1.2.1,y3.1.2.2.1,y3.1.2.2.2),none,0,a7,c7,a8,c8,a9,c9,m3,i,rfl,(q.t e1).t e3,st,(RepS.nil _ _),r7,r8,r9⟩ ?_);rintro k1 _ w5 ⟨s1,a14,c14,a15,c15,a16,c16,a17,c17,m5,hL,rfl,q,st,r14,r15,r16,r17⟩;rcases k1 with _|k1
  ·exact qBr hL
  ·obtain⟨qu1,i,hSu1,hBu1⟩:=qBs hL;clear hL;unfold qDo at i;refine qAy (W_sr (qAb 4 [(10,vS a14 s1.1 c14),(11,vP bp0 0),(13,vI (wr (p1+1)))] (qBo 14 i (fun _ h=>ih_source_parser_expr (p0:=s1.2) st.f2.f1 r15 r16 r17 h) ?_)));rintro y4 i _ w6 (⟨z2,m7,rfl,rfl,e5,st⟩|⟨y5,rfl,a18,c18,a19,c19,a20,c20,m6,rfl,e4,st,r18,r19,r20⟩)
   ·refine qAd ?_;refine qAx ?_;obtain rfl:=sI i;have ho:=hBu1 _ rfl;subst ho;have i:=j1;refine qAd ?_;refine qAx ?_;refine qAd ?_;obtain rfl:=sI i;have st:=st.t;exact qAj (.inl ⟨z2,m7,rfl,rfl,q.t e5,st⟩)
   refine qAa rfl (qAq (d:=15) (t:=22) (e:=3) (len:=1) (parts:= #[(0,(.tmp 14))]) (cInt .i64) (xs:=[y5.2]) [vI y5.2] kr rfl (fun _=>qAp kr _) rfl rfl st ⟨[vI y5.2],_,rfl,rfl,rfl⟩ fun b1 m8 w8 e6 st r21=>(qAa rfl (qIv 16 22 22 3 8 10 15 st.f3 (.inl kr) ((r14.mono e4).mono e6) r21.src i fun l1 i a21 c21 m9 w9 e7 st r22=>(qAb 1 [(5,vS a21 l1 c21)] (qAs rfl ?_)))));have st:=st.f1.t;refine qAg (W_sr (qAb 1 [(17,vP bp0 0)] (qAv 18 i (fun _ h=>qDn (p0:=y5.1) st.f2.f2 ((r18.mono e6).mono e7) ((r19.mono e6).mono e7) ((r20.mono e6).mono e7) h) ?_)));rintro y6 i _ w10 ⟨a22,c22,a23,c23,a24,c24,m10,rfl,e8,st,r23,r24,r25⟩;refine qAe 1 [(19,vB (!y6.2))] (W_if i ?_ ?_)
   ·intro A i;refine qDy (qLl rfl ?_);obtain rfl:=sI i;have ho:=hBu1 _ rfl;have st:=st.f1.f2.f2;refine qAi ?_;exact xE (K0_u1 _ _ ⟨(l1,y6.1.1,y6.1.2.1,y6.1.2.2.1,y6.1.2.2.2),a21,c21,a22,c22,a23,c23,a24,c24,m10,ho,rfl,(((q.t e4).t e6).t e7).t e8,st,r22.mono e8,r23,r24,r25⟩)
   ·intro A i;refine qAn (qBm ?_);obtain rfl:=sI i;have hL:=hSu1 _ rfl;exact xE (qCr k1 (jE _) ⟨(l1,y6.1.1,y6.1.2.1,y6.1.2.2.1,y6.1.2.2.2),a21,c21,a22,c22,a23,c23,a24,c24,m10,hL,rfl,(((q.t e4).t e6).t e7).t e8,st.f1.f2.f2,r22.mono e8,r23,r24,r25⟩)
theorem qMq{R3:Tz→Tw→(Int)→T1a}{R4:Tz→(Int)→T1e}{R5:Tz→(Int)→T1a}{R6:Tz→(Int)→(Int)→T1a}{R7:Tz→(Int)→T1a}(ih_source_parser_builtin:qEg R3)(ih_source_parser_arguments:qDp R4)(ih_source_parser_factor:qEn R5)(ih_source_parser_binary:qEr R6)(ih_source_parser_expr:qFo R7){p0:Tz}{p1:Int}{r:T19}(st:St m (kB bp0 (V6 p0 a1 c1 a2 c2 a3 c3) 114::kR a3 p0.2.2.2 c3 117 5::O) w)(r1:RepS C3 m a1 c1 p0.1)(r2:RepS cStr m a2 c2 p0.2.2.1)(r3:RepS C4 m a3 c3 p0.2.2.2)(i:qFc N R3 R4 R5 R6 R7 p0 p1=some r):Calls Tryz.prog 281 #[vP bp0 0,vI p1] w fun e w'=>(∃(z0:Tr),∃m',r= .inl z0∧e= .panicked [{v:= .iface 110 (.agg (V7 z0)),recovered:=false}]∧m.le m'∧St m' (O) w')∨(∃(y0:T18),r= .inr y0∧∃ra1 rc1 ra2 rc2 ra3 rc3 m',e= .returned (vI y0.2)∧m.le m'∧St m' (kB bp0 (V6 y0.1 ra1 rc1 ra2 rc2 ra3 rc3) 114::kR ra3 y0.1.2.2.2 rc3 117 5::O) w'∧P1 m' ra1 rc1 ra2 rc2 ra3 rc3 y0.1):=by
 unfold qFc at i;have q:=m.le_refl;refine W_cA Tryz.func281 rfl Tryz.ntmps281 ?_;refine W_sr (qAe 1 [] (W_sr (qAb 1 [(8,vP bp0 0)] (qAv 9 i (fun _ h=>qBx (p0:=p0) st.f1.f1 r1 r2 r3 h) ?_))));rintro y1 i _ w1 ⟨a4,c4,a5,c5,a6,c6,m1,rfl,e1,st,r4,r5,r6⟩;have q:=q.t e1;refine qAa rfl (qCm 5 181 (.agg (V5 0 eB 0 0)) st fun b1 w2 st=>(qAa rfl (qBn 181 5 9 (.agg (V4 y1.2)) st fun w3 st=>(WO_e (qAr ?_)))));have⟨qu1,i,j1⟩:=qAw i;refine qCg .normal (fun L' w'=>∃(o1:Tz),∃a7 c7 a8 c8 a9 c9 m2,(.inl o1:Tz⊕T19)=qu1∧L'=[(0,vP bp0 0),(1,vI p1),(5,vP b1 0)]∧m.le m2∧St m2 (kB b1 (V4 y1.2) 181::kB bp0 (V6 o1 a7 c7 a8 c8 a9 c9) 114::kR a9 o1.2.2.2 c9 117 5::O) w'∧P1 m2 a7 c7 a8 c8 a9 c9 o1) ?_ ?_
 ·rintro _ w4 ⟨o1,a7,c7,a8,c8,a9,c9,m2,rfl,rfl,q,st,r7,r8,r9⟩;have i:=j1;refine qAg (W_sr (qAb 3 [(54,vP bp0 0),(56,vP bp0 1)] (qAa rfl (qBc 57 3 56 1 (vI o1.2.1) st.t.h (qAb 3 [(58,vI (wr (o1.2.1+1))),(60,vP bp0 1)] (qAa rfl (qIb 3 60 58 1 (vI (wr (o1.2.1+1))) #[vS a7 o1.1 c7,vI (wr (o1.2.1+1)),vS a8 o1.2.2.1 c8,vS a9 o1.2.2.2 c9] st.f1 fun w21 st=>(WO_e (qAr (W_sr (qCs 1 62 9 61 1 (vT y1.2.2.1) st.t.h (WO_e (qAy (qAr (W_sr (qAe 2 [(63,vB (y1.2.2.1.toList==b1t.toList))] ?_))))))))))))))));have⟨o2,i,j2⟩:=qAw i;refine qCg .normal (fun L' w'=>∃m17,L'=[(0,vP bp0 0),(1,vI p1),(5,vP b1 0),(63,vB o2)]∧m.le m17∧St m17 (kB bp0 #[vS a7 o1.1 c7,vI (wr (o1.2.1+1)),vS a8 o1.2.2.1 c8,vS a9 o1.2.2.2 c9] 114::kB b1 (V4 y1.2) 181::kR a9 o1.2.2.2 c9 117 5::O) w'∧P1 m17 a7 c7 a8 c8 a9 c9 o1) ?_ ?_
  ·have i:=j2;rintro _ w22 ⟨m17,rfl,q,st,r7,r8,r9⟩;refine qAg (W_if i ?_ ?_)
   ·intro A i;refine W_sr (qAb 1 [(69,vP bp0 0)] (qAa rfl (qBc 70 181 5 0 (.agg (V4 y1.2)) st.t.h (qAb 1 [(71,vI p1)] (qBo 72 i (fun _ h=>ih_source_parser_builtin (p0:=(o1.1,wr (o1.2.1+1),o1.2.2.1,o1.2.2.2)) st.f2.f1 r7 r8 r9 h) ?_)))));rintro y16 i _ w23 (⟨z7,m19,rfl,rfl,e17,st⟩|⟨y17,rfl,a31,c31,a32,c32,a33,c33,m18,rfl,e16,st,r31,r32,r33⟩)
    ·refine qAd ?_;refine qAx ?_;refine qAd ?_;obtain rfl:=sI i;have st:=st.t;exact qAj (.inl ⟨z7,m19,rfl,rfl,q.t e17,st⟩)
    refine qAe 1 [(4,vI y17.2)] (qBb (qAh (qAf ?_)));cases i;exact X_rt [4] [vI y17.2] (.inr ⟨_,rfl,a31,c31,a32,c32,a33,c33,m18,rfl,q.t e16,st.f2.t.f1.f1,r31,r32,r33⟩)
   ·intro A i;refine qAn (qBm (qAg (qAr (W_sr (qCs 1 74 9 73 1 (vT y1.2.2.1) st.t.h (qAv 75 i (fun _ h=>qMf st h) ?_))))));rintro y18 i _ w25 ⟨m20,rfl,e18,st⟩;have q:=q.t e18;have r7:=r7.mono e18;have r8:=r8.mono e18;have r9:=r9.mono e18;refine WO_e ?_;have⟨qu3,i,j3⟩:=qAw i;refine qCg .normal (fun L' w'=>∃(o3:Unit),∃m21,(.inl o3:T1b)=qu3∧L'=[(0,vP bp0 0),(1,vI p1),(5,vP b1 0)]∧m.le m21∧St m21 (kB bp0 #[vS a7 o1.1 c7,vI (wr (o1.2.1+1)),vS a8 o1.2.2.1 c8,vS a9 o1.2.2.2 c9] 114::kB b1 (V4 y1.2) 181::kR a9 o1.2.2.2 c9 117 5::O) w'∧P1 m21 a7 c7 a8 c8 a9 c9 o1) ?_ ?_
    ·rintro _ w26 ⟨o3,m21,rfl,rfl,q,st,r7,r8,r9⟩;have i:=j3;refine qAg (qAr (W_sr (qAb 1 [(78,vP bp0 0)] (qAv 79 i (fun _ h=>qFf (p0:=(o1.1,wr (o1.2.1+1),o1.2.2.1,o1.2.2.2)) st.f2.f1 r7 r8 r9 h) ?_))));rintro y21 i _ w29 ⟨a34,c34,a35,c35,a36,c36,m24,rfl,e21,st,r34,r35,r36⟩;have q:=q.t e21;refine WO_e (W_if i ?_ ?_)
     ·intro A i;refine qAr (qFl [(10,fun w'=>Inv m24 w'∧Piece.holds m24 w' (kB b1 (V4 y1.2) 181)∧True)] kr st fun w30 _ st=> ?_);have hmS2:=m24.le_refl;refine⟨⟨.inr ⟨Inv.anti st.inv hmS2,Piece.holds_anti st.t.t.h hmS2,trivial⟩,trivial⟩,?_⟩;refine qAu 0 80 (vP bp0 0) (.head _) (qFa 181 5 1 81 0 (.agg (V4 y1.2)) (.head _) (fun _ h=>h.2.1) (qAu 2 82 (vP b1 1) (.head _) (qFa 9 82 3 83 1 (vT y1.2.2.1) (.head _) (fun _ h=>h.2.1) (qAu 4 84 (vP bp0 0) (.head _) (qAu 5 85 (vI p1) (.head _) ?_)))));have st:=st.f1.f1;have⟨y22,d14,i⟩:=qAw i;refine qBh 6 kr (qRz 86 295 #[vP bp0 0,vI p1] kr rfl ((ih_source_parser_arguments (p0:=y21.1) st r34 r35 r36 d14).mono ?_));rintro _ w31 (⟨z9,m26,rfl,rfl,e23,st⟩|⟨y23,rfl,a37,c37,a38,c38,a39,c39,a40,c40,m25,rfl,e22,st,r37,r38,r39,r40⟩)
      ·refine .inr ⟨_,rfl,?_⟩;have hmS2:=Mem.le_trans hmS2 e23;refine qAd ?_;refine qAd ?_;obtain rfl:=sI i;have st:=st.t;exact qAj (.inl ⟨z9,m26,rfl,rfl,q.t e23,st⟩)
      refine .inl ⟨_,rfl,?_⟩;have hmS2:=Mem.le_trans hmS2 e22;refine⟨⟨.inr ⟨Inv.anti st.inv hmS2,Piece.holds_anti st.t.t.t.h hmS2,trivial⟩,trivial⟩,?_⟩;refine qAu 7 87 (.agg #[vI 3,vI 0,vI 0,vT y1.2.2.1,vS a40 y23.2 c40]) (.head _) ?_;have st:=st.f2.f2;have⟨y24,d15,i⟩:=qAw i;refine qBh 8 kr (qRz 88 254 #[vP bp0 0,.agg (V4 y1.2),.agg #[vI 3,vI 0,vI 0,vT y1.2.2.1,vS a40 y23.2 c40]] kr rfl ((qDe (p0:=y23.1) st r37 r38 r39 r40 d15).mono ?_));rintro _ w33 (⟨z10,m28,rfl,rfl,e25,st⟩|⟨y25,rfl,a41,c41,a42,c42,a43,c43,m27,rfl,e24,st,r41,r42,r43⟩)
      ·refine .inr ⟨_,rfl,?_⟩;have hmS2:=Mem.le_trans hmS2 e25;refine qAd ?_;refine qAd ?_;obtain rfl:=sI i;have st:=st.t.t;exact qAj (.inl ⟨z10,m28,rfl,rfl,(q.t e22).t e25,st⟩)
      refine .inl ⟨_,rfl,?_⟩;have hmS2:=Mem.le_trans hmS2 e24;refine⟨⟨.inr ⟨Inv.anti st.inv hmS2,Piece.holds_anti st.t.t.t.h hmS2,trivial⟩,trivial⟩,?_⟩;refine qAu 9 4 (vI y25.2) (.head _) (qCd kr ?_);have st:=st.f2.t;refine qAg (qBb (qAf ?_));cases i;exact X_rt [4] [vI y25.2] (.inr ⟨_,rfl,a41,c41,a42,c42,a43,c43,m27,rfl,(q.t e22).t e24,st.f2.t.f1.f1,r41,r42,r43⟩)
     ·intro A i;refine qAn (qAg (qAr (qFl [(8,fun w'=>Inv m24 w'∧Piece.holds m24 w' (kB bp0 (V6 y21.1 a34 c34 a35 c35 a36 c36) 114)∧Piece.holds m24 w' (kB b1 (V4 y1.2) 181)∧True)] kr st fun w35 _ st=> ?_)));have hmS3:=m24.le_refl;refine⟨⟨.inr ⟨Inv.anti st.inv hmS3,Piece.holds_anti st.h hmS3,Piece.holds_anti st.t.t.h hmS3,trivial⟩,trivial⟩,?_⟩;refine qAu 0 89 (vP bp0 0) (.head _) (qAu 1 90 (vP bp0 0) (.head _) (qAu 2 91 (vP bp0 2) (.head _) (qFa 43 91 3 92 2 (vS a35 y21.1.2.2.1 c35) (.head _) (fun _ h=>h.2.1) (qAu 4 93 (vP b1 1) (.head _) (qFa 9 93 5 94 1 (vT y1.2.2.1) (.head _) (fun _ h=>h.2.2.1) (qBh 6 kr (qCt 95 i (fun _ h=>qHs st r35 h) ?_)))))));rintro y26 i _ w36 ⟨m29,rfl,e26,st⟩;refine⟨_,rfl,?_⟩;have q:=q.t e26;have hmS3:=Mem.le_trans hmS3 e26;refine⟨⟨.inr ⟨Inv.anti st.inv hmS3,Piece.holds_anti st.h hmS3,Piece.holds_anti st.t.t.h hmS3,trivial⟩,trivial⟩,?_⟩;refine qAu 7 7 (vI y26) (.head _) (qCd kr (qAg (qAr (W_sr (qAe 2 [(97,vB (decide (y26<0)))] ?_)))));have⟨qu4,i,j4⟩:=qAw i;refine qCg .normal (fun L' w'=>∃(o4:Unit),∃m30,(.inl o4:T1b)=qu4∧L'=[(0,vP bp0 0),(5,vP b1 0),(7,vI y26)]∧m.le m30∧St m30 (kB bp0 (V6 y21.1 a34 c34 a35 c35 a36 c36) 114::kB b1 (V4 y1.2) 181::kR a36 y21.1.2.2.2 c36 117 5::O) w'∧P1 m30 a34 c34 a35 c35 a36 c36 y21.1) ?_ ?_
      ·rintro _ w37 ⟨o4,m30,rfl,rfl,q,st,r34,r35,r36⟩;have i:=j4;refine qAg (W_sr (qAb 1 [(100,vP bp0 0)] (qAa rfl (qBc 101 181 5 0 (.agg (V4 y1.2)) st.t.h (qAb 2 [(103,.agg #[vI 2,vI y26,vI 0,vT eB,v8])] (qBo 104 i (fun _ h=>qDe (p0:=y21.1) st.f2.f1 r34 r35 r36 (RepS.nil _ _) h) ?_))))));rintro y29 i _ w40 (⟨z12,m34,rfl,rfl,e30,st⟩|⟨y30,rfl,a44,c44,a45,c45,a46,c46,m33,rfl,e29,st,r44,r45,r46⟩)
       ·refine qAd ?_;obtain rfl:=sI i;have st:=st.t;exact qAj (.inl ⟨z12,m34,rfl,rfl,q.t e30,st⟩)
       refine qAe 1 [(4,vI y30.2)] (qBb ?_);cases i;exact X_rt [4] [vI y30.2] (.inr ⟨_,rfl,a44,c44,a45,c45,a46,c46,m33,rfl,q.t e29,st.f2.t.f1.f1,r44,r45,r46⟩)
      ·intro Ku4;refine W_if i ?_ ?_
       ·intro A i;refine qAm (qAa rfl (qBc 98 181 5 0 (.agg (V4 y1.2)) st.t.t.h (qBo 99 i (fun _ h=>qBz st h) ?_)));rintro y27 i _ w38 (⟨z11,m32,rfl,rfl,e28,st⟩|⟨y28,rfl,m31,rfl,e27,st⟩)
        ·obtain rfl:=sI i;have i:=j4;refine qAd ?_;obtain rfl:=sI i;have st:=st.t.t.t;exact qAj (.inl ⟨z11,m32,rfl,rfl,q.t e28,st⟩)
        refine qAs rfl ?_;have n4:=jC i;exact xE (Ku4 _ _ ⟨(),m31,n4,rfl,q.t e27,st.f1.f2.f2,(r34.mono e26).mono e27,(r35.mono e26).mono e27,(r36.mono e26).mono e27⟩)
       ·intro A i;refine qAn ?_;have n4:=jC i;exact xE (Ku4 _ _ ⟨(),m29,n4,rfl,q,st.f1.f2.f2,r34.mono e26,r35.mono e26,r36.mono e26⟩)
    ·intro Ku3;refine W_if i ?_ ?_
     ·intro A i;refine qAm (qAa rfl (qBc 76 181 5 0 (.agg (V4 y1.2)) st.t.h (qBo 77 i (fun _ h=>qBz st h) ?_)));rintro y19 i _ w27 (⟨z8,m23,rfl,rfl,e20,st⟩|⟨y20,rfl,m22,rfl,e19,st⟩)
      ·obtain rfl:=sI i;have i:=j3;refine qAd ?_;obtain rfl:=sI i;have st:=st.t.t.t;exact qAj (.inl ⟨z8,m23,rfl,rfl,q.t e20,st⟩)
      refine qAs rfl ?_;have n3:=jC i;exact xE (Ku3 _ _ ⟨(),m22,n3,rfl,q.t e19,st.f2.f2.f2,r7.mono e19,r8.mono e19,r9.mono e19⟩)
     ·intro A i;refine qAn ?_;have n3:=jC i;exact xE (Ku3 _ _ ⟨(),m20,n3,rfl,q,st.f2.f2.f2,r7,r8,r9⟩)
  ·intro Ku2;refine W_if i ?_ ?_
   ·intro A i;refine qAn ?_;cases i;exact xE (Ku2 _ _ ⟨m2,rfl,q,st.f2.f2.f2,r7,r8,r9⟩)
   ·intro A i;refine W_sr (qAe 2 [(63,vB (y1.2.2.1.toList==b1u.toList))] (W_if i ?_ ?_))
    ·intro A i;refine qAn ?_;cases i;exact xE (Ku2 _ _ ⟨m2,rfl,q,st.f2.f2.f2,r7,r8,r9⟩)
    ·intro A i;refine W_sr (qAe 2 [(63,vB (y1.2.2.1.toList==b1v.toList))] (W_if i ?_ ?_))
     ·intro A i;refine qAn ?_;cases i;exact xE (Ku2 _ _ ⟨m2,rfl,q,st.f2.f2.f2,r7,r8,r9⟩)
     ·intro A i;refine W_sr (qAe 2 [(63,vB (y1.2.2.1.toList==b1w.toList))] (W_if i ?_ ?_))
      ·intro A i;refine qAn ?_;cases i;exact xE (Ku2 _ _ ⟨m2,rfl,q,st.f2.f2.f2,r7,r8,r9⟩)
      ·intro A i;refine qAm (qAb 2 [(63,vB (y1.2.2.1.toList==(⟨#[102,108,105,112]⟩:ByteArray).toList))] (qAs rfl ?_));cases i;exact xE (Ku2 _ _ ⟨m2,rfl,q,st.f2.f2.f2,r7,r8,r9⟩)
 ·intro Ku1;refine qAy (W_sr (qCs 1 12 3 11 0 (vI y1.2.1) st.h (qAe 2 [(10,vB (y1.2.1==2))] (W_if i ?_ ?_))))
  ·intro A i;refine W_sr (qAb 3 [(14,vP bp0 0),(16,vP bp0 1)] (qAa rfl (qBc 17 3 16 1 (vI y1.1.2.1) st.t.h (qAb 3 [(18,vI (wr (y1.1.2.1+1))),(20,vP bp0 1)] (qAa rfl (qIb 3 20 18 1 (vI (wr (y1.1.2.1+1))) #[vS a4 y1.1.1 c4,vI (wr (y1.1.2.1+1)),vS a5 y1.1.2.2.1 c5,vS a6 y1.1.2.2.2 c6] st.f1 fun w5 st=>(WO_e (W_sr (qAb 1 [(21,vP bp0 0)] (qAa rfl (qBc 22 181 5 0 (.agg (V4 y1.2)) st.t.h (qCs 1 24 3 23 2 (vI y1.2.2.2.1) st.t.h (qAb 1 [(25,.agg #[vI 1,vI y1.2.2.2.1,vI 0,vT eB,v8])] (qBo 26 i (fun _ h=>qDe (p0:=(y1.1.1,wr (y1.1.2.1+1),y1.1.2.2.1,y1.1.2.2.2)) st.f2.f1 r4 r5 r6 (RepS.nil _ _) h) ?_))))))))))))));rintro y2 i _ w6 (⟨z1,m4,rfl,rfl,e3,st⟩|⟨y3,rfl,a10,c10,a11,c11,a12,c12,m3,rfl,e2,st,r10,r11,r12⟩)
   ·refine qAd ?_;refine qAx ?_;obtain rfl:=sI i;have i:=j1;refine qAd ?_;obtain rfl:=sI i;have st:=st.t;exact qAj (.inl ⟨z1,m4,rfl,rfl,q.t e3,st⟩)
   refine qAe 1 [(4,vI y3.2)] (qBb (qAh ?_));cases i;have i:=j1;refine qAf ?_;cases i;exact X_rt [4] [vI y3.2] (.inr ⟨_,rfl,a10,c10,a11,c11,a12,c12,m3,rfl,q.t e2,st.f2.t.f1.f1,r10,r11,r12⟩)
  ·intro A i;refine W_sr (qAb 1 [(28,vP bp0 0)] (qAv 29 i (fun _ h=>qDn (p0:=y1.1) st.f2.f2 r4 r5 r6 h) ?_));rintro y4 i _ w8 ⟨a13,c13,a14,c14,a15,c15,m5,rfl,e4,st,r13,r14,r15⟩;have q:=q.t e4;refine qAe 1 [(27,vB y4.2)] (W_if i ?_ ?_)
   ·intro A i;refine qAr (qFl [(9,fun w'=>Inv m5 w'∧Piece.holds m5 w' (kB b1 (V4 y1.2) 181)∧True)] kr st fun w9 _ st=> ?_);have hmS1:=m5.le_refl;refine⟨⟨.inr ⟨Inv.anti st.inv hmS1,Piece.holds_anti st.t.t.h hmS1,trivial⟩,trivial⟩,?_⟩;refine qAu 0 30 (vP bp0 0) (.head _) (qFa 181 5 1 31 0 (.agg (V4 y1.2)) (.head _) (fun _ h=>h.2.1) (qAu 2 32 (vP bp0 0) (.head _) ?_));have st:=st.f1.f1;have⟨y5,d4,i⟩:=qAw i;refine qBh 3 kr (qRz 33 186 #[vP bp0 0,vI 2] kr rfl ((qFq (p0:=y4.1) st r13 r14 r15 d4).mono ?_));rintro _ w10 (⟨z2,m7,rfl,rfl,e6,st⟩|⟨y6,rfl,a16,c16,a17,c17,a18,c18,m6,rfl,e5,st,r16,r17,r18⟩)
    ·refine .inr ⟨_,rfl,?_⟩;have hmS1:=Mem.le_trans hmS1 e6;refine qAd ?_;refine qAx ?_;obtain rfl:=sI i;have i:=j1;refine qAd ?_;obtain rfl:=sI i;have st:=st.t;exact qAj (.inl ⟨z2,m7,rfl,rfl,q.t e6,st⟩)
    refine .inl ⟨_,rfl,?_⟩;have hmS1:=Mem.le_trans hmS1 e5;refine⟨⟨.inr ⟨Inv.anti st.inv hmS1,Piece.holds_anti st.t.t.h hmS1,trivial⟩,trivial⟩,?_⟩;refine qAu 4 34 (vI y6.2.2.2.1) (.head _) (qAu 5 35 (vI (wr (0-y6.2.2.2.1))) (.head _) (qAu 6 36 (.agg #[vI 1,vI (wr (0-y6.2.2.2.1)),vI 0,vT eB,v8]) (.head _) ?_));have st:=st.f1.f1;have⟨y7,d5,i⟩:=qAw i;refine qBh 7 kr (qRz 37 254 #[vP bp0 0,.agg (V4 y1.2),.agg #[vI 1,vI (wr (0-y6.2.2.2.1)),vI 0,vT eB,v8]] kr rfl ((qDe (p0:=y6.1) st r16 r17 r18 (RepS.nil _ _) d5).mono ?_));rintro _ w12 (⟨z3,m9,rfl,rfl,e8,st⟩|⟨y8,rfl,a19,c19,a20,c20,a21,c21,m8,rfl,e7,st,r19,r20,r21⟩)
    ·refine .inr ⟨_,rfl,?_⟩;have hmS1:=Mem.le_trans hmS1 e8;refine qAd ?_;refine qAx ?_;obtain rfl:=sI i;have i:=j1;refine qAd ?_;obtain rfl:=sI i;have st:=st.t;exact qAj (.inl ⟨z3,m9,rfl,rfl,(q.t e5).t e8,st⟩)
    refine .inl ⟨_,rfl,?_⟩;have hmS1:=Mem.le_trans hmS1 e7;refine⟨⟨.inr ⟨Inv.anti st.inv hmS1,Piece.holds_anti st.t.t.h hmS1,trivial⟩,trivial⟩,?_⟩;refine qAu 8 4 (vI y8.2) (.head _) (qCd kr (qAg (qBb (qAh ?_))));cases i;have i:=j1;refine qAf ?_;cases i;exact X_rt [4] [vI y8.2] (.inr ⟨_,rfl,a19,c19,a20,c20,a21,c21,m8,rfl,(q.t e5).t e7,st.f2.t.f1.f1,r19,r20,r21⟩)
   ·intro A i;refine W_sr (qAb 1 [(39,vP bp0 0)] (qAv 40 i (fun _ h=>qDn (p0:=y4.1) st.f1.f1 r13 r14 r15 h) ?_));rintro y9 i _ w14 ⟨a22,c22,a23,c23,a24,c24,m10,rfl,e9,st,r22,r23,r24⟩;have q:=q.t e9;refine qAe 1 [(38,vB y9.2)] (W_if i ?_ ?_)
    ·intro A i;refine W_sr (qAb 3 [(41,vP bp0 0),(43,vI (wr (p1+1)))] (qBo 44 i (fun _ h=>ih_source_parser_expr (p0:=y9.1) st.f1.f1 r22 r23 r24 h) ?_));rintro y10 i _ w15 (⟨z4,m12,rfl,rfl,e11,st⟩|⟨y11,rfl,a25,c25,a26,c26,a27,c27,m11,rfl,e10,st,r25,r26,r27⟩)
     ·refine qAd ?_;refine qAx ?_;obtain rfl:=sI i;have i:=j1;refine qAd ?_;obtain rfl:=sI i;have st:=st.t;exact qAj (.inl ⟨z4,m12,rfl,rfl,q.t e11,st⟩)
     refine qAe 1 [(6,vI y11.2)] (W_sr (qAb 1 [(45,vP bp0 0)] (qBo 46 i (fun _ h=>qBw (p0:=y11.1) st.f1.f1 r25 r26 r27 h) ?_)));rintro y12 i _ w17 (⟨z5,m14,rfl,rfl,e13,st⟩|⟨y13,rfl,a28,c28,a29,c29,a30,c30,m13,rfl,e12,st,r28,r29,r30⟩)
     ·refine qAd ?_;refine qAx ?_;obtain rfl:=sI i;have i:=j1;refine qAd ?_;obtain rfl:=sI i;have st:=st.t;exact qAj (.inl ⟨z5,m14,rfl,rfl,(q.t e10).t e13,st⟩)
     refine WO_e (W_sr (qAe 2 [(4,vI y11.2)] (qBb (qAh ?_))));cases i;have i:=j1;refine qAf ?_;cases i;exact X_rt [4] [vI y11.2] (.inr ⟨_,rfl,a28,c28,a29,c29,a30,c30,m13,rfl,(q.t e10).t e12,st.f2.t.f1.f1,r28,r29,r30⟩)
    ·intro A i;refine W_sr (qCs 1 50 3 49 0 (vI y1.2.1) st.t.t.h (qAe 2 [(48,vB (y1.2.1 !=1))] (W_if i ?_ ?_)))
     ·intro A i;refine qAm (qAa rfl (qBc 52 181 5 0 (.agg (V4 y1.2)) st.t.t.h (qBo 53 i (fun _ h=>qBz st h) ?_)));rintro y14 i _ w19 (⟨z6,m16,rfl,rfl,e15,st⟩|⟨y15,rfl,m15,rfl,e14,st⟩)
      ·refine qAx ?_;obtain rfl:=sI i;have i:=j1;refine qAd ?_;obtain rfl:=sI i;have st:=st.t.t.t;exact qAj (.inl ⟨z6,m16,rfl,rfl,q.t e15,st⟩)
      refine qAs rfl (qBm ?_);have n1:=jC i;exact xE (Ku1 _ _ ⟨y9.1,a22,c22,a23,c23,a24,c24,m15,n1,rfl,q.t e14,st.f1.f1.f2,r22.mono e14,r23.mono e14,r24.mono e14⟩)
     ·intro A i;refine qAn (qBm ?_);have n1:=jC i;exact xE (Ku1 _ _ ⟨y9.1,a22,c22,a23,c23,a24,c24,m10,n1,rfl,q,st.f1.f1.f2,r22,r23,r24⟩)
theorem qMx{R3:Tz→Tw→(Int)→T1a}{R4:Tz→(Int)→T1e}{R5:Tz→(Int)→T1a}{R6:Tz→(Int)→(Int)→T1a}{R7:Tz→(Int)→T1a}(ih_source_parser_builtin:qEg R3)(ih_source_parser_arguments:qDp R4)(ih_source_parser_factor:qEn R5)(ih_source_parser_binary:qEr R6)(ih_source_parser_expr:qFo R7){p0:Tz}{p1:Int}{p2:Int}{r:T19}(st:St m (kB bp0 (V6 p0 a1 c1 a2 c2 a3 c3) 114::kR a3 p0.2.2.2 c3 117 5::O) w)(r1:RepS C3 m a1 c1 p0.1)(r2:RepS cStr m a2 c2 p0.2.2.1)(r3:RepS C4 m a3 c3 p0.2.2.2)(i:qCx N R3 R4 R5 R6 R7 p0 p1 p2=some r):Calls Tryz.prog 253 #[vP bp0 0,vI p1,vI p2] w fun e w'=>(∃(z0:Tr),∃m',r= .inl z0∧e= .panicked [{v:= .iface 110 (.agg (V7 z0)),recovered:=false}]∧m.le m'∧St m' (O) w')∨(∃(y0:T18),r= .inr y0∧∃ra1 rc1 ra2 rc2 ra3 rc3 m',e= .returned (vI y0.2)∧m.le m'∧St m' (kB bp0 (V6 y0.1 ra1 rc1 ra2 rc2 ra3 rc3) 114::kR ra3 y0.1.2.2.2 rc3 117 5::O) w'∧P1 m' ra1 rc1 ra2 rc2 ra3 rc3 y0.1):=by
 unfold qCx at i;have q:=m.le_refl;refine W_cA Tryz.func253 rfl Tryz.ntmps253 ?_;refine W_sr (qAe 1 [] (qAr (W_sr (qAe 2 [(12,vB (p1==4))] (W_if i ?_ ?_)))))
 ·intro A i;refine W_sr (qAb 2 [(13,vP bp0 0),(14,vI p2)] (qBo 15 i (fun _ h=>ih_source_parser_factor (p0:=p0) st.f1.f1 r1 r2 r3 h) ?_));rintro y1 i _ w1 (⟨z1,m2,rfl,rfl,e2,st⟩|⟨y2,rfl,a4,c4,a5,c5,a6,c6,m1,rfl,e1,st,r4,r5,r6⟩)
  ·refine qAd ?_;refine qAd ?_;obtain rfl:=sI i;exact qAj (.inl ⟨z1,m2,rfl,rfl,q.t e2,st⟩)
  refine qAe 1 [(6,vI y2.2)] (qBb (qAf ?_));cases i;exact X_rt [6] [vI y2.2] (.inr ⟨_,rfl,a4,c4,a5,c5,a6,c6,m1,rfl,q.t e1,st.f1.f1,r4,r5,r6⟩)
 ·intro A i;refine qAn (qAg (W_sr (qAb 4 [(16,vP bp0 0),(18,vI (wr (p1+1))),(19,vI p2)] (qBo 20 i (fun _ h=>ih_source_parser_binary (p0:=p0) st.f1.f1 r1 r2 r3 h) ?_))));rintro y3 i _ w3 (⟨z2,m4,rfl,rfl,e4,st⟩|⟨y4,rfl,a7,c7,a8,c8,a9,c9,m3,rfl,e3,st,r7,r8,r9⟩)
  ·refine qAd ?_;obtain rfl:=sI i;exact qAj (.inl ⟨z2,m4,rfl,rfl,q.t e4,st⟩)
  refine qAe 1 [(7,vI y4.2)] (qAy ?_);have⟨out1,i,j1⟩:=qAw i;refine qHk _ kr (qEl (fun k1 L' w'=>∃(s1:Int×Tz),∃a10 c10 a11 c11 a12 c12 m5,qBf (qEq N R6 p1 p2) k1 s1=some out1∧L'=[(0,vP bp0 0),(1,vI p1),(2,vI p2),(7,vI s1.1)]∧m.le m5∧St m5 (kB bp0 (V6 s1.2 a10 c10 a11 c11 a12 c12) 114::kR a12 s1.2.2.2.2 c12 117 5::O) w'∧P1 m5 a10 c10 a11 c11 a12 c12 s1.2) N ⟨(y4.2,y4.1.1,y4.1.2.1,y4.1.2.2.1,y4.1.2.2.2),a7,c7,a8,c8,a9,c9,m3,i,rfl,q.t e3,st.f1.f1,r7,r8,r9⟩ ?_);rintro k1 _ w5 ⟨s1,a10,c10,a11,c11,a12,c12,m5,hL,rfl,q,st,r10,r11,r12⟩;rcases k1 with _|k1
  ·exact qBr hL
  ·obtain⟨qu1,i,hSu1,hBu1⟩:=qBs hL;clear hL;unfold qEq at i;refine qAy (W_sr (qAb 2 [(21,vP bp0 0),(22,vI p1)] (qAv 23 i (fun _ h=>qMw (p0:=s1.2) st.f1.f1 r10 r11 r12 h) ?_)));rintro y5 i _ w6 ⟨a13,c13,a14,c14,a15,c15,m6,rfl,e5,st,r13,r14,r15⟩;have q:=q.t e5;refine qAe 1 [(8,vI y5.2)] (qAr (W_sr (qAe 2 [(25,vB (y5.2==0))] (W_if i ?_ ?_))))
   ·intro A i;refine W_sr (qAe 2 [(6,vI s1.1)] (qBb (qAf (qAh ?_))));cases i;have ho:=hBu1 _ rfl;subst ho;have i:=j1;refine qAf (qAh ?_);cases i;exact X_rt [6] [vI s1.1] (.inr ⟨_,rfl,a13,c13,a14,c14,a15,c15,m6,rfl,q,st.f1.f1,r13,r14,r15⟩)
   ·intro A i;refine qAn (qAg (W_sr (qAb 1 [(27,vP bp0 0)] (qAv 28 i (fun _ h=>qBx (p0:=y5.1) st.f1.f1 r13 r14 r15 h) ?_))));rintro y6 i _ w7 ⟨a16,c16,a17,c17,a18,c18,m7,rfl,e6,st,r16,r17,r18⟩;refine qAa rfl (qCm 9 181 (.agg (V5 0 eB 0 0)) st fun b1 w8 st=>(qAa rfl (qBn 181 9 28 (.agg (V4 y6.2)) st fun w9 st=>(WO_e (W_sr (qAb 3 [(29,vP bp0 0),(31,vP bp0 1)] (qAa rfl (qBc 32 3 31 1 (vI y6.1.2.1) st.t.h (qAb 3 [(33,vI (wr (y6.1.2.1+1))),(35,vP bp0 1)] (qAa rfl (qIb 3 35 33 1 (vI (wr (y6.1.2.1+1))) #[vS a16 y6.1.1 c16,vI (wr (y6.1.2.1+1)),vS a17 y6.1.2.2.1 c17,vS a18 y6.1.2.2.2 c18] st.f1 fun w10 st=>(WO_e (W_sr (qAb 4 [(36,vP bp0 0),(38,vI (wr (p1+1))),(39,vI p2)] (qBo 40 i (fun _ h=>ih_source_parser_binary (p0:=(y6.1.1,wr (y6.1.2.1+1),y6.1.2.2.1,y6.1.2.2.2)) st.f2.f1 r16 r17 r18 h) ?_)))))))))))))));rintro y7 i _ w11 (⟨z3,m9,rfl,rfl,e8,st⟩|⟨y8,rfl,a19,c19,a20,c20,a21,c21,m8,rfl,e7,st,r19,r20,r21⟩)
    ·refine qAd ?_;refine qAx ?_;obtain rfl:=sI i;have ho:=hBu1 _ rfl;subst ho;have i:=j1;refine qAd ?_;refine qAx ?_;obtain rfl:=sI i;have st:=st.t;exact qAj (.inl ⟨z3,m9,rfl,rfl,(q.t e6).t e8,st⟩)
    refine qAe 1 [(10,vI y8.2)] (W_sr (qAb 1 [(41,vP bp0 0)] (qAa rfl (qBc 42 181 9 0 (.agg (V4 y6.2)) st.t.t.h (qAb 3 [(43,vI y5.2),(44,vI s1.1),(45,vI y8.2)] (qAa rfl (qAq (d:=46) (t:=22) (e:=3) (len:=2) (parts:= #[(0,(.tmp 44)),(1,(.tmp 45))]) (cInt .i64) (xs:=[s1.1,y8.2]) [vI s1.1,vI y8.2] kr rfl (fun _=>qAp kr _) rfl rfl st ⟨[vI s1.1],_,rfl,rfl,⟨[vI y8.2],_,rfl,rfl,rfl⟩⟩ fun b2 m10 w13 e9 st r22=> ?_)))))));have q:=((q.t e6).t e7).t e9;refine qAb 1 [(47,.agg #[vI 4,vI 0,vI y5.2,vT eB,vS (aP b2) ([s1.1,y8.2]) 2])] (qBo 48 i (fun _ h=>qDe (p0:=y8.1) st.f2.f2 (r19.mono e9) (r20.mono e9) (r21.mono e9) r22 h) ?_);rintro y9 i _ w14 (⟨z4,m12,rfl,rfl,e11,st⟩|⟨y10,rfl,a22,c22,a23,c23,a24,c24,m11,rfl,e10,st,r23,r24,r25⟩)
    ·refine qAd ?_;refine qAx ?_;obtain rfl:=sI i;have ho:=hBu1 _ rfl;subst ho;have i:=j1;refine qAd ?_;refine qAx ?_;obtain rfl:=sI i;have st:=st.t.t;exact qAj (.inl ⟨z4,m12,rfl,rfl,q.t e11,st⟩)
    refine qAb 1 [(7,vI y10.2)] (qAs rfl ?_);have st:=st.f2.t;refine qAg (W_sr (qAe 2 [(50,vB (p1==1))] (W_if i ?_ ?_)))
    ·intro A i;refine W_sr (qAe 2 [(6,vI y10.2)] (qBb (qAh ?_)));cases i;have ho:=hBu1 _ rfl;subst ho;have i:=j1;refine qAf (qAh ?_);cases i;exact X_rt [6] [vI y10.2] (.inr ⟨_,rfl,a22,c22,a23,c23,a24,c24,m11,rfl,q.t e10,st.f2.t.f1.f1,r23,r24,r25⟩)
    ·intro A i;refine qAn (qBm ?_);obtain rfl:=sI i;have hL:=hSu1 _ rfl;exact xE (qCr k1 (jE _) ⟨(y10.2,y10.1.1,y10.1.2.1,y10.1.2.2.1,y10.1.2.2.2),a22,c22,a23,c23,a24,c24,m11,hL,rfl,q.t e10,st.f2.t.f1.f1,r23,r24,r25⟩)
theorem qOc{R3:Tz→Tw→(Int)→T1a}{R4:Tz→(Int)→T1e}{R5:Tz→(Int)→T1a}{R6:Tz→(Int)→(Int)→T1a}{R7:Tz→(Int)→T1a}(ih_source_parser_builtin:qEg R3)(ih_source_parser_arguments:qDp R4)(ih_source_parser_factor:qEn R5)(ih_source_parser_binary:qEr R6)(ih_source_parser_expr:qFo R7){p0:Tz}{p1:Int}{r:T19}(st:St m (kB bp0 (V6 p0 a1 c1 a2 c2 a3 c3) 114::kR a3 p0.2.2.2 c3 117 5::O) w)(r1:RepS C3 m a1 c1 p0.1)(r2:RepS cStr m a2 c2 p0.2.2.1)(r3:RepS C4 m a3 c3 p0.2.2.2)(i:qDq N R3 R4 R5 R6 R7 p0 p1=some r):Calls Tryz.prog 193 #[vP bp0 0,vI p1] w fun e w'=>(∃(z0:Tr),∃m',r= .inl z0∧e= .panicked [{v:= .iface 110 (.agg (V7 z0)),recovered:=false}]∧m.le m'∧St m' (O) w')∨(∃(y0:T18),r= .inr y0∧∃ra1 rc1 ra2 rc2 ra3 rc3 m',e= .returned (vI y0.2)∧m.le m'∧St m' (kB bp0 (V6 y0.1 ra1 rc1 ra2 rc2 ra3 rc3) 114::kR ra3 y0.1.2.2.2 rc3 117 5::O) w'∧P1 m' ra1 rc1 ra2 rc2 ra3 rc3 y0.1):=by
 unfold qDq at i;have q:=m.le_refl;refine W_cA Tryz.func193 rfl Tryz.ntmps193 ?_;refine W_sr (qAe 1 [] (W_sr (qAb 1 [(9,vP bp0 0)] (qAv 10 i (fun _ h=>qBx (p0:=p0) st.f1.f1 r1 r2 r3 h) ?_))));rintro y1 i _ w1 ⟨a4,c4,a5,c5,a6,c6,m1,rfl,e1,st,r4,r5,r6⟩;have q:=q.t e1;refine qAa rfl (qCm 5 181 (.agg (V5 0 eB 0 0)) st fun b1 w2 st=>(qAa rfl (qBn 181 5 10 (.agg (V4 y1.2)) st fun w3 st=>(WO_e (qAr (W_sr (qAe 2 [(12,vB (decide (p1>32)))] ?_)))))));have⟨qu1,i,j1⟩:=qAw i;refine qCg .normal (fun L' w'=>∃(o1:Unit),∃m2,(.inl o1:T1b)=qu1∧L'=[(0,vP bp0 0),(1,vI p1),(5,vP b1 0)]∧m.le m2∧St m2 (kB b1 (V4 y1.2) 181::kB bp0 (V6 y1.1 a4 c4 a5 c5 a6 c6) 114::kR a6 y1.1.2.2.2 c6 117 5::O) w'∧P1 m2 a4 c4 a5 c5 a6 c6 y1.1) ?_ ?_
 ·rintro _ w4 ⟨o1,m2,rfl,rfl,q,st,r4,r5,r6⟩;have i:=j1;refine qAg (qAr (W_sr (qAb 1 [(15,vP bp0 0)] (qAv 16 i (fun _ h=>qFf (p0:=y1.1) st.f2.f2 r4 r5 r6 h) ?_))));rintro y4 i _ w7 ⟨a7,c7,a8,c8,a9,c9,m5,rfl,e4,st,r7,r8,r9⟩;have q:=q.t e4;refine qAe 1 [(17,vB (!y4.2))] (W_if i ?_ ?_)
  ·intro A i;refine W_sr (qAb 2 [(18,vP bp0 0),(19,vI p1)] (qBo 20 i (fun _ h=>ih_source_parser_binary (p0:=y4.1) st.f1.f1 r7 r8 r9 h) ?_));rintro y5 i _ w8 (⟨z2,m7,rfl,rfl,e6,st⟩|⟨y6,rfl,a10,c10,a11,c11,a12,c12,m6,rfl,e5,st,r10,r11,r12⟩)
   ·refine qAd ?_;refine qAd ?_;obtain rfl:=sI i;have st:=st.t;exact qAj (.inl ⟨z2,m7,rfl,rfl,q.t e6,st⟩)
   refine qAe 1 [(4,vI y6.2)] (qBb (qAf ?_));cases i;exact X_rt [4] [vI y6.2] (.inr ⟨_,rfl,a10,c10,a11,c11,a12,c12,m6,rfl,q.t e5,st.f2.t.f1.f1,r10,r11,r12⟩)
  ·intro A i;refine qAn (qAg (W_sr (qAb 3 [(21,vP bp0 0),(23,vP bp0 1)] (qAa rfl (qBc 24 3 23 1 (vI y4.1.2.1) st.h (qAb 3 [(25,vI (wr (y4.1.2.1+1))),(27,vP bp0 1)] (qAa rfl (qIb 3 27 25 1 (vI (wr (y4.1.2.1+1))) #[vS a7 y4.1.1 c7,vI (wr (y4.1.2.1+1)),vS a8 y4.1.2.2.1 c8,vS a9 y4.1.2.2.2 c9] st fun w10 st=>(WO_e (W_sr (qAb 3 [(28,vP bp0 0),(30,vI (wr (p1+1)))] (qBo 31 i (fun _ h=>ih_source_parser_expr (p0:=(y4.1.1,wr (y4.1.2.1+1),y4.1.2.2.1,y4.1.2.2.2)) st.f1.f1 r7 r8 r9 h) ?_))))))))))));rintro y7 i _ w11 (⟨z3,m9,rfl,rfl,e8,st⟩|⟨y8,rfl,a13,c13,a14,c14,a15,c15,m8,rfl,e7,st,r13,r14,r15⟩)
   ·refine qAd ?_;obtain rfl:=sI i;have st:=st.t;exact qAj (.inl ⟨z3,m9,rfl,rfl,q.t e8,st⟩)
   refine qAe 1 [(6,vI y8.2)] (W_sr (qAb 1 [(32,vP bp0 0)] (qBo 33 i (fun _ h=>qIf (p0:=y8.1) st.f1.f1 r13 r14 r15 h) ?_)));rintro y9 i _ w13 (⟨z4,m11,rfl,rfl,e10,st⟩|⟨y10,rfl,a16,c16,a17,c17,a18,c18,m10,rfl,e9,st,r16,r17,r18⟩)
   ·refine qAd ?_;obtain rfl:=sI i;have st:=st.t;exact qAj (.inl ⟨z4,m11,rfl,rfl,(q.t e7).t e10,st⟩)
   have q:=(q.t e7).t e9;refine WO_e (W_sr (qAb 3 [(34,vP bp0 0),(36,vI (wr (p1+1)))] (qBo 37 i (fun _ h=>ih_source_parser_expr (p0:=y10) st.f1.f1 r16 r17 r18 h) ?_)));rintro y11 i _ w15 (⟨z5,m13,rfl,rfl,e12,st⟩|⟨y12,rfl,a19,c19,a20,c20,a21,c21,m12,rfl,e11,st,r19,r20,r21⟩)
   ·refine qAd ?_;obtain rfl:=sI i;have st:=st.t;exact qAj (.inl ⟨z5,m13,rfl,rfl,q.t e12,st⟩)
   refine qAe 1 [(7,vI y12.2)] (W_sr (qAb 1 [(38,vP bp0 0)] (qBo 39 i (fun _ h=>qIf (p0:=y12.1) st.f1.f1 r19 r20 r21 h) ?_)));rintro y13 i _ w17 (⟨z6,m15,rfl,rfl,e14,st⟩|⟨y14,rfl,a22,c22,a23,c23,a24,c24,m14,rfl,e13,st,r22,r23,r24⟩)
   ·refine qAd ?_;obtain rfl:=sI i;have st:=st.t;exact qAj (.inl ⟨z6,m15,rfl,rfl,(q.t e11).t e14,st⟩)
   have q:=(q.t e11).t e13;refine WO_e (W_sr (qAb 3 [(40,vP bp0 0),(42,vI (wr (p1+1)))] (qBo 43 i (fun _ h=>ih_source_parser_expr (p0:=y14) st.f1.f1 r22 r23 r24 h) ?_)));rintro y15 i _ w19 (⟨z7,m17,rfl,rfl,e16,st⟩|⟨y16,rfl,a25,c25,a26,c26,a27,c27,m16,rfl,e15,st,r25,r26,r27⟩)
   ·refine qAd ?_;obtain rfl:=sI i;have st:=st.t;exact qAj (.inl ⟨z7,m17,rfl,rfl,q.t e16,st⟩)
   refine qAe 1 [(8,vI y16.2)] (W_sr (qAb 1 [(44,vP bp0 0)] (qAa rfl (qBc 45 181 5 0 (.agg (V4 y1.2)) st.t.t.h (qAb 3 [(46,vI y8.2),(47,vI y12.2),(48,vI y16.2)] (qAa rfl (qAq (d:=49) (t:=22) (e:=3) (len:=3) (parts:= #[(0,(.tmp 46)),(1,(.tmp 47)),(2,(.tmp 48))]) (cInt .i64) (xs:=[y8.2,y12.2,y16.2]) [vI y8.2,vI y12.2,vI y16.2] kr rfl (fun _=>qAp kr _) rfl rfl st ⟨[vI y8.2],_,rfl,rfl,⟨[vI y12.2],_,rfl,rfl,⟨[vI y16.2],_,rfl,rfl,rfl⟩⟩⟩ fun b2 m18 w21 e17 st r28=>(qAb 1 [(50,.agg #[vI 5,vI 0,vI 0,vT eB,vS (aP b2) ([y8.2,y12.2,y16.2]) 3])] (qBo 51 i (fun _ h=>qDe (p0:=y16.1) st.f2.f2 (r25.mono e17) (r26.mono e17) (r27.mono e17) r28 h) ?_)))))))));rintro y17 i _ w22 (⟨z8,m20,rfl,rfl,e19,st⟩|⟨y18,rfl,a28,c28,a29,c29,a30,c30,m19,rfl,e18,st,r29,r30,r31⟩)
   ·refine qAd ?_;obtain rfl:=sI i;have st:=st.t.t;exact qAj (.inl ⟨z8,m20,rfl,rfl,((q.t e15).t e17).t e19,st⟩)
   refine qAb 1 [(4,vI y18.2)] (qAs rfl ?_);have st:=st.f2.t;refine qAg (qBb ?_);cases i;exact X_rt [4] [vI y18.2] (.inr ⟨_,rfl,a28,c28,a29,c29,a30,c30,m19,rfl,((q.t e15).t e17).t e18,st.f2.t.f1.f1,r29,r30,r31⟩)
 ·intro Ku1;refine W_if i ?_ ?_
  ·intro A i;refine qAm (qAa rfl (qBc 13 181 5 0 (.agg (V4 y1.2)) st.h (qBo 14 i (fun _ h=>qBz st h) ?_)));rintro y2 i _ w5 (⟨z1,m4,rfl,rfl,e3,st⟩|⟨y3,rfl,m3,rfl,e2,st⟩)
   ·obtain rfl:=sI i;have i:=j1;refine qAd ?_;obtain rfl:=sI i;have st:=st.t.t.t;exact qAj (.inl ⟨z1,m4,rfl,rfl,q.t e3,st⟩)
   refine qAs rfl ?_;have n1:=jC i;exact xE (Ku1 _ _ ⟨(),m3,n1,rfl,q.t e2,st.f2.f2.f2,r4.mono e2,r5.mono e2,r6.mono e2⟩)
  ·intro A i;refine qAn ?_;have n1:=jC i;exact xE (Ku1 _ _ ⟨(),m1,n1,rfl,q,st.f2.f2.f2,r4,r5,r6⟩)
theorem qAk(N:Nat):∀D:Nat,(∀{m:Mem} {O:List Piece} {w:World} {p0:Tz} {p1:Tw} {p2:Int} {bp0:Nat} {a1:Option Addr} {c1:Nat} {a2:Option Addr} {c2:Nat} {a3:Option Addr} {c3:Nat} {r:T19} (st:St m (kB bp0 (V6 p0 a1 c1 a2 c2 a3 c3) 114::kR a3 p0.2.2.2 c3 117 5::O) w) (r1:RepS C3 m a1 c1 p0.1) (r2:RepS cStr m a2 c2 p0.2.2.1) (r3:RepS C4 m a3 c3 p0.2.2.2) (i:(qAc N D).1 p0 p1 p2=some r),Calls Tryz.prog 294 #[vP bp0 0,.agg (V4 p1),vI p2] w fun e w'=>(∃(z0:Tr),∃m',r= .inl z0∧e= .panicked [{v:= .iface 110 (.agg (V7 z0)),recovered:=false}]∧m.le m'∧St m' (O) w')∨(∃(y0:T18),r= .inr y0∧∃ra1 rc1 ra2 rc2 ra3 rc3 m',e= .returned (vI y0.2)∧m.le m'∧St m' (kB bp0 (V6 y0.1 ra1 rc1 ra2 rc2 ra3 rc3) 114::kR ra3 y0.1.2.2.2 rc3 117 5::O) w'∧P1 m' ra1 rc1 ra2 rc2 ra3 rc3 y0.1))∧(∀{m:Mem} {O:List Piece} {w:World} {p0:Tz} {p1:Int} {bp0:Nat} {a1:Option Addr} {c1:Nat} {a2:Option Addr} {c2:Nat} {a3:Option Addr} {c3:Nat} {r:T1d} (st:St m (kB bp0 (V6 p0 a1 c1 a2 c2 a3 c3) 114::kR a3 p0.2.2.2 c3 117 5::O) w) (r1:RepS C3 m a1 c1 p0.1) (r2:RepS cStr m a2 c2 p0.2.2.1) (r3:RepS C4 m a3 c3 p0.2.2.2) (i:(qAc N D).2.1 p0 p1=some r),Calls Tryz.prog 295 #[vP bp0 0,vI p1] w fun e w'=>(∃(z0:Tr),∃m',r= .inl z0∧e= .panicked [{v:= .iface 110 (.agg (V7 z0)),recovered:=false}]∧m.le m'∧St m' (O) w')∨(∃(y0:T1c),r= .inr y0∧∃ra1 rc1 ra2 rc2 ra3 rc3 ra4 rc4 m',e= .returned (vS ra4 y0.2 rc4)∧m.le m'∧St m' (kR ra4 y0.2 rc4 3 1::kB bp0 (V6 y0.1 ra1 rc1 ra2 rc2 ra3 rc3) 114::kR ra3 y0.1.2.2.2 rc3 117 5::O) w'∧P2 m' ra1 rc1 ra2 rc2 ra3 rc3 ra4 rc4 y0))∧(∀{m:Mem} {O:List Piece} {w:World} {p0:Tz} {p1:Int} {bp0:Nat} {a1:Option Addr} {c1:Nat} {a2:Option Addr} {c2:Nat} {a3:Option Addr} {c3:Nat} {r:T19} (st:St m (kB bp0 (V6 p0 a1 c1 a2 c2 a3 c3) 114::kR a3 p0.2.2.2 c3 117 5::O) w) (r1:RepS C3 m a1 c1 p0.1) (r2:RepS cStr m a2 c2 p0.2.2.1) (r3:RepS C4 m a3 c3 p0.2.2.2) (i:(qAc N D).2.2.1 p0 p1=some r),Calls Tryz.prog 281 #[vP bp0 0,vI p1] w fun e w'=>(∃(z0:Tr),∃m',r= .inl z0∧e= .panicked [{v:= .iface 110 (.agg (V7 z0)),recovered:=false}]∧m.le m'∧St m' (O) w')∨(∃(y0:T18),r= .inr y0∧∃ra1 rc1 ra2 rc2 ra3 rc3 m',e= .returned (vI y0.2)∧m.le m'∧St m' (kB bp0 (V6 y0.1 ra1 rc1 ra2 rc2 ra3 rc3) 114::kR ra3 y0.1.2.2.2 rc3 117 5::O) w'∧P1 m' ra1 rc1 ra2 rc2 ra3 rc3 y0.1))∧(∀{m:Mem} {O:List Piece} {w:World} {p0:Tz} {p1:Int} {p2:Int} {bp0:Nat} {a1:Option Addr} {c1:Nat} {a2:Option Addr} {c2:Nat} {a3:Option Addr} {c3:Nat} {r:T19} (st:St m (kB bp0 (V6 p0 a1 c1 a2 c2 a3 c3) 114::kR a3 p0.2.2.2 c3 117 5::O) w) (r1:RepS C3 m a1 c1 p0.1) (r2:RepS cStr m a2 c2 p0.2.2.1) (r3:RepS C4 m a3 c3 p0.2.2.2) (i:(qAc N D).2.2.2.1 p0 p1 p2=some r),Calls Tryz.prog 253 #[vP bp0 0,vI p1,vI p2] w fun e w'=>(∃(z0:Tr),∃m',r= .inl z0∧e= .panicked [{v:= .iface 110 (.agg (V7 z0)),recovered:=false}]∧m.le m'∧St m' (O) w')∨(∃(y0:T18),r= .inr y0∧∃ra1 rc1 ra2 rc2 ra3 rc3 m',e= .returned (vI y0.2)∧m.le m'∧St m' (kB bp0 (V6 y0.1 ra1 rc1 ra2 rc2 ra3 rc3) 114::kR ra3 y0.1.2.2.2 rc3 117 5::O) w'∧P1 m' ra1 rc1 ra2 rc2 ra3 rc3 y0.1))∧(∀{m:Mem} {O:List Piece} {w:World} {p0:Tz} {p1:Int} {bp0:Nat} {a1:Option Addr} {c1:Nat} {a2:Option Addr} {c2:Nat} {a3:Option Addr} {c3:Nat} {r:T19} (st:St m (kB bp0 (V6 p0 a1 c1 a2 c2 a3 c3) 114::kR a3 p0.2.2.2 c3 117 5::O) w) (r1:RepS C3 m a1 c1 p0.1) (r2:RepS cStr m a2 c2 p0.2.2.1) (r3:RepS C4 m a3 c3 p0.2.2.2) (i:(qAc N D).2.2.2.2 p0 p1=some r),Calls Tryz.prog 193 #[vP bp0 0,vI p1] w fun e w'=>(∃(z0:Tr),∃m',r= .inl z0∧e= .panicked [{v:= .iface 110 (.agg (V7 z0)),recovered:=false}]∧m.le m'∧St m' (O) w')∨(∃(y0:T18),r= .inr y0∧∃ra1 rc1 ra2 rc2 ra3 rc3 m',e= .returned (vI y0.2)∧m.le m'∧St m' (kB bp0 (V6 y0.1 ra1 rc1 ra2 rc2 ra3 rc3) 114::kR ra3 y0.1.2.2.2 rc3 117 5::O) w'∧P1 m' ra1 rc1 ra2 rc2 ra3 rc3 y0.1))
 |0=>⟨fun _ _ _ _ i=>(by cases i),fun _ _ _ _ i=>(by cases i),fun _ _ _ _ i=>(by cases i),fun _ _ _ _ i=>(by cases i),fun _ _ _ _ i=>(by cases i)⟩
 |D+1=>⟨fun st r1 r2 r3 i=>qMb (qAk N D).1 (qAk N D).2.1 (qAk N D).2.2.1 (qAk N D).2.2.2.1 (qAk N D).2.2.2.2 st r1 r2 r3 i,fun st r1 r2 r3 i=>qLg (qAk N D).1 (qAk N D).2.1 (qAk N D).2.2.1 (qAk N D).2.2.2.1 (qAk N D).2.2.2.2 st r1 r2 r3 i,fun st r1 r2 r3 i=>qMq (qAk N D).1 (qAk N D).2.1 (qAk N D).2.2.1 (qAk N D).2.2.2.1 (qAk N D).2.2.2.2 st r1 r2 r3 i,fun st r1 r2 r3 i=>qMx (qAk N D).1 (qAk N D).2.1 (qAk N D).2.2.1 (qAk N D).2.2.2.1 (qAk N D).2.2.2.2 st r1 r2 r3 i,fun st r1 r2 r3 i=>qOc (qAk N D).1 (qAk N D).2.1 (qAk N D).2.2.1 (qAk N D).2.2.2.1 (qAk N D).2.2.2.2 st r1 r2 r3 i⟩
theorem qOv{p0:Tz}{p1:Int}{r:T19}(st:St m (kB bp0 (V6 p0 a1 c1 a2 c2 a3 c3) 114::kR a3 p0.2.2.2 c3 117 5::O) w)(r1:RepS C3 m a1 c1 p0.1)(r2:RepS cStr m a2 c2 p0.2.2.1)(r3:RepS C4 m a3 c3 p0.2.2.2)(i:qKk N p0 p1=some r):Calls Tryz.prog 193 #[vP bp0 0,vI p1] w fun e w'=>(∃(z0:Tr),∃m',r= .inl z0∧e= .panicked [{v:= .iface 110 (.agg (V7 z0)),recovered:=false}]∧m.le m'∧St m' (O) w')∨(∃(y0:T18),r= .inr y0∧∃ra1 rc1 ra2 rc2 ra3 rc3 m',e= .returned (vI y0.2)∧m.le m'∧St m' (kB bp0 (V6 y0.1 ra1 rc1 ra2 rc2 ra3 rc3) 114::kR ra3 y0.1.2.2.2 rc3 117 5::O) w'∧P1 m' ra1 rc1 ra2 rc2 ra3 rc3 y0.1):=
 (qAk N N).2.2.2.2 st r1 r2 r3 i
end
section
open Go Go.Dc
set_option maxHeartbeats 4000000
set_option maxRecDepth 100000
variable {N bp0 c1 c2 c3 c4:Nat} {m:Mem} {O:List Piece} {w:World} {a1 a2 a3 a4:Option Addr}
def qEe(N:Nat)(p1:T1j)(mp3:Option (List Ti))(y1:T10)(o4:T1k)(s1:Int):Option (Int⊕Unit⊕Int):=
 if(decide (s1<(List.length p1:Int)))=true then((idx p1 s1).bind fun x1=>(if(x1.1==((qAl mp3 y1.2.2.1).getD 0))=true then(some (x1.2.1.toList==o4.2.2.2.2.2.1.toList)) else(some false):Td).bind fun o7=>if o7=true then(some (.inr (.inr (s1)))) else(some (.inl (IntKind.wrap .i64 (s1+1))))) else(some (.inr (.inl ())))
def qGn(N:Nat)(p0:Tz)(p1:T1j):Option T1l:=
 (qIi (some []:Option (List Ti)) (⟨#[102,117,110,99]⟩:ByteArray) 1).bind fun mp1=>(qIi mp1 (⟨#[116,101,115,116]⟩:ByteArray) 2).bind fun mp2=>(qIi mp2 (⟨#[103,101,110]⟩:ByteArray) 3).bind fun mp3=>(qBp N p0).bind fun y1=>(if(y1.2.1 !=1)=true then(some true) else(some (((qAl mp3 y1.2.2.1).getD 0)==0)):Td).bind fun o1=>(if o1=true then((qBl N y1.2 9).bind fun y2=>(match y2 with| .inl z1=>some (.inr (.inl z1))| .inr y3=>some (.inl ()))) else(some (.inl ())):Option T1m).bind fun qu1=>(match qu1 with| .inl o2=>(if((List.length p1:Int)==64)=true then((qBl N y1.2 2).bind fun y4=>(match y4 with| .inl z2=>some (.inr (.inl z2))| .inr y5=>some (.inl ()))) else(some (.inl ())):Option T1m).bind fun qu2=>(match qu2 with| .inl o3=>(if(((qAl mp3 y1.2.2.1).getD 0)==3)=true then((qCy N (y1.1.1,IntKind.wrap .i64 (y1.1.2.1+1),y1.1.2.2.1,y1.1.2.2.2)).bind fun y6=>(match y6 with| .inl z3=>some (.inr (.inl z3))| .inr y7=>some (.inl (y7.1.1,y7.1.2.1,y7.1.2.2.1,y7.1.2.2.2,y7.2.1,y7.2.2.1,y7.2.2.2.1,y7.2.2.2.2)))) else((qDa N (y1.1.1,IntKind.wrap .i64 (y1.1.2.1+1),y1.1.2.2.1,y1.1.2.2.2)).bind fun y8=>(match y8 with| .inl z4=>some (.inr (.inl z4))| .inr y9=>some (.inl (y9.1.1,y9.1.2.1,y9.1.2.2.1,y9.1.2.2.2,y9.2.1,y9.2.2.1,y9.2.2.2.1,y9.2.2.2.2)))):Option (T1k⊕T1l)).bind fun qu3=>(match qu3 with| .inl o4=>((qBf (qEe N p1 mp3 y1 o4) N 0).bind fun out1=>(match out1 with| .inl o6=>some (-1)| .inr (z)=>some z):T8).bind fun o5=>(if(decide (o5≥0))=true then((qBl N o4.2.2.2.2 10).bind fun y10=>(match y10 with| .inl z5=>some (.inr (.inl z5))| .inr y11=>some (.inl ()))) else(some (.inl ())):Option T1m).bind fun qu7=>(match qu7 with| .inl o8=>(if(((qAl mp3 y1.2.2.1).getD 0)==1)=true then((qDd N (o4.1,o4.2.1,o4.2.2.1,o4.2.2.2.1)).bind fun y12=>(match y12 with| .inl z6=>some (.inr (.inl z6))| .inr y13=>some (.inl (y13.2,y13.1.1,y13.1.2.1,y13.1.2.2.1,y13.1.2.2.2)))) else(some (.inl (([]:T6),o4.1,o4.2.1,o4.2.2.1,o4.2.2.2.1))):Option (T15⊕T1l)).bind fun qu8=>(match qu8 with| .inl o9=>(qBi N o9.2 (⟨#[61]⟩:ByteArray)).bind fun y14=>(match y14 with| .inl z7=>some (.inl z7)| .inr y15=>(qKk N (y15.1,y15.2.1,o9.1,([]:Ty)) 1).bind fun y16=>(match y16 with| .inl z8=>some (.inl z8)| .inr y17=>(qBi N y17.1 (⟨#[59]⟩:ByteArray)).bind fun y18=>(match y18 with| .inl z9=>some (.inl z9)| .inr y19=>some (.inr (y19,(((qAl mp3 y1.2.2.1).getD 0),o4.2.2.2.2.2.1,o9.1,y17.1.2.2.2))))))| .inr z=>some z)| .inr z=>some z)| .inr z=>some z)| .inr z=>some z)| .inr z=>some z)
theorem qPk{p0:Tz}{p1:T1j}{r:T1l}(st:St m (kB bp0 (V6 p0 a1 c1 a2 c2 a3 c3) 114::kR a3 p0.2.2.2 c3 117 5::O) w)(r1:RepS C3 m a1 c1 p0.1)(r2:RepS cStr m a2 c2 p0.2.2.1)(r3:RepS C4 m a3 c3 p0.2.2.2)(r4:RepS C5 m a4 c4 p1)(i:qGn N p0 p1=some r):Calls Tryz.prog 136 #[vP bp0 0,vS a4 p1 c4] w fun e w'=>(∃(z0:Tr),∃m',r= .inl z0∧e= .panicked [{v:= .iface 110 (.agg (V7 z0)),recovered:=false}]∧m.le m'∧St m' (O) w')∨(∃(y0:Tz×Int×T1i),r= .inr y0∧∃ra1 rc1 ra2 rc2 ra3 rc3 ra4 rc4 ra5 rc5 m',e= .returned (.agg (V8 y0.2 ra4 rc4 ra5 rc5))∧m.le m'∧St m' (kR ra4 y0.2.2.2.1 rc4 9 1::kB bp0 (V6 y0.1 ra1 rc1 ra2 rc2 ra3 rc3) 114::kR ra3 y0.1.2.2.2 rc3 117 5::O) w'∧RepS C3 m' ra1 rc1 y0.1.1∧RepS cStr m' ra2 rc2 y0.1.2.2.1∧RepS C4 m' ra3 rc3 y0.1.2.2.2∧RepS cStr m' ra4 rc4 y0.2.2.2.1∧RepS C4 m' ra5 rc5 y0.2.2.2.2):=by
 unfold qGn at i;have q:=m.le_refl;refine W_cA Tryz.func136 rfl Tryz.ntmps136 ?_;refine W_sr (qAa rfl (qCm 4 62 (.agg #[vI 0,vT eB,v2,v2]) st fun b1 w1 st=>(WO_e (W_sr (qAa rfl (qEd (d:=9) (t:=237) kr rfl st fun b2 w2 st=> ?_))))));have⟨mp1,d1,i⟩:=qAw i;refine qAa rfl (qDv (ek:=(fun s:ByteArray=>Value.string s)) (c:=(cInt .i64)) (agg:=false) (k:=b1g) (yv:=1) (cs:=[vI 1]) (z:=(vI 0)) (v:=(vI 1)) (kt:=9) (et:=3) (t:=237) (x:=(.tmp 9)) (y:=(.const (vT b1g))) (u:=(.const (vI 1))) kr (ev (.map (some b2))) (ev (vT b1g)) (ev (vI 1)) kr (qVn kr) st (MapQ.new (fun s:ByteArray=>Value.string s) (cInt .i64) false _ _) rfl rfl d1 fun es1 ck1 w3 st r5=> ?_);have⟨mp2,d2,i⟩:=qAw i;refine qAa rfl (qDv (ek:=(fun s:ByteArray=>Value.string s)) (c:=(cInt .i64)) (agg:=false) (k:=b1r) (yv:=2) (cs:=[vI 2]) (z:=(vI 0)) (v:=(vI 2)) (kt:=9) (et:=3) (t:=237) (x:=(.tmp 9)) (y:=(.const (vT b1r))) (u:=(.const (vI 2))) kr (ev (.map (some b2))) (ev (vT b1r)) (ev (vI 2)) kr (qVn kr) st r5 rfl rfl d2 fun es2 ck2 w4 st r6=> ?_);have⟨mp3,d3,i⟩:=qAw i
 refine qAa rfl (qDv (ek:=(fun s:ByteArray=>Value.string s)) (c:=(cInt .i64)) (agg:=false) (k:=b1s) (yv:=3) (cs:=[vI 3]) (z:=(vI 0)) (v:=(vI 3)) (kt:=9) (et:=3) (t:=237) (x:=(.tmp 9)) (y:=(.const (vT b1s))) (u:=(.const (vI 3))) kr (ev (.map (some b2))) (ev (vT b1s)) (ev (vI 3)) kr (qVn kr) st r6 rfl rfl d3 fun es3 ck3 w5 st r7=>(qAe 2 [(5,.map (some b2))] (W_sr (qAb 1 [(11,vP bp0 0)] (qAv 12 i (fun _ h=>qBx (p0:=p0) st.f3.f3 r1 r2 r3 h) ?_)))));rintro y1 i _ w6 ⟨a5,c5,a6,c6,a7,c7,m1,rfl,e1,st,r8,r9,r10⟩;have r7:=r7.mono e1;refine qAa rfl (qCm 6 181 (.agg (V5 0 eB 0 0)) st fun b3 w7 st=>(qAa rfl (qBn 181 6 12 (.agg (V4 y1.2)) st fun w8 st=>(WO_e (W_sr (qAb 2 [(13,.map (some b2)),(14,vP b3 1)] (qAa rfl (qBc 15 9 14 1 (vT y1.2.2.1) st.h (qAa rfl (qIk (ek:=(fun s:ByteArray=>Value.string s)) (c:=(cInt .i64)) (agg:=false) (k:=y1.2.2.1) (zx:=0) (zcs:=[vI 0]) (z:=(vI 0)) (kt:=9) (et:=3) (d:=16) (t:=237) (x:=(.tmp 13)) (y:=(.tmp 15)) (ok:=false) kr rfl (ev (.map (some b2))) (ev (vT y1.2.2.1)) kr (qVn kr) st.t.t.t.h r7 rfl rfl ?_))))))))));rintro cs1 rfl;refine qAa rfl (qCm 7 3 (vI 0) st fun b4 w9 st=>(qAa rfl (qBn 3 7 16 (vI ((qAl mp3 y1.2.2.1).getD 0)) st fun w10 st=>(WO_e (qAr (W_sr ?_))))));have⟨o1,i,J⟩:=qAw i
 refine qGu (j:=7) (fun L' w'=>∃m2,L'=[(0,vP bp0 0),(1,vS a4 p1 c4),(4,vP b1 0),(6,vP b3 0),(7,vP b4 0),(23,vB o1)]∧m.le m2∧St m2 (kB b4 #[vI ((qAl mp3 y1.2.2.1).getD 0)] 3::kB b3 (V4 y1.2) 181::kB bp0 (V6 y1.1 a5 c5 a6 c6 a7 c7) 114::kB b1 #[vI 0,vT eB,v1,va] 62::qBj (some b2) es3 ck3::kR a7 y1.1.2.2.2 c7 117 5::O) w'∧RepS C5 m2 a4 c4 p1∧RepS C3 m2 a5 c5 y1.1.1∧RepS cStr m2 a6 c6 y1.1.2.2.1∧RepS C4 m2 a7 c7 y1.1.2.2.2∧MapQ (fun s:ByteArray=>Value.string s) (cInt .i64) false m2 (some b2) es3 ck3 mp3) ?_ ?_
 ·have i:=J;rintro _ w11 ⟨m2,rfl,q,st,r4,r8,r9,r10,r7⟩;refine WO_e ?_;have⟨qu1,i,j1⟩:=qAw i;refine qCg .normal (fun L' w'=>∃(o2:Unit),∃m3,(.inl o2:T1m)=qu1∧L'=[(0,vP bp0 0),(1,vS a4 p1 c4),(4,vP b1 0),(6,vP b3 0),(7,vP b4 0)]∧m.le m3∧St m3 (kB b4 #[vI ((qAl mp3 y1.2.2.1).getD 0)] 3::kB b3 (V4 y1.2) 181::kB bp0 (V6 y1.1 a5 c5 a6 c6 a7 c7) 114::kB b1 #[vI 0,vT eB,v1,va] 62::qBj (some b2) es3 ck3::kR a7 y1.1.2.2.2 c7 117 5::O) w'∧RepS C5 m3 a4 c4 p1∧RepS C3 m3 a5 c5 y1.1.1∧RepS cStr m3 a6 c6 y1.1.2.2.1∧RepS C4 m3 a7 c7 y1.1.2.2.2∧MapQ (fun s:ByteArray=>Value.string s) (cInt .i64) false m3 (some b2) es3 ck3 mp3) ?_ ?_
  ·rintro _ w12 ⟨o2,m3,rfl,rfl,q,st,r4,r8,r9,r10,r7⟩;have i:=j1;refine qAg (qAr (W_sr (qAe 3 [(28,vB ((p1.length:Int)==64))] ?_)));have⟨qu2,i,j2⟩:=qAw i;refine qCg .normal (fun L' w'=>∃(o3:Unit),∃m6,(.inl o3:T1m)=qu2∧L'=[(0,vP bp0 0),(1,vS a4 p1 c4),(4,vP b1 0),(6,vP b3 0),(7,vP b4 0)]∧m.le m6∧St m6 (kB b4 #[vI ((qAl mp3 y1.2.2.1).getD 0)] 3::kB b3 (V4 y1.2) 181::kB bp0 (V6 y1.1 a5 c5 a6 c6 a7 c7) 114::kB b1 #[vI 0,vT eB,v1,va] 62::qBj (some b2) es3 ck3::kR a7 y1.1.2.2.2 c7 117 5::O) w'∧RepS C5 m6 a4 c4 p1∧RepS C3 m6 a5 c5 y1.1.1∧RepS cStr m6 a6 c6 y1.1.2.2.1∧RepS C4 m6 a7 c7 y1.1.2.2.2∧MapQ (fun s:ByteArray=>Value.string s) (cInt .i64) false m6 (some b2) es3 ck3 mp3) ?_ ?_
   ·rintro _ w15 ⟨o3,m6,rfl,rfl,q,st,r4,r8,r9,r10,r7⟩;have i:=j2;refine qAg (W_sr (qAb 3 [(31,vP bp0 0),(33,vP bp0 1)] (qAa rfl (qBc 34 3 33 1 (vI y1.1.2.1) st.t.t.h (qAb 3 [(35,vI (wr (y1.1.2.1+1))),(37,vP bp0 1)] (qAa rfl (qIb 3 37 35 1 (vI (wr (y1.1.2.1+1))) #[vS a5 y1.1.1 c5,vI (wr (y1.1.2.1+1)),vS a6 y1.1.2.2.1 c6,vS a7 y1.1.2.2.2 c7] st.f2 fun w18 st=>(WO_e (qAr (W_sr (qAa rfl (qBc 38 3 7 0 (vI ((qAl mp3 y1.2.2.1).getD 0)) st.t.h (qAe 1 [(39,vB (((qAl mp3 y1.2.2.1).getD 0)==3))] ?_)))))))))))));have⟨qu3,i,j3⟩:=qAw i;refine qCg .normal (fun L' w'=>∃(o4:T1k),∃a8 c8 a9 c9 a10 c10 m9,(.inl o4:T1k⊕T1l)=qu3∧L'=[(0,vP bp0 0),(1,vS a4 p1 c4),(4,vP b1 0),(6,vP b3 0),(7,vP b4 0)]∧m.le m9∧St m9 (kB bp0 #[vS a8 o4.1 c8,vI o4.2.1,vS a9 o4.2.2.1 c9,vS a10 o4.2.2.2.1 c10] 114::kB b4 #[vI ((qAl mp3 y1.2.2.1).getD 0)] 3::kB b3 (V4 o4.2.2.2.2) 181::kB b1 #[vI 0,vT eB,v1,va] 62::qBj (some b2) es3 ck3::kR a10 o4.2.2.2.1 c10 117 5::O) w'∧RepS C5 m9 a4 c4 p1∧RepS C3 m9 a8 c8 o4.1∧RepS cStr m9 a9 c9 o4.2.2.1∧RepS C4 m9 a10 c10 o4.2.2.2.1∧MapQ (fun s:ByteArray=>Value.string s) (cInt .i64) false m9 (some b2) es3 ck3 mp3) ?_ ?_
    ·rintro _ w19 ⟨o4,a8,c8,a9,c9,a10,c10,m9,rfl,rfl,q,st,r4,r11,r12,r13,r7⟩;have i:=j3;refine qAg (qAr (W_sr (qAb 2 [(44,vS a4 p1 c4),(45,.func (.func 191) #[] #[vP b4 0,vP b3 0])] (qAa rfl (qJl 46 190 #[vS a4 p1 c4,.func (.func 191) #[] #[vP b4 0,vP b3 0]] kr rfl (W_cA Tryz.func190 rfl Tryz.ntmps190 (W_sr (qAe 1 [] (W_sr (qAb 2 [(5,vS a4 p1 c4),(6,.func (.func 191) #[] #[vP b4 0,vP b3 0])] ?_))))))))));have⟨o5,i,j4⟩:=qAw i;refine qAa rfl (qJl 7 251 #[vS a4 p1 c4,.func (.func 191) #[] #[vP b4 0,vP b3 0]] kr rfl (zAe (fun v' w'=>∃m14,v'=(vI o5)∧m.le m14∧St m14 (kB bp0 #[vS a8 o4.1 c8,vI o4.2.1,vS a9 o4.2.2.1 c9,vS a10 o4.2.2.2.1 c10] 114::kB b4 #[vI ((qAl mp3 y1.2.2.1).getD 0)] 3::kB b3 (V4 o4.2.2.2.2) 181::kB b1 #[vI 0,vT eB,v1,va] 62::qBj (some b2) es3 ck3::kR a10 o4.2.2.2.1 c10 117 5::O) w'∧RepS C5 m14 a4 c4 p1∧RepS C3 m14 a8 c8 o4.1∧RepS cStr m14 a9 c9 o4.2.2.1∧RepS C4 m14 a10 c10 o4.2.2.2.1∧MapQ (fun s:ByteArray=>Value.string s) (cInt .i64) false m14 (some b2) es3 ck3 mp3) ?_ ?_))
     ·have i:=j4;rintro _ w26 ⟨m14,rfl,q,st,r4,r11,r12,r13,r7⟩;refine⟨_,rfl,?_⟩;refine qAe 2 [(4,vB (decide (o5≥0)))] (qBb (X_rt [4] [vB (decide (o5≥0))] (⟨_,rfl,?_⟩)));refine WO_e ?_;have⟨qu7,i,j7⟩:=qAw i;refine qCg .normal (fun L' w'=>∃(o8:Unit),∃m19,(.inl o8:T1m)=qu7∧L'=[(0,vP bp0 0),(4,vP b1 0),(6,vP b3 0),(7,vP b4 0)]∧m.le m19∧St m19 (kB bp0 #[vS a8 o4.1 c8,vI o4.2.1,vS a9 o4.2.2.1 c9,vS a10 o4.2.2.2.1 c10] 114::kB b4 #[vI ((qAl mp3 y1.2.2.1).getD 0)] 3::kB b3 (V4 o4.2.2.2.2) 181::kB b1 #[vI 0,vT eB,v1,va] 62::qBj (some b2) es3 ck3::kR a10 o4.2.2.2.1 c10 117 5::O) w'∧RepS C3 m19 a8 c8 o4.1∧RepS cStr m19 a9 c9 o4.2.2.1∧RepS C4 m19 a10 c10 o4.2.2.2.1∧MapQ (fun s:ByteArray=>Value.string s) (cInt .i64) false m19 (some b2) es3 ck3 mp3) ?_ ?_
      ·rintro _ w31 ⟨o8,m19,rfl,rfl,q,st,r11,r12,r13,r7⟩;have i:=j7;refine qAg (W_sr (qAa rfl (qBc 49 3 7 0 (vI ((qAl mp3 y1.2.2.1).getD 0)) st.t.h (qCs 1 51 9 50 1 (vT o4.2.2.2.2.2.1) st.t.t.h (qAb 1 [(52,.agg #[vI ((qAl mp3 y1.2.2.1).getD 0),vT o4.2.2.2.2.2.1,v1,va])] (qAa rfl (qCm 8 62 (.agg #[vI 0,vT eB,v2,v2]) st fun b7 w34 st=>(qAa rfl (qBn 62 8 52 (.agg #[vI ((qAl mp3 y1.2.2.1).getD 0),vT o4.2.2.2.2.2.1,v1,va]) st fun w35 st=>(WO_e (qAr (W_sr (qAa rfl (qBc 53 3 7 0 (vI ((qAl mp3 y1.2.2.1).getD 0)) st.t.t.h (qAe 1 [(54,vB (((qAl mp3 y1.2.2.1).getD 0)==1))] ?_)))))))))))))));have⟨qu8,i,j8⟩:=qAw i;refine qCg .normal (fun L' w'=>∃(o9:T15),∃a19 c19 a20 c20 a21 c21 a22 c22 m22,(.inl o9:T15⊕T1l)=qu8∧L'=[(0,vP bp0 0),(4,vP b1 0),(8,vP b7 0)]∧m.le m22∧St m22 (kB b7 #[vI ((qAl mp3 y1.2.2.1).getD 0),vT o4.2.2.2.2.2.1,vS a19 o9.1 c19,va] 62::kB bp0 (V6 o9.2 a20 c20 a21 c21 a22 c22) 114::kB b4 #[vI ((qAl mp3 y1.2.2.1).getD 0)] 3::kB b3 (V4 o4.2.2.2.2) 181::kB b1 #[vI 0,vT eB,v1,va] 62::qBj (some b2) es3 ck3::kR a19 o9.1 c19 9 1::kR a22 o9.2.2.2.2 c22 117 5::O) w'∧RepS cStr m22 a19 c19 o9.1∧RepS C3 m22 a20 c20 o9.2.1∧RepS cStr m22 a21 c21 o9.2.2.2.1∧RepS C4 m22 a22 c22 o9.2.2.2.2∧MapQ (fun s:ByteArray=>Value.string s) (cInt .i64) false m22 (some b2) es3 ck3 mp3) ?_ ?_
       ·rintro _ w36 ⟨o9,a19,c19,a20,c20,a21,c21,a22,c22,m22,rfl,rfl,q,st,r22,r23,r24,r25,r7⟩;have i:=j8;refine qAg (W_sr (qAb 1 [(58,vP bp0 0)] (qBo 59 i (fun _ h=>qBw (p0:=o9.2) st.f7.f2 r23 r24 r25 h) ?_)));rintro y14 i _ w40 (⟨z7,m26,rfl,rfl,e16,st⟩|⟨y15,rfl,a27,c27,a28,c28,a29,c29,m25,rfl,e15,st,r30,r31,r32⟩)
        ·refine qAd ?_;obtain rfl:=sI i;have st:=st.t.t.t.t.t.t;exact qAj (.inl ⟨z7,m26,rfl,rfl,q.t e16,st⟩)
        have q:=q.t e15;refine WO_e (W_sr (qAb 3 [(60,vP bp0 0),(61,vP bp0 0),(62,vP b7 2)] (qAa rfl (qBc 63 43 62 2 (vS a19 o9.1 c19) st.t.t.h (qAb 2 [(65,vP bp0 2)] (qAa rfl (qIb 43 65 63 2 (vS a19 o9.1 c19) #[vS a27 y15.1 c27,vI y15.2.1,vS a19 o9.1 c19,vS a29 y15.2.2.2 c29] st fun w42 st=>(qAb 2 [(67,vP bp0 3)] (qAa rfl (qIb 60 67 ((.const (v2))) 3 (va) #[vS a27 y15.1 c27,vI y15.2.1,vS a19 o9.1 c19,va] st fun w43 st=>(qAs rfl ?_)))))))))));have st:=st.f1.t;refine qAg (W_sr (qAb 1 [(68,vP bp0 0)] ?_));have st:=(st.nilroom 117 5).front1;refine qBo 69 i (fun _ h=>qOv (p0:=(y15.1,y15.2.1,o9.1,([]:Ty))) st r30 (r22.mono e15) (RepS.nil _ _) h) ?_;rintro y16 i _ w44 (⟨z8,m28,rfl,rfl,e18,st⟩|⟨y17,rfl,a30,c30,a31,c31,a32,c32,m27,rfl,e17,st,r33,r34,r35⟩)
        ·refine qAd ?_;obtain rfl:=sI i;have st:=st.t.t.t.t.t.t;exact qAj (.inl ⟨z8,m28,rfl,rfl,q.t e18,st⟩)
        refine WO_e (W_sr (qCs 3 73 60 72 3 (vS a32 y17.1.2.2.2 c32) st.h (qAb 1 [(74,vP b7 3)] (qAa rfl (qIb 60 74 73 3 (vS a32 y17.1.2.2.2 c32) #[vI ((qAl mp3 y1.2.2.1).getD 0),vT o4.2.2.2.2.2.1,vS a19 o9.1 c19,vS a32 y17.1.2.2.2 c32] st.f2 fun w46 st=>(WO_e (W_sr (qAb 1 [(75,vP bp0 0)] (qBo 76 i (fun _ h=>qBw (p0:=y17.1) st.f2.f2 r33 r34 r35 h) ?_)))))))));rintro y18 i _ w47 (⟨z9,m30,rfl,rfl,e20,st⟩|⟨y19,rfl,a33,c33,a34,c34,a35,c35,m29,rfl,e19,st,r36,r37,r38⟩)
        ·refine qAd ?_;obtain rfl:=sI i;have st:=st.t.t.t.t.t.t;exact qAj (.inl ⟨z9,m30,rfl,rfl,(q.t e17).t e20,st⟩)
        refine WO_e (W_sr (qAa rfl (qBc 77 62 8 0 (.agg #[vI ((qAl mp3 y1.2.2.1).getD 0),vT o4.2.2.2.2.2.1,vS a19 o9.1 c19,vS a32 y17.1.2.2.2 c32]) st.t.t.h (qAa rfl (qBn 62 4 77 (.agg #[vI ((qAl mp3 y1.2.2.1).getD 0),vT o4.2.2.2.2.2.1,vS a19 o9.1 c19,vS a32 y17.1.2.2.2 c32]) st.f5 fun w49 st=>(WO_e (qBb ?_)))))));obtain rfl:=sI i;exact qKb [.cell 4 62] [.agg #[vI ((qAl mp3 y1.2.2.1).getD 0),vT o4.2.2.2.2.2.1,vS a19 o9.1 c19,vS a32 y17.1.2.2.2 c32]] rfl (ResAll.cons (ResAt.blk (v:= .agg #[vI ((qAl mp3 y1.2.2.1).getD 0),vT o4.2.2.2.2.2.1,vS a19 o9.1 c19,vS a32 y17.1.2.2.2 c32]) (o:=0) kr st.h kr) ResAll.nil) (.inr ⟨_,rfl,a33,c33,a34,c34,a35,c35,a19,c19,a32,c32,m29,rfl,(q.t e17).t e19,st.t.f2.t.f2.t.f2.t.f2.t.f1.f1.f2,r36,r37,r38,((r22.mono e15).mono e17).mono e19,r35.mono e19⟩)
       ·intro Ku8;refine W_if i ?_ ?_
        ·intro A i;refine qAm (qAb 1 [(55,vP bp0 0)] (qBo 56 i (fun _ h=>qLs (p0:=(o4.1,o4.2.1,o4.2.2.1,o4.2.2.2.1)) st.f6.f2 r11 r12 r13 h) ?_));rintro y12 i _ w37 (⟨z6,m24,rfl,rfl,e14,st⟩|⟨y13,rfl,a23,c23,a24,c24,a25,c25,a26,c26,m23,rfl,e13,st,r26,r27,r28,r29⟩)
         ·obtain rfl:=sI i;have i:=j8;refine qAd ?_;obtain rfl:=sI i;have st:=st.t.t.t.t.t;exact qAj (.inl ⟨z6,m24,rfl,rfl,q.t e14,st⟩)
         refine qAb 1 [(57,vP b7 2)] (qAa rfl (qIb 43 57 56 2 (vS a26 y13.2 c26) #[vI ((qAl mp3 y1.2.2.1).getD 0),vT o4.2.2.2.2.2.1,vS a26 y13.2 c26,va] st.f3 fun w39 st=>(qAs rfl ?_)));have n8:=jC i;exact xE (Ku8 _ _ ⟨(y13.2,y13.1.1,y13.1.2.1,y13.1.2.2.1,y13.1.2.2.2),a26,c26,a23,c23,a24,c24,a25,c25,m23,n8,rfl,q.t e13,st.f3.f2.f7.f7.f7.f7.f7.f7,r29,r26,r27,r28,r7.mono e13⟩)
        ·intro A i;refine qAn ?_;have n8:=jC i;have st:=(st.nilroom 9 1).front7.front1.front7.front7.front7.front7.front7.front7;exact xE (Ku8 _ _ ⟨(([]:T6),o4.1,o4.2.1,o4.2.2.1,o4.2.2.2.1),none,0,a8,c8,a9,c9,a10,c10,m19,n8,rfl,q,st,(RepS.nil _ _),r11,r12,r13,r7⟩)
      ·intro Ku7;refine W_if i ?_ ?_
       ·intro A i;refine qAm (qAa rfl (qBc 47 181 6 0 (.agg (V4 o4.2.2.2.2)) st.t.t.h (qBo 48 i (fun _ h=>qBz st h) ?_)));rintro y10 i _ w32 (⟨z5,m21,rfl,rfl,e12,st⟩|⟨y11,rfl,m20,rfl,e11,st⟩)
        ·obtain rfl:=sI i;have i:=j7;refine qAd ?_;obtain rfl:=sI i;have st:=st.t.t.t.t.t.t;exact qAj (.inl ⟨z5,m21,rfl,rfl,q.t e12,st⟩)
        refine qAs rfl ?_;have n7:=jC i;exact xE (Ku7 _ _ ⟨(),m20,n7,rfl,q.t e11,st.f5.f5.f5.f5.f5.f5,r11.mono e11,r12.mono e11,r13.mono e11,r7.mono e11⟩)
       ·intro A i;refine qAn ?_;have n7:=jC i;exact xE (Ku7 _ _ ⟨(),m14,n7,rfl,q,st.f5.f5.f5.f5.f5.f5,r11,r12,r13,r7⟩)
     ·refine W_cA Tryz.func251 rfl Tryz.ntmps251 ?_;refine W_sr (qAe 1 [] (qAr (W_sr (qAe 3 [(7,vI (p1.length:Int)),(8,vI 0)] (qAy ?_)))));have⟨out1,i,j5⟩:=qAw i;refine qCg (.exit 0) (fun L' w'=>∃(o6:Unit),∃m15,(.inl o6)=out1∧L'=[]∧m.le m15∧St m15 (kB bp0 #[vS a8 o4.1 c8,vI o4.2.1,vS a9 o4.2.2.1 c9,vS a10 o4.2.2.2.1 c10] 114::kB b4 #[vI ((qAl mp3 y1.2.2.1).getD 0)] 3::kB b3 (V4 o4.2.2.2.2) 181::kB b1 #[vI 0,vT eB,v1,va] 62::qBj (some b2) es3 ck3::kR a10 o4.2.2.2.1 c10 117 5::O) w'∧RepS C5 m15 a4 c4 p1∧RepS C3 m15 a8 c8 o4.1∧RepS cStr m15 a9 c9 o4.2.2.1∧RepS C4 m15 a10 c10 o4.2.2.2.1∧MapQ (fun s:ByteArray=>Value.string s) (cInt .i64) false m15 (some b2) es3 ck3 mp3) ?_ ?_
      ·rintro _ w27 ⟨o6,m15,rfl,rfl,q,st,r4,r11,r12,r13,r7⟩;have i:=j5;refine qBk (qAg (W_sr (qAe 1 [(4,vI (-1))] (qBb ?_))));cases i;exact X_rt [4] [vI (-1)] ⟨_,rfl,⟨m15,rfl,q,st.f5.f5.f5.f5.f5.f5,r4,r11,r12,r13,r7⟩⟩
      intro K0_u5;refine qHk _ kr (qEl (fun k1 L' w'=>∃(s1:Int),∃m16,qBf (qEe N p1 mp3 y1 o4) k1 s1=some out1∧L'=[(0,vS a4 p1 c4),(1,.func (.func 191) #[] #[vP b4 0,vP b3 0]),(7,vI (p1.length:Int)),(8,vI s1)]∧m.le m16∧St m16 (kB bp0 #[vS a8 o4.1 c8,vI o4.2.1,vS a9 o4.2.2.1 c9,vS a10 o4.2.2.2.1 c10] 114::kB b4 #[vI ((qAl mp3 y1.2.2.1).getD 0)] 3::kB b3 (V4 o4.2.2.2.2) 181::kB b1 #[vI 0,vT eB,v1,va] 62::qBj (some b2) es3 ck3::kR a10 o4.2.2.2.1 c10 117 5::O) w'∧RepS C5 m16 a4 c4 p1∧RepS C3 m16 a8 c8 o4.1∧RepS cStr m16 a9 c9 o4.2.2.1∧RepS C4 m16 a10 c10 o4.2.2.2.1∧MapQ (fun s:ByteArray=>Value.string s) (cInt .i64) false m16 (some b2) es3 ck3 mp3) N ⟨0,m9,i,rfl,q,st.f5.f5.f5.f5.f5.f5,r4,r11,r12,r13,r7⟩ ?_);rintro k1 _ w28 ⟨s1,m16,hL,rfl,q,st,r4,r11,r12,r13,r7⟩;rcases k1 with _|k1
      ·exact qBr hL
      ·obtain⟨qu5,i,hSu5,hBu5⟩:=qBs hL;clear hL;unfold qEe at i;refine W_sr (qAe 1 [(9,vB (decide (s1<(p1.length:Int))))] (qAr (W_if i ?_ ?_)))
       ·intro A i;refine qAn (qAg (qAr (qAy (W_sr (qAe 2 [(5,vI s1)] (W_sr (qAb 3 [(11,.func (.func 191) #[] #[vP b4 0,vP b3 0]),(12,vS a4 p1 c4),(13,vI s1)] (qAa rfl (qGx 14 50 62 12 13 r4 i ?_)))))))));rintro x1 i b5 f1 cs2 ⟨_,_,rfl,rfl,⟨_,_,rfl,rfl,⟨_,_,rfl,⟨a17,c17,rfl,r20⟩,⟨a18,c18,rfl,r21⟩⟩⟩⟩ hq1;refine qHg 15 62 14 f1 (.agg (V8 x1 a17 c17 a18 c18)) st hq1 (qAa rfl (qJl 16 191 #[.agg (V8 x1 a17 c17 a18 c18),vP b4 0,vP b3 0] kr rfl (W_cA Tryz.func191 rfl Tryz.ntmps191 (W_sr (qAa rfl (qJw 3 62 0 (.agg (V8 x1 a17 c17 a18 c18)) st fun b6 m17 w29 e10 st hb1=> ?_))))));have r4:=r4.mono e10;have r7:=r7.mono e10;refine qAe 1 [] (W_sr ?_);have⟨o7,i,J⟩:=qAw i;refine qGu (j:=12) (fun L' w'=>∃m18,L'=[(4,vB o7)]∧m.le m18∧St m18 (kB bp0 #[vS a8 o4.1 c8,vI o4.2.1,vS a9 o4.2.2.1 c9,vS a10 o4.2.2.2.1 c10] 114::kB b4 #[vI ((qAl mp3 y1.2.2.1).getD 0)] 3::kB b3 (V4 o4.2.2.2.2) 181::kB b1 #[vI 0,vT eB,v1,va] 62::qBj (some b2) es3 ck3::kR a10 o4.2.2.2.1 c10 117 5::O) w'∧RepS C5 m18 a4 c4 p1∧MRow m18 b5 f1 [vI x1.1,vT x1.2.1,vS a17 x1.2.2.1 c17,vS a18 x1.2.2.2 c18]∧RepS cStr m18 a17 c17 x1.2.2.1∧RepS C4 m18 a18 c18 x1.2.2.2∧RepS C3 m18 a8 c8 o4.1∧RepS cStr m18 a9 c9 o4.2.2.1∧RepS C4 m18 a10 c10 o4.2.2.2.1∧MapQ (fun s:ByteArray=>Value.string s) (cInt .i64) false m18 (some b2) es3 ck3 mp3) ?_ ?_
        ·have i:=J;rintro _ w30 ⟨m18,rfl,q,st,r4,hq1,r20,r21,r11,r12,r13,r7⟩;refine WO_e (qBb (X_rt [4] [vB o7] (⟨_,rfl,?_⟩)));refine WO_e (W_if i ?_ ?_)
         ·intro A i;refine W_sr (qAe 2 [(4,vI s1)] (qBb (qAh (qAf ?_))));obtain rfl:=sI i;have ho:=hBu5 _ rfl;subst ho;have i:=j5;refine qAf (qAh (qAf ?_));obtain rfl:=sI i;exact X_rt [4] [vI s1] ⟨_,rfl,⟨m18,rfl,q,st.f5.f5.f5.f5.f5.f5,r4,r11,r12,r13,r7⟩⟩
         ·intro A i;refine qAn (qBm (qAg (qAm (qAb 2 [(8,vI (wr (s1+1)))] (qAs rfl ?_)))));obtain rfl:=sI i;have hL:=hSu5 _ rfl;exact xE (qCr k1 (jE _) ⟨wr (s1+1),m18,hL,rfl,q,st.f5.f5.f5.f5.f5.f5,r4,r11,r12,r13,r7⟩)
        ·intro K;refine qAb 1 [(5,vP b6 0)] (qHg 6 3 5 0 (vI x1.1) st hb1 (qAa rfl (qBc 7 3 1 0 (vI ((qAl mp3 y1.2.2.1).getD 0)) st.t.h (qAb 2 [(9,vB (x1.1==((qAl mp3 y1.2.2.1).getD 0)))] (qGb 9 i ?_ ?_)))))
         ·intro A i;refine qAb 1 [(10,vP b6 1)] (qAa rfl (qHm (d:=11) (t:=9) (x:=(.tmp 10)) (vT x1.2.1) kr rfl (ev (vP b6 1)) st (hb1.drop 1) kr (qCs 1 13 9 12 1 (vT o4.2.2.2.2.2.1) st.t.t.h (qAb 3 [(4,vB (x1.2.1.toList==o4.2.2.2.2.2.1.toList))] ?_))));cases i;exact qBv _ kr (K _ _ ⟨m17,rfl,q.t e10,st.f5.f5.f5.f5.f5.f5,r4,hq1.mono e10,r20.mono e10,r21.mono e10,r11.mono e10,r12.mono e10,r13.mono e10,r7⟩)
         ·intro A i;refine qAb 7 [(4,vB false)] ?_;cases i;exact qBv _ kr (K _ _ ⟨m17,rfl,q.t e10,st.f5.f5.f5.f5.f5.f5,r4,hq1.mono e10,r20.mono e10,r21.mono e10,r11.mono e10,r12.mono e10,r13.mono e10,r7⟩)
       ·intro A i;refine qDy (qAi ?_);cases i;have ho:=hBu5 _ rfl;have st:=st.f5.f5.f5.f5.f5.f5;refine qAi ?_;exact xE (K0_u5 _ _ ⟨(),m16,ho,rfl,q,st,r4,r11,r12,r13,r7⟩)
    ·intro Ku3;refine W_if i ?_ ?_
     ·intro A i;refine qAm (qAb 1 [(40,vP bp0 0)] (qBo 41 i (fun _ h=>qGo (p0:=(y1.1.1,wr (y1.1.2.1+1),y1.1.2.2.1,y1.1.2.2.2)) st.f5.f1 r8 r9 r10 h) ?_));rintro y6 i _ w20 (⟨z3,m11,rfl,rfl,e7,st⟩|⟨y7,rfl,a11,c11,a12,c12,a13,c13,m10,rfl,e6,st,r14,r15,r16⟩)
      ·obtain rfl:=sI i;have i:=j3;refine qAd ?_;obtain rfl:=sI i;have st:=st.t.t.t.t;exact qAj (.inl ⟨z3,m11,rfl,rfl,q.t e7,st⟩)
      refine qAa rfl (qBn 181 6 41 (.agg (V4 y7.2)) st.f3 fun w22 st=>(qAs rfl ?_));have n3:=jC i;exact xE (Ku3 _ _ ⟨(y7.1.1,y7.1.2.1,y7.1.2.2.1,y7.1.2.2.2,y7.2.1,y7.2.2.1,y7.2.2.2.1,y7.2.2.2.2),a11,c11,a12,c12,a13,c13,m10,n3,rfl,q.t e6,st.f2.f5.f5.f3.f5.f5,r4.mono e6,r14,r15,r16,r7.mono e6⟩)
     ·intro A i;refine qAm (qAb 1 [(42,vP bp0 0)] (qBo 43 i (fun _ h=>qGl (p0:=(y1.1.1,wr (y1.1.2.1+1),y1.1.2.2.1,y1.1.2.2.2)) st.f5.f1 r8 r9 r10 h) ?_));rintro y8 i _ w23 (⟨z4,m13,rfl,rfl,e9,st⟩|⟨y9,rfl,a14,c14,a15,c15,a16,c16,m12,rfl,e8,st,r17,r18,r19⟩)
      ·obtain rfl:=sI i;have i:=j3;refine qAd ?_;obtain rfl:=sI i;have st:=st.t.t.t.t;exact qAj (.inl ⟨z4,m13,rfl,rfl,q.t e9,st⟩)
      refine qAa rfl (qBn 181 6 43 (.agg (V4 y9.2)) st.f3 fun w25 st=>(qAs rfl ?_));have n3:=jC i;exact xE (Ku3 _ _ ⟨(y9.1.1,y9.1.2.1,y9.1.2.2.1,y9.1.2.2.2,y9.2.1,y9.2.2.1,y9.2.2.2.1,y9.2.2.2.2),a14,c14,a15,c15,a16,c16,m12,n3,rfl,q.t e8,st.f2.f5.f5.f3.f5.f5,r4.mono e8,r17,r18,r19,r7.mono e8⟩)
   ·intro Ku2;refine W_if i ?_ ?_
    ·intro A i;refine qAm (qAa rfl (qBc 29 181 6 0 (.agg (V4 y1.2)) st.t.h (qBo 30 i (fun _ h=>qBz st h) ?_)));rintro y4 i _ w16 (⟨z2,m8,rfl,rfl,e5,st⟩|⟨y5,rfl,m7,rfl,e4,st⟩)
     ·obtain rfl:=sI i;have i:=j2;refine qAd ?_;obtain rfl:=sI i;have st:=st.t.t.t.t.t.t;exact qAj (.inl ⟨z2,m8,rfl,rfl,q.t e5,st⟩)
     refine qAs rfl ?_;have n2:=jC i;exact xE (Ku2 _ _ ⟨(),m7,n2,rfl,q.t e4,st.f5.f5.f5.f5.f5.f5,r4.mono e4,r8.mono e4,r9.mono e4,r10.mono e4,r7.mono e4⟩)
    ·intro A i;refine qAn ?_;have n2:=jC i;exact xE (Ku2 _ _ ⟨(),m3,n2,rfl,q,st.f5.f5.f5.f5.f5.f5,r4,r8,r9,r10,r7⟩)
  ·intro Ku1;refine W_if i ?_ ?_
   ·intro A i;refine qAm (qAa rfl (qBc 24 181 6 0 (.agg (V4 y1.2)) st.t.h (qBo 25 i (fun _ h=>qBz st h) ?_)));rintro y2 i _ w13 (⟨z1,m5,rfl,rfl,e3,st⟩|⟨y3,rfl,m4,rfl,e2,st⟩)
    ·obtain rfl:=sI i;have i:=j1;refine qAd ?_;obtain rfl:=sI i;have st:=st.t.t.t.t.t.t;exact qAj (.inl ⟨z1,m5,rfl,rfl,q.t e3,st⟩)
    refine qAs rfl ?_;have n1:=jC i;exact xE (Ku1 _ _ ⟨(),m4,n1,rfl,q.t e2,st.f5.f5.f5.f5.f5.f5,r4.mono e2,r8.mono e2,r9.mono e2,r10.mono e2,r7.mono e2⟩)
   ·intro A i;refine qAn ?_;have n1:=jC i;exact xE (Ku1 _ _ ⟨(),m2,n1,rfl,q,st.f5.f5.f5.f5.f5.f5,r4,r8,r9,r10,r7⟩)
 ·intro K;refine qCs 1 18 3 17 0 (vI y1.2.1) st.t.h (qAb 2 [(20,vB (y1.2.1 !=1))] (qGb 20 i ?_ ?_))
  ·intro A i;refine qAb 3 [(23,vB true)] ?_;cases i;exact qBv _ kr (K _ _ ⟨m1,rfl,q.t e1,st.f3.f4.f5.f5.f5.f5,r4.mono e1,r8,r9,r10,r7⟩)
  ·intro A i;refine qAa rfl (qBc 21 3 7 0 (vI ((qAl mp3 y1.2.2.1).getD 0)) st.h (qAb 2 [(23,vB (((qAl mp3 y1.2.2.1).getD 0)==0))] ?_));cases i;exact qBv _ kr (K _ _ ⟨m1,rfl,q.t e1,st.f3.f4.f5.f5.f5.f5,r4.mono e1,r8,r9,r10,r7⟩)
def qFs(N:Nat)(y4:T10)(s1:T1n):Option T1q:=
 (qDl N (s1.1,s1.2.1,s1.2.2.1,s1.2.2.2.1) 1 (⟨#[105,109,112,111,114,116]⟩:ByteArray)).bind fun y7=>if y7.2=true then((if((List.length s1.2.2.2.2:Int)==8)=true then((qBp N y7.1).bind fun y8=>(qBl N y8.2 2).bind fun y9=>(match y9 with| .inl z4=>some (.inr (.inr (.inr (.inl z4))))| .inr y10=>some (.inl y8.1))) else(some (.inl y7.1)):Option (Tz⊕T1q)).bind fun qu2=>(match qu2 with| .inl o2=>(qDa N (o2.1,IntKind.wrap .i64 (o2.2.1+1),o2.2.2.1,o2.2.2.2)).bind fun y11=>(match y11 with| .inl z5=>some (.inr (.inr (.inl z5)))| .inr y12=>(if(y12.2.2.1.toList==y4.2.2.1.toList)=true then(some true) else((qCp N s1.2.2.2.2 y12.2.2.1).bind fun y13=>some y13):Td).bind fun o3=>(if o3=true then((qBl N y12.2 10).bind fun y14=>(match y14 with| .inl z6=>some (.inr (.inr (.inr (.inl z6))))| .inr y15=>some (.inl ()))) else(some (.inl ())):Option (Unit⊕T1q)).bind fun qu3=>(match qu3 with| .inl o4=>(qEo 16 s1.2.2.2.2 ([y12.2.2.1])).bind fun l1=>(qBi N y12.1 (⟨#[59]⟩:ByteArray)).bind fun y16=>(match y16 with| .inl z7=>some (.inr (.inr (.inl z7)))| .inr y17=>some (.inl (y17.1,y17.2.1,y17.2.2.1,y17.2.2.2,l1)))| .inr z=>some z))| .inr z=>some z)) else(some (.inr (.inl (y7.1.1,y7.1.2.1,y7.1.2.2.1,y7.1.2.2.2,s1.2.2.2.2))))
def qCu(N:Nat)(s2:T1r):Option (T1r⊕T1r⊕T1p):=
 (qBp N (s2.1,s2.2.1,s2.2.2.1,s2.2.2.2.1)).bind fun y18=>if(y18.2.1 !=5)=true then((qGn N y18.1 s2.2.2.2.2).bind fun y19=>(match y19 with| .inl z8=>some (.inr (.inr (.inl z8)))| .inr y20=>(qEo 72 s2.2.2.2.2 ([y20.2])).bind fun l2=>some (.inl (y20.1.1,y20.1.2.1,y20.1.2.2.1,y20.1.2.2.2,l2)))) else(some (.inr (.inl (y18.1.1,y18.1.2.1,y18.1.2.2.1,y18.1.2.2.2,s2.2.2.2.2))))
def qFu(N:Nat)(p0:Tz):Option T1p:=
 (qEs N p0 (⟨#[112,97,99,107,97,103,101]⟩:ByteArray)).bind fun y1=>(match y1 with| .inl z1=>some (.inl z1)| .inr y2=>(qDa N y2).bind fun y3=>(match y3 with| .inl z2=>some (.inl z2)| .inr y4=>(qBi N y4.1 (⟨#[59]⟩:ByteArray)).bind fun y5=>(match y5 with| .inl z3=>some (.inl z3)| .inr y6=>(qBf (qFs N y4) N (y6.1,y6.2.1,y6.2.2.1,y6.2.2.2,([]:T6))).bind fun out1=>(match out1 with| .inl o1=>(qBf (qCu N) N (o1.1,o1.2.1,o1.2.2.1,o1.2.2.2.1,([]:T1j))).bind fun out2=>(match out2 with| .inl o5=>some (.inr ((o5.1,o5.2.1,o5.2.2.1,o5.2.2.2.1),(y4.2.2.1,o1.2.2.2.2,o5.2.2.2.2)))| .inr (z)=>some z)| .inr (z)=>some z))))
theorem qPl{p0:Tz}{r:T1p}(st:St m (kB bp0 (V6 p0 a1 c1 a2 c2 a3 c3) 114::kR a3 p0.2.2.2 c3 117 5::O) w)(r1:RepS C3 m a1 c1 p0.1)(r2:RepS cStr m a2 c2 p0.2.2.1)(r3:RepS C4 m a3 c3 p0.2.2.2)(i:qFu N p0=some r):Calls Tryz.prog 70 #[vP bp0 0] w fun e w'=>(∃(z0:Tr),∃m',r= .inl z0∧e= .panicked [{v:= .iface 110 (.agg (V7 z0)),recovered:=false}]∧m.le m'∧St m' (O) w')∨(∃(y0:Tz×T1o),r= .inr y0∧∃ra1 rc1 ra2 rc2 ra3 rc3 ra4 rc4 ra5 rc5 m',e= .returned (.agg (V9 y0.2 ra4 rc4 ra5 rc5))∧m.le m'∧St m' (kR ra4 y0.2.2.1 rc4 9 1::kR ra5 y0.2.2.2 rc5 62 4::kB bp0 (V6 y0.1 ra1 rc1 ra2 rc2 ra3 rc3) 114::kR ra3 y0.1.2.2.2 rc3 117 5::O) w'∧RepS C3 m' ra1 rc1 y0.1.1∧RepS cStr m' ra2 rc2 y0.1.2.2.1∧RepS C4 m' ra3 rc3 y0.1.2.2.2∧RepS cStr m' ra4 rc4 y0.2.2.1∧RepS C5 m' ra5 rc5 y0.2.2.2):=by
 unfold qFu at i;have q:=m.le_refl;refine W_cA Tryz.func70 rfl Tryz.ntmps70 ?_;refine W_sr (qAa rfl (qCm 2 52 (.agg #[vT eB,v2,v2]) st fun b1 w1 st=>(WO_e (W_sr (qAb 1 [(5,vP bp0 0)] (qBo 6 i (fun _ h=>qIf (p0:=p0) st.f2.f2 r1 r2 r3 h) ?_))))));rintro y1 i _ w2 (⟨z1,m2,rfl,rfl,e2,st⟩|⟨y2,rfl,a4,c4,a5,c5,a6,c6,m1,rfl,e1,st,r4,r5,r6⟩)
 ·refine qAd ?_;obtain rfl:=sI i;have st:=st.t;exact qAj (.inl ⟨z1,m2,rfl,rfl,q.t e2,st⟩)
 have q:=q.t e1;refine WO_e (W_sr (qAb 1 [(7,vP bp0 0)] (qBo 8 i (fun _ h=>qGl (p0:=y2) st.f1.f1 r4 r5 r6 h) ?_)));rintro y3 i _ w4 (⟨z2,m4,rfl,rfl,e4,st⟩|⟨y4,rfl,a7,c7,a8,c8,a9,c9,m3,rfl,e3,st,r7,r8,r9⟩)
 ·refine qAd ?_;obtain rfl:=sI i;have st:=st.t;exact qAj (.inl ⟨z2,m4,rfl,rfl,q.t e4,st⟩)
 refine qAb 2 [(10,.agg #[vT y4.2.2.1,v1,vb])] (qAa rfl (qCm 3 52 (.agg #[vT eB,v2,v2]) st fun b2 w6 st=>(qAa rfl (qBn 52 3 10 (.agg #[vT y4.2.2.1,v1,vb]) st fun w7 st=>(WO_e (W_sr (qAb 1 [(11,vP bp0 0)] (qBo 12 i (fun _ h=>qBw (p0:=y4.1) st.f2.f2 r7 r8 r9 h) ?_))))))));rintro y5 i _ w8 (⟨z3,m6,rfl,rfl,e6,st⟩|⟨y6,rfl,a10,c10,a11,c11,a12,c12,m5,rfl,e5,st,r10,r11,r12⟩)
 ·refine qAd ?_;obtain rfl:=sI i;have st:=st.t.t;exact qAj (.inl ⟨z3,m6,rfl,rfl,(q.t e3).t e6,st⟩)
 refine WO_e (qAr (qAy ?_));have⟨out1,i,j1⟩:=qAw i;refine qCg (.exit 0) (fun L' w'=>∃(o1:T1n),∃a13 c13 a14 c14 a15 c15 a16 c16 m7,(.inl o1)=out1∧L'=[(0,vP bp0 0),(2,vP b1 0),(3,vP b2 0)]∧m.le m7∧St m7 (kB bp0 #[vS a13 o1.1 c13,vI o1.2.1,vS a14 o1.2.2.1 c14,vS a15 o1.2.2.2.1 c15] 114::kB b2 #[vT y4.2.2.1,vS a16 o1.2.2.2.2 c16,vb] 52::kB b1 #[vT eB,v1,vb] 52::kR a15 o1.2.2.2.1 c15 117 5::kR a16 o1.2.2.2.2 c16 9 1::O) w'∧RepS C3 m7 a13 c13 o1.1∧RepS cStr m7 a14 c14 o1.2.2.1∧RepS C4 m7 a15 c15 o1.2.2.2.1∧RepS cStr m7 a16 c16 o1.2.2.2.2) ?_ ?_
 ·rintro _ w10 ⟨o1,a13,c13,a14,c14,a15,c15,a16,c16,m7,rfl,rfl,q,st,r13,r14,r15,r16⟩;have i:=j1;refine qBk (qAg (qAr (qAy ?_)));have⟨out2,i,j5⟩:=qAw i;refine qCg (.exit 2) (fun L' w'=>∃(o5:T1r),∃a37 c37 a38 c38 a39 c39 a40 c40 m25,(.inl o5)=out2∧L'=[(2,vP b1 0),(3,vP b2 0)]∧m.le m25∧St m25 (kB bp0 #[vS a37 o5.1 c37,vI o5.2.1,vS a38 o5.2.2.1 c38,vS a39 o5.2.2.2.1 c39] 114::kB b2 #[vT y4.2.2.1,vS a16 o1.2.2.2.2 c16,vS a40 o5.2.2.2.2 c40] 52::kB b1 #[vT eB,v1,vb] 52::kR a16 o1.2.2.2.2 c16 9 1::kR a39 o5.2.2.2.1 c39 117 5::kR a40 o5.2.2.2.2 c40 62 4::O) w'∧RepS C3 m25 a37 c37 o5.1∧RepS cStr m25 a38 c38 o5.2.2.1∧RepS C4 m25 a39 c39 o5.2.2.2.1∧RepS cStr m25 a16 c16 o1.2.2.2.2∧RepS C5 m25 a40 c40 o5.2.2.2.2) ?_ ?_
  ·rintro _ w32 ⟨o5,a37,c37,a38,c38,a39,c39,a40,c40,m25,rfl,rfl,q,st,r38,r39,r40,r16,r41⟩;have i:=j5;refine qBk (qAg (W_sr (qAa rfl (qBc 67 52 3 0 (.agg #[vT y4.2.2.1,vS a16 o1.2.2.2.2 c16,vS a40 o5.2.2.2.2 c40]) st.t.h (qAa rfl (qBn 52 2 67 (.agg #[vT y4.2.2.1,vS a16 o1.2.2.2.2 c16,vS a40 o5.2.2.2.2 c40]) st.f2 fun w41 st=>(WO_e (qBb ?_))))))));cases i;exact qKb [.cell 2 52] [.agg #[vT y4.2.2.1,vS a16 o1.2.2.2.2 c16,vS a40 o5.2.2.2.2 c40]] rfl (ResAll.cons (ResAt.blk (v:= .agg #[vT y4.2.2.1,vS a16 o1.2.2.2.2 c16,vS a40 o5.2.2.2.2 c40]) (o:=0) kr st.h kr) ResAll.nil) (.inr ⟨_,rfl,a37,c37,a38,c38,a39,c39,a16,c16,a40,c40,m25,rfl,q,st.t.f1.t.f2.f1.f3.f3,r38,r39,r40,r16,r41⟩)
  intro K2_u5;have st:=(st.nilroom 62 4).front4.front5.front5.front5.front5;refine qHk _ kr (qEl (fun k2 L' w'=>∃(s2:T1r),∃a41 c41 a42 c42 a43 c43 a44 c44 m26,qBf (qCu N) k2 s2=some out2∧L'=[(0,vP bp0 0),(2,vP b1 0),(3,vP b2 0)]∧m.le m26∧St m26 (kB bp0 #[vS a41 s2.1 c41,vI s2.2.1,vS a42 s2.2.2.1 c42,vS a43 s2.2.2.2.1 c43] 114::kB b2 #[vT y4.2.2.1,vS a16 o1.2.2.2.2 c16,vS a44 s2.2.2.2.2 c44] 52::kB b1 #[vT eB,v1,vb] 52::kR a16 o1.2.2.2.2 c16 9 1::kR a43 s2.2.2.2.1 c43 117 5::kR a44 s2.2.2.2.2 c44 62 4::O) w'∧RepS C3 m26 a41 c41 s2.1∧RepS cStr m26 a42 c42 s2.2.2.1∧RepS C4 m26 a43 c43 s2.2.2.2.1∧RepS cStr m26 a16 c16 o1.2.2.2.2∧RepS C5 m26 a44 c44 s2.2.2.2.2) N ⟨(o1.1,o1.2.1,o1.2.2.1,o1.2.2.2.1,([]:T1j)),a13,c13,a14,c14,a15,c15,none,0,m7,i,rfl,q,st,r13,r14,r15,r16,(RepS.nil _ _)⟩ ?_);rintro k2 _ w33 ⟨s2,a41,c41,a42,c42,a43,c43,a44,c44,m26,hL,rfl,q,st,r42,r43,r44,r16,r45⟩;rcases k2 with _|k2
  ·exact qBr hL
  ·obtain⟨qu5,i,hSu5,hBu5⟩:=qBs hL;clear hL;unfold qCu at i;refine qAr (W_sr (qAb 1 [(54,vP bp0 0)] (qAv 55 i (fun _ h=>qBx (p0:=(s2.1,s2.2.1,s2.2.2.1,s2.2.2.2.1)) st.f4.f1 r42 r43 r44 h) ?_)));rintro y18 i _ w34 ⟨a45,c45,a46,c46,a47,c47,m27,rfl,e20,st,r46,r47,r48⟩;have q:=q.t e20;have r45:=r45.mono e20;refine qAe 2 [(57,vB (y18.2.1 !=5))] (W_if i ?_ ?_)
   ·intro A i;refine qAn (qAg (qAy (qFl [(10,fun w'=>Inv m27 w'∧True),(9,fun w'=>Inv m27 w'∧Piece.holds m27 w' (kB b2 #[vT y4.2.2.1,vS a16 o1.2.2.2.2 c16,vS a44 s2.2.2.2.2 c44] 52)∧True)] kr st fun w35 _ st=> ?_)));have hmS1:=m27.le_refl;refine⟨⟨iA st hmS1,⟨.inr ⟨Inv.anti st.inv hmS1,Piece.holds_anti st.t.t.h hmS1,trivial⟩,trivial⟩⟩,?_⟩;refine qAu 0 58 (vP b2 2) (.head _) (qFa 50 58 1 59 2 (vS a44 s2.2.2.2.2 c44) (.tail _ (.head _)) (fun _ h=>h.2.1) (qAu 2 60 (vP bp0 0) (.head _) (qAu 3 61 (vP b2 2) (.head _) (qFa 50 61 4 62 2 (vS a44 s2.2.2.2.2 c44) (.tail _ (.head _)) (fun _ h=>h.2.1) ?_))));have st:=st.f1.f1;have⟨y19,d13,i⟩:=qAw i;refine qBh 5 kr (qRz 63 136 #[vP bp0 0,vS a44 s2.2.2.2.2 c44] kr rfl ((qPk (p0:=y18.1) st r46 r47 r48 r45 d13).mono ?_));rintro _ w36 (⟨z8,m29,rfl,rfl,e22,st⟩|⟨y20,rfl,a48,c48,a49,c49,a50,c50,a51,c51,a52,c52,m28,rfl,e21,st,r49,r50,r51,r52,r53⟩)
    ·refine .inr ⟨_,rfl,?_⟩;have hmS1:=Mem.le_trans hmS1 e22;refine qAx ?_;obtain rfl:=sI i;have ho:=hBu5 _ rfl;subst ho;have i:=j5;refine qAd ?_;refine qAx ?_;refine qAd ?_;obtain rfl:=sI i;have st:=st.t.t.t.t;exact qAj (.inl ⟨z8,m29,rfl,rfl,q.t e22,st⟩)
    refine .inl ⟨_,rfl,?_⟩;have hmS1:=Mem.le_trans hmS1 e21;refine⟨⟨iA st hmS1,⟨.inr ⟨Inv.anti st.inv hmS1,Piece.holds_anti st.t.t.t.h hmS1,trivial⟩,trivial⟩⟩,?_⟩;refine qBh 6 kr (qAq (d:=64) (t:=50) (e:=62) (len:=1) (parts:= #[(0,(.tmp 63))]) C5 (xs:=[y20.2]) [vI y20.2.1,vT y20.2.2.1,vS a51 y20.2.2.2.1 c51,vS a52 y20.2.2.2.2 c52] kr rfl (fun _=>qAp kr _) rfl rfl st ⟨[vI y20.2.1,vT y20.2.2.1,vS a51 y20.2.2.2.1 c51,vS a52 y20.2.2.2.2 c52],_,rfl,⟨_,_,rfl,rfl,⟨_,_,rfl,rfl,⟨_,_,rfl,(qYv r52),(qYv r53)⟩⟩⟩,rfl⟩ fun b5 m30 w38 e23 st r54=> ?_);have hmS1:=Mem.le_trans hmS1 e23;refine⟨⟨iA st hmS1,⟨.inr ⟨Inv.anti st.inv hmS1,Piece.holds_anti st.t.t.t.t.h hmS1,trivial⟩,trivial⟩⟩,?_⟩;refine qBh 7 kr (qIv 65 50 50 62 72 59 64 st.f7 (.inl kr) ((r45.mono e21).mono e23) r54.src i fun l2 i a53 c53 m31 w39 e24 st r55=> ?_);have hmS1:=Mem.le_trans hmS1 e24;refine⟨⟨iA st hmS1,⟨.inr ⟨Inv.anti st.inv hmS1,Piece.holds_anti st.t.t.t.t.t.h hmS1,trivial⟩,trivial⟩⟩,?_⟩;refine qAu 8 66 (vP b2 2) (.head _) (qBh 9 kr (qIb 50 66 65 2 (vS a53 l2 c53) #[vT y4.2.2.1,vS a16 o1.2.2.2.2 c16,vS a53 l2 c53] st.f5 fun w40 st=>(⟨⟨iA st hmS1,⟨.inl rfl,trivial⟩⟩,?_⟩)));refine qCd kr ?_;have st:=st.f2.t.f2.t;refine qBm ?_;obtain rfl:=sI i;have hL:=hSu5 _ rfl
    exact xE (qCr k2 (jE _) ⟨(y20.1.1,y20.1.2.1,y20.1.2.2.1,y20.1.2.2.2,l2),a48,c48,a49,c49,a50,c50,a53,c53,m31,hL,rfl,((q.t e21).t e23).t e24,st.f1.f3.f5.f5.f4.f5,(r49.mono e23).mono e24,(r50.mono e23).mono e24,(r51.mono e23).mono e24,(((r16.mono e20).mono e21).mono e23).mono e24,r55⟩)
   ·intro A i;refine qDy (qAi ?_);cases i;have ho:=hBu5 _ rfl;have st:=st.f5.f2.f5.f5.f5.f5;refine qAi ?_;exact xE (K2_u5 _ _ ⟨(y18.1.1,y18.1.2.1,y18.1.2.2.1,y18.1.2.2.2,s2.2.2.2.2),a45,c45,a46,c46,a47,c47,a44,c44,m27,ho,rfl,q,st,r46,r47,r48,r16.mono e20,r45⟩)
 intro K0_u1;have st:=(st.nilroom 9 1).front2.front4.front4.front4;refine qHk _ kr (qEl (fun k1 L' w'=>∃(s1:T1n),∃a17 c17 a18 c18 a19 c19 a20 c20 m8,qBf (qFs N y4) k1 s1=some out1∧L'=[(0,vP bp0 0),(2,vP b1 0),(3,vP b2 0)]∧m.le m8∧St m8 (kB bp0 #[vS a17 s1.1 c17,vI s1.2.1,vS a18 s1.2.2.1 c18,vS a19 s1.2.2.2.1 c19] 114::kB b2 #[vT y4.2.2.1,vS a20 s1.2.2.2.2 c20,vb] 52::kB b1 #[vT eB,v1,vb] 52::kR a19 s1.2.2.2.1 c19 117 5::kR a20 s1.2.2.2.2 c20 9 1::O) w'∧RepS C3 m8 a17 c17 s1.1∧RepS cStr m8 a18 c18 s1.2.2.1∧RepS C4 m8 a19 c19 s1.2.2.2.1∧RepS cStr m8 a20 c20 s1.2.2.2.2) N ⟨(y6.1,y6.2.1,y6.2.2.1,y6.2.2.2,([]:T6)),a10,c10,a11,c11,a12,c12,none,0,m5,i,rfl,(q.t e3).t e5,st,r10,r11,r12,(RepS.nil _ _)⟩ ?_);rintro k1 _ w11 ⟨s1,a17,c17,a18,c18,a19,c19,a20,c20,m8,hL,rfl,q,st,r17,r18,r19,r20⟩;rcases k1 with _|k1
 ·exact qBr hL
 ·obtain⟨qu1,i,hSu1,hBu1⟩:=qBs hL;clear hL;unfold qFs at i;refine qAr (W_sr (qAb 1 [(13,vP bp0 0)] (qAv 14 i (fun _ h=>qFf (p0:=(s1.1,s1.2.1,s1.2.2.1,s1.2.2.2.1)) st.f3.f1 r17 r18 r19 h) ?_)));rintro y7 i _ w12 ⟨a21,c21,a22,c22,a23,c23,m9,rfl,e7,st,r21,r22,r23⟩;have q:=q.t e7;have r20:=r20.mono e7;refine WO_e (W_if i ?_ ?_)
  ·intro A i;refine qAn (qAg (qAy (qAr (W_sr (qCs 1 16 43 15 1 (vS a20 s1.2.2.2.2 c20) st.t.t.h (qAe 2 [(18,vB ((s1.2.2.2.2.length:Int)==8))] ?_))))));have⟨qu2,i,j2⟩:=qAw i;refine qCg .normal (fun L' w'=>∃(o2:Tz),∃a24 c24 a25 c25 a26 c26 m10,(.inl o2:Tz⊕T1q)=qu2∧L'=[(0,vP bp0 0),(2,vP b1 0),(3,vP b2 0)]∧m.le m10∧St m10 (kB bp0 (V6 o2 a24 c24 a25 c25 a26 c26) 114::kB b2 #[vT y4.2.2.1,vS a20 s1.2.2.2.2 c20,vb] 52::kB b1 #[vT eB,v1,vb] 52::kR a20 s1.2.2.2.2 c20 9 1::kR a26 o2.2.2.2 c26 117 5::O) w'∧RepS C3 m10 a24 c24 o2.1∧RepS cStr m10 a25 c25 o2.2.2.1∧RepS C4 m10 a26 c26 o2.2.2.2∧RepS cStr m10 a20 c20 s1.2.2.2.2) ?_ ?_
   ·rintro _ w13 ⟨o2,a24,c24,a25,c25,a26,c26,m10,rfl,rfl,q,st,r24,r25,r26,r20⟩;have i:=j2;refine qAg (W_sr (qAb 3 [(22,vP bp0 0),(24,vP bp0 1)] (qAa rfl (qBc 25 3 24 1 (vI o2.2.1) st.h (qAb 3 [(26,vI (wr (o2.2.1+1))),(28,vP bp0 1)] (qAa rfl (qIb 3 28 26 1 (vI (wr (o2.2.1+1))) #[vS a24 o2.1 c24,vI (wr (o2.2.1+1)),vS a25 o2.2.2.1 c25,vS a26 o2.2.2.2 c26] st fun w17 st=>(WO_e (W_sr (qAb 1 [(29,vP bp0 0)] (qBo 30 i (fun _ h=>qGl (p0:=(o2.1,wr (o2.2.1+1),o2.2.2.1,o2.2.2.2)) st.f4.f1 r24 r25 r26 h) ?_)))))))))));rintro y11 i _ w18 (⟨z5,m15,rfl,rfl,e12,st⟩|⟨y12,rfl,a30,c30,a31,c31,a32,c32,m14,rfl,e11,st,r30,r31,r32⟩)
    ·refine qAd ?_;refine qAx ?_;obtain rfl:=sI i;have ho:=hBu1 _ rfl;subst ho;have i:=j1;refine qAd ?_;refine qAx ?_;refine qAd ?_;obtain rfl:=sI i;have st:=st.t.t.t;exact qAj (.inl ⟨z5,m15,rfl,rfl,q.t e12,st⟩)
    have r20:=r20.mono e11;refine qAa rfl (qCm 4 181 (.agg (V5 0 eB 0 0)) st fun b3 w20 st=>(qAa rfl (qBn 181 4 30 (.agg (V4 y12.2)) st fun w21 st=>(WO_e (qAr (W_sr ?_))))));have⟨o3,i,J⟩:=qAw i;refine qGu (j:=12) (fun L' w'=>∃m16,L'=[(0,vP bp0 0),(2,vP b1 0),(3,vP b2 0),(4,vP b3 0),(42,vB o3)]∧m.le m16∧St m16 (kB b3 (V4 y12.2) 181::kB bp0 (V6 y12.1 a30 c30 a31 c31 a32 c32) 114::kB b2 #[vT y4.2.2.1,vS a20 s1.2.2.2.2 c20,vb] 52::kB b1 #[vT eB,v1,vb] 52::kR a32 y12.1.2.2.2 c32 117 5::kR a20 s1.2.2.2.2 c20 9 1::O) w'∧RepS C3 m16 a30 c30 y12.1.1∧RepS cStr m16 a31 c31 y12.1.2.2.1∧RepS C4 m16 a32 c32 y12.1.2.2.2∧RepS cStr m16 a20 c20 s1.2.2.2.2) ?_ ?_
    ·have i:=J;rintro _ w22 ⟨m16,rfl,q,st,r30,r31,r32,r20⟩;refine WO_e ?_;have⟨qu3,i,j3⟩:=qAw i;refine qCg .normal (fun L' w'=>∃(o4:Unit),∃m18,(.inl o4:Unit⊕T1q)=qu3∧L'=[(0,vP bp0 0),(2,vP b1 0),(3,vP b2 0),(4,vP b3 0)]∧m.le m18∧St m18 (kB b3 (V4 y12.2) 181::kB bp0 (V6 y12.1 a30 c30 a31 c31 a32 c32) 114::kB b2 #[vT y4.2.2.1,vS a20 s1.2.2.2.2 c20,vb] 52::kB b1 #[vT eB,v1,vb] 52::kR a32 y12.1.2.2.2 c32 117 5::kR a20 s1.2.2.2.2 c20 9 1::O) w'∧RepS C3 m18 a30 c30 y12.1.1∧RepS cStr m18 a31 c31 y12.1.2.2.1∧RepS C4 m18 a32 c32 y12.1.2.2.2∧RepS cStr m18 a20 c20 s1.2.2.2.2) ?_ ?_
     ·rintro _ w24 ⟨o4,m18,rfl,rfl,q,st,r30,r31,r32,r20⟩;have i:=j3;refine qAg (W_sr (qCs 1 46 43 45 1 (vS a20 s1.2.2.2.2 c20) st.t.t.h (qCs 1 48 9 47 1 (vT y12.2.2.1) st.h (qAa rfl (qAq (d:=49) (t:=43) (e:=9) (len:=1) (parts:= #[(0,(.tmp 48))]) cStr (xs:=[y12.2.2.1]) [vT y12.2.2.1] kr rfl (fun _=>qAp kr _) rfl rfl st ⟨[vT y12.2.2.1],_,rfl,rfl,rfl⟩ fun b4 m21 w27 e16 st r33=>(qAa rfl (qIv 50 43 43 9 16 46 49 st.f6 (.inl kr) (r20.mono e16) r33.src i fun l1 i a33 c33 m22 w28 e17 st r34=>(qAb 1 [(51,vP b2 1)] (qAa rfl (qIb 43 51 50 1 (vS a33 l1 c33) #[vT y4.2.2.1,vS a33 l1 c33,vb] st.f4 fun w29 st=>(qAs rfl ?_)))))))))));have st:=st.f2.t;refine qAg (qAm (qAb 1 [(52,vP bp0 0)] (qBo 53 i (fun _ h=>qBw (p0:=y12.1) st.f5.f4 ((r30.mono e16).mono e17) ((r31.mono e16).mono e17) ((r32.mono e16).mono e17) h) ?_)));rintro y16 i _ w30 (⟨z7,m24,rfl,rfl,e19,st⟩|⟨y17,rfl,a34,c34,a35,c35,a36,c36,m23,rfl,e18,st,r35,r36,r37⟩)
      ·refine qAx ?_;obtain rfl:=sI i;have ho:=hBu1 _ rfl;subst ho;have i:=j1;refine qAd ?_;refine qAx ?_;refine qAd ?_;obtain rfl:=sI i;have st:=st.t.t.t.t;exact qAj (.inl ⟨z7,m24,rfl,rfl,((q.t e16).t e17).t e19,st⟩)
      refine qAs rfl (qBm ?_);obtain rfl:=sI i;have hL:=hSu1 _ rfl;exact xE (qCr k1 (jE _) ⟨(y17.1,y17.2.1,y17.2.2.1,y17.2.2.2,l1),a34,c34,a35,c35,a36,c36,a33,c33,m23,hL,rfl,((q.t e16).t e17).t e18,st.f4.t.f3.f2.f4.f4.f4,r35,r36,r37,r34.mono e18⟩)
     ·intro Ku3;refine W_if i ?_ ?_
      ·intro A i;refine qAm (qAa rfl (qBc 43 181 4 0 (.agg (V4 y12.2)) st.h (qBo 44 i (fun _ h=>qBz st h) ?_)));rintro y14 i _ w25 (⟨z6,m20,rfl,rfl,e15,st⟩|⟨y15,rfl,m19,rfl,e14,st⟩)
       ·obtain rfl:=sI i;have i:=j3;refine qAd ?_;refine qAx ?_;obtain rfl:=sI i;have ho:=hBu1 _ rfl;subst ho;have i:=j1;refine qAd ?_;refine qAx ?_;refine qAd ?_;obtain rfl:=sI i;have st:=st.t.t.t.t.t.t;exact qAj (.inl ⟨z6,m20,rfl,rfl,q.t e15,st⟩)
       refine qAs rfl ?_;have n3:=jC i;exact xE (Ku3 _ _ ⟨(),m19,n3,rfl,q.t e14,st.f5.f5.f5.f5.f5.f5,r30.mono e14,r31.mono e14,r32.mono e14,r20.mono e14⟩)
      ·intro A i;refine qAn ?_;have n3:=jC i;exact xE (Ku3 _ _ ⟨(),m16,n3,rfl,q,st.f5.f5.f5.f5.f5.f5,r30,r31,r32,r20⟩)
    ·intro K;refine qCs 1 32 9 31 1 (vT y12.2.2.1) st.h (qCs 1 34 9 33 0 (vT y4.2.2.1) st.t.t.t.h (qAb 2 [(36,vB (y12.2.2.1.toList==y4.2.2.1.toList))] (qGb 36 i ?_ ?_)))
     ·intro A i;refine qAb 6 [(42,vB true)] ?_;cases i;exact qBv _ kr (K _ _ ⟨m14,rfl,q.t e11,st.f5.f3.f5.f5.f5.f5,r30,r31,r32,r20⟩)
     ·intro A i;refine qCs 1 38 43 37 1 (vS a20 s1.2.2.2.2 c20) st.t.t.t.h (qCs 1 40 9 39 1 (vT y12.2.2.1) st.h (qAv 41 i (fun _ h=>qGt st r20 h) ?_));rintro y13 i _ w23 ⟨m17,rfl,e13,st⟩;refine qAb 1 [(42,vB y13)] ?_;cases i;exact qBv _ kr (K _ _ ⟨m17,rfl,(q.t e11).t e13,st.f5.f3.f5.f5.f5.f5,r30.mono e13,r31.mono e13,r32.mono e13,r20.mono e13⟩)
   ·intro Ku2;refine W_if i ?_ ?_
    ·intro A i;refine qAm (qAb 1 [(19,vP bp0 0)] (qAv 20 i (fun _ h=>qBx (p0:=y7.1) st.f1.f1 r21 r22 r23 h) ?_));rintro y8 i _ w14 ⟨a27,c27,a28,c28,a29,c29,m11,rfl,e8,st,r27,r28,r29⟩;refine qBo 21 i (fun _ h=>qBz st h) ?_;rintro y9 i _ w15 (⟨z4,m13,rfl,rfl,e10,st⟩|⟨y10,rfl,m12,rfl,e9,st⟩)
     ·obtain rfl:=sI i;have i:=j2;refine qAd ?_;refine qAx ?_;obtain rfl:=sI i;have ho:=hBu1 _ rfl;subst ho;have i:=j1;refine qAd ?_;refine qAx ?_;refine qAd ?_;obtain rfl:=sI i;have st:=st.t.t.t.t.t;exact qAj (.inl ⟨z4,m13,rfl,rfl,(q.t e8).t e10,st⟩)
     refine qAs rfl ?_;have n2:=jC i;exact xE (Ku2 _ _ ⟨y8.1,a27,c27,a28,c28,a29,c29,m12,n2,rfl,(q.t e8).t e9,st.f1.f4.f4.f4.f4,r27.mono e9,r28.mono e9,r29.mono e9,(r20.mono e8).mono e9⟩)
    ·intro A i;refine qAn ?_;have n2:=jC i;exact xE (Ku2 _ _ ⟨y7.1,a21,c21,a22,c22,a23,c23,m9,n2,rfl,q,st.f1.f4.f4.f4.f4,r21,r22,r23,r20⟩)
  ·intro A i;refine qDy (qAi ?_);cases i;have ho:=hBu1 _ rfl;have st:=st.f4.f2.f4.f4.f4;refine qAi ?_;exact xE (K0_u1 _ _ ⟨(y7.1.1,y7.1.2.1,y7.1.2.2.1,y7.1.2.2.2,s1.2.2.2.2),a21,c21,a22,c22,a23,c23,a20,c20,m9,ho,rfl,q,st,r21,r22,r23,r20⟩)
def qKy(N:Nat)(p0:ByteArray):Option (T1o×Tr):=
 (qKv N p0).bind fun y1=>if(y1.2.2 !=0)=true then(some (((⟨#[]⟩:ByteArray),([]:T6),([]:T1j)),y1.2.1,y1.2.2)) else((qFu N (y1.1,0,([]:T6),([]:Ty))).bind fun y2=>(match y2 with| .inl z1=>some (((⟨#[]⟩:ByteArray),([]:T6),([]:T1j)),z1.1,z1.2)| .inr y3=>some (y3.2,0,0)))
theorem qTn{p0:ByteArray}{r:T1o×Tr}(st:St m (O) w)(i:qKy N p0=some r):Calls Tryz.prog 19 #[vT p0] w fun e w'=>∃ra1 rc1 ra2 rc2 m',e= .returned (.tuple #[.agg (V9 r.1 ra1 rc1 ra2 rc2),vI r.2.1,vI r.2.2])∧m.le m'∧St m' (kR ra1 r.1.2.1 rc1 9 1::kR ra2 r.1.2.2 rc2 62 4::O) w'∧RepS cStr m' ra1 rc1 r.1.2.1∧RepS C5 m' ra2 rc2 r.1.2.2:=by
 unfold qKy at i;have q:=m.le_refl;refine zIi Tryz.func19 rfl Tryz.ntmps19 [(0,vT p0)] kr rfl ?_;refine zCg ?_;refine qAm (qAa rfl (qCm 2 52 (.agg #[vT eB,v2,v2]) st fun b1 w1 st=>(qAa rfl (qCm 3 3 (vI 0) st fun b2 w2 st=>(qAa rfl (qCm 4 40 (vI 0) st fun b3 w3 st=>(qAs rfl (qXx (zCg (qAm (qAb 1 [(8,vT p0)] (qAv 9 i (fun _ h=>qUq st h) ?_))))))))))));rintro y1 i _ w4 ⟨a1,c1,m1,rfl,e1,st,r1⟩;have q:=q.t e1;refine qAb 5 [(11,vI y1.2.1),(12,vI y1.2.2),(5,vS a1 y1.1 c1)] (qAa rfl (qBn 3 3 11 (vI y1.2.1) st.f2 fun w5 st=>(qAa rfl (qBn 40 4 12 (vI y1.2.2) st.f2 fun w6 st=>(qAs rfl (qXx (zCg (W_sr (qAa rfl (qBc 13 40 4 0 (vI y1.2.2) st.h (qAe 1 [(14,vB (y1.2.2 !=0))] (W_if i ?_ ?_))))))))))))
 ·intro A i;refine qAr (qFl [(6,fun w'=>Inv m1 w'∧True),(5,fun w'=>Inv m1 w'∧Piece.holds m1 w' (kB b3 #[vI y1.2.2] 40)∧True),(4,fun w'=>Inv m1 w'∧Piece.holds m1 w' (kB b2 #[vI y1.2.1] 3)∧True)] kr st fun w7 _ st=> ?_);have hmS1:=m1.le_refl;refine⟨⟨iA st hmS1,⟨.inr ⟨Inv.anti st.inv hmS1,Piece.holds_anti st.h hmS1,trivial⟩,⟨.inr ⟨Inv.anti st.inv hmS1,Piece.holds_anti st.t.h hmS1,trivial⟩,trivial⟩⟩⟩,?_⟩;refine qAu 0 15 (.agg #[vT eB,v1,vb]) (.head _) (qFa 3 3 1 16 0 (vI y1.2.1) (.tail _ (.tail _ (.head _))) (fun _ h=>h.2.1) (qFa 40 4 2 17 0 (vI y1.2.2) (.tail _ (.head _)) (fun _ h=>h.2.1) (qBh 3 kr (qBn 52 2 15 (.agg #[vT eB,v1,vb]) st.f3 fun w8 st=>(⟨⟨iA st hmS1,⟨.inr ⟨Inv.anti st.inv hmS1,Piece.holds_anti st.t.h hmS1,trivial⟩,⟨.inr ⟨Inv.anti st.inv hmS1,Piece.holds_anti st.t.t.h hmS1,trivial⟩,trivial⟩⟩⟩,?_⟩)))));refine qBh 4 kr (qBn 3 3 16 (vI y1.2.1) st.f2 fun w9 st=>(⟨⟨iA st hmS1,⟨.inr ⟨Inv.anti st.inv hmS1,Piece.holds_anti st.t.t.h hmS1,trivial⟩,⟨.inl rfl,trivial⟩⟩⟩,?_⟩));refine qBh 5 kr (qBn 40 4 17 (vI y1.2.2) st.f2 fun w10 st=>(⟨⟨iA st hmS1,⟨.inl rfl,⟨.inl rfl,trivial⟩⟩⟩,?_⟩));refine qCd kr ?_;have st:=st.f3.t;refine qAg (qBb (qAf (zGy ?_)));cases i
  refine X_retE [.cell 2 52,.cell 3 3,.cell 4 40] [.agg #[vT eB,v1,vb],vI y1.2.1,vI y1.2.2] rfl (ResAll.cons (ResAt.blk (v:= .agg #[vT eB,v1,vb]) (o:=0) kr st.t.t.h kr) (ResAll.cons (ResAt.blk (v:=vI y1.2.1) (o:=0) kr st.t.h kr) (ResAll.cons (ResAt.blk (v:=vI y1.2.2) (o:=0) kr st.h kr) ResAll.nil))) ?_;have st:=(st.nilroom 9 1).nilroom 62 4;exact⟨none,0,none,0,m1,rfl,q,st.f2.t.f2.t.f2.t.f1,(RepS.nil _ _),(RepS.nil _ _)⟩
 ·intro A i;refine qAn (qXx (zCg (qAm (qAb 1 [(18,.func (.func 69) #[] #[vP b1 0,vP b2 0,vP b3 0])] (zIp ({target:= .fn (.func 69) #[vP b1 0,vP b2 0,vP b3 0],args:= #[]}) kr kr (qAs rfl (qXx (W_sr (qAb 2 [(20,.agg #[vS a1 y1.1 c1,vI 0,v1,va])] (qAa rfl (qOg 21 114 20 (.agg #[vS a1 y1.1 c1,vI 0,v1,va]) st fun b4 w11 st=>(qAe 1 [(6,vP b4 0)] (W_sr (qAb 1 [(22,vP b4 0)] ?_))))))))))))));have st:=(st.nilroom 117 5).front1;refine qBo 23 i (fun _ h=>qPl (p0:=(y1.1,0,([]:T6),([]:Ty))) st r1 (RepS.nil _ _) (RepS.nil _ _) h) ?_;rintro y2 i _ w12 (⟨z1,m4,rfl,rfl,e4,st⟩|⟨y3,rfl,a2,c2,a3,c3,a4,c4,a5,c5,a6,c6,m3,rfl,e3,st,r2,r3,r4,r5,r6⟩)
  ·refine qAd ?_;refine X_panD [.cell 2 52,.cell 3 3,.cell 4 40] rfl (qZv Tryz.func69 kr) ?_;refine qVt (.panicking [{v:= .iface 110 (.agg (V7 z1)),recovered:=false}]) Tryz.func69 rfl Tryz.ntmps69 [(0,vP b1 0),(1,vP b2 0),(2,vP b3 0)] kr rfl (d:=6) kr kr [(3,.iface 110 (.agg (V7 z1))),(6,.iface 110 (.agg (V7 z1))),(0,vP b1 0),(1,vP b2 0),(2,vP b3 0)] (.iface 110 (.agg (V7 z1))) (.panicking [{v:= .iface 110 (.agg (V7 z1)),recovered:=true}]) rfl kr ?_;refine W_sr (qAb 2 [(8,vB true)] (qAs rfl ?_));have st:=st.f2.t;refine qAg (qMo true kr ?_ (fun h=>Bool.noConfusion h));intro _;refine W_sr (qAb 5 [(12,.agg (V7 z1)),(13,vB true)] (qAa rfl (qCm 4 110 (.agg #[vI 0,vI 0]) st fun b5 w14 st=>(qAa rfl (qBn 110 4 12 (.agg (V7 z1)) st fun w15 st=>(qAe 1 [(5,vB true)] (qAr (W_sr (qAe 2 [(15,vB false)] (qMo false kr (fun h=>Bool.noConfusion h) ?_))))))))));intro _;refine qAn (qAg (qFl [(8,fun w'=>Inv m4 w'∧Piece.holds m4 w' (kB b5 (V7 z1) 110)∧True)] kr st fun w16 _ st=> ?_));have hmS2:=m4.le_refl;refine⟨⟨.inr ⟨Inv.anti st.inv hmS2,Piece.holds_anti st.h hmS2,trivial⟩,trivial⟩,?_⟩
   refine qAu 0 17 (.agg #[vT eB,v1,vb]) (.head _) (qAu 1 18 (vP b5 0) (.head _) (qFa 3 18 2 19 0 (vI z1.1) (.head _) (fun _ h=>h.2.1) (qAu 3 20 (vP b5 1) (.head _) (qFa 40 20 4 21 1 (vI z1.2) (.head _) (fun _ h=>h.2.1) (qBh 5 kr (qBn 52 0 17 (.agg #[vT eB,v1,vb]) st.f3 fun w17 st=>(⟨⟨.inr ⟨Inv.anti st.inv hmS2,Piece.holds_anti st.t.h hmS2,trivial⟩,trivial⟩,?_⟩)))))));refine qBh 6 kr (qBn 3 1 19 (vI z1.1) st.f3 fun w18 st=>(⟨⟨.inr ⟨Inv.anti st.inv hmS2,Piece.holds_anti st.t.t.h hmS2,trivial⟩,trivial⟩,?_⟩));refine qBh 7 kr (qBn 40 2 21 (vI z1.2) st.f3 fun w19 st=>(⟨⟨.inr ⟨Inv.anti st.inv hmS2,Piece.holds_anti st.t.t.t.h hmS2,trivial⟩,trivial⟩,?_⟩));refine qCd kr ?_;obtain rfl:=sI i;refine qWh [] [] rfl ResAll.nil (⟨_,rfl,?_⟩);refine⟨[.agg #[vT eB,v1,vb],vI z1.1,vI z1.2],(ResAll.cons (ResAt.blk (v:= .agg #[vT eB,v1,vb]) (o:=0) kr st.t.t.h kr) (ResAll.cons (ResAt.blk (v:=vI z1.1) (o:=0) kr st.t.h kr) (ResAll.cons (ResAt.blk (v:=vI z1.2) (o:=0) kr st.h kr) ResAll.nil))),?_⟩;have st:=(st.nilroom 9 1).nilroom 62 4;exact⟨none,0,none,0,m4,rfl,q.t e4,st.f2.t.f2.t.f2.t.f2.t.f1,(RepS.nil _ _),(RepS.nil _ _)⟩
  refine qAa rfl (qBn 52 2 23 (.agg (V9 y3.2 a5 c5 a6 c6)) st.f7 fun w20 st=>(qAa rfl (qBn 3 3 ((.const (vI 0))) (vI 0) st.f6 fun w21 st=>(qAa rfl (qBn 40 4 ((.const (vI 0))) (vI 0) st.f6 fun w22 st=>(qAs rfl ?_))))));have st:=st.f7.t;refine qAg (qBb (X_retD [.cell 2 52,.cell 3 3,.cell 4 40] rfl (qZv Tryz.func69 kr) (qVt .returning Tryz.func69 rfl Tryz.ntmps69 [(0,vP b1 0),(1,vP b2 0),(2,vP b3 0)] kr rfl (d:=6) kr kr [(3,.nilIface),(6,.nilIface),(0,vP b1 0),(1,vP b2 0),(2,vP b3 0)] (.nilIface) .returning rfl kr (W_sr (qAe 2 [(8,vB false)] (qMo false kr (fun h=>Bool.noConfusion h) ?_))))));intro _;refine qAn ?_;cases i;refine qWh [] [] rfl ResAll.nil (⟨_,rfl,?_⟩);refine⟨[.agg (V9 y3.2 a5 c5 a6 c6),vI 0,vI 0],(ResAll.cons (ResAt.blk (v:= .agg (V9 y3.2 a5 c5 a6 c6)) (o:=0) kr st.t.t.h kr) (ResAll.cons (ResAt.blk (v:=vI 0) (o:=0) kr st.t.h kr) (ResAll.cons (ResAt.blk (v:=vI 0) (o:=0) kr st.h kr) ResAll.nil))),?_⟩;exact⟨a5,c5,a6,c6,m3,rfl,q.t e3,st.t.t.t.f2.t.f2.t.f1.f1,r5,r6⟩
def qNn(N:Nat)(p0:Int)(p1:ByteArray)(p2:ByteArray):Option (Int×Tj):=
 (if(p0==3)=true then(some (⟨#[]⟩:ByteArray)) else(some p1):Te).bind fun o1=>some (p0,o1,p2)
theorem qSj{p0:Int}{p1:ByteArray}{p2:ByteArray}{r:Int×Tj}(st:St m (O) w)(i:qNn N p0 p1 p2=some r):Calls Tryz.prog 171 #[vI p0,vT p1,vT p2] w fun e w'=>∃m',e= .returned (.agg (Va r))∧m.le m'∧St m' (O) w':=by
 unfold qNn at i;have q:=m.le_refl;refine W_cA Tryz.func171 rfl Tryz.ntmps171 ?_;refine W_sr (qAa rfl (qCm 6 212 (.agg #[vI 0,vT eB,vT eB]) st fun b1 w1 st=>(WO_e (qAr (W_sr (qAe 2 [(8,vB (p0==3))] ?_))))));have⟨o1,i,j1⟩:=qAw i;refine qCg .normal (fun L' w'=>∃m1,L'=[(0,vI p0),(1,vT o1),(2,vT p2),(6,vP b1 0)]∧m.le m1∧St m1 (kB b1 #[vI 0,vT eB,vT eB] 212::O) w') ?_ ?_
 ·have i:=j1;rintro _ w2 ⟨m1,rfl,q,st⟩;refine qAg (W_sr (qAb 4 [(12,.agg #[vI p0,vT o1,vT p2])] (qAa rfl (qBn 212 6 12 (.agg #[vI p0,vT o1,vT p2]) st fun w3 st=>(WO_e (qBb ?_))))));obtain rfl:=sI i;exact qKb [.cell 6 212] [.agg #[vI p0,vT o1,vT p2]] rfl (ResAll.cons (ResAt.blk (v:= .agg #[vI p0,vT o1,vT p2]) (o:=0) kr st.h kr) ResAll.nil) ⟨m1,rfl,q,st.t⟩
 ·intro Ku1;refine W_if i ?_ ?_
  ·intro A i;refine qAm (qAb 1 [(1,vT eB)] (qAs rfl ?_));cases i;exact xE (Ku1 _ _ ⟨m,rfl,q,st⟩)
  ·intro A i;refine qAn ?_;cases i;exact xE (Ku1 _ _ ⟨m,rfl,q,st⟩)
end
section
open Go Go.Dc
set_option maxHeartbeats 4000000
set_option maxRecDepth 100000
variable {N c1 c2:Nat} {m:Mem} {O:List Piece} {w:World} {a1 a2:Option Addr}
def qIg(N:Nat)(x1:Tj)(y3:T1o×Tr)(s2:Int×T1u):Option (Int×T1u⊕T1u):=
 if(decide (s2.1<(List.length y3.1.2.2:Int)))=true then((idx y3.1.2.2 s2.1).bind fun x2=>((qNn N x2.1 y3.1.1 x2.2.1).bind fun y4=>(if((qAl s2.2 y4).isSome)=true then(some (((qAl s2.2 y4).getD ((⟨#[]⟩:ByteArray),(⟨#[]⟩:ByteArray),0,(⟨#[]⟩:ByteArray),0,0)).1,((qAl s2.2 y4).getD ((⟨#[]⟩:ByteArray),(⟨#[]⟩:ByteArray),0,(⟨#[]⟩:ByteArray),0,0)).2.1,((qAl s2.2 y4).getD ((⟨#[]⟩:ByteArray),(⟨#[]⟩:ByteArray),0,(⟨#[]⟩:ByteArray),0,0)).2.2.1,((qAl s2.2 y4).getD ((⟨#[]⟩:ByteArray),(⟨#[]⟩:ByteArray),0,(⟨#[]⟩:ByteArray),0,0)).2.2.2.1,((qAl s2.2 y4).getD ((⟨#[]⟩:ByteArray),(⟨#[]⟩:ByteArray),0,(⟨#[]⟩:ByteArray),0,0)).2.2.2.2.1,IntKind.wrap .i64 ((((qAl s2.2 y4).getD ((⟨#[]⟩:ByteArray),(⟨#[]⟩:ByteArray),0,(⟨#[]⟩:ByteArray),0,0)).2.2.2.2.2)+1))) else(some (y3.1.1,x2.2.1,x2.1,x1.1,s2.1,1)):Option T1s).bind fun o6=>(qIi s2.2 y4 o6).bind fun mp2=>some mp2:Option T1u).bind fun o5=>some (.inl (IntKind.wrap .i64 (s2.1+1),o5))) else(some (.inr s2.2))
def qIe(N:Nat)(p0:Tk)(s1:Int×T1w):Option (Int×T1w⊕T1w):=
 if(decide (s1.1<(List.length p0:Int)))=true then(((idx p0 s1.1).bind fun x1=>(qHb N x1.1).bind fun y2=>if(!y2)=true then(some s1.2) else((qKy N x1.2).bind fun y3=>if(y3.2.2 !=0)=true then((qEo 16 s1.2.1 ([x1.1])).bind fun l1=>some (l1,s1.2.2.1,s1.2.2.2)) else((qIi s1.2.2.1 x1.1 y3.1).bind fun mp1=>(qBf (qIg N x1 y3) N (0,s1.2.2.2)).bind fun o4=>some (s1.2.1,mp1,o4))):Option T1w).bind fun o3=>some (.inl (IntKind.wrap .i64 (s1.1+1),o3.1,o3.2.1,o3.2.2))) else(some (.inr s1.2))
def qKw(N:Nat)(p0:Tk):Option T1x:=
 ((qKt N p0).bind fun y1=>some (y1==0):Td).bind fun o1=>if(!o1)=true then(some (p0,o1,(some []:Option T1v),([]:T6),(some []:T1u))) else((qBf (qIe N p0) N (0,([]:T6),(some []:Option T1v),(some []:T1u))).bind fun o2=>some (p0,o1,o2.2.1,o2.1,o2.2.2))
theorem qMe{p0:Tk}{r:T1x}(st:St m (O) w)(r1:RepS C1 m a1 c1 p0)(i:qKw N p0=some r):Calls Tryz.prog 86 #[.agg #[vS a1 p0 c1]] w fun e w'=>∃rb ra1 rc1 rq2 re2 rk2 ra3 rc3 rq4 re4 rk4 m',e= .returned (vP rb 0)∧m.le m'∧St m' (qBj rq2 re2 rk2::qBj rq4 re4 rk4::kB rb #[vS ra1 r.1 rc1,vB r.2.1,.map rq2,vS ra3 r.2.2.2.1 rc3,.map rq4] 151::O) w'∧RepS C1 m' ra1 rc1 r.1∧MapQ (fun s:ByteArray=>Value.string s) C6 true m' rq2 re2 rk2 r.2.2.1∧RepS cStr m' ra3 rc3 r.2.2.2.1∧MapQ qId C7 true m' rq4 re4 rk4 r.2.2.2.2:=by
 unfold qKw at i;have q:=m.le_refl;refine W_cA Tryz.func86 rfl Tryz.ntmps86 ?_;refine W_sr (qAa rfl (qJw 1 28 0 (.agg #[vS a1 p0 c1]) st fun b1 m1 w1 e1 st hb1=> ?_));have q:=q.t e1;have r1:=r1.mono e1;refine qAe 1 [] (qAr ?_);have⟨o1,i,J⟩:=qAw i;refine qCg .normal (fun L' w'=>∃b2 b3 b4 m2,L'=[(1,vP b1 0),(3,vP b4 0)]∧m.le m2∧St m2 (kB b4 #[vS a1 p0 c1,vB o1,.map (some b2),v1,.map (some b3)] 151::qBj (some b2) #[] 0::qBj (some b3) #[] 0::O) w'∧MRow m2 b1 0 [vS a1 p0 c1]∧RepS C1 m2 a1 c1 p0) ?_ ?_
 ·have i:=J;rintro _ w2 ⟨b2,b3,b4,m2,rfl,q,st,hb1,r1⟩;refine qAg (qAr (W_sr (qCs 3 22 4 21 1 (vB o1) st.h (qAe 1 [(23,vB (!o1))] (W_if i ?_ ?_)))))
  ·intro A i;refine W_sr (qAe 2 [(2,vP b4 0)] (qBb (qAf ?_)));obtain rfl:=sI i;exact X_rt [2] [vP b4 0] ⟨b4,a1,c1,(some b2),#[],0,none,0,(some b3),#[],0,m2,rfl,q,st.f2.f2,r1,(MapQ.new (fun s:ByteArray=>Value.string s) C6 true _ _),(RepS.nil _ _),(MapQ.new qId C7 true _ _)⟩
  ·intro A i;refine qAn (qAg (qAr (W_sr (qAb 1 [(25,vP b1 0)] (qHg 26 26 25 0 (vS a1 p0 c1) st hb1 (qAe 2 [(27,vI (p0.length:Int)),(28,vI 0)] (qAy ?_)))))));have⟨out1,i,j1⟩:=qAw i;refine qCg (.exit 0) (fun L' w'=>∃(o2:T1w),∃a2 c2 es1 ck1 es2 ck2 m5,o2=out1∧L'=[(3,vP b4 0)]∧m.le m5∧St m5 (kB b4 #[vS a1 p0 c1,vB o1,.map (some b2),vS a2 o2.1 c2,.map (some b3)] 151::qBj (some b2) es1 ck1::qBj (some b3) es2 ck2::kR a2 o2.1 c2 9 1::O) w'∧RepS C1 m5 a1 c1 p0∧RepS cStr m5 a2 c2 o2.1∧MapQ (fun s:ByteArray=>Value.string s) C6 true m5 (some b2) es1 ck1 o2.2.1∧MapQ qId C7 true m5 (some b3) es2 ck2 o2.2.2) ?_ ?_
   ·rintro _ w8 ⟨o2,a2,c2,es1,ck1,es2,ck2,m5,rfl,rfl,q,st,r1,r2,r3,r4⟩;have i:=j1;refine qBk (qAg (W_sr (qAe 2 [(2,vP b4 0)] (qBb ?_))));obtain rfl:=sI i;exact X_rt [2] [vP b4 0] ⟨b4,a1,c1,(some b2),es1,ck1,a2,c2,(some b3),es2,ck2,m5,rfl,q,st.f3.t.f2.f2,r1,r3,r2,r4⟩
   intro K0_u1;have st:=(st.nilroom 9 1).front3.front3.front3;refine qHk _ kr (qEl (fun k1 L' w'=>∃(s1:Int×T1w),∃a3 c3 es3 ck3 es4 ck4 m6,qBf (qIe N p0) k1 s1=some out1∧L'=[(3,vP b4 0),(26,vS a1 p0 c1),(27,vI (p0.length:Int)),(28,vI s1.1)]∧m.le m6∧St m6 (kB b4 #[vS a1 p0 c1,vB o1,.map (some b2),vS a3 s1.2.1 c3,.map (some b3)] 151::qBj (some b2) es3 ck3::qBj (some b3) es4 ck4::kR a3 s1.2.1 c3 9 1::O) w'∧RepS C1 m6 a1 c1 p0∧RepS cStr m6 a3 c3 s1.2.1∧MapQ (fun s:ByteArray=>Value.string s) C6 true m6 (some b2) es3 ck3 s1.2.2.1∧MapQ qId C7 true m6 (some b3) es4 ck4 s1.2.2.2) N ⟨(0,([]:T6),(some []:Option T1v),(some []:T1u)),none,0,#[],0,#[],0,m2,i,rfl,q,st,r1,(RepS.nil _ _),(MapQ.new (fun s:ByteArray=>Value.string s) C6 true _ _),(MapQ.new qId C7 true _ _)⟩ ?_);rintro k1 _ w9 ⟨s1,a3,c3,es3,ck3,es4,ck4,m6,hL,rfl,q,st,r1,r5,r6,r7⟩;rcases k1 with _|k1
   ·exact qBr hL
   ·obtain⟨qu1,i,hSu1,hBu1⟩:=qBs hL;clear hL;unfold qIe at i;refine W_sr (qAe 1 [(29,vB (decide (s1.1<(p0.length:Int))))] (qAr (W_if i ?_ ?_)))
    ·intro A i;refine qAn (qAg (qAr ?_));have⟨o3,i,j2⟩:=qAw i;refine qCg .normal (fun L' w'=>∃a4 c4 es5 ck5 es6 ck6 m7,L'=[(3,vP b4 0),(26,vS a1 p0 c1),(27,vI (p0.length:Int)),(28,vI s1.1)]∧m.le m7∧St m7 (kB b4 #[vS a1 p0 c1,vB o1,.map (some b2),vS a4 o3.1 c4,.map (some b3)] 151::qBj (some b2) es5 ck5::qBj (some b3) es6 ck6::kR a4 o3.1 c4 9 1::O) w'∧RepS C1 m7 a1 c1 p0∧RepS cStr m7 a4 c4 o3.1∧MapQ (fun s:ByteArray=>Value.string s) C6 true m7 (some b2) es5 ck5 o3.2.1∧MapQ qId C7 true m7 (some b3) es6 ck6 o3.2.2) ?_ ?_
     ·have i:=j2;rintro _ w10 ⟨a4,c4,es5,ck5,es6,ck6,m7,rfl,q,st,r1,r8,r9,r10⟩;refine qAg (qAm (qAb 2 [(28,vI (wr (s1.1+1)))] (qAs rfl ?_)));obtain rfl:=sI i;have hL:=hSu1 _ rfl;exact xE (qCr k1 (jE _) ⟨(wr (s1.1+1),o3.1,o3.2.1,o3.2.2),a4,c4,es5,ck5,es6,ck6,m7,hL,rfl,q,st.f3.f3.f3.f3,r1,r8,r9,r10⟩)
     ·intro Ku2;refine qAy (W_sr (qAa rfl (qGx 30 26 68 26 28 r1 i ?_)));rintro x1 i b8 f1 cs1 ⟨_,_,rfl,rfl,rfl⟩ hq1;refine qHg 31 68 30 f1 (.agg (V2 x1)) st hq1 (qAa rfl (qCm 5 68 (.agg #[vT eB,vT eB]) st fun b9 w11 st=>(qAa rfl (qBn 68 5 31 (.agg (V2 x1)) st fun w12 st=>(WO_e (qAr (W_sr (qCs 1 33 9 32 0 (vT x1.1) st.h (qAv 34 i (fun _ h=>qQa st h) ?_)))))))));rintro y2 i _ w13 ⟨m8,rfl,e4,st⟩;have q:=q.t e4;have r1:=r1.mono e4;have r5:=r5.mono e4;have r6:=r6.mono e4;have r7:=r7.mono e4;refine qAe 1 [(35,vB (!y2))] (W_if i ?_ ?_)
      ·intro A i;refine qDy (qAi (qBk ?_));cases i;exact xE (Ku2 _ _ ⟨a3,c3,es3,ck3,es4,ck4,m8,rfl,q,st.t.f3.f3.f3.f3,r1,r5,r6,r7⟩)
      ·intro A i;refine qAn (qAg (W_sr (qCs 1 38 9 37 1 (vT x1.2) st.h (qAv 39 i (fun _ h=>qTn st h) ?_))));rintro y3 i _ w14 ⟨a5,c5,a6,c6,m9,rfl,e5,st,r11,r12⟩;refine qAb 4 [(40,.agg (V9 y3.1 a5 c5 a6 c6)),(41,vI y3.2.1),(42,vI y3.2.2)] (qAa rfl (qCm 6 52 (.agg #[vT eB,v2,v2]) st fun b10 w15 st=>(qAa rfl (qBn 52 6 40 (.agg (V9 y3.1 a5 c5 a6 c6)) st fun w16 st=>(qAe 2 [(8,vI y3.2.2)] (qAr (W_sr (qAe 2 [(44,vB (y3.2.2 !=0))] (W_if i ?_ ?_)))))))))
       ·intro A i;refine qAr (qFl [(12,fun w'=>Inv m9 w'∧Piece.holds m9 w' (kB b9 (V2 x1) 68)∧True),(11,fun w'=>Inv m9 w'∧Piece.holds m9 w' (kB b4 #[vS a1 p0 c1,vB o1,.map (some b2),vS a3 s1.2.1 c3,.map (some b3)] 151)∧True)] kr st fun w17 _ st=> ?_);have hmS2:=m9.le_refl;refine⟨⟨.inr ⟨Inv.anti st.inv hmS2,Piece.holds_anti st.t.t.t.h hmS2,trivial⟩,⟨.inr ⟨Inv.anti st.inv hmS2,Piece.holds_anti st.t.t.t.t.h hmS2,trivial⟩,trivial⟩⟩,?_⟩;refine qAu 0 45 (vP b4 0) (.head _) (qAu 1 46 (vP b4 0) (.head _) (qAu 2 47 (vP b4 0) (.head _) (qAu 3 48 (vP b4 3) (.head _) (qFa 43 48 4 49 3 (vS a3 s1.2.1 c3) (.tail _ (.head _)) (fun _ h=>h.2.1) (qAu 5 50 (vP b9 0) (.head _) (qFa 9 50 6 51 0 (vT x1.1) (.head _) (fun _ h=>h.2.1) (qBh 7 kr (qAq (d:=52) (t:=43) (e:=9) (len:=1) (parts:= #[(0,(.tmp 51))]) cStr (xs:=[x1.1]) [vT x1.1] kr rfl (fun _=>qAp kr _) rfl rfl st ⟨[vT x1.1],_,rfl,rfl,rfl⟩ fun b11 m10 w18 e6 st r13=> ?_))))))));have hmS2:=Mem.le_trans hmS2 e6;refine⟨⟨.inr ⟨Inv.anti st.inv hmS2,Piece.holds_anti st.t.t.t.t.h hmS2,trivial⟩,⟨.inr ⟨Inv.anti st.inv hmS2,Piece.holds_anti st.t.t.t.t.t.h hmS2,trivial⟩,trivial⟩⟩,?_⟩;refine qBh 8 kr (qIv 53 43 43 9 16 49 52 st.f8 (.inl kr) ((r5.mono e5).mono e6) r13.src i fun l1 i a7 c7 m11 w19 e7 st r14=> ?_);have hmS2:=Mem.le_trans hmS2 e7
        refine⟨⟨.inr ⟨Inv.anti st.inv hmS2,Piece.holds_anti st.t.t.t.t.t.h hmS2,trivial⟩,⟨.inr ⟨Inv.anti st.inv hmS2,Piece.holds_anti st.t.t.t.t.t.t.h hmS2,trivial⟩,trivial⟩⟩,?_⟩;refine qAu 9 54 (vP b4 0) (.head _) (qAu 10 55 (vP b4 3) (.head _) (qBh 11 kr (qIb 43 55 53 3 (vS a7 l1 c7) #[vS a1 p0 c1,vB o1,.map (some b2),vS a7 l1 c7,.map (some b3)] st.f6 fun w20 st=>(⟨⟨.inr ⟨Inv.anti st.inv hmS2,Piece.holds_anti st.t.t.t.t.t.t.h hmS2,trivial⟩,⟨.inl rfl,trivial⟩⟩,?_⟩))));refine qCd kr ?_;have st:=st.f2.t;refine qAg (qDy (qAi (qBk ?_)));cases i;exact xE (Ku2 _ _ ⟨a7,c7,es3,ck3,es4,ck4,m11,rfl,((q.t e5).t e6).t e7,st.f2.t.f2.t.f2.t.f2.t.f1.f3.f3.f3,((r1.mono e5).mono e6).mono e7,r14,((r6.mono e5).mono e6).mono e7,((r7.mono e5).mono e6).mono e7⟩)
       ·intro A i;refine qAn (qAg (qAr (qFl [(8,fun w'=>Inv m9 w'∧Piece.holds m9 w' (kB b10 (V9 y3.1 a5 c5 a6 c6) 52)∧Piece.holds m9 w' (kB b9 (V2 x1) 68)∧Piece.holds m9 w' (kB b4 #[vS a1 p0 c1,vB o1,.map (some b2),vS a3 s1.2.1 c3,.map (some b3)] 151)∧True)] kr st fun w21 _ st=> ?_)));have hmS3:=m9.le_refl;refine⟨⟨.inr ⟨Inv.anti st.inv hmS3,Piece.holds_anti st.h hmS3,Piece.holds_anti st.t.t.t.h hmS3,Piece.holds_anti st.t.t.t.t.h hmS3,trivial⟩,trivial⟩,?_⟩;refine qAu 0 56 (vP b4 0) (.head _) (qAu 1 57 (vP b4 0) (.head _) (qAu 2 58 (vP b4 2) (.head _) (qFa 148 58 3 59 2 (.map (some b2)) (.head _) (fun _ h=>h.2.2.2.1) (qAu 4 60 (vP b9 0) (.head _) (qFa 9 60 5 61 0 (vT x1.1) (.head _) (fun _ h=>h.2.2.1) (qFa 52 6 6 62 0 (.agg (V9 y3.1 a5 c5 a6 c6)) (.head _) (fun _ h=>h.2.1) ?_))))));have st:=st.f5;have⟨mp1,d6,i⟩:=qAw i
        refine qBh 7 kr (qKe (ek:=(fun s:ByteArray=>Value.string s)) (c:=C6) (agg:=true) (k:=x1.1) (yv:=y3.1) (cs:=[vT y3.1.1,vS a5 y3.1.2.1 c5,vS a6 y3.1.2.2 c6]) (z:=(.agg #[vT eB,v1,vb])) (v:=(.agg (V9 y3.1 a5 c5 a6 c6))) (kt:=9) (et:=52) (t:=148) (x:=(.tmp 59)) (y:=(.tmp 61)) (u:=(.tmp 62)) kr (ev (.map (some b2))) (ev (vT x1.1)) (ev (.agg (V9 y3.1 a5 c5 a6 c6))) kr (qVn kr) st (r6.mono e5) ⟨_,_,rfl,rfl,⟨_,_,rfl,(qYv r11),(qYv r12)⟩⟩ rfl d6 fun es7 ck7 w22 st r15=>(⟨⟨.inr ⟨Inv.anti st.inv hmS3,Piece.holds_anti st.t.h hmS3,Piece.holds_anti st.t.t.t.t.h hmS3,Piece.holds_anti st.t.t.t.t.t.h hmS3,trivial⟩,trivial⟩,?_⟩));refine qCd kr ?_;refine qAg (W_sr (qCs 1 64 50 63 2 (vS a6 y3.1.2.2 c6) st.t.h (qAe 2 [(65,vI (y3.1.2.2.length:Int)),(66,vI 0)] (qAy ?_))));have⟨out2,i,j3⟩:=qAw i
        refine qCg (.exit 2) (fun L' w'=>∃(o4:T1u),∃es8 ck8 m12,o4=out2∧L'=[(3,vP b4 0),(26,vS a1 p0 c1),(27,vI (p0.length:Int)),(28,vI s1.1)]∧m.le m12∧St m12 (kB b10 (V9 y3.1 a5 c5 a6 c6) 52::kB b9 (V2 x1) 68::kB b4 #[vS a1 p0 c1,vB o1,.map (some b2),vS a3 s1.2.1 c3,.map (some b3)] 151::qBj (some b2) es7 ck7::qBj (some b3) es8 ck8::kR a5 y3.1.2.1 c5 9 1::kR a6 y3.1.2.2 c6 62 4::kR a3 s1.2.1 c3 9 1::O) w'∧RepS C1 m12 a1 c1 p0∧RepS cStr m12 a5 c5 y3.1.2.1∧RepS C5 m12 a6 c6 y3.1.2.2∧RepS cStr m12 a3 c3 s1.2.1∧MapQ (fun s:ByteArray=>Value.string s) C6 true m12 (some b2) es7 ck7 mp1∧MapQ qId C7 true m12 (some b3) es8 ck8 o4) ?_ ?_
        ·rintro _ w23 ⟨o4,es8,ck8,m12,rfl,rfl,q,st,r1,r11,r12,r5,r15,r16⟩;have i:=j3;refine qBk (qBm ?_);cases i;exact xE (Ku2 _ _ ⟨a3,c3,es7,ck7,es8,ck8,m12,rfl,q,st.t.t.f3.t.f3.t.f3.f3.f3.f3,r1,r5,r15,r16⟩)
        intro K2_u3;refine qHk _ kr (qEl (fun k2 L' w'=>∃(s2:Int×T1u),∃es9 ck9 m13,qBf (qIg N x1 y3) k2 s2=some out2∧L'=[(3,vP b4 0),(5,vP b9 0),(6,vP b10 0),(26,vS a1 p0 c1),(27,vI (p0.length:Int)),(28,vI s1.1),(64,vS a6 y3.1.2.2 c6),(65,vI (y3.1.2.2.length:Int)),(66,vI s2.1)]∧m.le m13∧St m13 (kB b10 (V9 y3.1 a5 c5 a6 c6) 52::kB b9 (V2 x1) 68::kB b4 #[vS a1 p0 c1,vB o1,.map (some b2),vS a3 s1.2.1 c3,.map (some b3)] 151::qBj (some b2) es7 ck7::qBj (some b3) es9 ck9::kR a5 y3.1.2.1 c5 9 1::kR a6 y3.1.2.2 c6 62 4::kR a3 s1.2.1 c3 9 1::O) w'∧RepS C1 m13 a1 c1 p0∧RepS C5 m13 a6 c6 y3.1.2.2∧RepS cStr m13 a5 c5 y3.1.2.1∧RepS cStr m13 a3 c3 s1.2.1∧MapQ (fun s:ByteArray=>Value.string s) C6 true m13 (some b2) es7 ck7 mp1∧MapQ qId C7 true m13 (some b3) es9 ck9 s2.2) N ⟨(0,s1.2.2.2),es4,ck4,m9,i,rfl,q.t e5,st.f7.f4.f4.f7.f4.f7.f7.f7,r1.mono e5,r12,r11,r5.mono e5,r15,r7.mono e5⟩ ?_);rintro k2 _ w24 ⟨s2,es9,ck9,m13,hL,rfl,q,st,r1,r12,r11,r5,r15,r17⟩;rcases k2 with _|k2
        ·exact qBr hL
        ·obtain⟨qu3,i,hSu3,hBu3⟩:=qBs hL;clear hL;unfold qIg at i;refine W_sr (qAe 1 [(67,vB (decide (s2.1<(y3.1.2.2.length:Int))))] (qAr (W_if i ?_ ?_)))
         ·intro A i;refine qAn (qAg (qAr (qAy (W_sr (qAb 1 [(68,vI s2.1)] (qAa rfl (qGx 69 50 62 64 66 r12 i ?_)))))));rintro x2 i b12 f2 cs2 ⟨_,_,rfl,rfl,⟨_,_,rfl,rfl,⟨_,_,rfl,⟨a8,c8,rfl,r18⟩,⟨a9,c9,rfl,r19⟩⟩⟩⟩ hq2;refine qHg 70 62 69 f2 (.agg (V8 x2 a8 c8 a9 c9)) st hq2 (qAa rfl (qCm 10 62 (.agg #[vI 0,vT eB,v2,v2]) st fun b13 w25 st=>(qAb 1 [(9,vI s2.1)] (qAa rfl (qBn 62 10 70 (.agg (V8 x2 a8 c8 a9 c9)) st fun w26 st=>(WO_e (qAm (qAb 2 [(71,vP b4 0),(72,vP b10 0)] (qAa rfl (qBc 73 9 72 0 (vT y3.1.1) st.t.h (qCs 1 75 9 74 1 (vT x2.2.1) st.h (qCs 1 77 3 76 0 (vI x2.1) st.h (qCs 1 79 9 78 0 (vT x1.1) st.t.t.h (qAb 2 [(81,.agg (Vb y3.1.1 x2.2.1 x2.1 x1.1 s2.1 1))] ?_))))))))))))));have⟨o5,i,j4⟩:=qAw i
          refine qAa rfl (qJl 82 160 #[vP b4 0,.agg (Vb y3.1.1 x2.2.1 x2.1 x1.1 s2.1 1)] kr rfl (zAe (fun v' w'=>∃es10 ck10 m14,v'=(.tuple #[])∧m.le m14∧St m14 (kB b13 (V8 x2 a8 c8 a9 c9) 62::kB b10 (V9 y3.1 a5 c5 a6 c6) 52::kB b9 (V2 x1) 68::kB b4 #[vS a1 p0 c1,vB o1,.map (some b2),vS a3 s1.2.1 c3,.map (some b3)] 151::qBj (some b2) es7 ck7::qBj (some b3) es10 ck10::kR a5 y3.1.2.1 c5 9 1::kR a6 y3.1.2.2 c6 62 4::kR a3 s1.2.1 c3 9 1::O) w'∧RepS C1 m14 a1 c1 p0∧RepS C5 m14 a6 c6 y3.1.2.2∧RepS cStr m14 a8 c8 x2.2.2.1∧RepS C4 m14 a9 c9 x2.2.2.2∧RepS cStr m14 a5 c5 y3.1.2.1∧RepS cStr m14 a3 c3 s1.2.1∧MapQ (fun s:ByteArray=>Value.string s) C6 true m14 (some b2) es7 ck7 mp1∧MapQ qId C7 true m14 (some b3) es10 ck10 o5) ?_ ?_))
          ·have i:=j4;rintro _ w27 ⟨es10,ck10,m14,rfl,q,st,r1,r12,r18,r19,r11,r5,r15,r20⟩;refine⟨_,rfl,?_⟩;refine qAs rfl (qBm (qAg (qAm (qAb 2 [(66,vI (wr (s2.1+1)))] (qAs rfl ?_)))));obtain rfl:=sI i;have hL:=hSu3 _ rfl;exact xE (qCr k2 (jE _) ⟨(wr (s2.1+1),o5),es10,ck10,m14,hL,rfl,q,st.t.f7.f7.f7.f7.f7.f7.f7.f7,r1,r12,r11,r5,r15,r20⟩)
          ·refine W_cA Tryz.func160 rfl Tryz.ntmps160 ?_;refine W_sr (qAa rfl (qOg 3 73 1 (.agg (Vb y3.1.1 x2.2.1 x2.1 x1.1 s2.1 1)) st fun b14 w28 st=>(WO_e (W_sr (qCs 1 8 3 7 2 (vI x2.1) st.h (qCs 1 10 9 9 0 (vT y3.1.1) st.h (qCs 1 12 9 11 1 (vT x2.2.1) st.h (qAv 13 i (fun _ h=>qSj st h) ?_))))))));rintro y4 i _ w29 ⟨m16,rfl,e9,st⟩;have q:=q.t e9;have r1:=r1.mono e9;have r12:=r12.mono e9;have r18:=r18.mono e9;have r19:=r19.mono e9;have r11:=r11.mono e9;have r5:=r5.mono e9;have r15:=r15.mono e9;have r17:=r17.mono e9;refine qAa rfl (qCm 4 212 (.agg #[vI 0,vT eB,vT eB]) st fun b15 w30 st=>(qAa rfl (qBn 212 4 13 (.agg (Va y4)) st fun w31 st=>(WO_e (qAr (qAr (qFl [(12,fun w'=>Inv m16 w'∧Piece.holds m16 w' (kB b15 (Va y4) 212)∧Piece.holds m16 w' (kB b4 #[vS a1 p0 c1,vB o1,.map (some b2),vS a3 s1.2.1 c3,.map (some b3)] 151)∧True)] kr st fun w32 _ st=> ?_)))))));have hmS4:=m16.le_refl;refine⟨⟨.inr ⟨Inv.anti st.inv hmS4,Piece.holds_anti st.h hmS4,Piece.holds_anti st.t.t.t.t.t.h hmS4,trivial⟩,trivial⟩,?_⟩;refine qAu 0 15 (vP b4 0) (.head _) (qAu 1 16 (vP b4 0) (.head _) (qAu 2 17 (vP b4 4) (.head _) (qFa 149 17 3 18 4 (.map (some b3)) (.head _) (fun _ h=>h.2.2.1) (qFa 212 4 4 19 0 (.agg (Va y4)) (.head _) (fun _ h=>h.2.1) (qPc [5,9] kr (by simp) (qQe ?_ ?_))))))
           ·refine qIk (ek:=qId) (c:=C7) (agg:=true) (k:=y4) (zx:=(eB,eB,0,eB,0,0)) (zcs:=[vT eB,vT eB,vI 0,vT eB,vI 0,vI 0]) (z:=(.agg (Vb eB eB 0 eB 0 0))) (kt:=212) (et:=73) (d:=20) (t:=149) (x:=(.tmp 18)) (y:=(.tmp 19)) (ok:=true) kr rfl (ev (.map (some b3))) (ev (.agg (Va y4))) kr (qVv kr kr (fun _ _=>kr) (fun _ _=>kr)) st.t.t.t.t.t.t.t.h r17 ⟨_,_,rfl,rfl,⟨_,_,rfl,rfl,⟨_,_,rfl,rfl,⟨_,_,rfl,rfl,⟨_,_,rfl,rfl,rfl⟩⟩⟩⟩⟩ rfl ?_;rintro cs3 ⟨_,_,rfl,rfl,⟨_,_,rfl,rfl,⟨_,_,rfl,rfl,⟨_,_,rfl,rfl,⟨_,_,rfl,rfl,rfl⟩⟩⟩⟩⟩;refine⟨⟨.inr ⟨Inv.anti st.inv hmS4,Piece.holds_anti st.h hmS4,Piece.holds_anti st.t.t.t.t.t.h hmS4,trivial⟩,trivial⟩,?_⟩
            refine qAu 6 14 (.tuple #[.agg (Vb (((qAl s2.2 y4).getD (eB,eB,0,eB,0,0)).1) (((qAl s2.2 y4).getD (eB,eB,0,eB,0,0)).2.1) (((qAl s2.2 y4).getD (eB,eB,0,eB,0,0)).2.2.1) (((qAl s2.2 y4).getD (eB,eB,0,eB,0,0)).2.2.2.1) (((qAl s2.2 y4).getD (eB,eB,0,eB,0,0)).2.2.2.2.1) (((qAl s2.2 y4).getD (eB,eB,0,eB,0,0)).2.2.2.2.2)),vB ((qAl s2.2 y4).isSome)]) (.head _) (qAu 7 21 (.agg (Vb (((qAl s2.2 y4).getD (eB,eB,0,eB,0,0)).1) (((qAl s2.2 y4).getD (eB,eB,0,eB,0,0)).2.1) (((qAl s2.2 y4).getD (eB,eB,0,eB,0,0)).2.2.1) (((qAl s2.2 y4).getD (eB,eB,0,eB,0,0)).2.2.2.1) (((qAl s2.2 y4).getD (eB,eB,0,eB,0,0)).2.2.2.2.1) (((qAl s2.2 y4).getD (eB,eB,0,eB,0,0)).2.2.2.2.2))) (.head _) (qAu 8 22 (vB ((qAl s2.2 y4).isSome)) (.head _) (qBh 9 kr (qCm 5 73 (.agg (Vb eB eB 0 eB 0 0)) st fun b16 w33 st=>(⟨⟨.inr ⟨Inv.anti st.inv hmS4,Piece.holds_anti st.t.h hmS4,Piece.holds_anti st.t.t.t.t.t.t.h hmS4,trivial⟩,trivial⟩,?_⟩)))))
            refine qBh 10 kr (qBn 73 5 21 (.agg (Vb (((qAl s2.2 y4).getD (eB,eB,0,eB,0,0)).1) (((qAl s2.2 y4).getD (eB,eB,0,eB,0,0)).2.1) (((qAl s2.2 y4).getD (eB,eB,0,eB,0,0)).2.2.1) (((qAl s2.2 y4).getD (eB,eB,0,eB,0,0)).2.2.2.1) (((qAl s2.2 y4).getD (eB,eB,0,eB,0,0)).2.2.2.2.1) (((qAl s2.2 y4).getD (eB,eB,0,eB,0,0)).2.2.2.2.2))) st fun w34 st=>(⟨⟨.inr ⟨Inv.anti st.inv hmS4,Piece.holds_anti st.t.h hmS4,Piece.holds_anti st.t.t.t.t.t.t.h hmS4,trivial⟩,trivial⟩,?_⟩));refine qAu 11 6 (vB ((qAl s2.2 y4).isSome)) (.head _) (qCd kr (qAg (W_sr (qAe 1 [(23,vB ((qAl s2.2 y4).isSome))] ?_))));have⟨o6,i,j5⟩:=qAw i
            refine qCg .normal (fun L' w'=>∃m17,L'=[(0,vP b4 0),(3,vP b14 0),(4,vP b15 0)]∧m.le m17∧St m17 (kB b16 (Vb (((qAl s2.2 y4).getD (eB,eB,0,eB,0,0)).1) (((qAl s2.2 y4).getD (eB,eB,0,eB,0,0)).2.1) (((qAl s2.2 y4).getD (eB,eB,0,eB,0,0)).2.2.1) (((qAl s2.2 y4).getD (eB,eB,0,eB,0,0)).2.2.2.1) (((qAl s2.2 y4).getD (eB,eB,0,eB,0,0)).2.2.2.2.1) (((qAl s2.2 y4).getD (eB,eB,0,eB,0,0)).2.2.2.2.2)) 73::kB b15 (Va y4) 212::kB b14 (Vc o6) 73::kB b13 (V8 x2 a8 c8 a9 c9) 62::kB b10 (V9 y3.1 a5 c5 a6 c6) 52::kB b9 (V2 x1) 68::kB b4 #[vS a1 p0 c1,vB o1,.map (some b2),vS a3 s1.2.1 c3,.map (some b3)] 151::qBj (some b2) es7 ck7::qBj (some b3) es9 ck9::kR a5 y3.1.2.1 c5 9 1::kR a6 y3.1.2.2 c6 62 4::kR a3 s1.2.1 c3 9 1::O) w'∧RepS C1 m17 a1 c1 p0∧RepS C5 m17 a6 c6 y3.1.2.2∧RepS cStr m17 a8 c8 x2.2.2.1∧RepS C4 m17 a9 c9 x2.2.2.2∧RepS cStr m17 a5 c5 y3.1.2.1∧RepS cStr m17 a3 c3 s1.2.1∧MapQ (fun s:ByteArray=>Value.string s) C6 true m17 (some b2) es7 ck7 mp1∧MapQ qId C7 true m17 (some b3) es9 ck9 s2.2) ?_ ?_
            ·have i:=j5;rintro _ w35 ⟨m17,rfl,q,st,r1,r12,r18,r19,r11,r5,r15,r17⟩;refine qAg (qFl [(7,fun w'=>Inv m17 w'∧Piece.holds m17 w' (kB b15 (Va y4) 212)∧Piece.holds m17 w' (kB b14 (Vc o6) 73)∧Piece.holds m17 w' (kB b4 #[vS a1 p0 c1,vB o1,.map (some b2),vS a3 s1.2.1 c3,.map (some b3)] 151)∧True)] kr st fun w38 _ st=> ?_);have hmS5:=m17.le_refl;refine⟨⟨.inr ⟨Inv.anti st.inv hmS5,Piece.holds_anti st.t.h hmS5,Piece.holds_anti st.t.t.h hmS5,Piece.holds_anti st.t.t.t.t.t.t.h hmS5,trivial⟩,trivial⟩,?_⟩;refine qAu 0 29 (vP b4 0) (.head _) (qAu 1 30 (vP b4 0) (.head _) (qAu 2 31 (vP b4 4) (.head _) (qFa 149 31 3 32 4 (.map (some b3)) (.head _) (fun _ h=>h.2.2.2.1) (qFa 212 4 4 33 0 (.agg (Va y4)) (.head _) (fun _ h=>h.2.1) (qFa 73 3 5 34 0 (.agg (Vc o6)) (.head _) (fun _ h=>h.2.2.1) ?_)))));have st:=st.f8;have⟨mp2,d9,i⟩:=qAw i
             refine qBh 6 kr (qKe (ek:=qId) (c:=C7) (agg:=true) (k:=y4) (yv:=o6) (cs:=(Vd o6)) (z:=(.agg (Vb eB eB 0 eB 0 0))) (v:=(.agg (Vc o6))) (kt:=212) (et:=73) (t:=149) (x:=(.tmp 32)) (y:=(.tmp 33)) (u:=(.tmp 34)) kr (ev (.map (some b3))) (ev (.agg (Va y4))) (ev (.agg (Vc o6))) kr (qVv kr kr (fun _ _=>kr) (fun _ _=>kr)) st r17 ⟨_,_,rfl,rfl,⟨_,_,rfl,rfl,⟨_,_,rfl,rfl,⟨_,_,rfl,rfl,⟨_,_,rfl,rfl,rfl⟩⟩⟩⟩⟩ rfl d9 fun es11 ck11 w39 st r21=>(⟨⟨.inr ⟨Inv.anti st.inv hmS5,Piece.holds_anti st.t.t.h hmS5,Piece.holds_anti st.t.t.t.h hmS5,Piece.holds_anti st.t.t.t.t.t.t.t.h hmS5,trivial⟩,trivial⟩,?_⟩));refine qCd kr ?_;cases i;exact qWh [] [] rfl ResAll.nil ⟨_,rfl,⟨es11,ck11,m17,rfl,q,st.f1.t.f1.t.f1.t.f8.f8.f8.f3.f8.f8.f8.f8.f8,r1,r12,r18,r19,r11,r5,r15,r21⟩⟩
            ·intro Ku5;refine W_if i ?_ ?_
             ·intro A i;refine W_sr (qAa rfl (qBc 24 73 5 0 (.agg (Vb (((qAl s2.2 y4).getD (eB,eB,0,eB,0,0)).1) (((qAl s2.2 y4).getD (eB,eB,0,eB,0,0)).2.1) (((qAl s2.2 y4).getD (eB,eB,0,eB,0,0)).2.2.1) (((qAl s2.2 y4).getD (eB,eB,0,eB,0,0)).2.2.2.1) (((qAl s2.2 y4).getD (eB,eB,0,eB,0,0)).2.2.2.2.1) (((qAl s2.2 y4).getD (eB,eB,0,eB,0,0)).2.2.2.2.2))) st.h (qAa rfl (qBn 73 3 24 (.agg (Vb (((qAl s2.2 y4).getD (eB,eB,0,eB,0,0)).1) (((qAl s2.2 y4).getD (eB,eB,0,eB,0,0)).2.1) (((qAl s2.2 y4).getD (eB,eB,0,eB,0,0)).2.2.1) (((qAl s2.2 y4).getD (eB,eB,0,eB,0,0)).2.2.2.1) (((qAl s2.2 y4).getD (eB,eB,0,eB,0,0)).2.2.2.2.1) (((qAl s2.2 y4).getD (eB,eB,0,eB,0,0)).2.2.2.2.2))) st.f2 fun w36 st=>(WO_e (qAm (qCs 1 26 3 25 5 (vI (((qAl s2.2 y4).getD (eB,eB,0,eB,0,0)).2.2.2.2.2)) st.h (qAb 2 [(27,vI (wr ((((qAl s2.2 y4).getD (eB,eB,0,eB,0,0)).2.2.2.2.2)+1))),(28,vP b14 5)] (qAa rfl (qIb 3 28 27 5 (vI (wr ((((qAl s2.2 y4).getD (eB,eB,0,eB,0,0)).2.2.2.2.2)+1))) (Vb (((qAl s2.2 y4).getD (eB,eB,0,eB,0,0)).1) (((qAl s2.2 y4).getD (eB,eB,0,eB,0,0)).2.1) (((qAl s2.2 y4).getD (eB,eB,0,eB,0,0)).2.2.1) (((qAl s2.2 y4).getD (eB,eB,0,eB,0,0)).2.2.2.1) (((qAl s2.2 y4).getD (eB,eB,0,eB,0,0)).2.2.2.2.1) (wr ((((qAl s2.2 y4).getD (eB,eB,0,eB,0,0)).2.2.2.2.2)+1))) st fun w37 st=>(qAs rfl ?_)))))))))));cases i
              exact xE (Ku5 _ _ ⟨m16,rfl,q,st.f11.f11.f11.f11.f11.f11.f11.f11.f11.f9.f11.f11,r1,r12,r18,r19,r11,r5,r15,r17⟩)
             ·intro A i;refine qAn ?_;cases i;exact xE (Ku5 _ _ ⟨m16,rfl,q,st.f11.f11.f11.f11.f11.f11.f11.f11.f11.f11.f11.f11,r1,r12,r18,r19,r11,r5,r15,r17⟩)
           ·refine qCm 5 73 (.agg (Vb eB eB 0 eB 0 0)) st fun b16 w33 st=> ?_;refine⟨⟨.inr ⟨Inv.anti st.inv hmS4,Piece.holds_anti st.t.h hmS4,Piece.holds_anti st.t.t.t.t.t.t.h hmS4,trivial⟩,trivial⟩,?_⟩;refine qBh 5 kr (qIk (ek:=qId) (c:=C7) (agg:=true) (k:=y4) (zx:=(eB,eB,0,eB,0,0)) (zcs:=[vT eB,vT eB,vI 0,vT eB,vI 0,vI 0]) (z:=(.agg (Vb eB eB 0 eB 0 0))) (kt:=212) (et:=73) (d:=20) (t:=149) (x:=(.tmp 18)) (y:=(.tmp 19)) (ok:=true) kr rfl (ev (.map (some b3))) (ev (.agg (Va y4))) kr (qVv kr kr (fun _ _=>kr) (fun _ _=>kr)) st.t.t.t.t.t.t.t.t.h r17 ⟨_,_,rfl,rfl,⟨_,_,rfl,rfl,⟨_,_,rfl,rfl,⟨_,_,rfl,rfl,⟨_,_,rfl,rfl,rfl⟩⟩⟩⟩⟩ rfl ?_);rintro cs3 ⟨_,_,rfl,rfl,⟨_,_,rfl,rfl,⟨_,_,rfl,rfl,⟨_,_,rfl,rfl,⟨_,_,rfl,rfl,rfl⟩⟩⟩⟩⟩;refine⟨⟨.inr ⟨Inv.anti st.inv hmS4,Piece.holds_anti st.t.h hmS4,Piece.holds_anti st.t.t.t.t.t.t.h hmS4,trivial⟩,trivial⟩,?_⟩
            refine qAu 6 14 (.tuple #[.agg (Vb (((qAl s2.2 y4).getD (eB,eB,0,eB,0,0)).1) (((qAl s2.2 y4).getD (eB,eB,0,eB,0,0)).2.1) (((qAl s2.2 y4).getD (eB,eB,0,eB,0,0)).2.2.1) (((qAl s2.2 y4).getD (eB,eB,0,eB,0,0)).2.2.2.1) (((qAl s2.2 y4).getD (eB,eB,0,eB,0,0)).2.2.2.2.1) (((qAl s2.2 y4).getD (eB,eB,0,eB,0,0)).2.2.2.2.2)),vB ((qAl s2.2 y4).isSome)]) (.head _) (qAu 7 21 (.agg (Vb (((qAl s2.2 y4).getD (eB,eB,0,eB,0,0)).1) (((qAl s2.2 y4).getD (eB,eB,0,eB,0,0)).2.1) (((qAl s2.2 y4).getD (eB,eB,0,eB,0,0)).2.2.1) (((qAl s2.2 y4).getD (eB,eB,0,eB,0,0)).2.2.2.1) (((qAl s2.2 y4).getD (eB,eB,0,eB,0,0)).2.2.2.2.1) (((qAl s2.2 y4).getD (eB,eB,0,eB,0,0)).2.2.2.2.2))) (.head _) (qAu 8 22 (vB ((qAl s2.2 y4).isSome)) (.head _) (qBh 10 kr (qBn 73 5 21 (.agg (Vb (((qAl s2.2 y4).getD (eB,eB,0,eB,0,0)).1) (((qAl s2.2 y4).getD (eB,eB,0,eB,0,0)).2.1) (((qAl s2.2 y4).getD (eB,eB,0,eB,0,0)).2.2.1) (((qAl s2.2 y4).getD (eB,eB,0,eB,0,0)).2.2.2.1) (((qAl s2.2 y4).getD (eB,eB,0,eB,0,0)).2.2.2.2.1) (((qAl s2.2 y4).getD (eB,eB,0,eB,0,0)).2.2.2.2.2))) st fun w34 st=>(⟨⟨.inr ⟨Inv.anti st.inv hmS4,Piece.holds_anti st.t.h hmS4,Piece.holds_anti st.t.t.t.t.t.t.h hmS4,trivial⟩,trivial⟩,?_⟩)))));refine qAu 11 6 (vB ((qAl s2.2 y4).isSome)) (.head _) (qCd kr (qAg (W_sr (qAe 1 [(23,vB ((qAl s2.2 y4).isSome))] ?_))));have⟨o6,i,j5⟩:=qAw i
            refine qCg .normal (fun L' w'=>∃m17,L'=[(0,vP b4 0),(3,vP b14 0),(4,vP b15 0)]∧m.le m17∧St m17 (kB b16 (Vb (((qAl s2.2 y4).getD (eB,eB,0,eB,0,0)).1) (((qAl s2.2 y4).getD (eB,eB,0,eB,0,0)).2.1) (((qAl s2.2 y4).getD (eB,eB,0,eB,0,0)).2.2.1) (((qAl s2.2 y4).getD (eB,eB,0,eB,0,0)).2.2.2.1) (((qAl s2.2 y4).getD (eB,eB,0,eB,0,0)).2.2.2.2.1) (((qAl s2.2 y4).getD (eB,eB,0,eB,0,0)).2.2.2.2.2)) 73::kB b15 (Va y4) 212::kB b14 (Vc o6) 73::kB b13 (V8 x2 a8 c8 a9 c9) 62::kB b10 (V9 y3.1 a5 c5 a6 c6) 52::kB b9 (V2 x1) 68::kB b4 #[vS a1 p0 c1,vB o1,.map (some b2),vS a3 s1.2.1 c3,.map (some b3)] 151::qBj (some b2) es7 ck7::qBj (some b3) es9 ck9::kR a5 y3.1.2.1 c5 9 1::kR a6 y3.1.2.2 c6 62 4::kR a3 s1.2.1 c3 9 1::O) w'∧RepS C1 m17 a1 c1 p0∧RepS C5 m17 a6 c6 y3.1.2.2∧RepS cStr m17 a8 c8 x2.2.2.1∧RepS C4 m17 a9 c9 x2.2.2.2∧RepS cStr m17 a5 c5 y3.1.2.1∧RepS cStr m17 a3 c3 s1.2.1∧MapQ (fun s:ByteArray=>Value.string s) C6 true m17 (some b2) es7 ck7 mp1∧MapQ qId C7 true m17 (some b3) es9 ck9 s2.2) ?_ ?_
            ·have i:=j5;rintro _ w35 ⟨m17,rfl,q,st,r1,r12,r18,r19,r11,r5,r15,r17⟩;refine qAg (qFl [(7,fun w'=>Inv m17 w'∧Piece.holds m17 w' (kB b15 (Va y4) 212)∧Piece.holds m17 w' (kB b14 (Vc o6) 73)∧Piece.holds m17 w' (kB b4 #[vS a1 p0 c1,vB o1,.map (some b2),vS a3 s1.2.1 c3,.map (some b3)] 151)∧True)] kr st fun w38 _ st=> ?_);have hmS5:=m17.le_refl;refine⟨⟨.inr ⟨Inv.anti st.inv hmS5,Piece.holds_anti st.t.h hmS5,Piece.holds_anti st.t.t.h hmS5,Piece.holds_anti st.t.t.t.t.t.t.h hmS5,trivial⟩,trivial⟩,?_⟩;refine qAu 0 29 (vP b4 0) (.head _) (qAu 1 30 (vP b4 0) (.head _) (qAu 2 31 (vP b4 4) (.head _) (qFa 149 31 3 32 4 (.map (some b3)) (.head _) (fun _ h=>h.2.2.2.1) (qFa 212 4 4 33 0 (.agg (Va y4)) (.head _) (fun _ h=>h.2.1) (qFa 73 3 5 34 0 (.agg (Vc o6)) (.head _) (fun _ h=>h.2.2.1) ?_)))));have st:=st.f8;have⟨mp2,d9,i⟩:=qAw i
             refine qBh 6 kr (qKe (ek:=qId) (c:=C7) (agg:=true) (k:=y4) (yv:=o6) (cs:=(Vd o6)) (z:=(.agg (Vb eB eB 0 eB 0 0))) (v:=(.agg (Vc o6))) (kt:=212) (et:=73) (t:=149) (x:=(.tmp 32)) (y:=(.tmp 33)) (u:=(.tmp 34)) kr (ev (.map (some b3))) (ev (.agg (Va y4))) (ev (.agg (Vc o6))) kr (qVv kr kr (fun _ _=>kr) (fun _ _=>kr)) st r17 ⟨_,_,rfl,rfl,⟨_,_,rfl,rfl,⟨_,_,rfl,rfl,⟨_,_,rfl,rfl,⟨_,_,rfl,rfl,rfl⟩⟩⟩⟩⟩ rfl d9 fun es11 ck11 w39 st r21=>(⟨⟨.inr ⟨Inv.anti st.inv hmS5,Piece.holds_anti st.t.t.h hmS5,Piece.holds_anti st.t.t.t.h hmS5,Piece.holds_anti st.t.t.t.t.t.t.t.h hmS5,trivial⟩,trivial⟩,?_⟩));refine qCd kr ?_;cases i;exact qWh [] [] rfl ResAll.nil ⟨_,rfl,⟨es11,ck11,m17,rfl,q,st.f1.t.f1.t.f1.t.f8.f8.f8.f3.f8.f8.f8.f8.f8,r1,r12,r18,r19,r11,r5,r15,r21⟩⟩
            ·intro Ku5;refine W_if i ?_ ?_
             ·intro A i;refine W_sr (qAa rfl (qBc 24 73 5 0 (.agg (Vb (((qAl s2.2 y4).getD (eB,eB,0,eB,0,0)).1) (((qAl s2.2 y4).getD (eB,eB,0,eB,0,0)).2.1) (((qAl s2.2 y4).getD (eB,eB,0,eB,0,0)).2.2.1) (((qAl s2.2 y4).getD (eB,eB,0,eB,0,0)).2.2.2.1) (((qAl s2.2 y4).getD (eB,eB,0,eB,0,0)).2.2.2.2.1) (((qAl s2.2 y4).getD (eB,eB,0,eB,0,0)).2.2.2.2.2))) st.h (qAa rfl (qBn 73 3 24 (.agg (Vb (((qAl s2.2 y4).getD (eB,eB,0,eB,0,0)).1) (((qAl s2.2 y4).getD (eB,eB,0,eB,0,0)).2.1) (((qAl s2.2 y4).getD (eB,eB,0,eB,0,0)).2.2.1) (((qAl s2.2 y4).getD (eB,eB,0,eB,0,0)).2.2.2.1) (((qAl s2.2 y4).getD (eB,eB,0,eB,0,0)).2.2.2.2.1) (((qAl s2.2 y4).getD (eB,eB,0,eB,0,0)).2.2.2.2.2))) st.f2 fun w36 st=>(WO_e (qAm (qCs 1 26 3 25 5 (vI (((qAl s2.2 y4).getD (eB,eB,0,eB,0,0)).2.2.2.2.2)) st.h (qAb 2 [(27,vI (wr ((((qAl s2.2 y4).getD (eB,eB,0,eB,0,0)).2.2.2.2.2)+1))),(28,vP b14 5)] (qAa rfl (qIb 3 28 27 5 (vI (wr ((((qAl s2.2 y4).getD (eB,eB,0,eB,0,0)).2.2.2.2.2)+1))) (Vb (((qAl s2.2 y4).getD (eB,eB,0,eB,0,0)).1) (((qAl s2.2 y4).getD (eB,eB,0,eB,0,0)).2.1) (((qAl s2.2 y4).getD (eB,eB,0,eB,0,0)).2.2.1) (((qAl s2.2 y4).getD (eB,eB,0,eB,0,0)).2.2.2.1) (((qAl s2.2 y4).getD (eB,eB,0,eB,0,0)).2.2.2.2.1) (wr ((((qAl s2.2 y4).getD (eB,eB,0,eB,0,0)).2.2.2.2.2)+1))) st fun w37 st=>(qAs rfl ?_)))))))))));cases i
              exact xE (Ku5 _ _ ⟨m16,rfl,q,st.f11.f11.f11.f11.f11.f11.f11.f11.f11.f9.f11.f11,r1,r12,r18,r19,r11,r5,r15,r17⟩)
             ·intro A i;refine qAn ?_;cases i;exact xE (Ku5 _ _ ⟨m16,rfl,q,st.f11.f11.f11.f11.f11.f11.f11.f11.f11.f11.f11.f11,r1,r12,r18,r19,r11,r5,r15,r17⟩)
         ·intro A i;refine qDy (qAi ?_);cases i;have ho:=hBu3 _ rfl;have st:=st.f7.f7.f7.f7.f7.f7.f7.f7;refine qAi ?_;exact xE (K2_u3 _ _ ⟨s2.2,es9,ck9,m13,ho,rfl,q,st,r1,r11,r12,r5,r15,r17⟩)
    ·intro A i;refine qDy (qAi ?_);cases i;have ho:=hBu1 _ rfl;have st:=st.f3.f3.f3.f3;refine qAi ?_;exact xE (K0_u1 _ _ ⟨s1.2,a3,c3,es3,ck3,es4,ck4,m6,ho,rfl,q,st,r1,r5,r6,r7⟩)
 ·intro K;refine qFl [(9,fun w'=>Inv m1 w'∧True)] kr st fun w3 _ st=> ?_;have hmS1:=m1.le_refl;refine tA st hmS1 ?_;refine qMt 28 1 0 11 0 (.agg #[vS a1 p0 c1]) (.head _) (fun _ h=>h.1) hb1 (qMt 28 1 1 12 0 (.agg #[vS a1 p0 c1]) (.head _) (fun _ h=>h.1) hb1 (qPc [2,4,5] kr (by simp) (zFu ?_ ?_ ?_)))
  ·refine qCt 13 i (fun _ h=>qHf st r1 h) ?_;rintro y1 i _ w4 ⟨m3,rfl,e2,st⟩;refine⟨_,rfl,?_⟩;have hmS1:=Mem.le_trans hmS1 e2;refine tA st hmS1 ?_;refine qAu 3 14 (vB (y1==0)) (.head _) (qPc [4,5] kr (by simp) (qQe ?_ ?_))
   ·refine qEd (d:=15) (t:=148) kr rfl st fun b5 w5 st=> ?_;refine tA st hmS1 ?_;refine qBh 5 kr (qEd (d:=16) (t:=149) kr rfl st fun b6 w6 st=>(tA st hmS1 (qAu 6 17 (.agg #[vS a1 p0 c1,vB (y1==0),.map (some b5),v1,.map (some b6)]) (.head _) (qBh 7 kr (qOg 18 151 17 (.agg #[vS a1 p0 c1,vB (y1==0),.map (some b5),v1,.map (some b6)]) st fun b7 w7 st=>(tA st hmS1 (qAu 8 3 (vP b7 0) (.head _) ?_)))))));have st:=st.f1.f2;obtain rfl:=sI i;exact qCd kr (qPz _ kr (K _ _ ⟨b5,b6,b7,m3,rfl,q.t e2,st.f1.f1.f2,hb1.mono e2,r1.mono e2⟩))
   ·refine qEd (d:=16) (t:=149) kr rfl st fun b5 w5 st=> ?_;refine tA st hmS1 ?_;refine qBh 4 kr (qEd (d:=15) (t:=148) kr rfl st fun b6 w6 st=>(tA st hmS1 (qAu 6 17 (.agg #[vS a1 p0 c1,vB (y1==0),.map (some b6),v1,.map (some b5)]) (.head _) (qBh 7 kr (qOg 18 151 17 (.agg #[vS a1 p0 c1,vB (y1==0),.map (some b6),v1,.map (some b5)]) st fun b7 w7 st=>(tA st hmS1 (qAu 8 3 (vP b7 0) (.head _) ?_)))))));have st:=st.f2.f2;obtain rfl:=sI i;exact qCd kr (qPz _ kr (K _ _ ⟨b6,b5,b7,m3,rfl,q.t e2,st.f1.f1.f2,hb1.mono e2,r1.mono e2⟩))
  ·refine qEd (d:=15) (t:=148) kr rfl st fun b5 w4 st=> ?_;refine tA st hmS1 ?_;refine qPc [2,5] kr (by simp) (qQe ?_ ?_)
   ·refine qCt 13 i (fun _ h=>qHf st r1 h) ?_;rintro y1 i _ w5 ⟨m3,rfl,e2,st⟩;refine⟨_,rfl,?_⟩;have hmS1:=Mem.le_trans hmS1 e2;refine tA st hmS1 ?_;refine qAu 3 14 (vB (y1==0)) (.head _) (qBh 5 kr (qEd (d:=16) (t:=149) kr rfl st fun b6 w6 st=>(tA st hmS1 (qAu 6 17 (.agg #[vS a1 p0 c1,vB (y1==0),.map (some b5),v1,.map (some b6)]) (.head _) (qBh 7 kr (qOg 18 151 17 (.agg #[vS a1 p0 c1,vB (y1==0),.map (some b5),v1,.map (some b6)]) st fun b7 w7 st=>(tA st hmS1 (qAu 8 3 (vP b7 0) (.head _) ?_))))))));have st:=st.f1.f2;obtain rfl:=sI i;exact qCd kr (qPz _ kr (K _ _ ⟨b5,b6,b7,m3,rfl,q.t e2,st.f1.f1.f2,hb1.mono e2,r1.mono e2⟩))
   ·refine qEd (d:=16) (t:=149) kr rfl st fun b6 w5 st=> ?_;refine tA st hmS1 ?_;refine qBh 2 kr (qCt 13 i (fun _ h=>qHf st r1 h) ?_);rintro y1 i _ w6 ⟨m3,rfl,e2,st⟩;refine⟨_,rfl,?_⟩;have hmS1:=Mem.le_trans hmS1 e2;refine tA st hmS1 ?_;refine qAu 3 14 (vB (y1==0)) (.head _) (qAu 6 17 (.agg #[vS a1 p0 c1,vB (y1==0),.map (some b5),v1,.map (some b6)]) (.head _) (qBh 7 kr (qOg 18 151 17 (.agg #[vS a1 p0 c1,vB (y1==0),.map (some b5),v1,.map (some b6)]) st fun b7 w7 st=>(tA st hmS1 (qAu 8 3 (vP b7 0) (.head _) ?_)))));have st:=st.f1.f2;obtain rfl:=sI i;exact qCd kr (qPz _ kr (K _ _ ⟨b5,b6,b7,m3,rfl,q.t e2,st.f1.f1.f2,hb1.mono e2,r1.mono e2⟩))
  ·refine qEd (d:=16) (t:=149) kr rfl st fun b5 w4 st=> ?_;refine tA st hmS1 ?_;refine qPc [2,4] kr (by simp) (qQe ?_ ?_)
   ·refine qCt 13 i (fun _ h=>qHf st r1 h) ?_;rintro y1 i _ w5 ⟨m3,rfl,e2,st⟩;refine⟨_,rfl,?_⟩;have hmS1:=Mem.le_trans hmS1 e2;refine tA st hmS1 ?_;refine qAu 3 14 (vB (y1==0)) (.head _) (qBh 4 kr (qEd (d:=15) (t:=148) kr rfl st fun b6 w6 st=>(tA st hmS1 (qAu 6 17 (.agg #[vS a1 p0 c1,vB (y1==0),.map (some b6),v1,.map (some b5)]) (.head _) (qBh 7 kr (qOg 18 151 17 (.agg #[vS a1 p0 c1,vB (y1==0),.map (some b6),v1,.map (some b5)]) st fun b7 w7 st=>(tA st hmS1 (qAu 8 3 (vP b7 0) (.head _) ?_))))))));have st:=st.f2.f2;obtain rfl:=sI i;exact qCd kr (qPz _ kr (K _ _ ⟨b6,b5,b7,m3,rfl,q.t e2,st.f1.f1.f2,hb1.mono e2,r1.mono e2⟩))
   ·refine qEd (d:=15) (t:=148) kr rfl st fun b6 w5 st=> ?_;refine tA st hmS1 ?_;refine qBh 2 kr (qCt 13 i (fun _ h=>qHf st r1 h) ?_);rintro y1 i _ w6 ⟨m3,rfl,e2,st⟩;refine⟨_,rfl,?_⟩;have hmS1:=Mem.le_trans hmS1 e2;refine tA st hmS1 ?_;refine qAu 3 14 (vB (y1==0)) (.head _) (qAu 6 17 (.agg #[vS a1 p0 c1,vB (y1==0),.map (some b6),v1,.map (some b5)]) (.head _) (qBh 7 kr (qOg 18 151 17 (.agg #[vS a1 p0 c1,vB (y1==0),.map (some b6),v1,.map (some b5)]) st fun b7 w7 st=>(tA st hmS1 (qAu 8 3 (vP b7 0) (.head _) ?_)))));have st:=st.f2.f2;obtain rfl:=sI i;exact qCd kr (qPz _ kr (K _ _ ⟨b6,b5,b7,m3,rfl,q.t e2,st.f1.f1.f2,hb1.mono e2,r1.mono e2⟩))
def qGj(N:Nat)(p0:T1s):Option T1y:=
 (if(p0.2.2.1==3)=true then(some (⟨#[]⟩:ByteArray)) else(some p0.1):Te).bind fun o1=>some (p0.2.2.1==3,o1,p0.2.1,p0.2.2.1)
theorem qLt{p0:T1s}{r:T1y}(st:St m (O) w)(i:qGj N p0=some r):Calls Tryz.prog 91 #[.agg (Vc p0)] w fun e w'=>∃m',e= .returned (.agg (Ve r))∧m.le m'∧St m' (O) w':=by
 unfold qGj at i;have q:=m.le_refl;refine W_cA Tryz.func91 rfl Tryz.ntmps91 ?_;refine W_sr (qAa rfl (qJw 1 73 0 (.agg (Vc p0)) st fun b1 m1 w1 e1 st hb1=>(qAa rfl (qCm 2 144 (.agg #[vB false,vT eB,vT eB,vI 0]) st fun b2 w2 st=>(WO_e (W_sr (qAb 1 [(4,vP b1 2)] (qAa rfl (qHm (d:=5) (t:=3) (x:=(.tmp 4)) (vI p0.2.2.1) kr rfl (ev (vP b1 2)) st (hb1.drop 2) kr (qAb 2 [(6,vB (p0.2.2.1==3)),(7,vP b1 0)] (qHg 8 9 7 0 (vT p0.1) st hb1 (qAb 1 [(9,vP b1 1)] (qAa rfl (qHm (d:=10) (t:=9) (x:=(.tmp 9)) (vT p0.2.1) kr rfl (ev (vP b1 1)) st (hb1.drop 1) kr (qAb 1 [(11,vP b1 2)] (qAa rfl (qHm (d:=12) (t:=3) (x:=(.tmp 11)) (vI p0.2.2.1) kr rfl (ev (vP b1 2)) st (hb1.drop 2) kr (qAb 1 [(13,.agg #[vB (p0.2.2.1==3),vT p0.1,vT p0.2.1,vI p0.2.2.1])] (qAa rfl (qCm 3 144 (.agg #[vB false,vT eB,vT eB,vI 0]) st fun b3 w3 st=>(qAa rfl (qBn 144 3 13 (.agg #[vB (p0.2.2.1==3),vT p0.1,vT p0.2.1,vI p0.2.2.1]) st fun w4 st=>(WO_e (qAr (W_sr (qCs 1 15 4 14 0 (vB (p0.2.2.1==3)) st.h (WO_e ?_)))))))))))))))))))))))))));have⟨o1,i,j1⟩:=qAw i;refine qCg .normal (fun L' w'=>∃m2,L'=[(2,vP b2 0),(3,vP b3 0)]∧m.le m2∧St m2 (kB b3 #[vB (p0.2.2.1==3),vT o1,vT p0.2.1,vI p0.2.2.1] 144::kB b2 #[vB false,vT eB,vT eB,vI 0] 144::O) w') ?_ ?_
 ·have i:=j1;rintro _ w5 ⟨m2,rfl,q,st⟩;refine qAg (W_sr (qAa rfl (qBc 17 144 3 0 (.agg #[vB (p0.2.2.1==3),vT o1,vT p0.2.1,vI p0.2.2.1]) st.h (qAa rfl (qBn 144 2 17 (.agg #[vB (p0.2.2.1==3),vT o1,vT p0.2.1,vI p0.2.2.1]) st.f1 fun w7 st=>(WO_e (qBb ?_)))))));obtain rfl:=sI i;exact qKb [.cell 2 144] [.agg #[vB (p0.2.2.1==3),vT o1,vT p0.2.1,vI p0.2.2.1]] rfl (ResAll.cons (ResAt.blk (v:= .agg #[vB (p0.2.2.1==3),vT o1,vT p0.2.1,vI p0.2.2.1]) (o:=0) kr st.h kr) ResAll.nil) ⟨m2,rfl,q,st.t.t⟩
 ·intro Ku1;refine W_if i ?_ ?_
  ·intro A i;refine qAm (qAb 1 [(16,vP b3 1)] (qAa rfl (qIb 9 16 ((.const (vT eB))) 1 (vT eB) #[vB (p0.2.2.1==3),vT eB,vT p0.2.1,vI p0.2.2.1] st fun w6 st=>(qAs rfl ?_))));cases i;exact xE (Ku1 _ _ ⟨m1,rfl,q.t e1,st.f1.f1⟩)
  ·intro A i;refine qAn ?_;cases i;exact xE (Ku1 _ _ ⟨m1,rfl,q.t e1,st.f1.f1⟩)
def qDs(N:Nat)(p0:ByteArray)(p1:ByteArray):T8:=
 some (cmpS p0 p1)
theorem qKj{p0:ByteArray}{p1:ByteArray}{r:Int}(st:St m (O) w)(i:qDs N p0 p1=some r):Calls Tryz.prog 223 #[vT p0,vT p1] w fun e w'=>∃m',e= .returned (vI r)∧m.le m'∧St m' (O) w':=by
 unfold qDs at i;have q:=m.le_refl;refine W_cA Tryz.func223 rfl Tryz.ntmps223 ?_;refine W_sr (qAe 1 [] (W_sr (qAb 2 [(5,vT p0),(6,vT p1)] (qAa rfl (zDj (d:=7) (f:=267) (x:=(.tmp 5)) (y:=(.tmp 6)) (ts:= #[9,9]) kr rfl (ev (vT p0)) (ev (vT p1)) Tryz.func267 kr kr (qAe 1 [(4,vI (cmpS p0 p1))] (qBb ?_)))))));cases i;exact X_rt [4] [vI (cmpS p0 p1)] ⟨m,rfl,q,st⟩
def qHi(N:Nat)(p0:ByteArray)(p1:ByteArray):T8:=
 (qDs N p0 p1).bind fun y1=>some y1
theorem qMh{p0:ByteArray}{p1:ByteArray}{r:Int}(st:St m (O) w)(i:qHi N p0 p1=some r):Calls Tryz.prog 164 #[vT p0,vT p1] w fun e w'=>∃m',e= .returned (vI r)∧m.le m'∧St m' (O) w':=by
 unfold qHi at i;have q:=m.le_refl;refine W_cA Tryz.func164 rfl Tryz.ntmps164 ?_;refine W_sr (qAe 1 [] (W_sr (qAb 2 [(5,vT p0),(6,vT p1)] (qAv 7 i (fun _ h=>qKj st h) ?_))));rintro y1 i _ w1 ⟨m1,rfl,e1,st⟩;refine qAe 1 [(4,vI y1)] (qBb ?_);obtain rfl:=sI i;exact X_rt [4] [vI y1] ⟨m1,rfl,q.t e1,st⟩
def qIq(N:Nat)(p0:Int):Td:=
 some (p0 !=p0)
theorem qOe{p0:Int}{r:Bool}(st:St m (O) w)(i:qIq N p0=some r):Calls Tryz.prog 224 #[vI p0] w fun e w'=>∃m',e= .returned (vB r)∧m.le m'∧St m' (O) w':=by
 unfold qIq at i;have q:=m.le_refl;refine W_cA Tryz.func224 rfl Tryz.ntmps224 ?_;refine W_sr (qAe 1 [] (W_sr (qAe 4 [(2,vB (p0 !=p0))] (qBb ?_))));cases i;exact X_rt [2] [vB (p0 !=p0)] ⟨m,rfl,q,st⟩
def qIh(N:Nat)(p0:Int)(p1:Int):T8:=
 (qIq N p0).bind fun y1=>(qIq N p1).bind fun y2=>if y1=true then(if y2=true then(some 0) else(some (-1))) else(if y2=true then(some 1) else(if(decide (p0<p1))=true then(some (-1)) else(if(decide (p0>p1))=true then(some 1) else(some 0))))
theorem qQz{p0:Int}{p1:Int}{r:Int}(st:St m (O) w)(i:qIh N p0 p1=some r):Calls Tryz.prog 165 #[vI p0,vI p1] w fun e w'=>∃m',e= .returned (vI r)∧m.le m'∧St m' (O) w':=by
 unfold qIh at i;have q:=m.le_refl;refine W_cA Tryz.func165 rfl Tryz.ntmps165 ?_;refine W_sr (qAe 1 [] (W_sr (qAb 1 [(7,vI p0)] (qAv 8 i (fun _ h=>qOe st h) ?_))));rintro y1 i _ w1 ⟨m1,rfl,e1,st⟩;refine qAe 1 [(5,vB y1)] (W_sr (qAb 1 [(9,vI p1)] (qAv 10 i (fun _ h=>qOe st h) ?_)));rintro y2 i _ w2 ⟨m2,rfl,e2,st⟩;have q:=(q.t e1).t e2;refine qAe 1 [(6,vB y2)] (qAr (W_sr (qAe 1 [(11,vB y1)] (W_if i ?_ ?_))))
 ·intro A i;refine qAr (W_sr (qAe 1 [(12,vB y2)] (W_if i ?_ ?_)))
  ·intro A i;refine W_sr (qAe 1 [(4,vI 0)] (qBb (qAf (qAf ?_))));cases i;exact X_rt [4] [vI 0] ⟨m2,rfl,q,st⟩
  ·intro A i;refine qAn (qAg (W_sr (qAe 1 [(4,vI (-1))] (qBb (qAf ?_)))));cases i;exact X_rt [4] [vI (-1)] ⟨m2,rfl,q,st⟩
 ·intro A i;refine qAn (qAg (qAr (W_sr (qAe 1 [(13,vB y2)] (W_if i ?_ ?_)))))
  ·intro A i;refine W_sr (qAe 1 [(4,vI 1)] (qBb (qAf ?_)));cases i;exact X_rt [4] [vI 1] ⟨m2,rfl,q,st⟩
  ·intro A i;refine qAn (qAg (qAr (W_sr (qAe 3 [(16,vB (decide (p0<p1)))] (W_if i ?_ ?_)))))
   ·intro A i;refine W_sr (qAe 1 [(4,vI (-1))] (qBb (qAf ?_)));cases i;exact X_rt [4] [vI (-1)] ⟨m2,rfl,q,st⟩
   ·intro A i;refine qAn (qAg (qAr (W_sr (qAe 3 [(19,vB (decide (p0>p1)))] (W_if i ?_ ?_)))))
    ·intro A i;refine W_sr (qAe 1 [(4,vI 1)] (qBb (qAf ?_)));cases i;exact X_rt [4] [vI 1] ⟨m2,rfl,q,st⟩
    ·intro A i;refine qAn (qAg (W_sr (qAe 1 [(4,vI 0)] (qBb ?_))));cases i;exact X_rt [4] [vI 0] ⟨m2,rfl,q,st⟩
def qLi(N:Nat)(p0:T9)(s1:Int):Option (Int⊕Unit⊕Int):=
 if(decide (s1<(List.length p0:Int)))=true then((idx p0 s1).bind fun x1=>if(x1 !=0)=true then(some (.inr (.inr (x1)))) else(some (.inl (IntKind.wrap .i64 (s1+1))))) else(some (.inr (.inl ())))
def qNc(N:Nat)(p0:T9):T8:=
 (qBf (qLi N p0) N 0).bind fun out1=>(match out1 with| .inl o1=>some 0| .inr (z)=>some z)
theorem qWs{p0:T9}{r:Int}(st:St m (O) w)(r1:RepS (cInt .i64) m a1 c1 p0)(i:qNc N p0=some r):Calls Tryz.prog 163 #[vS a1 p0 c1] w fun e w'=>∃m',e= .returned (vI r)∧m.le m'∧St m' (O) w':=by
 unfold qNc at i;have q:=m.le_refl;refine W_cA Tryz.func163 rfl Tryz.ntmps163 ?_;refine W_sr (qAe 1 [] (W_sr (qAe 1 [(3,vI 0)] (qAr (W_sr (qAe 3 [(6,vS a1 p0 c1),(7,vI (p0.length:Int)),(8,vI 0)] (qAy ?_)))))));have⟨out1,i,j1⟩:=qAw i;refine qCg (.exit 0) (fun L' w'=>∃(o1:Unit),∃m1,(.inl o1)=out1∧L'=[(3,vI 0)]∧m.le m1∧St m1 (O) w') ?_ ?_
 ·rintro _ w1 ⟨o1,m1,rfl,rfl,q,st⟩;have i:=j1;refine qBk (qAg (W_sr (qAe 2 [(2,vI 0)] (qBb ?_))));cases i;exact X_rt [2] [vI 0] ⟨m1,rfl,q,st⟩
 intro K0_u1;refine qHk _ kr (qEl (fun k1 L' w'=>∃(s1:Int),∃m2,qBf (qLi N p0) k1 s1=some out1∧L'=[(3,vI 0),(6,vS a1 p0 c1),(7,vI (p0.length:Int)),(8,vI s1)]∧m.le m2∧St m2 (O) w'∧RepS (cInt .i64) m2 a1 c1 p0) N ⟨0,m,i,rfl,q,st,r1⟩ ?_);rintro k1 _ w2 ⟨s1,m2,hL,rfl,q,st,r1⟩;rcases k1 with _|k1
 ·exact qBr hL
 ·obtain⟨qu1,i,hSu1,hBu1⟩:=qBs hL;clear hL;unfold qLi at i;refine W_sr (qAe 1 [(9,vB (decide (s1<(p0.length:Int))))] (qAr (W_if i ?_ ?_)))
  ·intro A i;refine qAn (qAg (qAr (qAy (W_sr (qAa rfl (qGx 10 22 3 6 8 r1 i ?_))))));rintro x1 i b1 f1 cs1 rfl hq1;refine qHg 11 3 10 f1 (vI x1) st hq1 (qAe 1 [(5,vI x1)] (W_sr (qAe 3 [(14,vB (x1 !=0))] (W_if i ?_ ?_))))
   ·intro A i;refine W_sr (qAe 2 [(2,vI x1)] (qBb (qAh (qAf ?_))));obtain rfl:=sI i;have ho:=hBu1 _ rfl;subst ho;have i:=j1;refine qAf (qAh (qAf ?_));obtain rfl:=sI i;exact X_rt [2] [vI x1] ⟨m2,rfl,q,st⟩
   ·intro A i;refine qAn (qBm (qAg (qAm (qAb 2 [(8,vI (wr (s1+1)))] (qAs rfl ?_)))));obtain rfl:=sI i;have hL:=hSu1 _ rfl;exact xE (qCr k1 (jE _) ⟨wr (s1+1),m2,hL,rfl,q,st,r1⟩)
  ·intro A i;refine qDy (qAi ?_);cases i;have ho:=hBu1 _ rfl;refine qAi ?_;exact xE (K0_u1 _ _ ⟨(),m2,ho,rfl,q,st⟩)
def qJb(N:Nat)(p0:T1y)(p1:T1y):T8:=
 if((p0.1==p1.1)&&((p0.2.1.toList==p1.2.1.toList)&&((p0.2.2.1.toList==p1.2.2.1.toList)&&((p0.2.2.2==p1.2.2.2)&&true))))=true then(some 0) else(if(!(p0.1==p1.1))=true then(if p1.1=true then(some (-1)) else(some 1)) else((qHi N p0.2.1 p1.2.1).bind fun y1=>(qIh N p0.2.2.2 p1.2.2.2).bind fun y2=>(qHi N p0.2.2.1 p1.2.2.1).bind fun y3=>(qNc N ([y1,y2,y3])).bind fun y4=>some y4))
theorem qQd{p0:T1y}{p1:T1y}{r:Int}(st:St m (O) w)(i:qJb N p0 p1=some r):Calls Tryz.prog 90 #[.agg (Ve p0),.agg (Ve p1)] w fun e w'=>∃m',e= .returned (vI r)∧m.le m'∧St m' (O) w':=by
 unfold qJb at i;have q:=m.le_refl;refine W_cA Tryz.func90 rfl Tryz.ntmps90 ?_;refine W_sr (qAa rfl (qJw 2 144 0 (.agg (Ve p0)) st fun b1 m1 w1 e1 st hb1=>(qAa rfl (qJw 3 144 1 (.agg (Ve p1)) st fun b2 m2 w2 e2 st hb2=> ?_))));have q:=(q.t e1).t e2;have hb1:=hb1.mono e2;refine qAe 1 [] (qAr (qAy (W_sr (qHg 6 144 2 0 (.agg (Ve p0)) st hb1 (qHg 7 144 3 0 (.agg (Ve p1)) st hb2 (qAa rfl (qYy (d:=8) (t:=144) (t2:=144) (x:=(.tmp 6)) (y:=(.tmp 7)) (xs:=(Ve p0)) (ys:=(Ve p1)) ((p0.1==p1.1)&&((p0.2.1.toList==p1.2.1.toList)&&((p0.2.2.1.toList==p1.2.2.1.toList)&&((p0.2.2.2==p1.2.2.2)&&true)))) kr rfl (ev (.agg (Ve p0))) (ev (.agg (Ve p1))) kr kr kr (qAe 1 [(5,vB ((p0.1==p1.1)&&((p0.2.1.toList==p1.2.1.toList)&&((p0.2.2.1.toList==p1.2.2.1.toList)&&((p0.2.2.2==p1.2.2.2)&&true)))))] (W_if i ?_ ?_)))))))))
 ·intro A i;refine W_sr (qAe 1 [(4,vI 0)] (qBb (qAh (qAf ?_))));cases i;exact X_rt [4] [vI 0] ⟨m2,rfl,q,st⟩
 ·intro A i;refine W_sr (qAb 1 [(10,vP b1 0)] (qHg 11 4 10 0 (vB p0.1) st hb1 (qAb 1 [(12,vP b2 0)] (qHg 13 4 12 0 (vB p1.1) st hb2 (qAe 2 [(9,vB (!(p0.1==p1.1)))] (W_if i ?_ ?_))))))
  ·intro A i;refine qAr (W_sr (qAb 1 [(15,vP b2 0)] (qHg 16 4 15 0 (vB p1.1) st hb2 (WO_e (W_if i ?_ ?_)))))
   ·intro A i;refine W_sr (qAe 1 [(4,vI (-1))] (qBb (qAf (qAh (qAf ?_)))));cases i;exact X_rt [4] [vI (-1)] ⟨m2,rfl,q,st⟩
   ·intro A i;refine qAn (qAg (W_sr (qAe 1 [(4,vI 1)] (qBb (qAh (qAf ?_))))));cases i;exact X_rt [4] [vI 1] ⟨m2,rfl,q,st⟩
  ·intro A i;refine qAn (qBm (qAg (qAr (qFl [(18,fun w'=>Inv m2 w'∧True)] kr st fun w3 _ st=> ?_))));have hmS1:=m2.le_refl;refine tA st hmS1 ?_;refine qAu 0 17 (vP b1 1) (.head _) (qMt 9 17 1 18 1 (vT p0.2.1) (.head _) (fun _ h=>h.1) (hb1.drop 1) (qAu 2 19 (vP b2 1) (.head _) (qMt 9 19 3 20 1 (vT p1.2.1) (.head _) (fun _ h=>h.1) (hb2.drop 1) (qAu 5 22 (vP b1 3) (.head _) (qMt 3 22 6 23 3 (vI p0.2.2.2) (.head _) (fun _ h=>h.1) (hb1.drop 3) (qAu 7 24 (vP b2 3) (.head _) (qMt 3 24 8 25 3 (vI p1.2.2.2) (.head _) (fun _ h=>h.1) (hb2.drop 3) (qAu 10 27 (vP b1 2) (.head _) (qMt 9 27 11 28 2 (vT p0.2.2.1) (.head _) (fun _ h=>h.1) (hb1.drop 2) (qAu 12 29 (vP b2 2) (.head _) (qMt 9 29 13 30 2 (vT p1.2.2.1) (.head _) (fun _ h=>h.1) (hb2.drop 2) (qBh 4 kr (qCt 21 i (fun _ h=>qMh st h) ?_)))))))))))));rintro y1 i _ w4 ⟨m3,rfl,e3,st⟩;refine⟨_,rfl,?_⟩;have hmS1:=Mem.le_trans hmS1 e3;refine tA st hmS1 ?_;refine qBh 9 kr (qCt 26 i (fun _ h=>qQz st h) ?_);rintro y2 i _ w5 ⟨m4,rfl,e4,st⟩;refine⟨_,rfl,?_⟩;have hmS1:=Mem.le_trans hmS1 e4;refine tA st hmS1 ?_;refine qBh 14 kr (qCt 31 i (fun _ h=>qMh st h) ?_);rintro y3 i _ w6 ⟨m5,rfl,e5,st⟩;refine⟨_,rfl,?_⟩;have hmS1:=Mem.le_trans hmS1 e5;refine tA st hmS1 ?_
   refine qBh 15 kr (qAq (d:=32) (t:=22) (e:=3) (len:=3) (parts:= #[(0,(.tmp 21)),(1,(.tmp 26)),(2,(.tmp 31))]) (cInt .i64) (xs:=[y1,y2,y3]) [vI y1,vI y2,vI y3] kr rfl (fun _=>qAp kr _) rfl rfl st ⟨[vI y1],_,rfl,rfl,⟨[vI y2],_,rfl,rfl,⟨[vI y3],_,rfl,rfl,rfl⟩⟩⟩ fun b3 m6 w7 e6 st r1=> ?_);have hmS1:=Mem.le_trans hmS1 e6;refine tA st hmS1 ?_;refine qBh 16 kr (qCt 33 i (fun _ h=>qWs st r1 h) ?_);rintro y4 i _ w8 ⟨m7,rfl,e7,st⟩;refine⟨_,rfl,?_⟩;have hmS1:=Mem.le_trans hmS1 e7;refine tA st hmS1 ?_;refine qAu 17 4 (vI y4) (.head _) (qCd kr ?_);have st:=st.t;refine qAg (qBb ?_);obtain rfl:=sI i;exact X_rt [4] [vI y4] ⟨m7,rfl,((((q.t e3).t e4).t e5).t e6).t e7,st⟩
def qHp(N:Nat)(p0:T1s)(p1:T1s):T8:=
 (qGj N p0).bind fun y1=>(qGj N p1).bind fun y2=>(qJb N y1 y2).bind fun y3=>some y3
theorem qOl{p0:T1s}{p1:T1s}{r:Int}(st:St m (O) w)(i:qHp N p0 p1=some r):Calls Tryz.prog 89 #[.agg (Vc p0),.agg (Vc p1)] w fun e w'=>∃m',e= .returned (vI r)∧m.le m'∧St m' (O) w':=by
 unfold qHp at i;have q:=m.le_refl;refine W_cA Tryz.func89 rfl Tryz.ntmps89 ?_;refine W_sr (qAa rfl (qJw 2 73 0 (.agg (Vc p0)) st fun b1 m1 w1 e1 st hb1=>(qAa rfl (qJw 3 73 1 (.agg (Vc p1)) st fun b2 m2 w2 e2 st hb2=>(qAe 1 [] (qAr (qFl [(6,fun w'=>Inv m2 w'∧True)] kr st fun w3 _ st=> ?_)))))));have hmS1:=m2.le_refl;refine tA st hmS1 ?_;refine qMt 73 2 0 5 0 (.agg (Vc p0)) (.head _) (fun _ h=>h.1) (hb1.mono e2) (qMt 73 3 2 7 0 (.agg (Vc p1)) (.head _) (fun _ h=>h.1) hb2 (qBh 1 kr (qCt 6 i (fun _ h=>qLt st h) ?_)));rintro y1 i _ w4 ⟨m3,rfl,e3,st⟩;refine⟨_,rfl,?_⟩;have hmS1:=Mem.le_trans hmS1 e3;refine tA st hmS1 ?_;refine qBh 3 kr (qCt 8 i (fun _ h=>qLt st h) ?_);rintro y2 i _ w5 ⟨m4,rfl,e4,st⟩;refine⟨_,rfl,?_⟩;have hmS1:=Mem.le_trans hmS1 e4;refine tA st hmS1 ?_;refine qBh 4 kr (qCt 9 i (fun _ h=>qQd st h) ?_);rintro y3 i _ w6 ⟨m5,rfl,e5,st⟩;refine⟨_,rfl,?_⟩;have hmS1:=Mem.le_trans hmS1 e5;refine tA st hmS1 ?_;refine qAu 5 4 (vI y3) (.head _) (qCd kr (qAg (qBb ?_)));obtain rfl:=sI i;exact X_rt [4] [vI y3] ⟨m5,rfl,((((q.t e1).t e2).t e3).t e4).t e5,st⟩
def qXq:Go.Shelf.Ren:=⟨fun|6=>88|15=>162|14=>161|28=>221|29=>222|20=>213|21=>214|22=>215|23=>216|24=>217|25=>218|26=>219|27=>220|46=>262|47=>263|48=>264|49=>265|50=>266|57=>286|n=>n,fun|22=>70|24=>73|25=>146|3=>3|39=>215|0=>0|53=>262|55=>232|4=>4|46=>256|45=>255|50=>171|5=>5|9=>9|66=>284|70=>288|76=>300|77=>166|n=>n,fun|n=>n⟩
theorem zGj:Go.Proofs.SlLaysF0.n6 Tryz.prog qXq where
 mixed:=kr
 f6:=⟨Tryz.f88.name,kr,Tryz.func88.trans (congrArg some kr)⟩
 f14:=⟨Tryz.f161.name,kr,Tryz.func161.trans (congrArg some kr)⟩
 f15:=Tryz.func162.trans (congrArg some kr)
 f20:=⟨Tryz.f213.name,kr,Tryz.func213.trans (congrArg some kr)⟩
 f21:=⟨Tryz.f214.name,kr,Tryz.func214.trans (congrArg some kr)⟩
 f22:=⟨Tryz.f215.name,kr,Tryz.func215.trans (congrArg some kr)⟩
 f23:=⟨Tryz.f216.name,kr,Tryz.func216.trans (congrArg some kr)⟩
 f24:=⟨Tryz.f217.name,kr,Tryz.func217.trans (congrArg some kr)⟩
 f25:=⟨Tryz.f218.name,kr,Tryz.func218.trans (congrArg some kr)⟩
 f26:=⟨Tryz.f219.name,kr,Tryz.func219.trans (congrArg some kr)⟩
 f27:=⟨Tryz.f220.name,kr,Tryz.func220.trans (congrArg some kr)⟩
 f28:=Tryz.func221.trans (congrArg some kr)
 f29:=Tryz.func222.trans (congrArg some kr)
 f46:=⟨Tryz.f262.name,kr,Tryz.func262.trans (congrArg some kr)⟩
 f47:=Tryz.func263.trans (congrArg some kr)
 f48:=Tryz.func264.trans (congrArg some kr)
 f49:=⟨Tryz.f265.name,kr,Tryz.func265.trans (congrArg some kr)⟩
 f50:=⟨Tryz.f266.name,kr,Tryz.func266.trans (congrArg some kr)⟩
 f57:=⟨Tryz.f286.name,kr,Tryz.func286.trans (congrArg some kr)⟩
 t0:=Tryz.underlying0
 a0:=Tryz.isAgg0
 z0:=Tryz.sizeOf0
 v0:=Tryz.zeroValue0
 t3:=Tryz.underlying3
 a3:=Tryz.isAgg3
 z3:=Tryz.sizeOf3
 v3:=Tryz.zeroValue3
 t4:=Tryz.underlying4
 a4:=Tryz.isAgg4
 z4:=Tryz.sizeOf4
 v4:=Tryz.zeroValue4
 t5:=Tryz.underlying5
 a5:=Tryz.isAgg5
 z5:=Tryz.sizeOf5
 v5:=Tryz.zeroValue5
 t9:=Tryz.underlying9
 a9:=Tryz.isAgg9
 z9:=Tryz.sizeOf9
 v9:=Tryz.zeroValue9
 t22:=Tryz.underlying70
 a22:=Tryz.isAgg70
 z22:=Tryz.sizeOf70
 v22:=Tryz.zeroValue70
 t25:=Tryz.underlying146
 a25:=Tryz.isAgg146
 z25:=Tryz.sizeOf146
 v25:=Tryz.zeroValue146
 t39:=Tryz.underlying215
 a39:=Tryz.isAgg215
 z39:=Tryz.sizeOf215
 v39:=Tryz.zeroValue215
 t45:=Tryz.underlying255
 a45:=Tryz.isAgg255
 z45:=Tryz.sizeOf255
 v45:=Tryz.zeroValue255
 t46:=Tryz.underlying256
 a46:=Tryz.isAgg256
 z46:=Tryz.sizeOf256
 v46:=Tryz.zeroValue256
 t50:=Tryz.underlying171
 a50:=Tryz.isAgg171
 z50:=Tryz.sizeOf171
 v50:=Tryz.zeroValue171
 t53:=Tryz.underlying262
 a53:=Tryz.isAgg262
 z53:=Tryz.sizeOf262
 v53:=Tryz.zeroValue262
 t55:=Tryz.underlying232
 a55:=Tryz.isAgg232
 z55:=Tryz.sizeOf232
 v55:=Tryz.zeroValue232
 t66:=Tryz.underlying284
 a66:=Tryz.isAgg284
 z66:=Tryz.sizeOf284
 v66:=Tryz.zeroValue284
 t70:=Tryz.underlying288
 a70:=Tryz.isAgg288
 z70:=Tryz.sizeOf288
 v70:=Tryz.zeroValue288
 t76:=Tryz.underlying300
 a76:=Tryz.isAgg300
 z76:=Tryz.sizeOf300
 v76:=Tryz.zeroValue300
 t77:=Tryz.underlying166
 a77:=Tryz.isAgg166
 z77:=Tryz.sizeOf166
 v77:=Tryz.zeroValue166
theorem qUx(x y:Int):qIh N x y=some (cmpI x y):=by
 have h:∀z:Int,qIq N z=some false:=fun z=>by simp[qIq]
 simp only[qIh,h,j0,cmpI]
 by_cases h1:x<y
 ·simp[h1]
 ·by_cases h2:x>y
  ·simp[h1,h2]
  ·simp[h1,h2]
theorem qQt(x y:ByteArray):qHi N x y=some (cmpS x y):=by simp[qHi,qDs]
theorem zGr(hN:10≤N)(a b c:Int):qNc N [a,b,c]=some (if a≠0 then a else if b≠0 then b else c):=by
 obtain⟨k,rfl⟩:∃k,N=k+4:=⟨N-4,by omega⟩;have w1:wr 1=1:=by decide
 have w2:wr 2=2:=by decide
 have w3:wr 3=3:=by decide
 have i0:idx [a,b,c] 0=some a:=rfl;have i1:idx [a,b,c] 1=some b:=rfl;have i2:idx [a,b,c] 2=some c:=rfl;simp only[qNc,qBf,qLi,jA,jB,i0,j0]
 by_cases ha:a=0
 ·subst ha
  by_cases hb:b=0
  ·subst hb
   by_cases A:c=0
   ·subst A;simp[w1,w2,w3,i1,i2]
   ·simp[w1,w2,i1,i2,A]
  ·simp[w1,i1,hb]
 ·simp[ha]
def qLy(x:T1s):Int×T5×Tt:=(if x.2.2.1=3 then 1 else 0,if x.2.2.1=3 then(⟨#[]⟩:ByteArray) else x.1,x.2.2.1,x.2.1)
def qZu:Int×T5×Tt→Int×T5×Tt→Int:=lexC cmpI (lexC cmpS (lexC cmpI cmpS))
theorem cmpPl_lin:Lin qZu:=qYb zCs (qYb zCx (qYb zCs zCx))
def qJo(x y:T1s):Int:=qZu (qLy x) (qLy y)
theorem cmpEnt_swo:Go.Sort.SWO (Go.Proofs.ltOf qJo):=zHp cmpPl_lin.swo qLy
theorem qNw(x y:T1s):qJo x y<0↔0<qJo y x:=cmpPl_lin.anti _ _
theorem qMg(x:T1s):qGj N x=some (x.2.2.1==3,if x.2.2.1=3 then eB else x.1,x.2.1,x.2.2.1):=by
 unfold qGj
 by_cases h:x.2.2.1=3
 ·simp[h]
 ·simp[h]
theorem qOu(hN:10≤N)(x y:T1s):qHp N x y=some (qJo x y):=by
 have bt:∀{a b:ByteArray},a.toList=b.toList→a=b:=fun {a b} e=>by
  rw[ByteArray.toList_eq,ByteArray.toList_eq] at e;exact Go.WideShapes.bytes_inj e
 have px:=qMg (N:=N) x;have py:=qMg (N:=N) y;unfold qHp;rw[px,py];simp only[j0,qJb,qQt,qUx,zGr hN];have hz:=cmpPl_lin.zero (qLy x) (qLy y);unfold qJo;have A:(((x.2.2.1==3)==(y.2.2.1==3))&&(((if x.2.2.1=3 then eB else x.1).toList==(if y.2.2.1=3 then eB else y.1).toList)&&((x.2.1.toList==y.2.1.toList)&&((x.2.2.1==y.2.2.1)&&true))))=true↔qLy x=qLy y:=by
  simp only[qLy,Prod.mk.injEq,jO,kC,and_true]
  constructor
  ·rintro⟨h1,h2,h3,h4⟩;exact⟨by rw[h4],bt h2,h4,bt h3⟩
  ·rintro⟨h1,h2,h3,h4⟩;exact⟨by rw[h3],by rw[h2],by rw[h4],h3⟩
 by_cases h:qLy x=qLy y
 ·rw[hz.2 h];rw[if_pos (A.2 h)];rfl
 ·rw[if_neg fun g=>h (A.1 g)]
  by_cases hx:x.2.2.1=3
  ·have hx':(x.2.2.1==3)=true:=by simpa using hx
   by_cases hy:y.2.2.1=3
   ·have hy':(y.2.2.1==3)=true:=by simpa using hy
    simp[qZu,lexC,qLy,cmpI,hx,hy,hx',hy']
   ·have hy':(y.2.2.1==3)=false:=by simpa using hy
    simp[qZu,lexC,qLy,cmpI,hx,hy,hx',hy']
  ·have hx':(x.2.2.1==3)=false:=by simpa using hx
   by_cases hy:y.2.2.1=3
   ·have hy':(y.2.2.1==3)=true:=by simpa using hy
    simp[qZu,lexC,qLy,cmpI,hx,hy,hx',hy']
   ·have hy':(y.2.2.1==3)=false:=by simpa using hy
    simp[qZu,lexC,qLy,cmpI,hx,hy,hx',hy']
def qAo(N:Nat)(l:T1z):Option T1z:=if 10≤N∧l.length<4611686018427387904∧(∀x∈l,∀y∈l,qJo x y=0→x=y) then some (l.mergeSort fun x y=> !(Go.Proofs.ltOf qJo y x)) else none
theorem qEu{l r:T1z}(h:qAo N l=some r):r.length=l.length:=by
 unfold qAo at h
 split at h
 ·simp only[jF] at h;subst h;simp
 ·cases h
theorem qEt{a:Option Addr}{nn cc:Nat}{T:List Value}{l r:T1z}{e:TypeId}(st:St m (opc a (qAz (fun x:T1s=>((Vd x):List Value)) l T) e::O) w)(hs:OAS a nn cc 6 T)(hn:List.length l=nn)(h:qAo N l=some r):
  Calls Tryz.prog 88 #[.slice a nn cc,.func (.func 89) #[] #[]] w fun e' w'=>e'= .returned (.tuple #[])∧St m (opc a (qAz (fun x:T1s=>((Vd x):List Value)) r T) e::O) w':=by
 unfold qAo at h
 split at h
 ·rename_i hb
  obtain⟨hN,hlen,hties⟩:=hb;simp only[jF] at h;subst h;subst hn;exact qYn (f:=(fun x:T1s=>((Vd x):List Value))) (k:=6) zGj Tryz.isAgg73 Tryz.sizeOf73 (fun _=>rfl) (fun _ _ hv=>by simp only[jH,g9,or_false] at hv;rcases hv with rfl|rfl|rfl|rfl|rfl|rfl<;>rfl) qJo cmpEnt_swo 89 (enters_of Tryz.func89 kr rfl) (fun x y W=>by
   refine(qOl (zGx W) (qOu hN x y)).mono fun e' w' h=> ?_;obtain⟨m',h1,h2,h3⟩:=h;exact⟨m',h1,h2,h3⟩) (fun x hx y hy h1 h2=>hties x hx y hy (by
    have a1:=qNw y x;simp only[Go.Proofs.ltOf,decide_eq_false_iff_not] at h1 h2;have a2:=qNw x y
    omega)) st hs hlen
 ·cases h
def qCw(N:Nat)(z1:Option T1t)(s1:T1z):Option (T1z⊕T1z):=
 (match z1 with|none=>some (.inr s1)|some kv1=>(qEo 72 s1 ([kv1.2])).bind fun l1=>some (.inl l1))
instance dec_packages_Entities_L1:DecidableEq T1z:=(@instDecidableEqList _ (@instDecidableEqProd _ _ inferInstance (@instDecidableEqProd _ _ inferInstance (@instDecidableEqProd _ _ inferInstance (@instDecidableEqProd _ _ inferInstance (@instDecidableEqProd _ _ inferInstance inferInstance))))))
def qFe(N:Nat)(p0:Tk):Option T1z:=
 (qKw N p0).bind fun y1=>(isQ y1.2.2.2.2).bind fun u1=>qLw (qCw N) (Option.getD y1.2.2.2.2 []) ([]:T1z) (fun o1=>(qAo N o1).bind fun y2=>some y2)
theorem qIw{p0:Tk}{r:T1z}(st:St m (O) w)(r1:RepS C1 m a1 c1 p0)(i:qFe N p0=some r):Calls Tryz.prog 35 #[.agg #[vS a1 p0 c1]] w fun e w'=>∃ra1 rc1 m',e= .returned (vS ra1 r rc1)∧m.le m'∧St m' (kR ra1 r rc1 73 6::O) w'∧RepS C7 m' ra1 rc1 r:=by
 unfold qFe at i;have q:=m.le_refl;refine W_cA Tryz.func35 rfl Tryz.ntmps35 ?_;refine W_sr (qAa rfl (qJw 1 28 0 (.agg #[vS a1 p0 c1]) st fun b1 m1 w1 e1 st hb1=>(qAe 1 [] (W_sr (qHg 4 28 1 0 (.agg #[vS a1 p0 c1]) st hb1 (qAv 5 i (fun _ h=>qMe st (r1.mono e1) h) ?_))))));rintro y1 i _ w2 ⟨b2,a2,c2,q1,es1,ck1,a3,c3,q2,es2,ck2,m2,rfl,e2,st,r2,r3,r4,r5⟩;refine qAa rfl (qJl 6 87 #[vP b2 0] kr rfl (W_cA Tryz.func87 rfl Tryz.ntmps87 (W_sr (qAe 1 [] (W_sr (qAe 1 [(3,vS none ([]:T1z) 0)] (qAr (W_sr (qCs 3 9 149 8 4 (.map q2) st.t.t.h ?_)))))))));have⟨u1,d2,i⟩:=qAw i;obtain⟨b3,rfl⟩:=MapQ.at r5 d2;refine qAa rfl (qPb (ek:=qId) (c:=C7) (agg:=true) (d:=10) (t:=149) (kt:=212) (et:=73) (x:=(.tmp 9)) kr rfl (ev (.map (some b3))) kr st.f1 r5 fun b4 w3 st hi1=>(WO_e (qAy ?_)));have st:=qWr (f:=(fun x:T1s=>((Vd x):List Value))) (st.nilroom 73 6);obtain⟨PKu2,hPKu2,i⟩:=LoopP.start i
 refine qCg (.exit 0) (fun L' w'=>∃(o1:T1z),∃a4 c4 T1,∃(sn1:Array Nat) (rem1:List T1t),∃m3,PKu2 o1∧L'=[(3,vS a4 o1 c4)]∧m.le m3∧St m3 (kB b2 #[vS a2 y1.1 c2,vB y1.2.1,.map q1,vS a3 y1.2.2.2.1 c3,.map (some b3)] 151::qBj (some b3) es2 ck2::qBj q1 es1 ck1::opc a4 (qAz (fun x:T1s=>((Vd x):List Value)) o1 T1) 73::qHh b4 (some b3) ck2 sn1::O) w'∧MRow m3 b1 0 [vS a1 p0 c1]∧RepS C1 m3 a1 c1 p0∧RepS C1 m3 a2 c2 y1.1∧RepS cStr m3 a3 c3 y1.2.2.2.1∧MapQ qId C7 true m3 (some b3) es2 ck2 y1.2.2.2.2∧MapQ (fun s:ByteArray=>Value.string s) C6 true m3 q1 es1 ck1 y1.2.2.1∧OAS a4 o1.length c4 6 T1∧ItR qId C7 true m3 es2 sn1 rem1) ?_ ?_
 ·rintro _ w4 ⟨o1,a4,c4,T1,sn1,rem1,m3,hPou2,rfl,q,st,hb1,r1,r2,r4,r5,r3,hs1,hi2⟩;have i:=hPKu2 _ hPou2;clear hPou2 hPKu2;refine qBk (qAg (W_sr (qAb 2 [(2,vS a4 o1 c4)] (qAs rfl ?_))));have st:=st.f4.t;refine qAg (qBb (X_rt [2] [vS a4 o1 c4] (⟨_,rfl,?_⟩)));refine qAe 1 [(3,vS a4 o1 c4)] (W_sr (qAb 1 [(7,vS a4 o1 c4)] ?_));have⟨y2,d6,i⟩:=qAw i;have st:=st.f3;refine qAa rfl (qJl 8 88 #[vS a4 o1 c4,.func (.func 89) #[] #[]] kr rfl ((qEt st hs1 rfl d6).mono ?_));rintro _ w12 ⟨rfl,st⟩;refine⟨_,rfl,?_⟩;have hn1:=((qEu d6).trans rfl);refine WO_e (W_sr (qAe 2 [(2,vS a4 o1 c4)] (qBb ?_)));obtain rfl:=sI i;obtain⟨m7,e5,st,r8⟩:=St.freezeM (c:=C7) (f:=(fun x:T1s=>((Vd x):List Value))) st hs1 hn1 (fun _=>rfl) (fun _ x=>⟨_,_,rfl,rfl,⟨_,_,rfl,rfl,⟨_,_,rfl,rfl,⟨_,_,rfl,rfl,⟨_,_,rfl,rfl,rfl⟩⟩⟩⟩⟩);refine qPz [(2,vS a4 y2 c4)] (by(try simp only[vS,hn1]);kernel_rfl) ?_;exact X_rt [2] [vS a4 y2 c4] ⟨a4,c4,m7,rfl,q.t e5,st.f1.t.f1.t.f1.t,r8⟩
 intro K0_u2;refine qHk _ kr (qEl (fun k1 L' w'=>∃(s1:T1z),∃a5 c5 T2,∃(sn2:Array Nat) (rem2:List T1t),∃m4,LoopP (qCw N) rem2 s1 PKu2 k1∧L'=[(3,vS a5 s1 c5),(10,vP b4 0)]∧m.le m4∧St m4 (kB b2 #[vS a2 y1.1 c2,vB y1.2.1,.map q1,vS a3 y1.2.2.2.1 c3,.map (some b3)] 151::qBj (some b3) es2 ck2::qBj q1 es1 ck1::opc a5 (qAz (fun x:T1s=>((Vd x):List Value)) s1 T2) 73::qHh b4 (some b3) ck2 sn2::O) w'∧MRow m4 b1 0 [vS a1 p0 c1]∧RepS C1 m4 a1 c1 p0∧RepS C1 m4 a2 c2 y1.1∧RepS cStr m4 a3 c3 y1.2.2.2.1∧MapQ qId C7 true m4 (some b3) es2 ck2 y1.2.2.2.2∧MapQ (fun s:ByteArray=>Value.string s) C6 true m4 q1 es1 ck1 y1.2.2.1∧OAS a5 s1.length c5 6 T2∧ItR qId C7 true m4 es2 sn2 rem2) (List.length (Option.getD y1.2.2.2.2 [])+1) ⟨([]:T1z),none,0,[],#[],(Option.getD y1.2.2.2.2 []),m2,i,rfl,(q.t e1).t e2,st.f1.f1.f3.f3.f4,hb1.mono e2,(r1.mono e1).mono e2,r2,r4,r5,r3,(OAS.nil 6),hi1⟩ ?_);rintro k1 _ w5 ⟨s1,a5,c5,T2,sn2,rem2,m4,hL,rfl,q,st,hb1,r1,r2,r4,r5,r3,hs2,hi3⟩;rcases k1 with _|k1
 ·exact LoopP.zero hL
 ·refine W_sr ?_;have st:=st.f1.f4;refine qAa rfl (qRh (ek:=qId) (c:=C7) (agg:=true) (d:=11) (x:=(.tmp 10)) kr rfl (ev (vP b4 0)) st r5 hi3 ?_ ?_)
  ·intro d3 w6 st;obtain⟨qu2,i,hSu2,hBu2⟩:=hL.nil d3;clear hL;unfold qCw at i;refine qAe 1 [(12,vB false)] (qAr (qMo false kr (fun h=>Bool.noConfusion h) ?_));intro _;refine qDy (qAi ?_);obtain rfl:=sI i;have ho:=hBu2 _ rfl;have st:=st.f4.f4.f3.f4;refine qAi ?_;exact xE (K0_u2 _ _ ⟨s1,a5,c5,T2,sn2,rem2,m4,ho,rfl,q,st,hb1,r1,r2,r4,r5,r3,hs2,hi3⟩)
  ·rintro kv1 rem3 sn3 cs1 w7 d4 ⟨_,_,rfl,rfl,⟨_,_,rfl,rfl,⟨_,_,rfl,rfl,⟨_,_,rfl,rfl,⟨_,_,rfl,rfl,rfl⟩⟩⟩⟩⟩ st hi4 he1;obtain⟨qu2,i,hSu2,hBu2⟩:=hL.cons d4;clear hL;unfold qCw at i;refine qAe 1 [(12,vB true)] (qAr (qMo true kr ?_ (fun h=>Bool.noConfusion h)));intro _;refine qAn (qAg (qAy (W_sr ?_)));have st:=st.f1.f1;refine qAa rfl (qPe (ek:=qId) (c:=C7) (agg:=true) (d:=13) (x:=(.tmp 10)) (K:= .agg (Va kv1.1)) (V:= .agg (Vc kv1.2)) kr rfl (ev (vP b4 0)) st r5 he1 (qAb 1 [(14,.agg (Vc kv1.2))] (qAa rfl (qCm 5 73 (.agg (Vb eB eB 0 eB 0 0)) st fun b5 w8 st=>(qAa rfl (qBn 73 5 14 (.agg (Vc kv1.2)) st fun w9 st=>(WO_e (qAm (qAb 1 [(15,vS a5 s1 c5)] (qAa rfl (qBc 16 73 5 0 (.agg (Vc kv1.2)) st.h (qAa rfl (qAq (d:=17) (t:=70) (e:=73) (len:=1) (parts:= #[(0,(.tmp 16))]) C7 (xs:=[kv1.2]) (Vd kv1.2) kr rfl (fun _=>qAp kr _) rfl rfl st ⟨(Vd kv1.2),_,rfl,⟨_,_,rfl,rfl,⟨_,_,rfl,rfl,⟨_,_,rfl,rfl,⟨_,_,rfl,rfl,⟨_,_,rfl,rfl,rfl⟩⟩⟩⟩⟩,rfl⟩ fun b6 m5 w10 e3 st r6=> ?_)))))))))))));have st:=st.f6;have⟨l1,d5,i⟩:=qAw i
   refine qAa rfl (qQq (d:=18) (t:=70) (u:=70) (e:=73) (by_:=72) (x:=(.tmp 15)) (y:=(.tmp 17)) (c:=C7) (f:=(fun x:T1s=>((Vd x):List Value))) (l:=s1) (fun _ _ _ h=>by obtain⟨_,_,rfl,rfl,⟨_,_,rfl,rfl,⟨_,_,rfl,rfl,⟨_,_,rfl,rfl,⟨_,_,rfl,rfl,rfl⟩⟩⟩⟩⟩:=h;rfl) (fun _=>rfl) kr rfl (ev (vS a5 s1 c5)) (ev (vS (aP b6) ([kv1.2]) 1)) st hs2 rfl kr (.inl kr) r6.src d5 fun a6 c6 T3 w11 hs3 st=>(qAb 1 [(3,vS a6 l1 c6)] (qAs rfl ?_)));have st:=st.f1.t;refine qBm ?_;obtain rfl:=sI i;have hL:=hSu2 _ rfl;exact xE (qCr k1 (jE _) ⟨l1,a6,c6,T3,sn3,rem3,m5,hL,rfl,q.t e3,st.f1.t.f1.f1.f4.f3.f4,hb1.mono e3,r1.mono e3,r2.mono e3,r4.mono e3,r5.mono e3,r3.mono e3,hs3,hi4.mono e3⟩)
def qWw:Go.Shelf.Ren:=⟨fun|190=>92|125=>162|258=>166|128=>221|129=>222|302=>225|303=>226|304=>227|305=>228|306=>229|307=>230|308=>231|309=>232|310=>233|333=>268|329=>263|330=>264|334=>269|335=>270|336=>271|344=>287|n=>n,fun|31=>43|9=>9|3=>3|46=>215|0=>0|51=>262|53=>232|4=>4|183=>256|182=>255|131=>171|5=>5|218=>284|222=>288|228=>300|229=>166|n=>n,fun|n=>n⟩
theorem zEl:Go.Proofs.Lays.n190 Tryz.prog qWw where
 mixed:=kr
 f125:=Tryz.func162.trans (congrArg some kr)
 f128:=Tryz.func221.trans (congrArg some kr)
 f129:=Tryz.func222.trans (congrArg some kr)
 f190:=Tryz.func92.trans (congrArg some kr)
 f258:=Tryz.func166.trans (congrArg some kr)
 f302:=Tryz.func225.trans (congrArg some kr)
 f303:=Tryz.func226.trans (congrArg some kr)
 f304:=Tryz.func227.trans (congrArg some kr)
 f305:=Tryz.func228.trans (congrArg some kr)
 f306:=Tryz.func229.trans (congrArg some kr)
 f307:=Tryz.func230.trans (congrArg some kr)
 f308:=Tryz.func231.trans (congrArg some kr)
 f309:=Tryz.func232.trans (congrArg some kr)
 f310:=Tryz.func233.trans (congrArg some kr)
 f329:=Tryz.func263.trans (congrArg some kr)
 f330:=Tryz.func264.trans (congrArg some kr)
 f333:=Tryz.func268.trans (congrArg some kr)
 f334:=Tryz.func269.trans (congrArg some kr)
 f335:=Tryz.func270.trans (congrArg some kr)
 f336:=Tryz.func271.trans (congrArg some kr)
 f344:=Tryz.func287.trans (congrArg some kr)
 t0:=Tryz.underlying0
 a0:=Tryz.isAgg0
 z0:=Tryz.sizeOf0
 v0:=Tryz.zeroValue0
 t3:=Tryz.underlying3
 a3:=Tryz.isAgg3
 z3:=Tryz.sizeOf3
 v3:=Tryz.zeroValue3
 t4:=Tryz.underlying4
 a4:=Tryz.isAgg4
 z4:=Tryz.sizeOf4
 v4:=Tryz.zeroValue4
 t5:=Tryz.underlying5
 a5:=Tryz.isAgg5
 z5:=Tryz.sizeOf5
 v5:=Tryz.zeroValue5
 t9:=Tryz.underlying9
 a9:=Tryz.isAgg9
 z9:=Tryz.sizeOf9
 v9:=Tryz.zeroValue9
 t31:=Tryz.underlying43
 a31:=Tryz.isAgg43
 z31:=Tryz.sizeOf43
 v31:=Tryz.zeroValue43
 t46:=Tryz.underlying215
 a46:=Tryz.isAgg215
 z46:=Tryz.sizeOf215
 v46:=Tryz.zeroValue215
 t51:=Tryz.underlying262
 a51:=Tryz.isAgg262
 z51:=Tryz.sizeOf262
 v51:=Tryz.zeroValue262
 t53:=Tryz.underlying232
 a53:=Tryz.isAgg232
 z53:=Tryz.sizeOf232
 v53:=Tryz.zeroValue232
 t131:=Tryz.underlying171
 a131:=Tryz.isAgg171
 z131:=Tryz.sizeOf171
 v131:=Tryz.zeroValue171
 t182:=Tryz.underlying255
 a182:=Tryz.isAgg255
 z182:=Tryz.sizeOf255
 v182:=Tryz.zeroValue255
 t183:=Tryz.underlying256
 a183:=Tryz.isAgg256
 z183:=Tryz.sizeOf256
 v183:=Tryz.zeroValue256
 t218:=Tryz.underlying284
 a218:=Tryz.isAgg284
 z218:=Tryz.sizeOf284
 v218:=Tryz.zeroValue284
 t222:=Tryz.underlying288
 a222:=Tryz.isAgg288
 z222:=Tryz.sizeOf288
 v222:=Tryz.zeroValue288
 t228:=Tryz.underlying300
 a228:=Tryz.isAgg300
 z228:=Tryz.sizeOf300
 v228:=Tryz.zeroValue300
 t229:=Tryz.underlying166
 a229:=Tryz.isAgg166
 z229:=Tryz.sizeOf166
 v229:=Tryz.zeroValue166
def qBt(_:Nat)(l:T6):T7:=if l.length<4611686018427387904 then some (qOm l) else none
theorem qKc{l r:T6}(h:qBt N l=some r):r.length=l.length:=by
 unfold qBt at h
 split at h
 ·simp only[jF] at h;subst h;exact qYs l
 ·cases h
theorem qJt{a:Option Addr}{nn cc:Nat}{T:List Value}{l r:T6}{e:TypeId}(st:St m (opc a (qAz (fun x:ByteArray=>([vT x]:List Value)) l T) e::O) w)(hs:OAS a nn cc 1 T)(hn:List.length l=nn)(h:qBt N l=some r):
  Calls Tryz.prog 92 #[.slice a nn cc] w fun e' w'=>e'= .returned (.tuple #[])∧St m (opc a (qAz (fun x:ByteArray=>([vT x]:List Value)) r T) e::O) w':=by
 unfold qBt at h
 split at h
 ·rename_i hlen
  simp only[jF] at h;subst h;subst hn;exact zAs zEl st hs hlen
 ·cases h
def qFk(N:Nat)(z1:Option (T5×T1o))(s1:T20):Option (T20⊕T20):=
 (match z1 with|none=>some (.inr s1)|some kv1=>(qIi s1 kv1.2.1 true).bind fun mp1=>some (.inl mp1))
def qEh(N:Nat)(z2:Option (T5×Bool))(s2:T6):Option (T6⊕T6):=
 (match z2 with|none=>some (.inr s2)|some kv2=>(qEo 16 s2 ([kv2.1])).bind fun l1=>some (.inl l1))
def qHx(N:Nat)(p0:Tk):T7:=
 (qKw N p0).bind fun y1=>(isQ y1.2.2.1).bind fun u1=>qLw (qFk N) (Option.getD y1.2.2.1 []) (some []:T20) (fun o1=>qLw (qEh N) (Option.getD o1 []) ([]:T6) (fun o2=>(qBt N o2).bind fun y2=>some y2))
theorem qNg{p0:Tk}{r:T6}(st:St m (O) w)(r1:RepS C1 m a1 c1 p0)(i:qHx N p0=some r):Calls Tryz.prog 36 #[.agg #[vS a1 p0 c1]] w fun e w'=>∃ra1 rc1 m',e= .returned (vS ra1 r rc1)∧m.le m'∧St m' (kR ra1 r rc1 9 1::O) w'∧RepS cStr m' ra1 rc1 r:=by
 unfold qHx at i;have q:=m.le_refl;refine W_cA Tryz.func36 rfl Tryz.ntmps36 ?_;refine W_sr (qAa rfl (qJw 1 28 0 (.agg #[vS a1 p0 c1]) st fun b1 m1 w1 e1 st hb1=>(qAe 1 [] (W_sr (qAa rfl (qEd (d:=8) (t:=147) kr rfl st fun b2 w2 st=>(qAe 1 [(3,.map (some b2))] (qAr (W_sr (qHg 9 28 1 0 (.agg #[vS a1 p0 c1]) st hb1 (qAv 10 i (fun _ h=>qMe st (r1.mono e1) h) ?_)))))))))));rintro y1 i _ w3 ⟨b3,a2,c2,q1,es1,ck1,a3,c3,q2,es2,ck2,m2,rfl,e2,st,r2,r3,r4,r5⟩;refine qCs 2 13 148 12 2 (.map q1) st.t.t.h ?_;have⟨u1,d2,i⟩:=qAw i;obtain⟨b4,rfl⟩:=MapQ.at r3 d2;refine qAa rfl (qPb (ek:=(fun s:ByteArray=>Value.string s)) (c:=C6) (agg:=true) (d:=14) (t:=148) (kt:=9) (et:=52) (x:=(.tmp 13)) kr rfl (ev (.map (some b4))) kr st r3 fun b5 w4 st hi1=>(WO_e (qAy ?_)));obtain⟨PKu2,hPKu2,i⟩:=LoopP.start i
 refine qCg (.exit 0) (fun L' w'=>∃(o1:T20),∃es3 ck3,∃(sn1:Array Nat) (rem1:T1v),∃m3,PKu2 o1∧L'=[(3,.map (some b2))]∧m.le m3∧St m3 (kB b3 #[vS a2 y1.1 c2,vB y1.2.1,.map (some b4),vS a3 y1.2.2.2.1 c3,.map q2] 151::qBj (some b4) es1 ck1::qBj q2 es2 ck2::qBj (some b2) es3 ck3::qHh b5 (some b4) ck1 sn1::O) w'∧RepS C1 m3 a2 c2 y1.1∧RepS cStr m3 a3 c3 y1.2.2.2.1∧MapQ (fun s:ByteArray=>Value.string s) C6 true m3 (some b4) es1 ck1 y1.2.2.1∧MapQ qId C7 true m3 q2 es2 ck2 y1.2.2.2.2∧MapQ (fun s:ByteArray=>Value.string s) qTl false m3 (some b2) es3 ck3 o1∧ItR (fun s:ByteArray=>Value.string s) C6 true m3 es1 sn1 rem1) ?_ ?_
 ·rintro _ w5 ⟨o1,es3,ck3,sn1,rem1,m3,hPou2,rfl,q,st,r2,r4,r3,r5,r6,hi2⟩;have i:=hPKu2 _ hPou2;clear hPou2 hPKu2;refine qBk (qAg (W_sr (qAb 1 [(6,v1)] (qAs rfl ?_))));have st:=st.f4.t;refine qAg (qAr (W_sr (qAb 1 [(22,.map (some b2))] (qAa rfl (qPb (ek:=(fun s:ByteArray=>Value.string s)) (c:=qTl) (agg:=false) (d:=23) (t:=147) (kt:=9) (et:=4) (x:=(.tmp 22)) kr rfl (ev (.map (some b2))) kr st.f3 r6 fun b7 w12 st hi5=>(WO_e (qAy ?_)))))));have st:=qWr (f:=(fun x:ByteArray=>([vT x]:List Value))) (st.nilroom 9 1);obtain⟨PKu3,hPKu3,i⟩:=LoopP.start i;refine qCg (.exit 2) (fun L' w'=>∃(o2:T6),∃a6 c6 T1,∃(sn4:Array Nat) (rem4:List (T5×Bool)),∃m5,PKu3 o2∧L'=[(6,vS a6 o2 c6)]∧m.le m5∧St m5 (kB b3 #[vS a2 y1.1 c2,vB y1.2.1,.map (some b4),vS a3 y1.2.2.2.1 c3,.map q2] 151::qBj (some b2) es3 ck3::qBj (some b4) es1 ck1::qBj q2 es2 ck2::opc a6 (qAz (fun x:ByteArray=>([vT x]:List Value)) o2 T1) 9::qHh b7 (some b2) ck3 sn4::O) w'∧RepS C1 m5 a2 c2 y1.1∧RepS cStr m5 a3 c3 y1.2.2.2.1∧MapQ (fun s:ByteArray=>Value.string s) qTl false m5 (some b2) es3 ck3 o1∧MapQ (fun s:ByteArray=>Value.string s) C6 true m5 (some b4) es1 ck1 y1.2.2.1∧MapQ qId C7 true m5 q2 es2 ck2 y1.2.2.2.2∧OAS a6 o2.length c6 1 T1∧ItR (fun s:ByteArray=>Value.string s) qTl false m5 es3 sn4 rem4) ?_ ?_
  ·rintro _ w13 ⟨o2,a6,c6,T1,sn4,rem4,m5,hPou3,rfl,q,st,r2,r4,r6,r3,r5,hs1,hi6⟩;have i:=hPKu3 _ hPou3;clear hPou3 hPKu3;refine qBk (qAg (W_sr (qAb 1 [(32,vS a6 o2 c6)] ?_)));have⟨y2,d9,i⟩:=qAw i;have st:=st.f4;refine qAa rfl (qJl 33 92 #[vS a6 o2 c6] kr rfl ((qJt st hs1 rfl d9).mono ?_));rintro _ w19 ⟨rfl,st⟩;refine⟨_,rfl,?_⟩;have hn1:=((qKc d9).trans rfl);refine qAs rfl ?_;have st:=st.f5.t;refine qAg (W_sr (qAe 2 [(2,vS a6 o2 c6)] (qBb ?_)));obtain rfl:=sI i;obtain⟨m9,e5,st,r13⟩:=St.freezeM (c:=cStr) (f:=(fun x:ByteArray=>([vT x]:List Value))) st hs1 hn1 (fun _=>rfl) (fun _ x=>rfl);refine qPz [(2,vS a6 y2 c6)] (by(try simp only[vS,hn1]);kernel_rfl) ?_;exact X_rt [2] [vS a6 y2 c6] ⟨a6,c6,m9,rfl,q.t e5,st.f1.t.f1.t.f1.t.f1.t,r13⟩
  intro K2_u3;refine qHk _ kr (qEl (fun k2 L' w'=>∃(s2:T6),∃a7 c7 T2,∃(sn5:Array Nat) (rem5:List (T5×Bool)),∃m6,LoopP (qEh N) rem5 s2 PKu3 k2∧L'=[(6,vS a7 s2 c7),(23,vP b7 0)]∧m.le m6∧St m6 (kB b3 #[vS a2 y1.1 c2,vB y1.2.1,.map (some b4),vS a3 y1.2.2.2.1 c3,.map q2] 151::qBj (some b2) es3 ck3::qBj (some b4) es1 ck1::qBj q2 es2 ck2::opc a7 (qAz (fun x:ByteArray=>([vT x]:List Value)) s2 T2) 9::qHh b7 (some b2) ck3 sn5::O) w'∧RepS C1 m6 a2 c2 y1.1∧RepS cStr m6 a3 c3 y1.2.2.2.1∧MapQ (fun s:ByteArray=>Value.string s) qTl false m6 (some b2) es3 ck3 o1∧MapQ (fun s:ByteArray=>Value.string s) C6 true m6 (some b4) es1 ck1 y1.2.2.1∧MapQ qId C7 true m6 q2 es2 ck2 y1.2.2.2.2∧OAS a7 s2.length c7 1 T2∧ItR (fun s:ByteArray=>Value.string s) qTl false m6 es3 sn5 rem5) (List.length (Option.getD o1 [])+1) ⟨([]:T6),none,0,[],#[],(Option.getD o1 []),m3,i,rfl,q,st.f1.f1.f5.f5.f4.f5,r2,r4,r6,r3,r5,(OAS.nil 1),hi5⟩ ?_);rintro k2 _ w14 ⟨s2,a7,c7,T2,sn5,rem5,m6,hL,rfl,q,st,r2,r4,r6,r3,r5,hs2,hi7⟩;rcases k2 with _|k2
  ·exact LoopP.zero hL
  ·refine W_sr ?_;have st:=st.f1.f5;refine qAa rfl (qRh (ek:=(fun s:ByteArray=>Value.string s)) (c:=qTl) (agg:=false) (d:=24) (x:=(.tmp 23)) kr rfl (ev (vP b7 0)) st r6 hi7 ?_ ?_)
   ·intro d6 w15 st;obtain⟨qu3,i,hSu3,hBu3⟩:=hL.nil d6;clear hL;unfold qEh at i;refine qAe 1 [(25,vB false)] (qAr (qMo false kr (fun h=>Bool.noConfusion h) ?_));intro _;refine qDy (qAi ?_);obtain rfl:=sI i;have ho:=hBu3 _ rfl;have st:=st.f5.f5.f5.f4.f5;refine qAi ?_;exact xE (K2_u3 _ _ ⟨s2,a7,c7,T2,sn5,rem5,m6,ho,rfl,q,st,r2,r4,r6,r3,r5,hs2,hi7⟩)
   ·rintro kv2 rem6 sn6 cs2 w16 d7 rfl st hi8 he2;obtain⟨qu3,i,hSu3,hBu3⟩:=hL.cons d7;clear hL;unfold qEh at i;refine qAe 1 [(25,vB true)] (qAr (qMo true kr ?_ (fun h=>Bool.noConfusion h)));intro _;refine qAn (qAg (qAy (W_sr ?_)));have st:=st.f1.f1;refine qAa rfl (qPe (ek:=(fun s:ByteArray=>Value.string s)) (c:=qTl) (agg:=false) (d:=26) (x:=(.tmp 23)) (K:=vT kv2.1) (V:=vB kv2.2) kr rfl (ev (vP b7 0)) st r6 he2 (qAe 2 [(7,vT kv2.1)] (qAm (qAb 2 [(28,vS a7 s2 c7),(29,vT kv2.1)] (qAa rfl (qAq (d:=30) (t:=43) (e:=9) (len:=1) (parts:= #[(0,(.tmp 29))]) cStr (xs:=[kv2.1]) [vT kv2.1] kr rfl (fun _=>qAp kr _) rfl rfl st ⟨[vT kv2.1],_,rfl,rfl,rfl⟩ fun b8 m7 w17 e3 st r11=> ?_))))));have st:=st.f6;have⟨l1,d8,i⟩:=qAw i;refine qAa rfl (qQq (d:=31) (t:=43) (u:=43) (e:=9) (by_:=16) (x:=(.tmp 28)) (y:=(.tmp 30)) (c:=cStr) (f:=(fun x:ByteArray=>([vT x]:List Value))) (l:=s2) (fun _ _ _ h=>by obtain rfl:=h;rfl) (fun _=>rfl) kr rfl (ev (vS a7 s2 c7)) (ev (vS (aP b8) ([kv2.1]) 1)) st hs2 rfl kr (.inl kr) r11.src d8 fun a8 c8 T3 w18 hs3 st=>(qAb 1 [(6,vS a8 l1 c8)] (qAs rfl ?_)));have st:=st.f1.t;refine qBm ?_;obtain rfl:=sI i;have hL:=hSu3 _ rfl
    exact xE (qCr k2 (jE _) ⟨l1,a8,c8,T3,sn6,rem6,m7,hL,rfl,q.t e3,st.f1.f1.f5.f5.f4.f5,r2.mono e3,r4.mono e3,r6.mono e3,r3.mono e3,r5.mono e3,hs3,hi8.mono e3⟩)
 intro K0_u2;refine qHk _ kr (qEl (fun k1 L' w'=>∃(s1:T20),∃es4 ck4,∃(sn2:Array Nat) (rem2:T1v),∃m4,LoopP (qFk N) rem2 s1 PKu2 k1∧L'=[(3,.map (some b2)),(14,vP b5 0)]∧m.le m4∧St m4 (kB b3 #[vS a2 y1.1 c2,vB y1.2.1,.map (some b4),vS a3 y1.2.2.2.1 c3,.map q2] 151::qBj (some b4) es1 ck1::qBj q2 es2 ck2::qBj (some b2) es4 ck4::qHh b5 (some b4) ck1 sn2::O) w'∧RepS C1 m4 a2 c2 y1.1∧RepS cStr m4 a3 c3 y1.2.2.2.1∧MapQ (fun s:ByteArray=>Value.string s) C6 true m4 (some b4) es1 ck1 y1.2.2.1∧MapQ qId C7 true m4 q2 es2 ck2 y1.2.2.2.2∧MapQ (fun s:ByteArray=>Value.string s) qTl false m4 (some b2) es4 ck4 s1∧ItR (fun s:ByteArray=>Value.string s) C6 true m4 es1 sn2 rem2) (List.length (Option.getD y1.2.2.1 [])+1) ⟨(some []:T20),#[],0,#[],(Option.getD y1.2.2.1 []),m2,i,rfl,(q.t e1).t e2,st.f4.f3.f3.f4,r2,r4,r3,r5,(MapQ.new (fun s:ByteArray=>Value.string s) qTl false _ _),hi1⟩ ?_);rintro k1 _ w6 ⟨s1,es4,ck4,sn2,rem2,m4,hL,rfl,q,st,r2,r4,r3,r5,r7,hi3⟩;rcases k1 with _|k1
 ·exact LoopP.zero hL
 ·refine W_sr ?_;have st:=st.f1.f4;refine qAa rfl (qRh (ek:=(fun s:ByteArray=>Value.string s)) (c:=C6) (agg:=true) (d:=15) (x:=(.tmp 14)) kr rfl (ev (vP b5 0)) st r3 hi3 ?_ ?_)
  ·intro d3 w7 st;obtain⟨qu2,i,hSu2,hBu2⟩:=hL.nil d3;clear hL;unfold qFk at i;refine qAe 1 [(16,vB false)] (qAr (qMo false kr (fun h=>Bool.noConfusion h) ?_));intro _;refine qDy (qAi ?_);obtain rfl:=sI i;have ho:=hBu2 _ rfl;have st:=st.f4.f4.f3.f4;refine qAi ?_;exact xE (K0_u2 _ _ ⟨s1,es4,ck4,sn2,rem2,m4,ho,rfl,q,st,r2,r4,r3,r5,r7,hi3⟩)
  ·rintro kv1 rem3 sn3 cs1 w8 d4 ⟨_,_,rfl,rfl,⟨_,_,rfl,⟨a4,c4,rfl,r8⟩,⟨a5,c5,rfl,r9⟩⟩⟩ st hi4 he1;obtain⟨qu2,i,hSu2,hBu2⟩:=hL.cons d4;clear hL;unfold qFk at i;refine qAe 1 [(16,vB true)] (qAr (qMo true kr ?_ (fun h=>Bool.noConfusion h)));intro _;refine qAn (qAg (qAy (W_sr ?_)));have st:=st.f1.f1;refine qAa rfl (qPe (ek:=(fun s:ByteArray=>Value.string s)) (c:=C6) (agg:=true) (d:=17) (x:=(.tmp 14)) (K:=vT kv1.1) (V:= .agg (V9 kv1.2 a4 c4 a5 c5)) kr rfl (ev (vP b5 0)) st r3 he1 (qAb 1 [(18,.agg (V9 kv1.2 a4 c4 a5 c5))] (qAa rfl (qCm 5 52 (.agg #[vT eB,v2,v2]) st fun b6 w9 st=>(qAa rfl (qBn 52 5 18 (.agg (V9 kv1.2 a4 c4 a5 c5)) st fun w10 st=>(WO_e (qAm (qAb 2 [(19,.map (some b2)),(20,vP b6 0)] (qAa rfl (qBc 21 9 20 0 (vT kv1.2.1) st.h ?_)))))))))));have st:=st.f5;have⟨mp1,d5,i⟩:=qAw i;refine qAa rfl (qKe (ek:=(fun s:ByteArray=>Value.string s)) (c:=qTl) (agg:=false) (k:=kv1.2.1) (yv:=true) (cs:=[vB true]) (z:=(vB false)) (v:=(vB true)) (kt:=9) (et:=4) (t:=147) (x:=(.tmp 19)) (y:=(.tmp 21)) (u:=(.const (vB true))) kr (ev (.map (some b2))) (ev (vT kv1.2.1)) (ev (vB true)) kr (qVn kr) st r7 rfl rfl d5 fun es5 ck5 w11 st r10=>(qAs rfl (qBm ?_)));obtain rfl:=sI i;have hL:=hSu2 _ rfl
   exact xE (qCr k1 (jE _) ⟨mp1,es5,ck5,sn3,rem3,m4,hL,rfl,q,st.f1.t.f1.f1.f4.f3.f4,r2,r4,r3,r5,r10,hi4⟩)
def qDz(N:Nat)(p0:T6)(p1:T6)(s1:Int):Option (Int⊕Unit⊕Bool):=
 if(decide (s1<(List.length p0:Int)))=true then((idx p0 s1).bind fun x1=>(idx p1 s1).bind fun x2=>if(!(x1.toList==x2.toList))=true then(some (.inr (.inr (false)))) else(some (.inl (IntKind.wrap .i64 (s1+1))))) else(some (.inr (.inl ())))
def qEx(N:Nat)(p0:T6)(p1:T6):Td:=
 if((List.length p0:Int) !=(List.length p1:Int))=true then(some false) else((qBf (qDz N p0 p1) N 0).bind fun out1=>(match out1 with| .inl o1=>some true| .inr (z)=>some z))
theorem qMy{p0:T6}{p1:T6}{r:Bool}(st:St m (O) w)(r1:RepS cStr m a1 c1 p0)(r2:RepS cStr m a2 c2 p1)(i:qEx N p0 p1=some r):Calls Tryz.prog 17 #[vS a1 p0 c1,vS a2 p1 c2] w fun e w'=>∃m',e= .returned (vB r)∧m.le m'∧St m' (O) w':=by
 unfold qEx at i;have q:=m.le_refl;refine W_cA Tryz.func17 rfl Tryz.ntmps17 ?_;refine W_sr (qAe 1 [] (qAr (W_sr (qAe 5 [(10,vB ((p0.length:Int) !=(p1.length:Int)))] (W_if i ?_ ?_)))))
 ·intro A i;refine W_sr (qAe 1 [(4,vB false)] (qBb (qAf ?_)));cases i;exact X_rt [4] [vB false] ⟨m,rfl,q,st⟩
 ·intro A i;refine qAn (qAg (qAr (W_sr (qAe 1 [(5,vI 0)] (qAy ?_)))));have⟨out1,i,j1⟩:=qAw i;refine qCg (.exit 0) (fun L' w'=>∃(o1:Unit),∃m1,(.inl o1)=out1∧L'=[]∧m.le m1∧St m1 (O) w') ?_ ?_
  ·rintro _ w1 ⟨o1,m1,rfl,rfl,q,st⟩;have i:=j1;refine qBk (qAg (W_sr (qAe 1 [(4,vB true)] (qBb ?_))));cases i;exact X_rt [4] [vB true] ⟨m1,rfl,q,st⟩
  intro K0_u1;refine qHk _ kr (qEl (fun k1 L' w'=>∃(s1:Int),∃m2,qBf (qDz N p0 p1) k1 s1=some out1∧L'=[(0,vS a1 p0 c1),(1,vS a2 p1 c2),(5,vI s1)]∧m.le m2∧St m2 (O) w'∧RepS cStr m2 a1 c1 p0∧RepS cStr m2 a2 c2 p1) N ⟨0,m,i,rfl,q,st,r1,r2⟩ ?_);rintro k1 _ w2 ⟨s1,m2,hL,rfl,q,st,r1,r2⟩;rcases k1 with _|k1
  ·exact qBr hL
  ·obtain⟨qu1,i,hSu1,hBu1⟩:=qBs hL;clear hL;unfold qDz at i;refine qAr (W_sr (qAe 4 [(14,vB (decide (s1<(p0.length:Int))))] (W_if i ?_ ?_)))
   ·intro A i;refine qAn (qAg (qAr (qAy (qAr (qFl [(9,fun w'=>Inv m2 w'∧True)] kr st fun w3 _ st=> ?_)))));have hmS1:=m2.le_refl;refine tA st hmS1 ?_;refine qAu 0 17 (vS a1 p0 c1) (.head _) (qAu 1 18 (vI s1) (.head _) ?_);have⟨x1,d1,i⟩:=qAw i;refine qMn (t:=43) (e:=9) (x:=(.tmp 17)) (y:=(.tmp 18)) 2 19 cStr kr rfl kr (.head _) (qCn (qDm (qCn (qCn (qDm (qCn qJh)))))) (ev (vS a1 p0 c1)) (ev (vI s1)) kr r1 d1 ?_;rintro b1 f1 cs1 rfl hq1;refine qMt 9 19 3 20 f1 (vT x1) (.head _) (fun _ h=>h.1) hq1 (qAu 4 21 (vS a2 p1 c2) (.head _) (qAu 5 22 (vI s1) (.head _) ?_));have⟨x2,d2,i⟩:=qAw i;refine qMn (t:=43) (e:=9) (x:=(.tmp 21)) (y:=(.tmp 22)) 6 23 cStr kr rfl kr (.head _) (qCn (qDm (qCn (qCn (qDm (qCn qJh)))))) (ev (vS a2 p1 c2)) (ev (vI s1)) kr r2 d2 ?_;rintro b2 f2 cs2 rfl hq2;refine qMt 9 23 7 24 f2 (vT x2) (.head _) (fun _ h=>h.1) hq2 (qAu 8 25 (vB (!(x1.toList==x2.toList))) (.head _) (qCd kr (qAg (W_if i ?_ ?_))))
    ·intro A i;refine W_sr (qAe 1 [(4,vB false)] (qBb (qAh (qAf ?_))));cases i;have ho:=hBu1 _ rfl;subst ho;have i:=j1;refine qAf (qAh (qAf ?_));cases i;exact X_rt [4] [vB false] ⟨m2,rfl,q,st⟩
    ·intro A i;refine qAn (qBm (qAg (qAm (qAb 3 [(5,vI (wr (s1+1)))] (qAs rfl ?_)))));obtain rfl:=sI i;have hL:=hSu1 _ rfl;exact xE (qCr k1 (jE _) ⟨wr (s1+1),m2,hL,rfl,q,st,r1,r2⟩)
   ·intro A i;refine qDy (qAi ?_);cases i;have ho:=hBu1 _ rfl;refine qAi ?_;exact xE (K0_u1 _ _ ⟨(),m2,ho,rfl,q,st⟩)
def qFp(N:Nat)(p0:Tk):T7:=
 (qKw N p0).bind fun y1=>some y1.2.2.2.1
theorem qJy{p0:Tk}{r:T6}(st:St m (O) w)(r1:RepS C1 m a1 c1 p0)(i:qFp N p0=some r):Calls Tryz.prog 37 #[.agg #[vS a1 p0 c1]] w fun e w'=>∃ra1 rc1 m',e= .returned (vS ra1 r rc1)∧m.le m'∧St m' (O) w'∧RepS cStr m' ra1 rc1 r:=by
 unfold qFp at i;have q:=m.le_refl;refine W_cA Tryz.func37 rfl Tryz.ntmps37 ?_;refine W_sr (qAa rfl (qJw 1 28 0 (.agg #[vS a1 p0 c1]) st fun b1 m1 w1 e1 st hb1=>(qAe 1 [] (W_sr (qHg 3 28 1 0 (.agg #[vS a1 p0 c1]) st hb1 (qAv 4 i (fun _ h=>qMe st (r1.mono e1) h) ?_))))));rintro y1 i _ w2 ⟨b2,a2,c2,q1,es1,ck1,a3,c3,q2,es2,ck2,m2,rfl,e2,st,r2,r3,r4,r5⟩;refine qCs 2 7 43 6 3 (vS a3 y1.2.2.2.1 c3) st.t.t.h (qAe 1 [(2,vS a3 y1.2.2.2.1 c3)] (qBb ?_));cases i;exact X_rt [2] [vS a3 y1.2.2.2.1 c3] ⟨a3,c3,m2,rfl,(q.t e1).t e2,st.t.t.t,r4⟩
end
section
open Go Go.Dc
set_option maxHeartbeats 4000000
set_option maxRecDepth 100000
variable {N bp0 c1 c2:Nat} {m:Mem} {O:List Piece} {w:World} {a1 a2:Option Addr}
def qHt(N:Nat)(p0:T1x)(p1:Int)(p2:ByteArray)(p3:ByteArray):Option T1s:=
 if(!p0.2.1)=true then(some ((⟨#[]⟩:ByteArray),(⟨#[]⟩:ByteArray),0,(⟨#[]⟩:ByteArray),0,0)) else((qNn N p1 p2 p3).bind fun y1=>if((qAl p0.2.2.2.2 y1).isSome)=true then(some (((qAl p0.2.2.2.2 y1).getD ((⟨#[]⟩:ByteArray),(⟨#[]⟩:ByteArray),0,(⟨#[]⟩:ByteArray),0,0)).1,((qAl p0.2.2.2.2 y1).getD ((⟨#[]⟩:ByteArray),(⟨#[]⟩:ByteArray),0,(⟨#[]⟩:ByteArray),0,0)).2.1,((qAl p0.2.2.2.2 y1).getD ((⟨#[]⟩:ByteArray),(⟨#[]⟩:ByteArray),0,(⟨#[]⟩:ByteArray),0,0)).2.2.1,((qAl p0.2.2.2.2 y1).getD ((⟨#[]⟩:ByteArray),(⟨#[]⟩:ByteArray),0,(⟨#[]⟩:ByteArray),0,0)).2.2.2.1,((qAl p0.2.2.2.2 y1).getD ((⟨#[]⟩:ByteArray),(⟨#[]⟩:ByteArray),0,(⟨#[]⟩:ByteArray),0,0)).2.2.2.2.1,((qAl p0.2.2.2.2 y1).getD ((⟨#[]⟩:ByteArray),(⟨#[]⟩:ByteArray),0,(⟨#[]⟩:ByteArray),0,0)).2.2.2.2.2)) else(some (y1.2.1,p3,p1,(⟨#[]⟩:ByteArray),0,0)))
theorem qQj{p0:T1x}{p1:Int}{p2:ByteArray}{p3:ByteArray}{q1:Option Nat}{es1:Array MapEntry}{ck1:Nat}{q2:Option Nat}{es2:Array MapEntry}{ck2:Nat}{r:T1s}(st:St m (qBj q1 es1 ck1::qBj q2 es2 ck2::kB bp0 #[vS a1 p0.1 c1,vB p0.2.1,.map q1,vS a2 p0.2.2.2.1 c2,.map q2] 151::O) w)(r1:RepS C1 m a1 c1 p0.1)(r2:MapQ (fun s:ByteArray=>Value.string s) C6 true m q1 es1 ck1 p0.2.2.1)(r3:RepS cStr m a2 c2 p0.2.2.2.1)(r4:MapQ qId C7 true m q2 es2 ck2 p0.2.2.2.2)(i:qHt N p0 p1 p2 p3=some r):Calls Tryz.prog 104 #[vP bp0 0,vI p1,vT p2,vT p3] w fun e w'=>∃m',e= .returned (.agg (Vc r))∧m.le m'∧St m' (qBj q1 es1 ck1::qBj q2 es2 ck2::kB bp0 #[vS a1 p0.1 c1,vB p0.2.1,.map q1,vS a2 p0.2.2.2.1 c2,.map q2] 151::O) w':=by
 unfold qHt at i;have q:=m.le_refl;refine W_cA Tryz.func104 rfl Tryz.ntmps104 ?_;refine W_sr (qAa rfl (qCm 8 73 (.agg (Vb eB eB 0 eB 0 0)) st fun b1 w1 st=>(WO_e (qAr (W_sr (qCs 3 15 4 14 1 (vB p0.2.1) st.t.t.t.h (qAe 1 [(16,vB (!p0.2.1))] (W_if i ?_ ?_))))))))
 ·intro A i;refine W_sr (qAb 1 [(17,.agg (Vb eB eB 0 eB 0 0))] (qAa rfl (qBn 73 8 17 (.agg (Vb eB eB 0 eB 0 0)) st fun w2 st=>(WO_e (qBb (qAf ?_))))));cases i;exact qKb [.cell 8 73] [.agg (Vb eB eB 0 eB 0 0)] rfl (ResAll.cons (ResAt.blk (v:= .agg (Vb eB eB 0 eB 0 0)) (o:=0) kr st.h kr) ResAll.nil) ⟨m,rfl,q,st.t.f2.f2.f2⟩
 ·intro A i;refine qAn (qAg (W_sr (qAb 3 [(18,vI p1),(19,vT p2),(20,vT p3)] (qAv 21 i (fun _ h=>qSj st h) ?_))));rintro y1 i _ w3 ⟨m1,rfl,e1,st⟩;have q:=q.t e1;refine qAa rfl (qCm 9 212 (.agg #[vI 0,vT eB,vT eB]) st fun b2 w4 st=>(qAa rfl (qBn 212 9 21 (.agg (Va y1)) st fun w5 st=>(WO_e (qAr (qAr (qFl [(12,fun w'=>Inv m1 w'∧Piece.holds m1 w' (kB b2 (Va y1) 212)∧Piece.holds m1 w' (kB bp0 #[vS a1 p0.1 c1,vB p0.2.1,.map q1,vS a2 p0.2.2.2.1 c2,.map q2] 151)∧True)] kr st fun w6 _ st=> ?_)))))));have hmS1:=m1.le_refl;refine⟨⟨.inr ⟨Inv.anti st.inv hmS1,Piece.holds_anti st.h hmS1,Piece.holds_anti st.t.t.t.t.h hmS1,trivial⟩,trivial⟩,?_⟩;refine qAu 0 23 (vP bp0 0) (.head _) (qAu 1 24 (vP bp0 0) (.head _) (qAu 2 25 (vP bp0 4) (.head _) (qFa 149 25 3 26 4 (.map q2) (.head _) (fun _ h=>h.2.2.1) (qFa 212 9 4 27 0 (.agg (Va y1)) (.head _) (fun _ h=>h.2.1) (qPc [5,9] kr (by simp) (qQe ?_ ?_))))))
  ·refine qIk (ek:=qId) (c:=C7) (agg:=true) (k:=y1) (zx:=(eB,eB,0,eB,0,0)) (zcs:=[vT eB,vT eB,vI 0,vT eB,vI 0,vI 0]) (z:=(.agg (Vb eB eB 0 eB 0 0))) (kt:=212) (et:=73) (d:=28) (t:=149) (x:=(.tmp 26)) (y:=(.tmp 27)) (ok:=true) kr rfl (ev (.map q2)) (ev (.agg (Va y1))) kr (qVv kr kr (fun _ _=>kr) (fun _ _=>kr)) st.t.t.t.h (r4.mono e1) ⟨_,_,rfl,rfl,⟨_,_,rfl,rfl,⟨_,_,rfl,rfl,⟨_,_,rfl,rfl,⟨_,_,rfl,rfl,rfl⟩⟩⟩⟩⟩ rfl ?_;rintro cs1 ⟨_,_,rfl,rfl,⟨_,_,rfl,rfl,⟨_,_,rfl,rfl,⟨_,_,rfl,rfl,⟨_,_,rfl,rfl,rfl⟩⟩⟩⟩⟩;refine⟨⟨.inr ⟨Inv.anti st.inv hmS1,Piece.holds_anti st.h hmS1,Piece.holds_anti st.t.t.t.t.h hmS1,trivial⟩,trivial⟩,?_⟩
   refine qAu 6 22 (.tuple #[.agg (Vb (((qAl p0.2.2.2.2 y1).getD (eB,eB,0,eB,0,0)).1) (((qAl p0.2.2.2.2 y1).getD (eB,eB,0,eB,0,0)).2.1) (((qAl p0.2.2.2.2 y1).getD (eB,eB,0,eB,0,0)).2.2.1) (((qAl p0.2.2.2.2 y1).getD (eB,eB,0,eB,0,0)).2.2.2.1) (((qAl p0.2.2.2.2 y1).getD (eB,eB,0,eB,0,0)).2.2.2.2.1) (((qAl p0.2.2.2.2 y1).getD (eB,eB,0,eB,0,0)).2.2.2.2.2)),vB ((qAl p0.2.2.2.2 y1).isSome)]) (.head _) (qAu 7 29 (.agg (Vb (((qAl p0.2.2.2.2 y1).getD (eB,eB,0,eB,0,0)).1) (((qAl p0.2.2.2.2 y1).getD (eB,eB,0,eB,0,0)).2.1) (((qAl p0.2.2.2.2 y1).getD (eB,eB,0,eB,0,0)).2.2.1) (((qAl p0.2.2.2.2 y1).getD (eB,eB,0,eB,0,0)).2.2.2.1) (((qAl p0.2.2.2.2 y1).getD (eB,eB,0,eB,0,0)).2.2.2.2.1) (((qAl p0.2.2.2.2 y1).getD (eB,eB,0,eB,0,0)).2.2.2.2.2))) (.head _) (qAu 8 30 (vB ((qAl p0.2.2.2.2 y1).isSome)) (.head _) (qBh 9 kr (qCm 10 73 (.agg (Vb eB eB 0 eB 0 0)) st fun b3 w7 st=>(⟨⟨.inr ⟨Inv.anti st.inv hmS1,Piece.holds_anti st.t.h hmS1,Piece.holds_anti st.t.t.t.t.t.h hmS1,trivial⟩,trivial⟩,?_⟩)))))
   refine qBh 10 kr (qBn 73 10 29 (.agg (Vb (((qAl p0.2.2.2.2 y1).getD (eB,eB,0,eB,0,0)).1) (((qAl p0.2.2.2.2 y1).getD (eB,eB,0,eB,0,0)).2.1) (((qAl p0.2.2.2.2 y1).getD (eB,eB,0,eB,0,0)).2.2.1) (((qAl p0.2.2.2.2 y1).getD (eB,eB,0,eB,0,0)).2.2.2.1) (((qAl p0.2.2.2.2 y1).getD (eB,eB,0,eB,0,0)).2.2.2.2.1) (((qAl p0.2.2.2.2 y1).getD (eB,eB,0,eB,0,0)).2.2.2.2.2))) st fun w8 st=>(⟨⟨.inr ⟨Inv.anti st.inv hmS1,Piece.holds_anti st.t.h hmS1,Piece.holds_anti st.t.t.t.t.t.h hmS1,trivial⟩,trivial⟩,?_⟩));refine qAu 11 11 (vB ((qAl p0.2.2.2.2 y1).isSome)) (.head _) (qCd kr (qAg (W_sr (qAe 1 [(31,vB ((qAl p0.2.2.2.2 y1).isSome))] (W_if i ?_ ?_)))))
   ·intro A i;refine W_sr (qAa rfl (qBc 32 73 10 0 (.agg (Vb (((qAl p0.2.2.2.2 y1).getD (eB,eB,0,eB,0,0)).1) (((qAl p0.2.2.2.2 y1).getD (eB,eB,0,eB,0,0)).2.1) (((qAl p0.2.2.2.2 y1).getD (eB,eB,0,eB,0,0)).2.2.1) (((qAl p0.2.2.2.2 y1).getD (eB,eB,0,eB,0,0)).2.2.2.1) (((qAl p0.2.2.2.2 y1).getD (eB,eB,0,eB,0,0)).2.2.2.2.1) (((qAl p0.2.2.2.2 y1).getD (eB,eB,0,eB,0,0)).2.2.2.2.2))) st.h (qAa rfl (qBn 73 8 32 (.agg (Vb (((qAl p0.2.2.2.2 y1).getD (eB,eB,0,eB,0,0)).1) (((qAl p0.2.2.2.2 y1).getD (eB,eB,0,eB,0,0)).2.1) (((qAl p0.2.2.2.2 y1).getD (eB,eB,0,eB,0,0)).2.2.1) (((qAl p0.2.2.2.2 y1).getD (eB,eB,0,eB,0,0)).2.2.2.1) (((qAl p0.2.2.2.2 y1).getD (eB,eB,0,eB,0,0)).2.2.2.2.1) (((qAl p0.2.2.2.2 y1).getD (eB,eB,0,eB,0,0)).2.2.2.2.2))) st.f2 fun w9 st=>(WO_e (qBb (qAf ?_)))))));obtain rfl:=sI i
    exact qKb [.cell 8 73] [.agg (Vb (((qAl p0.2.2.2.2 y1).getD (eB,eB,0,eB,0,0)).1) (((qAl p0.2.2.2.2 y1).getD (eB,eB,0,eB,0,0)).2.1) (((qAl p0.2.2.2.2 y1).getD (eB,eB,0,eB,0,0)).2.2.1) (((qAl p0.2.2.2.2 y1).getD (eB,eB,0,eB,0,0)).2.2.2.1) (((qAl p0.2.2.2.2 y1).getD (eB,eB,0,eB,0,0)).2.2.2.2.1) (((qAl p0.2.2.2.2 y1).getD (eB,eB,0,eB,0,0)).2.2.2.2.2))] rfl (ResAll.cons (ResAt.blk (v:= .agg (Vb (((qAl p0.2.2.2.2 y1).getD (eB,eB,0,eB,0,0)).1) (((qAl p0.2.2.2.2 y1).getD (eB,eB,0,eB,0,0)).2.1) (((qAl p0.2.2.2.2 y1).getD (eB,eB,0,eB,0,0)).2.2.1) (((qAl p0.2.2.2.2 y1).getD (eB,eB,0,eB,0,0)).2.2.2.1) (((qAl p0.2.2.2.2 y1).getD (eB,eB,0,eB,0,0)).2.2.2.2.1) (((qAl p0.2.2.2.2 y1).getD (eB,eB,0,eB,0,0)).2.2.2.2.2))) (o:=0) kr st.h kr) ResAll.nil) ⟨m1,rfl,q,st.t.t.t.f2.f2.f2⟩
   ·intro A i;refine qAn (qAg (W_sr (qCs 1 34 9 33 1 (vT y1.2.1) st.t.h (qAb 3 [(37,.agg (Vb y1.2.1 p3 p1 eB 0 0))] (qAa rfl (qBn 73 8 37 (.agg (Vb y1.2.1 p3 p1 eB 0 0)) st.f2 fun w10 st=>(WO_e (qBb ?_))))))));cases i;exact qKb [.cell 8 73] [.agg (Vb y1.2.1 p3 p1 eB 0 0)] rfl (ResAll.cons (ResAt.blk (v:= .agg (Vb y1.2.1 p3 p1 eB 0 0)) (o:=0) kr st.h kr) ResAll.nil) ⟨m1,rfl,q,st.t.t.t.f2.f2.f2⟩
  ·refine qCm 10 73 (.agg (Vb eB eB 0 eB 0 0)) st fun b3 w7 st=> ?_;refine⟨⟨.inr ⟨Inv.anti st.inv hmS1,Piece.holds_anti st.t.h hmS1,Piece.holds_anti st.t.t.t.t.t.h hmS1,trivial⟩,trivial⟩,?_⟩;refine qBh 5 kr (qIk (ek:=qId) (c:=C7) (agg:=true) (k:=y1) (zx:=(eB,eB,0,eB,0,0)) (zcs:=[vT eB,vT eB,vI 0,vT eB,vI 0,vI 0]) (z:=(.agg (Vb eB eB 0 eB 0 0))) (kt:=212) (et:=73) (d:=28) (t:=149) (x:=(.tmp 26)) (y:=(.tmp 27)) (ok:=true) kr rfl (ev (.map q2)) (ev (.agg (Va y1))) kr (qVv kr kr (fun _ _=>kr) (fun _ _=>kr)) st.t.t.t.t.h (r4.mono e1) ⟨_,_,rfl,rfl,⟨_,_,rfl,rfl,⟨_,_,rfl,rfl,⟨_,_,rfl,rfl,⟨_,_,rfl,rfl,rfl⟩⟩⟩⟩⟩ rfl ?_);rintro cs1 ⟨_,_,rfl,rfl,⟨_,_,rfl,rfl,⟨_,_,rfl,rfl,⟨_,_,rfl,rfl,⟨_,_,rfl,rfl,rfl⟩⟩⟩⟩⟩;refine⟨⟨.inr ⟨Inv.anti st.inv hmS1,Piece.holds_anti st.t.h hmS1,Piece.holds_anti st.t.t.t.t.t.h hmS1,trivial⟩,trivial⟩,?_⟩
   refine qAu 6 22 (.tuple #[.agg (Vb (((qAl p0.2.2.2.2 y1).getD (eB,eB,0,eB,0,0)).1) (((qAl p0.2.2.2.2 y1).getD (eB,eB,0,eB,0,0)).2.1) (((qAl p0.2.2.2.2 y1).getD (eB,eB,0,eB,0,0)).2.2.1) (((qAl p0.2.2.2.2 y1).getD (eB,eB,0,eB,0,0)).2.2.2.1) (((qAl p0.2.2.2.2 y1).getD (eB,eB,0,eB,0,0)).2.2.2.2.1) (((qAl p0.2.2.2.2 y1).getD (eB,eB,0,eB,0,0)).2.2.2.2.2)),vB ((qAl p0.2.2.2.2 y1).isSome)]) (.head _) (qAu 7 29 (.agg (Vb (((qAl p0.2.2.2.2 y1).getD (eB,eB,0,eB,0,0)).1) (((qAl p0.2.2.2.2 y1).getD (eB,eB,0,eB,0,0)).2.1) (((qAl p0.2.2.2.2 y1).getD (eB,eB,0,eB,0,0)).2.2.1) (((qAl p0.2.2.2.2 y1).getD (eB,eB,0,eB,0,0)).2.2.2.1) (((qAl p0.2.2.2.2 y1).getD (eB,eB,0,eB,0,0)).2.2.2.2.1) (((qAl p0.2.2.2.2 y1).getD (eB,eB,0,eB,0,0)).2.2.2.2.2))) (.head _) (qAu 8 30 (vB ((qAl p0.2.2.2.2 y1).isSome)) (.head _) (qBh 10 kr (qBn 73 10 29 (.agg (Vb (((qAl p0.2.2.2.2 y1).getD (eB,eB,0,eB,0,0)).1) (((qAl p0.2.2.2.2 y1).getD (eB,eB,0,eB,0,0)).2.1) (((qAl p0.2.2.2.2 y1).getD (eB,eB,0,eB,0,0)).2.2.1) (((qAl p0.2.2.2.2 y1).getD (eB,eB,0,eB,0,0)).2.2.2.1) (((qAl p0.2.2.2.2 y1).getD (eB,eB,0,eB,0,0)).2.2.2.2.1) (((qAl p0.2.2.2.2 y1).getD (eB,eB,0,eB,0,0)).2.2.2.2.2))) st fun w8 st=>(⟨⟨.inr ⟨Inv.anti st.inv hmS1,Piece.holds_anti st.t.h hmS1,Piece.holds_anti st.t.t.t.t.t.h hmS1,trivial⟩,trivial⟩,?_⟩)))))
   refine qAu 11 11 (vB ((qAl p0.2.2.2.2 y1).isSome)) (.head _) (qCd kr (qAg (W_sr (qAe 1 [(31,vB ((qAl p0.2.2.2.2 y1).isSome))] (W_if i ?_ ?_)))))
   ·intro A i;refine W_sr (qAa rfl (qBc 32 73 10 0 (.agg (Vb (((qAl p0.2.2.2.2 y1).getD (eB,eB,0,eB,0,0)).1) (((qAl p0.2.2.2.2 y1).getD (eB,eB,0,eB,0,0)).2.1) (((qAl p0.2.2.2.2 y1).getD (eB,eB,0,eB,0,0)).2.2.1) (((qAl p0.2.2.2.2 y1).getD (eB,eB,0,eB,0,0)).2.2.2.1) (((qAl p0.2.2.2.2 y1).getD (eB,eB,0,eB,0,0)).2.2.2.2.1) (((qAl p0.2.2.2.2 y1).getD (eB,eB,0,eB,0,0)).2.2.2.2.2))) st.h (qAa rfl (qBn 73 8 32 (.agg (Vb (((qAl p0.2.2.2.2 y1).getD (eB,eB,0,eB,0,0)).1) (((qAl p0.2.2.2.2 y1).getD (eB,eB,0,eB,0,0)).2.1) (((qAl p0.2.2.2.2 y1).getD (eB,eB,0,eB,0,0)).2.2.1) (((qAl p0.2.2.2.2 y1).getD (eB,eB,0,eB,0,0)).2.2.2.1) (((qAl p0.2.2.2.2 y1).getD (eB,eB,0,eB,0,0)).2.2.2.2.1) (((qAl p0.2.2.2.2 y1).getD (eB,eB,0,eB,0,0)).2.2.2.2.2))) st.f2 fun w9 st=>(WO_e (qBb (qAf ?_)))))));obtain rfl:=sI i
    exact qKb [.cell 8 73] [.agg (Vb (((qAl p0.2.2.2.2 y1).getD (eB,eB,0,eB,0,0)).1) (((qAl p0.2.2.2.2 y1).getD (eB,eB,0,eB,0,0)).2.1) (((qAl p0.2.2.2.2 y1).getD (eB,eB,0,eB,0,0)).2.2.1) (((qAl p0.2.2.2.2 y1).getD (eB,eB,0,eB,0,0)).2.2.2.1) (((qAl p0.2.2.2.2 y1).getD (eB,eB,0,eB,0,0)).2.2.2.2.1) (((qAl p0.2.2.2.2 y1).getD (eB,eB,0,eB,0,0)).2.2.2.2.2))] rfl (ResAll.cons (ResAt.blk (v:= .agg (Vb (((qAl p0.2.2.2.2 y1).getD (eB,eB,0,eB,0,0)).1) (((qAl p0.2.2.2.2 y1).getD (eB,eB,0,eB,0,0)).2.1) (((qAl p0.2.2.2.2 y1).getD (eB,eB,0,eB,0,0)).2.2.1) (((qAl p0.2.2.2.2 y1).getD (eB,eB,0,eB,0,0)).2.2.2.1) (((qAl p0.2.2.2.2 y1).getD (eB,eB,0,eB,0,0)).2.2.2.2.1) (((qAl p0.2.2.2.2 y1).getD (eB,eB,0,eB,0,0)).2.2.2.2.2))) (o:=0) kr st.h kr) ResAll.nil) ⟨m1,rfl,q,st.t.t.t.f2.f2.f2⟩
   ·intro A i;refine qAn (qAg (W_sr (qCs 1 34 9 33 1 (vT y1.2.1) st.t.h (qAb 3 [(37,.agg (Vb y1.2.1 p3 p1 eB 0 0))] (qAa rfl (qBn 73 8 37 (.agg (Vb y1.2.1 p3 p1 eB 0 0)) st.f2 fun w10 st=>(WO_e (qBb ?_))))))));cases i;exact qKb [.cell 8 73] [.agg (Vb y1.2.1 p3 p1 eB 0 0)] rfl (ResAll.cons (ResAt.blk (v:= .agg (Vb y1.2.1 p3 p1 eB 0 0)) (o:=0) kr st.h kr) ResAll.nil) ⟨m1,rfl,q,st.t.t.t.f2.f2.f2⟩
def qIn(N:Nat)(p0:Tk)(p1:Int)(p2:ByteArray)(p3:ByteArray):Option T1s:=
 (qKw N p0).bind fun y1=>(qHt N y1 p1 p2 p3).bind fun y2=>some y2
theorem qSs{p0:Tk}{p1:Int}{p2:ByteArray}{p3:ByteArray}{r:T1s}(st:St m (O) w)(r1:RepS C1 m a1 c1 p0)(i:qIn N p0 p1 p2 p3=some r):Calls Tryz.prog 41 #[.agg #[vS a1 p0 c1],vI p1,vT p2,vT p3] w fun e w'=>∃m',e= .returned (.agg (Vc r))∧m.le m'∧St m' (O) w':=by
 unfold qIn at i;have q:=m.le_refl;refine W_cA Tryz.func41 rfl Tryz.ntmps41 ?_;refine W_sr (qAa rfl (qJw 4 28 0 (.agg #[vS a1 p0 c1]) st fun b1 m1 w1 e1 st hb1=>(qAa rfl (qCm 8 73 (.agg (Vb eB eB 0 eB 0 0)) st fun b2 w2 st=>(WO_e (W_sr (qHg 9 28 4 0 (.agg #[vS a1 p0 c1]) st hb1 (qAv 10 i (fun _ h=>qMe st (r1.mono e1) h) ?_))))))));rintro y1 i _ w3 ⟨b3,a2,c2,q1,es1,ck1,a3,c3,q2,es2,ck2,m2,rfl,e2,st,r2,r3,r4,r5⟩;refine qAb 3 [(11,vI p1),(12,vT p2),(13,vT p3)] (qAv 14 i (fun _ h=>qQj st.f2.f2.f2 r2 r3 r4 r5 h) ?_);rintro y2 i _ w4 ⟨m3,rfl,e3,st⟩;refine qAa rfl (qBn 73 8 14 (.agg (Vc y2)) st.f3 fun w5 st=>(WO_e (qBb ?_)));obtain rfl:=sI i;exact qKb [.cell 8 73] [.agg (Vc y2)] rfl (ResAll.cons (ResAt.blk (v:= .agg (Vc y2)) (o:=0) kr st.h kr) ResAll.nil) ⟨m3,rfl,((q.t e1).t e2).t e3,st.t.t.t.t⟩
def qIj(N:Nat)(y1:T1z)(s1:Tk×Int):Option (Tk×Int⊕Tk):=
 if(decide (s1.2<(List.length y1:Int)))=true then(((idx y1 s1.2).bind fun x1=>(if(x1.2.2.1==2)=true then(some (x1.2.2.2.2.2==1)) else(some false):Td).bind fun o3=>if o3=true then((qEo 32 s1.1 ([(x1.1,x1.2.1)])).bind fun l1=>some l1) else(some s1.1):Option Tk).bind fun o2=>some (.inl (o2,IntKind.wrap .i64 (s1.2+1)))) else(some (.inr s1.1))
def qHw(N:Nat)(p0:Tk):Option Tk:=
 (qFe N p0).bind fun y1=>(qBf (qIj N y1) N (([]:Tk),0)).bind fun o1=>some o1
theorem qRq{p0:Tk}{r:Tk}(st:St m (O) w)(r1:RepS C1 m a1 c1 p0)(i:qHw N p0=some r):Calls Tryz.prog 93 #[.agg #[vS a1 p0 c1]] w fun e w'=>∃ra1 rc1 m',e= .returned (vS ra1 r rc1)∧m.le m'∧St m' (kR ra1 r rc1 156 2::O) w'∧RepS C1 m' ra1 rc1 r:=by
 unfold qHw at i;have q:=m.le_refl;refine W_cA Tryz.func93 rfl Tryz.ntmps93 ?_;refine W_sr (qAa rfl (qJw 1 28 0 (.agg #[vS a1 p0 c1]) st fun b1 m1 w1 e1 st hb1=>(qAe 1 [] (W_sr (qAe 1 [(3,v6)] (qAr (W_sr (qHg 6 28 1 0 (.agg #[vS a1 p0 c1]) st hb1 (qAv 7 i (fun _ h=>qIw st (r1.mono e1) h) ?_)))))))));rintro y1 i _ w2 ⟨a2,c2,m2,rfl,e2,st,r2⟩;refine qAe 2 [(8,vI (y1.length:Int)),(9,vI 0)] (qAy ?_);have⟨out1,i,j1⟩:=qAw i;refine qCg (.exit 0) (fun L' w'=>∃(o1:Tk),∃a3 c3 m3,o1=out1∧L'=[(3,vS a3 o1 c3)]∧m.le m3∧St m3 (kR a2 y1 c2 73 6::kR a3 o1 c3 156 2::O) w'∧RepS C1 m3 a3 c3 o1) ?_ ?_
 ·rintro _ w3 ⟨o1,a3,c3,m3,rfl,rfl,q,st,r3⟩;have i:=j1;refine qBk (qAg (W_sr (qAb 2 [(2,vS a3 o1 c3)] (qAs rfl ?_))));have st:=st.t;refine qAg (qBb ?_);obtain rfl:=sI i;exact X_rt [2] [vS a3 o1 c3] ⟨a3,c3,m3,rfl,q,st,r3⟩
 intro K0_u1;have st:=(st.nilroom 156 2).front1;refine qHk _ kr (qEl (fun k1 L' w'=>∃(s1:Tk×Int),∃a4 c4 m4,qBf (qIj N y1) k1 s1=some out1∧L'=[(3,vS a4 s1.1 c4),(7,vS a2 y1 c2),(8,vI (y1.length:Int)),(9,vI s1.2)]∧m.le m4∧St m4 (kR a2 y1 c2 73 6::kR a4 s1.1 c4 156 2::O) w'∧RepS C1 m4 a4 c4 s1.1∧RepS C7 m4 a2 c2 y1) N ⟨(([]:Tk),0),none,0,m2,i,rfl,(q.t e1).t e2,st,(RepS.nil _ _),r2⟩ ?_);rintro k1 _ w4 ⟨s1,a4,c4,m4,hL,rfl,q,st,r4,r2⟩;rcases k1 with _|k1
 ·exact qBr hL
 ·obtain⟨qu1,i,hSu1,hBu1⟩:=qBs hL;clear hL;unfold qIj at i;refine W_sr (qAe 1 [(10,vB (decide (s1.2<(y1.length:Int))))] (qAr (W_if i ?_ ?_)))
  ·intro A i;refine qAn (qAg (qAr ?_));have⟨o2,i,j2⟩:=qAw i;refine qCg .normal (fun L' w'=>∃a5 c5 m5,L'=[(3,vS a5 o2 c5),(7,vS a2 y1 c2),(8,vI (y1.length:Int)),(9,vI s1.2)]∧m.le m5∧St m5 (kR a2 y1 c2 73 6::kR a5 o2 c5 156 2::O) w'∧RepS C1 m5 a5 c5 o2∧RepS C7 m5 a2 c2 y1) ?_ ?_
   ·have i:=j2;rintro _ w5 ⟨a5,c5,m5,rfl,q,st,r5,r2⟩;refine qAg (qAm (qAb 2 [(9,vI (wr (s1.2+1)))] (qAs rfl ?_)));obtain rfl:=sI i;have hL:=hSu1 _ rfl;exact xE (qCr k1 (jE _) ⟨(o2,wr (s1.2+1)),a5,c5,m5,hL,rfl,q,st.f1.f1,r5,r2⟩)
   ·intro Ku2;refine qAy (W_sr (qAa rfl (qGx 11 70 73 7 9 r2 i ?_)));rintro x1 i b2 f1 cs1 ⟨_,_,rfl,rfl,⟨_,_,rfl,rfl,⟨_,_,rfl,rfl,⟨_,_,rfl,rfl,⟨_,_,rfl,rfl,rfl⟩⟩⟩⟩⟩ hq1;refine qHg 12 73 11 f1 (.agg (Vc x1)) st hq1 (qAa rfl (qCm 5 73 (.agg (Vb eB eB 0 eB 0 0)) st fun b3 w6 st=>(qAa rfl (qBn 73 5 12 (.agg (Vc x1)) st fun w7 st=>(WO_e (W_sr ?_))))));have⟨o3,i,J⟩:=qAw i;refine qGu (j:=8) (fun L' w'=>∃m6,L'=[(3,vS a4 s1.1 c4),(5,vP b3 0),(7,vS a2 y1 c2),(8,vI (y1.length:Int)),(9,vI s1.2),(20,vB o3)]∧m.le m6∧St m6 (kB b3 (Vc x1) 73::kR a2 y1 c2 73 6::kR a4 s1.1 c4 156 2::O) w'∧RepS C1 m6 a4 c4 s1.1∧RepS C7 m6 a2 c2 y1) ?_ ?_
    ·have i:=J;rintro _ w8 ⟨m6,rfl,q,st,r4,r2⟩;refine WO_e (W_if i ?_ ?_)
     ·intro A i;refine qAm (qAb 2 [(21,vS a4 s1.1 c4),(22,vP b3 0)] (qAa rfl (qBc 23 9 22 0 (vT x1.1) st.h (qCs 1 25 9 24 1 (vT x1.2.1) st.h (qAb 1 [(26,.agg #[vT x1.1,vT x1.2.1])] (qAa rfl (qAq (d:=27) (t:=153) (e:=156) (len:=1) (parts:= #[(0,(.tmp 26))]) C1 (xs:=[(x1.1,x1.2.1)]) [vT x1.1,vT x1.2.1] kr rfl (fun _=>qAp kr _) rfl rfl st ⟨[vT x1.1,vT x1.2.1],_,rfl,⟨_,_,rfl,rfl,rfl⟩,rfl⟩ fun b4 m7 w9 e3 st r6=>(qAa rfl (qIv 28 153 153 156 32 21 27 st.f3 (.inl kr) (r4.mono e3) r6.src i fun l1 i a6 c6 m8 w10 e4 st r7=>(qAb 1 [(3,vS a6 l1 c6)] (qAs rfl ?_)))))))))));have st:=st.f1.t;refine qBm ?_;cases i;exact xE (Ku2 _ _ ⟨a6,c6,m8,rfl,(q.t e3).t e4,st.f1.t.f1,r7,(r2.mono e3).mono e4⟩)
     ·intro A i;refine qAn (qBm ?_);cases i;exact xE (Ku2 _ _ ⟨a4,c4,m6,rfl,q,st.t.f1.f1,r4,r2⟩)
    ·intro K;refine qCs 1 14 3 13 2 (vI x1.2.2.1) st.h (qAb 2 [(16,vB (x1.2.2.1==2))] (qGb 16 i ?_ ?_))
     ·intro A i;refine qCs 1 18 3 17 5 (vI x1.2.2.2.2.2) st.h (qAb 2 [(20,vB (x1.2.2.2.2.2==1))] ?_);cases i;exact qBv _ kr (K _ _ ⟨m4,rfl,q,st.f2.f2.f2,r4,r2⟩)
     ·intro A i;refine qAb 4 [(20,vB false)] ?_;cases i;exact qBv _ kr (K _ _ ⟨m4,rfl,q,st.f2.f2.f2,r4,r2⟩)
  ·intro A i;refine qDy (qAi ?_);cases i;have ho:=hBu1 _ rfl;have st:=st.f1.f1;refine qAi ?_;exact xE (K0_u1 _ _ ⟨s1.1,a4,c4,m4,ho,rfl,q,st,r4⟩)
def qFj(N:Nat):Td:=
 (qIn N ([((⟨#[97,46,115,114,99]⟩:ByteArray),(⟨#[112,97,99,107,97,103,101,32,112,59,32,102,117,110,99,32,102,40,41,32,61,32,49,59,32,116,101,115,116,32,116,32,61,32,102,40,41,59]⟩:ByteArray)),((⟨#[98,46,115,114,99]⟩:ByteArray),(⟨#[112,97,99,107,97,103,101,32,112,59,32,102,117,110,99,32,102,40,41,32,61,32,50,59]⟩:ByteArray)),((⟨#[99,46,115,114,99]⟩:ByteArray),(⟨#[102,117,110,99]⟩:ByteArray))]) 1 (⟨#[112]⟩:ByteArray) (⟨#[102]⟩:ByteArray)).bind fun y1=>(qHw N ([((⟨#[97,46,115,114,99]⟩:ByteArray),(⟨#[112,97,99,107,97,103,101,32,112,59,32,102,117,110,99,32,102,40,41,32,61,32,49,59,32,116,101,115,116,32,116,32,61,32,102,40,41,59]⟩:ByteArray)),((⟨#[98,46,115,114,99]⟩:ByteArray),(⟨#[112,97,99,107,97,103,101,32,112,59,32,102,117,110,99,32,102,40,41,32,61,32,50,59]⟩:ByteArray)),((⟨#[99,46,115,114,99]⟩:ByteArray),(⟨#[102,117,110,99]⟩:ByteArray))])).bind fun y2=>(qFp N ([((⟨#[97,46,115,114,99]⟩:ByteArray),(⟨#[112,97,99,107,97,103,101,32,112,59,32,102,117,110,99,32,102,40,41,32,61,32,49,59,32,116,101,115,116,32,116,32,61,32,102,40,41,59]⟩:ByteArray)),((⟨#[98,46,115,114,99]⟩:ByteArray),(⟨#[112,97,99,107,97,103,101,32,112,59,32,102,117,110,99,32,102,40,41,32,61,32,50,59]⟩:ByteArray)),((⟨#[99,46,115,114,99]⟩:ByteArray),(⟨#[102,117,110,99]⟩:ByteArray))])).bind fun y3=>(if((y1.1.toList==(⟨#[112]⟩:ByteArray).toList)&&((y1.2.1.toList==(⟨#[102]⟩:ByteArray).toList)&&((y1.2.2.1==1)&&((y1.2.2.2.1.toList==(⟨#[97,46,115,114,99]⟩:ByteArray).toList)&&((y1.2.2.2.2.1==0)&&((y1.2.2.2.2.2==2)&&true))))))=true then(if((List.length y2:Int)==1)=true then((idx y2 0).bind fun x1=>if(x1.2.toList==(⟨#[116]⟩:ByteArray).toList)=true then(if((List.length y3:Int)==1)=true then((idx y3 0).bind fun x2=>some (x2.toList==(⟨#[99,46,115,114,99]⟩:ByteArray).toList)) else(some false)) else(some false)) else(some false)) else(some false):Td).bind fun o1=>some o1
theorem qOn{r:Bool}(st:St m (O) w)(i:qFj N=some r):Calls Tryz.prog 38 #[] w fun e w'=>∃m',e= .returned (vB r)∧m.le m'∧St m' (O) w':=by
 unfold qFj at i;have q:=m.le_refl;refine W_cA Tryz.func38 rfl Tryz.ntmps38 ?_;refine W_sr (qAe 1 [] (W_sr (qAb 3 [(5,.agg #[vT ba,vT b1x]),(6,.agg #[vT bb,vT b1y]),(7,.agg #[vT b1z,vT b1g])] (qAa rfl (qAq (d:=8) (t:=26) (e:=68) (len:=3) (parts:= #[(0,(.tmp 5)),(1,(.tmp 6)),(2,(.tmp 7))]) C1 (xs:=[(ba,b1x),(bb,b1y),(b1z,b1g)]) [vT ba,vT b1x,vT bb,vT b1y,vT b1z,vT b1g] kr rfl (fun _=>qAp kr _) rfl rfl st ⟨[vT ba,vT b1x],_,rfl,⟨_,_,rfl,rfl,rfl⟩,⟨[vT bb,vT b1y],_,rfl,⟨_,_,rfl,rfl,rfl⟩,⟨[vT b1z,vT b1g],_,rfl,⟨_,_,rfl,rfl,rfl⟩,rfl⟩⟩⟩ fun b1 m1 w1 e1 st r1=>(qAb 1 [(9,.agg #[.slice (aP b1) (List.length ([(ba,b1x),(bb,b1y),(b1z,b1g)])) 3])] (qAa rfl (qCm 1 28 (.agg #[v2]) st fun b2 w2 st=>(qAa rfl (qBn 28 1 9 (.agg #[.slice (aP b1) (List.length ([(ba,b1x),(bb,b1y),(b1z,b1g)])) 3]) st fun w3 st=>(WO_e (W_sr (qAa rfl (qBc 10 28 1 0 (.agg #[.slice (aP b1) (List.length ([(ba,b1x),(bb,b1y),(b1z,b1g)])) 3]) st.h (qAv 11 i (fun _ h=>qSs st r1 h) ?_)))))))))))))));rintro y1 i _ w4 ⟨m2,rfl,e2,st⟩;have r1:=r1.mono e2
 refine qAa rfl (qCm 2 73 (.agg (Vb eB eB 0 eB 0 0)) st fun b3 w5 st=>(qAa rfl (qBn 73 2 11 (.agg (Vc y1)) st fun w6 st=>(WO_e (W_sr (qAa rfl (qBc 12 28 1 0 (.agg #[.slice (aP b1) (List.length ([(ba,b1x),(bb,b1y),(b1z,b1g)])) 3]) st.t.h (qAv 13 i (fun _ h=>qRq st r1 h) ?_))))))));rintro y2 i _ w7 ⟨a1,c1,m3,rfl,e3,st,r2⟩;refine qAe 1 [(3,vS a1 y2 c1)] (W_sr (qAa rfl (qBc 14 28 1 0 (.agg #[.slice (aP b1) (List.length ([(ba,b1x),(bb,b1y),(b1z,b1g)])) 3]) st.t.t.h (qAv 15 i (fun _ h=>qJy st (r1.mono e3) h) ?_))));rintro y3 i _ w8 ⟨a2,c2,m4,rfl,e4,st,r3⟩;have q:=(((q.t e1).t e2).t e3).t e4;have r1:=(r1.mono e3).mono e4;refine qAe 1 [(4,vS a2 y3 c2)] (W_sr ?_);have⟨o1,i,J⟩:=qAw i;refine qGu (j:=27) (fun L' w'=>∃m5,L'=[(0,vB o1)]∧m.le m5∧St m5 (kB b3 (Vc y1) 73::kB b2 #[.slice (aP b1) (List.length ([(ba,b1x),(bb,b1y),(b1z,b1g)])) 3] 28::kR a1 y2 c1 156 2:: .room (aP b1) (List.length ([(ba,b1x),(bb,b1y),(b1z,b1g)])) 3 68 2::O) w'∧RepS C1 m5 (aP b1) 3 ([(ba,b1x),(bb,b1y),(b1z,b1g)])) ?_ ?_
 ·have i:=J;rintro _ w9 ⟨m5,rfl,q,st,r1⟩;refine WO_e (qBb ?_);obtain rfl:=sI i;exact X_rt [0] [vB o1] ⟨m5,rfl,q,st.t.t.t.t⟩
 ·intro K;refine qAa rfl (qBc 16 73 2 0 (.agg (Vc y1)) st.t.h (qAb 1 [(17,.agg (Vb be bq 1 ba 0 2))] (qAa rfl (qYy (d:=18) (t:=73) (t2:=73) (x:=(.tmp 16)) (y:=(.tmp 17)) (xs:=(Vc y1)) (ys:=(Vb be bq 1 ba 0 2)) ((y1.1.toList==be.toList)&&((y1.2.1.toList==bq.toList)&&((y1.2.2.1==1)&&((y1.2.2.2.1.toList==ba.toList)&&((y1.2.2.2.2.1==0)&&((y1.2.2.2.2.2==2)&&true)))))) kr rfl (ev (.agg (Vc y1))) (ev (.agg (Vb be bq 1 ba 0 2))) kr kr kr (qAb 1 [(19,vB ((y1.1.toList==be.toList)&&((y1.2.1.toList==bq.toList)&&((y1.2.2.1==1)&&((y1.2.2.2.1.toList==ba.toList)&&((y1.2.2.2.2.1==0)&&((y1.2.2.2.2.2==2)&&true)))))))] (qGb 19 i ?_ ?_))))))
  ·intro A i;refine qAb 5 [(24,vB ((y2.length:Int)==1))] (qGb 24 i ?_ ?_)
   ·intro A i;refine qAb 1 [(25,vS a1 y2 c1)] (qAa rfl (qGx 26 153 156 25 ((.const (vI 0))) (r2.mono e4) i ?_));rintro x1 i b4 f1 cs1 ⟨_,_,rfl,rfl,rfl⟩ hq1;refine qAb 1 [(27,.pointer (some ⟨b4,f1+1,none⟩))] (qAa rfl (qHm (d:=28) (t:=9) (x:=(.tmp 27)) (vT x1.2) kr rfl (ev (.pointer (some ⟨b4,f1+1,none⟩))) st (hq1.drop 1) kr (qAb 3 [(31,vB (x1.2.toList==bh.toList))] (qGb 31 i ?_ ?_))))
    ·intro A i;refine qAb 5 [(36,vB ((y3.length:Int)==1))] (qGb 36 i ?_ ?_)
     ·intro A i;refine qAb 1 [(37,vS a2 y3 c2)] (qAa rfl (qGx 38 43 9 37 ((.const (vI 0))) r3 i ?_));rintro x2 i b5 f2 cs2 rfl hq2;refine qHg 39 9 38 f2 (vT x2) st hq2 (qAb 3 [(0,vB (x2.toList==b1z.toList))] ?_);cases i;exact qBv _ kr (K _ _ ⟨m4,rfl,q,st.f3.f1.f3.f3,r1⟩)
     ·intro A i;refine qAb 6 [(0,vB false)] ?_;cases i;exact qBv _ kr (K _ _ ⟨m4,rfl,q,st.f3.f1.f3.f3,r1⟩)
    ·intro A i;refine qAb 11 [(0,vB false)] ?_;cases i;exact qBv _ kr (K _ _ ⟨m4,rfl,q,st.f3.f1.f3.f3,r1⟩)
   ·intro A i;refine qAb 18 [(0,vB false)] ?_;cases i;exact qBv _ kr (K _ _ ⟨m4,rfl,q,st.f3.f1.f3.f3,r1⟩)
  ·intro A i;refine qAb 23 [(0,vB false)] ?_;cases i;exact qBv _ kr (K _ _ ⟨m4,rfl,q,st.f3.f1.f3.f3,r1⟩)
def qCa(N:Nat)(y1:Tq)(s1:Tl):Option (Tl⊕Tk):=
 if(decide (s1.1<(List.length y1.2:Int)))=true then(((idx y1.2 s1.1).bind fun x1=>(qEw N x1.1).bind fun y2=>if y2=true then((qEc N (IntKind.wrap .i64 (9-s1.1))).bind fun y3=>(catB (⟨#[109]⟩:ByteArray) y3).bind fun s2=>(catB s2 (⟨#[46,115,114,99]⟩:ByteArray)).bind fun s3=>(qEo 32 s1.2 ([(s3,x1.2)])).bind fun l1=>some l1) else(some s1.2):Option Tk).bind fun o2=>some (.inl (IntKind.wrap .i64 (s1.1+1),o2))) else(some (.inr s1.2))
def qCi(N:Nat)(s4:Int×Tl):Option (Int×Tl⊕Tk):=
 if(decide (s4.1<s4.2.1))=true then((idx s4.2.2 s4.2.1).bind fun x2=>(idx s4.2.2 s4.1).bind fun x3=>(idx s4.2.2 s4.1).bind fun x4=>(idx (List.set s4.2.2 (Int.toNat s4.1) x2) s4.2.1).bind fun x5=>some (.inl (IntKind.wrap .i64 (s4.1+1),IntKind.wrap .i64 (s4.2.1-1),List.set (List.set s4.2.2 (Int.toNat s4.1) x2) (Int.toNat s4.2.1) x3))) else(some (.inr s4.2.2))
def qCk(N:Nat)(y4:T1z)(y5:T1z)(s5:Int):Option (Int⊕Unit⊕Bool):=
 if(decide (s5<(List.length y4:Int)))=true then((idx y4 s5).bind fun x6=>(idx y5 s5).bind fun x7=>(if(x6.2.2.2.2.2 !=x7.2.2.2.2.2)=true then(some true) else(if(!(x6.2.1.toList==x7.2.1.toList))=true then(some true) else(if(x6.2.2.1 !=x7.2.2.1)=true then(some true) else(if(x6.2.2.2.2.2==1)=true then(if(!(x6.1.toList==x7.1.toList))=true then(some true) else(some (x6.2.2.2.2.1 !=x7.2.2.2.2.1))) else(some false)))):Td).bind fun o5=>if o5=true then(some (.inr (.inr (false)))) else(some (.inl (IntKind.wrap .i64 (s5+1))))) else(some (.inr (.inl ())))
def qDk(N:Nat)(p0:T9):Td:=
 (qFr N (p0,0)).bind fun y1=>(qBf (qCa N y1) N (0,([]:Tk))).bind fun o1=>(qBf (qCi N) N (0,IntKind.wrap .i64 (((List.length o1):Int)-1),o1)).bind fun o3=>(qFe N y1.2).bind fun y4=>(qFe N o3).bind fun y5=>if((List.length y4:Int) !=(List.length y5:Int))=true then(some false) else((qBf (qCk N y4 y5) N 0).bind fun out3=>(match out3 with| .inl o4=>((qHx N y1.2).bind fun y6=>(qHx N o3).bind fun y7=>(qEx N y6 y7).bind fun y8=>if y8=true then((qFp N y1.2).bind fun y9=>(qFp N o3).bind fun y10=>if((List.length y9:Int)==(List.length y10:Int))=true then((qFj N).bind fun y11=>some y11) else(some false)) else(some false):Td).bind fun o6=>some o6| .inr (z)=>some z))
theorem qKx{p0:T9}{r:Bool}(st:St m (O) w)(r1:RepS (cInt .i64) m a1 c1 p0)(i:qDk N p0=some r):Calls Tryz.prog 6 #[vS a1 p0 c1] w fun e w'=>∃m',e= .returned (vB r)∧m.le m'∧St m' (O) w':=by
 unfold qDk at i;have q:=m.le_refl;refine W_cA Tryz.func6 rfl Tryz.ntmps6 ?_;refine W_sr (qAe 1 [] (W_sr (qAb 2 [(16,.agg #[vS a1 p0 c1,vI 0])] (qAa rfl (qOg 17 25 16 (.agg #[vS a1 p0 c1,vI 0]) st fun b1 w1 st=>(qAe 1 [(3,vP b1 0)] (W_sr (qAb 1 [(18,vP b1 0)] (qAv 19 i (fun _ h=>qNk (p0:=(p0,0)) st r1 h) ?_)))))))));rintro y1 i _ w2 ⟨a2,c2,a3,c3,m2,rfl,e2,st,r2,r3⟩;refine qAa rfl (qCm 4 28 (.agg #[v2]) st fun b2 w3 st=>(qAa rfl (qBn 28 4 19 (.agg #[vS a3 y1.2 c3]) st fun w4 st=>(WO_e (W_sr (qAa rfl (qCm 5 28 (.agg #[v2]) st fun b3 w5 st=>(WO_e (qAr (W_sr (qCs 1 21 26 20 0 (vS a3 y1.2 c3) st.t.h (qAe 2 [(22,vI (y1.2.length:Int)),(23,vI 0)] (qAy ?_)))))))))))));have st:=qWr (f:=(fun x:Tj=>((V3 x):List Value))) (st.nilroom 68 2);have⟨out1,i,j1⟩:=qAw i;refine qCg (.exit 0) (fun L' w'=>∃(o1:Tk),∃a4 c4 T1 m3,o1=out1∧L'=[(4,vP b2 0),(5,vP b3 0)]∧m.le m3∧St m3 (kB b3 #[vS a4 o1 c4] 28::kB b2 #[vS a3 y1.2 c3] 28::kB b1 (V1 y1.1 a2 c2) 25::opc a4 (qAz (fun x:Tj=>((V3 x):List Value)) o1 T1) 68::kR a3 y1.2 c3 68 2::O) w'∧RepS C1 m3 a3 c3 y1.2∧RepS (cInt .i64) m3 a2 c2 y1.1.1∧OAS a4 o1.length c4 2 T1) ?_ ?_
 ·rintro _ w6 ⟨o1,a4,c4,T1,m3,rfl,rfl,q,st,r3,r2,hs1⟩;have i:=j1;refine qBk (qAg (qAr (qAr (qFl [(6,fun w'=>Inv m3 w'∧Piece.holds m3 w' (kB b3 #[vS a4 o1 c4] 28)∧True)] kr st fun w17 _ st=> ?_))));have hmS2:=m3.le_refl;refine⟨⟨.inr ⟨Inv.anti st.inv hmS2,Piece.holds_anti st.h hmS2,trivial⟩,trivial⟩,?_⟩;refine qAu 0 45 (vP b3 0) (.head _) (qFa 26 45 1 46 0 (vS a4 o1 c4) (.head _) (fun _ h=>h.2.1) (qAu 2 47 (vI (o1.length:Int)) (.head _) (qAu 3 48 (vI (wr ((o1.length:Int)-1))) (.head _) (qAu 4 8 (vI 0) (.head _) (qAu 5 9 (vI (wr ((o1.length:Int)-1))) (.head _) (qCd kr (qAg (qAy ?_))))))));have⟨out2,i,j3⟩:=qAw i;refine qCg (.exit 2) (fun L' w'=>∃(o3:Tk),∃m9,o3=out2∧L'=[(4,vP b2 0),(5,vP b3 0)]∧m.le m9∧St m9 (kB b3 #[vS a4 o1 c4] 28::kB b2 #[vS a3 y1.2 c3] 28::kB b1 (V1 y1.1 a2 c2) 25::opc a4 (qAz (fun x:Tj=>((V3 x):List Value)) o3 T1) 68::kR a3 y1.2 c3 68 2::O) w'∧RepS C1 m9 a3 c3 y1.2∧RepS (cInt .i64) m9 a2 c2 y1.1.1∧List.length o3=o1.length) ?_ ?_
  ·rintro _ w18 ⟨o3,m9,rfl,rfl,q,st,r3,r2,hn1⟩;have i:=j3;refine qBk (qAg (qAr (qFl [(6,fun w'=>Inv m9 w'∧Piece.holds m9 w' (kB b3 #[vS a4 o1 c4] 28)∧Piece.holds m9 w' (kB b2 #[vS a3 y1.2 c3] 28)∧True)] kr st fun w23 _ st=> ?_)));have hmS4:=m9.le_refl;refine⟨⟨.inr ⟨Inv.anti st.inv hmS4,Piece.holds_anti st.h hmS4,Piece.holds_anti st.t.h hmS4,trivial⟩,trivial⟩,?_⟩;refine qFa 28 4 0 74 0 (.agg #[vS a3 y1.2 c3]) (.head _) (fun _ h=>h.2.2.1) (qFa 28 5 2 76 0 (.agg #[vS a4 o1 c4]) (.head _) (fun _ h=>h.2.1) (qBh 1 kr (qCt 75 i (fun _ h=>qIw st r3 h) ?_)));rintro y4 i _ w24 ⟨a8,c8,m11,rfl,e6,st,r5⟩;refine⟨_,rfl,?_⟩;have hmS4:=Mem.le_trans hmS4 e6;refine⟨⟨.inr ⟨Inv.anti st.inv hmS4,Piece.holds_anti st.t.h hmS4,Piece.holds_anti st.t.t.h hmS4,trivial⟩,trivial⟩,?_⟩;have st:=st.f4;obtain⟨m12,e7,st,r6⟩:=St.freezeM (c:=C1) (f:=(fun x:Tj=>((V3 x):List Value))) st hs1 hn1 (fun _=>rfl) (fun _ x=>⟨_,_,rfl,rfl,rfl⟩);have hmS4:=Mem.le_trans hmS4 e7;have st:=(congrArg (fun nn_:Nat=>St m12 (kR a4 o3 c4 68 2::kR a8 y4 c8 73 6::kB b3 #[.slice a4 nn_ c4] 28::kB b2 #[vS a3 y1.2 c3] 28::kB b1 (V1 y1.1 a2 c2) 25::kR a3 y1.2 c3 68 2::O) w24) hn1.symm).mp st;refine WA_env [(4,vP b2 0),(5,vP b3 0),(74,.agg #[vS a3 y1.2 c3]),(75,vS a8 y4 c8),(76,.agg #[vS a4 o3 c4])] (by(try simp only[vS,hn1]);kernel_rfl) ?_
   refine qBh 3 kr (qCt 77 i (fun _ h=>qIw st r6 h) ?_);rintro y5 i _ w25 ⟨a9,c9,m13,rfl,e8,st,r7⟩;refine⟨_,rfl,?_⟩;have hmS4:=Mem.le_trans hmS4 e8;refine⟨⟨.inr ⟨Inv.anti st.inv hmS4,(congrArg (fun nn_:Nat=>Piece.holds _ _ (kB b3 #[.slice a4 nn_ c4] 28)) hn1).mp (Piece.holds_anti st.t.t.t.h hmS4),Piece.holds_anti st.t.t.t.t.h hmS4,trivial⟩,trivial⟩,?_⟩;refine qAu 4 10 (vS a8 y4 c8) (.head _) (qAu 5 11 (vS a9 y5 c9) (.head _) (qCd kr (qAg (qAr (W_sr (qAe 5 [(82,vB ((y4.length:Int) !=(y5.length:Int)))] (W_if i ?_ ?_)))))))
   ·intro A i;refine W_sr (qAb 1 [(2,vB false)] (qAs rfl ?_));have st:=st.t.f1.t;refine qAg (qBb (qAf ?_));cases i;exact X_rt [2] [vB false] ⟨m13,rfl,((q.t e6).t e7).t e8,st.t.t.t.t.t⟩
   ·intro A i;refine qAn (qAg (qAr (W_sr (qAe 3 [(84,vI (y4.length:Int)),(85,vI 0)] (qAy ?_)))));have⟨out3,i,j4⟩:=qAw i;refine qCg (.exit 4) (fun L' w'=>∃(o4:Unit),∃m14,(.inl o4)=out3∧L'=[(4,vP b2 0),(5,vP b3 0)]∧m.le m14∧St m14 (kB b3 #[vS a4 o3 c4] 28::kB b2 #[vS a3 y1.2 c3] 28::kB b1 (V1 y1.1 a2 c2) 25::kR a9 y5 c9 73 6::kR a4 o3 c4 68 2::kR a8 y4 c8 73 6::kR a3 y1.2 c3 68 2::O) w'∧RepS C1 m14 a4 c4 o3∧RepS C1 m14 a3 c3 y1.2∧RepS (cInt .i64) m14 a2 c2 y1.1.1) ?_ ?_
    ·rintro _ w26 ⟨o4,m14,rfl,rfl,q,st,r6,r3,r2⟩;have i:=j4;refine qBk (qAg (qAr ?_));have⟨o6,i,J⟩:=qAw i;refine qCg .normal (fun L' w'=>∃m17,L'=[(2,vB o6)]∧m.le m17∧St m17 (kB b3 #[vS a4 o3 c4] 28::kB b2 #[vS a3 y1.2 c3] 28::kB b1 (V1 y1.1 a2 c2) 25::kR a9 y5 c9 73 6::kR a4 o3 c4 68 2::kR a8 y4 c8 73 6::kR a3 y1.2 c3 68 2::O) w'∧RepS C1 m17 a4 c4 o3∧RepS C1 m17 a3 c3 y1.2∧RepS (cInt .i64) m17 a2 c2 y1.1.1) ?_ ?_
     ·have i:=J;rintro _ w34 ⟨m17,rfl,q,st,r6,r3,r2⟩;refine qAg (qBb ?_);obtain rfl:=sI i;exact X_rt [2] [vB o6] ⟨m17,rfl,q,st.t.t.t.t.t.t.t⟩
     ·intro K;refine qFl [(18,fun w'=>Inv m14 w'∧Piece.holds m14 w' (kB b3 #[vS a4 o3 c4] 28)∧Piece.holds m14 w' (kB b2 #[vS a3 y1.2 c3] 28)∧True)] kr st fun w35 _ st=> ?_;have hmS6:=m14.le_refl;refine⟨⟨.inr ⟨Inv.anti st.inv hmS6,Piece.holds_anti st.h hmS6,Piece.holds_anti st.t.h hmS6,trivial⟩,trivial⟩,?_⟩;refine qFa 28 4 0 135 0 (.agg #[vS a3 y1.2 c3]) (.head _) (fun _ h=>h.2.2.1) (qFa 28 5 2 137 0 (.agg #[vS a4 o3 c4]) (.head _) (fun _ h=>h.2.1) (qBh 1 kr (qCt 136 i (fun _ h=>qNg st r3 h) ?_)));rintro y6 i _ w36 ⟨a10,c10,m18,rfl,e9,st,r8⟩;refine⟨_,rfl,?_⟩;have hmS6:=Mem.le_trans hmS6 e9;refine⟨⟨.inr ⟨Inv.anti st.inv hmS6,Piece.holds_anti st.t.h hmS6,Piece.holds_anti st.t.t.h hmS6,trivial⟩,trivial⟩,?_⟩;refine qBh 3 kr (qCt 138 i (fun _ h=>qNg st (r6.mono e9) h) ?_);rintro y7 i _ w37 ⟨a11,c11,m19,rfl,e10,st,r9⟩;refine⟨_,rfl,?_⟩;have hmS6:=Mem.le_trans hmS6 e10;refine⟨⟨.inr ⟨Inv.anti st.inv hmS6,Piece.holds_anti st.t.t.h hmS6,Piece.holds_anti st.t.t.t.h hmS6,trivial⟩,trivial⟩,?_⟩;refine qBh 4 kr (qCt 139 i (fun _ h=>qMy st (r8.mono e10) r9 h) ?_);rintro y8 i _ w38 ⟨m20,rfl,e11,st⟩;refine⟨_,rfl,?_⟩;have q:=((q.t e9).t e10).t e11;have r3:=((r3.mono e9).mono e10).mono e11;have r6:=((r6.mono e9).mono e10).mono e11;have r2:=((r2.mono e9).mono e10).mono e11;have hmS6:=Mem.le_trans hmS6 e11
      refine⟨⟨.inr ⟨Inv.anti st.inv hmS6,Piece.holds_anti st.t.t.h hmS6,Piece.holds_anti st.t.t.t.h hmS6,trivial⟩,trivial⟩,?_⟩;refine qAu 5 140 (vB y8) (.head _) ?_;rcases qLp y8 with A|A
      ·rw[if_pos A] at i;refine qPm (t:=140) (b:=true) y8 kr A ?_;refine qFa 28 4 6 141 0 (.agg #[vS a3 y1.2 c3]) (.head _) (fun _ h=>h.2.2.1) (qFa 28 5 9 144 0 (.agg #[vS a4 o3 c4]) (.head _) (fun _ h=>h.2.1) (qBh 7 kr (qCt 142 i (fun _ h=>qJy st r3 h) ?_)));rintro y9 i _ w39 ⟨a12,c12,m21,rfl,e12,st,r10⟩;refine⟨_,rfl,?_⟩;have r6:=r6.mono e12;have hmS6:=Mem.le_trans hmS6 e12;refine⟨⟨.inr ⟨Inv.anti st.inv hmS6,Piece.holds_anti st.t.t.h hmS6,Piece.holds_anti st.t.t.t.h hmS6,trivial⟩,trivial⟩,?_⟩;refine qAu 8 143 (vI (y9.length:Int)) (.head _) (qBh 10 kr (qCt 145 i (fun _ h=>qJy st r6 h) ?_));rintro y10 i _ w40 ⟨a13,c13,m22,rfl,e13,st,r11⟩;refine⟨_,rfl,?_⟩;have r3:=(r3.mono e12).mono e13;have r6:=r6.mono e13;have r2:=(r2.mono e12).mono e13;have hmS6:=Mem.le_trans hmS6 e13;refine⟨⟨.inr ⟨Inv.anti st.inv hmS6,Piece.holds_anti st.t.t.h hmS6,Piece.holds_anti st.t.t.t.h hmS6,trivial⟩,trivial⟩,?_⟩;refine qAu 11 146 (vI (y10.length:Int)) (.head _) (qAu 12 147 (vB ((y9.length:Int)==(y10.length:Int))) (.head _) (qAu 13 148 (vB ((y9.length:Int)==(y10.length:Int))) (.head _) (qAu 14 149 (vB ((y9.length:Int)==(y10.length:Int))) (.head _) ?_)));rcases qLp ((y9.length:Int)==(y10.length:Int)) with A|A
       ·rw[if_pos A] at i;refine qPm (t:=149) (b:=true) ((y9.length:Int)==(y10.length:Int)) kr A ?_;refine qBh 15 kr (qCt 150 i (fun _ h=>qOn st h) ?_);rintro y11 i _ w41 ⟨m23,rfl,e14,st⟩;refine⟨_,rfl,?_⟩;have hmS6:=Mem.le_trans hmS6 e14;refine⟨⟨.inr ⟨Inv.anti st.inv hmS6,Piece.holds_anti st.t.t.h hmS6,Piece.holds_anti st.t.t.t.h hmS6,trivial⟩,trivial⟩,?_⟩;refine qAu 16 151 (vB y11) (.head _) (qAu 17 2 (vB y11) (.head _) ?_);cases i;exact qCd kr (qPz _ kr (K _ _ ⟨m23,rfl,((q.t e12).t e13).t e14,st.t.t.f6.f6.f6.f6.f6.f6.f6,r6.mono e14,r3.mono e14,r2.mono e14⟩))
       ·rw[if_neg (not_true A)] at i;refine qPm (t:=149) (b:=false) ((y9.length:Int)==(y10.length:Int)) kr A ?_;refine qJz 15 150 (.head _) (qAu 16 151 (vB false) (.head _) (qAu 17 2 (vB false) (.head _) ?_));cases i;exact qCd kr (qPz _ kr (K _ _ ⟨m22,rfl,(q.t e12).t e13,st.t.t.f6.f6.f6.f6.f6.f6.f6,r6,r3,r2⟩))
      ·rw[if_neg (not_true A)] at i;refine qPm (t:=140) (b:=false) y8 kr A ?_;refine qJz 6 141 (.head _) (qJz 7 142 (.head _) (qJz 8 143 (.head _) (qJz 9 144 (.head _) (qJz 10 145 (.head _) (qJz 11 146 (.head _) (qJz 12 147 (.head _) (qAu 13 148 (vB false) (.head _) (qAu 14 149 (vB false) (.head _) (qJz 15 150 (.head _) (qAu 16 151 (vB false) (.head _) (qAu 17 2 (vB false) (.head _) ?_)))))))))));cases i;exact qCd kr (qPz _ kr (K _ _ ⟨m20,rfl,q,st.t.t.f6.f6.f6.f6.f6.f6.f6,r6,r3,r2⟩))
    intro K4_u4;refine qHk _ kr (qEl (fun k3 L' w'=>∃(s5:Int),∃m15,qBf (qCk N y4 y5) k3 s5=some out3∧L'=[(4,vP b2 0),(5,vP b3 0),(10,vS a8 y4 c8),(11,vS a9 y5 c9),(84,vI (y4.length:Int)),(85,vI s5)]∧m.le m15∧St m15 (kB b3 #[vS a4 o3 c4] 28::kB b2 #[vS a3 y1.2 c3] 28::kB b1 (V1 y1.1 a2 c2) 25::kR a9 y5 c9 73 6::kR a4 o3 c4 68 2::kR a8 y4 c8 73 6::kR a3 y1.2 c3 68 2::O) w'∧RepS C7 m15 a8 c8 y4∧RepS C7 m15 a9 c9 y5∧RepS C1 m15 a4 c4 o3∧RepS C1 m15 a3 c3 y1.2∧RepS (cInt .i64) m15 a2 c2 y1.1.1) N ⟨0,m13,i,rfl,((q.t e6).t e7).t e8,st.f6.f3.f3.f3.f6.f6.f6,(r5.mono e7).mono e8,r7,r6.mono e8,((r3.mono e6).mono e7).mono e8,((r2.mono e6).mono e7).mono e8⟩ ?_);rintro k3 _ w27 ⟨s5,m15,hL,rfl,q,st,r5,r7,r6,r3,r2⟩;rcases k3 with _|k3
    ·exact qBr hL
    ·obtain⟨qu4,i,hSu4,hBu4⟩:=qBs hL;clear hL;unfold qCk at i;refine W_sr (qAe 1 [(86,vB (decide (s5<(y4.length:Int))))] (qAr (W_if i ?_ ?_)))
     ·intro A i;refine qAn (qAg (qAr (qAy (W_sr (qAe 2 [(12,vI s5)] (qAr (qFl [(12,fun w'=>Inv m15 w'∧True)] kr st fun w28 _ st=> ?_)))))));have hmS5:=m15.le_refl;refine tA st hmS5 ?_;refine qAu 0 88 (vS a8 y4 c8) (.head _) (qAu 1 89 (vI s5) (.head _) ?_);have⟨x6,d14,i⟩:=qAw i;refine qMn (t:=70) (e:=73) (x:=(.tmp 88)) (y:=(.tmp 89)) 2 90 C7 kr rfl kr (.head _) (qCn (qDm (qCn (qCn (qDm (qCn qJh)))))) (ev (vS a8 y4 c8)) (ev (vI s5)) kr r5 d14 ?_;rintro b7 f2 cs2 ⟨_,_,rfl,rfl,⟨_,_,rfl,rfl,⟨_,_,rfl,rfl,⟨_,_,rfl,rfl,⟨_,_,rfl,rfl,rfl⟩⟩⟩⟩⟩ hq2;refine qMt 73 90 3 91 f2 (.agg (Vc x6)) (.head _) (fun _ h=>h.1) hq2 (qAu 4 92 (vS a9 y5 c9) (.head _) (qAu 5 93 (vI s5) (.head _) ?_));have⟨x7,d15,i⟩:=qAw i;refine qMn (t:=70) (e:=73) (x:=(.tmp 92)) (y:=(.tmp 93)) 6 94 C7 kr rfl kr (.head _) (qCn (qDm (qCn (qCn (qDm (qCn qJh)))))) (ev (vS a9 y5 c9)) (ev (vI s5)) kr r7 d15 ?_;rintro b8 f3 cs3 ⟨_,_,rfl,rfl,⟨_,_,rfl,rfl,⟨_,_,rfl,rfl,⟨_,_,rfl,rfl,⟨_,_,rfl,rfl,rfl⟩⟩⟩⟩⟩ hq3;refine qMt 73 94 7 95 f3 (.agg (Vc x7)) (.head _) (fun _ h=>h.1) hq3 (qPc [8,9] kr (by simp) (qQe ?_ ?_))
      ·refine qCm 13 73 (.agg (Vb eB eB 0 eB 0 0)) st fun b9 w29 st=> ?_;refine tA st hmS5 ?_;refine qBh 9 kr (qCm 14 73 (.agg (Vb eB eB 0 eB 0 0)) st fun b10 w30 st=>(tA st hmS5 (qBh 10 kr (qBn 73 13 91 (.agg (Vc x6)) st.f1 fun w31 st=>(tA st hmS5 (qBh 11 kr (qBn 73 14 95 (.agg (Vc x7)) st.f1 fun w32 st=>(tA st hmS5 (qCd kr (qAg (W_sr ?_)))))))))));have⟨o5,i,J⟩:=qAw i;refine qGu (j:=38) (fun L' w'=>∃m16,L'=[(4,vP b2 0),(5,vP b3 0),(10,vS a8 y4 c8),(11,vS a9 y5 c9),(84,vI (y4.length:Int)),(85,vI s5),(133,vB o5)]∧m.le m16∧St m16 (kB b10 (Vc x7) 73::kB b9 (Vc x6) 73::kB b3 #[vS a4 o3 c4] 28::kB b2 #[vS a3 y1.2 c3] 28::kB b1 (V1 y1.1 a2 c2) 25::kR a9 y5 c9 73 6::kR a4 o3 c4 68 2::kR a8 y4 c8 73 6::kR a3 y1.2 c3 68 2::O) w'∧RepS C7 m16 a8 c8 y4∧RepS C7 m16 a9 c9 y5∧RepS C1 m16 a4 c4 o3∧RepS C1 m16 a3 c3 y1.2∧RepS (cInt .i64) m16 a2 c2 y1.1.1) ?_ ?_
       ·have i:=J;rintro _ w33 ⟨m16,rfl,q,st,r5,r7,r6,r3,r2⟩;refine WO_e (W_if i ?_ ?_)
        ·intro A i;refine W_sr (qAb 1 [(2,vB false)] (qAs rfl ?_));have st:=st.f5.t.f6.t;refine qAg (qBb (qAh (qAf ?_)));cases i;have ho:=hBu4 _ rfl;subst ho;have i:=j4;refine qAf (qAh (qAf ?_));cases i;exact X_rt [2] [vB false] ⟨m16,rfl,q,st.t.t.t.t.t.t.t⟩
        ·intro A i;refine qAn (qBm (qAg (qAm (qAb 2 [(85,vI (wr (s5+1)))] (qAs rfl ?_)))));obtain rfl:=sI i;have hL:=hSu4 _ rfl;exact xE (qCr k3 (jE _) ⟨wr (s5+1),m16,hL,rfl,q,st.t.t.f6.f6.f6.f6.f6.f6.f6,r5,r7,r6,r3,r2⟩)
       ·intro K;refine qCs 1 97 3 96 5 (vI x6.2.2.2.2.2) st.t.h (qCs 1 99 3 98 5 (vI x7.2.2.2.2.2) st.h (qAb 2 [(101,vB (x6.2.2.2.2.2 !=x7.2.2.2.2.2))] (qGb 101 i ?_ ?_)))
        ·intro A i;refine qAb 32 [(133,vB true)] ?_;cases i;exact qBv _ kr (K _ _ ⟨m15,rfl,q,st.f8.f8.f8.f8.f8.f8.f8.f8.f8,r5,r7,r6,r3,r2⟩)
        ·intro A i;refine qCs 1 103 9 102 1 (vT x6.2.1) st.t.h (qCs 1 105 9 104 1 (vT x7.2.1) st.h (qAb 3 [(108,vB (!(x6.2.1.toList==x7.2.1.toList)))] (qGb 108 i ?_ ?_)))
         ·intro A i;refine qAb 25 [(133,vB true)] ?_;cases i;exact qBv _ kr (K _ _ ⟨m15,rfl,q,st.f8.f8.f8.f8.f8.f8.f8.f8.f8,r5,r7,r6,r3,r2⟩)
         ·intro A i;refine qCs 1 110 3 109 2 (vI x6.2.2.1) st.t.h (qCs 1 112 3 111 2 (vI x7.2.2.1) st.h (qAb 3 [(115,vB (x6.2.2.1 !=x7.2.2.1))] (qGb 115 i ?_ ?_)))
          ·intro A i;refine qAb 18 [(133,vB true)] ?_;cases i;exact qBv _ kr (K _ _ ⟨m15,rfl,q,st.f8.f8.f8.f8.f8.f8.f8.f8.f8,r5,r7,r6,r3,r2⟩)
          ·intro A i;refine qCs 1 117 3 116 5 (vI x6.2.2.2.2.2) st.t.h (qAb 2 [(119,vB (x6.2.2.2.2.2==1))] (qGb 119 i ?_ ?_))
           ·intro A i;refine qCs 1 121 9 120 0 (vT x6.1) st.t.h (qCs 1 123 9 122 0 (vT x7.1) st.h (qAb 2 [(125,vB (!(x6.1.toList==x7.1.toList)))] (qGb 125 i ?_ ?_)))
            ·intro A i;refine qAb 8 [(133,vB true)] ?_;cases i;exact qBv _ kr (K _ _ ⟨m15,rfl,q,st.f8.f8.f8.f8.f8.f8.f8.f8.f8,r5,r7,r6,r3,r2⟩)
            ·intro A i;refine qCs 1 127 3 126 4 (vI x6.2.2.2.2.1) st.t.h (qCs 1 129 3 128 4 (vI x7.2.2.2.2.1) st.h (qAb 4 [(133,vB (x6.2.2.2.2.1 !=x7.2.2.2.2.1))] ?_));cases i;exact qBv _ kr (K _ _ ⟨m15,rfl,q,st.f8.f8.f8.f8.f8.f8.f8.f8.f8,r5,r7,r6,r3,r2⟩)
           ·intro A i;refine qAb 14 [(133,vB false)] ?_;cases i;exact qBv _ kr (K _ _ ⟨m15,rfl,q,st.f8.f8.f8.f8.f8.f8.f8.f8.f8,r5,r7,r6,r3,r2⟩)
      ·refine qCm 14 73 (.agg (Vb eB eB 0 eB 0 0)) st fun b9 w29 st=> ?_;refine tA st hmS5 ?_;refine qBh 8 kr (qCm 13 73 (.agg (Vb eB eB 0 eB 0 0)) st fun b10 w30 st=>(tA st hmS5 (qBh 10 kr (qBn 73 13 91 (.agg (Vc x6)) st fun w31 st=>(tA st hmS5 (qBh 11 kr (qBn 73 14 95 (.agg (Vc x7)) st.f1 fun w32 st=>(tA st hmS5 (qCd kr (qAg (W_sr ?_)))))))))));have⟨o5,i,J⟩:=qAw i;refine qGu (j:=38) (fun L' w'=>∃m16,L'=[(4,vP b2 0),(5,vP b3 0),(10,vS a8 y4 c8),(11,vS a9 y5 c9),(84,vI (y4.length:Int)),(85,vI s5),(133,vB o5)]∧m.le m16∧St m16 (kB b9 (Vc x7) 73::kB b10 (Vc x6) 73::kB b3 #[vS a4 o3 c4] 28::kB b2 #[vS a3 y1.2 c3] 28::kB b1 (V1 y1.1 a2 c2) 25::kR a9 y5 c9 73 6::kR a4 o3 c4 68 2::kR a8 y4 c8 73 6::kR a3 y1.2 c3 68 2::O) w'∧RepS C7 m16 a8 c8 y4∧RepS C7 m16 a9 c9 y5∧RepS C1 m16 a4 c4 o3∧RepS C1 m16 a3 c3 y1.2∧RepS (cInt .i64) m16 a2 c2 y1.1.1) ?_ ?_
       ·have i:=J;rintro _ w33 ⟨m16,rfl,q,st,r5,r7,r6,r3,r2⟩;refine WO_e (W_if i ?_ ?_)
        ·intro A i;refine W_sr (qAb 1 [(2,vB false)] (qAs rfl ?_));have st:=st.f5.t.f6.t;refine qAg (qBb (qAh (qAf ?_)));cases i;have ho:=hBu4 _ rfl;subst ho;have i:=j4;refine qAf (qAh (qAf ?_));cases i;exact X_rt [2] [vB false] ⟨m16,rfl,q,st.t.t.t.t.t.t.t⟩
        ·intro A i;refine qAn (qBm (qAg (qAm (qAb 2 [(85,vI (wr (s5+1)))] (qAs rfl ?_)))));obtain rfl:=sI i;have hL:=hSu4 _ rfl;exact xE (qCr k3 (jE _) ⟨wr (s5+1),m16,hL,rfl,q,st.t.t.f6.f6.f6.f6.f6.f6.f6,r5,r7,r6,r3,r2⟩)
       ·intro K;refine qCs 1 97 3 96 5 (vI x6.2.2.2.2.2) st.t.h (qCs 1 99 3 98 5 (vI x7.2.2.2.2.2) st.h (qAb 2 [(101,vB (x6.2.2.2.2.2 !=x7.2.2.2.2.2))] (qGb 101 i ?_ ?_)))
        ·intro A i;refine qAb 32 [(133,vB true)] ?_;cases i;exact qBv _ kr (K _ _ ⟨m15,rfl,q,st.f8.f8.f8.f8.f8.f8.f8.f8.f8,r5,r7,r6,r3,r2⟩)
        ·intro A i;refine qCs 1 103 9 102 1 (vT x6.2.1) st.t.h (qCs 1 105 9 104 1 (vT x7.2.1) st.h (qAb 3 [(108,vB (!(x6.2.1.toList==x7.2.1.toList)))] (qGb 108 i ?_ ?_)))
         ·intro A i;refine qAb 25 [(133,vB true)] ?_;cases i;exact qBv _ kr (K _ _ ⟨m15,rfl,q,st.f8.f8.f8.f8.f8.f8.f8.f8.f8,r5,r7,r6,r3,r2⟩)
         ·intro A i;refine qCs 1 110 3 109 2 (vI x6.2.2.1) st.t.h (qCs 1 112 3 111 2 (vI x7.2.2.1) st.h (qAb 3 [(115,vB (x6.2.2.1 !=x7.2.2.1))] (qGb 115 i ?_ ?_)))
          ·intro A i;refine qAb 18 [(133,vB true)] ?_;cases i;exact qBv _ kr (K _ _ ⟨m15,rfl,q,st.f8.f8.f8.f8.f8.f8.f8.f8.f8,r5,r7,r6,r3,r2⟩)
          ·intro A i;refine qCs 1 117 3 116 5 (vI x6.2.2.2.2.2) st.t.h (qAb 2 [(119,vB (x6.2.2.2.2.2==1))] (qGb 119 i ?_ ?_))
           ·intro A i;refine qCs 1 121 9 120 0 (vT x6.1) st.t.h (qCs 1 123 9 122 0 (vT x7.1) st.h (qAb 2 [(125,vB (!(x6.1.toList==x7.1.toList)))] (qGb 125 i ?_ ?_)))
            ·intro A i;refine qAb 8 [(133,vB true)] ?_;cases i;exact qBv _ kr (K _ _ ⟨m15,rfl,q,st.f8.f8.f8.f8.f8.f8.f8.f8.f8,r5,r7,r6,r3,r2⟩)
            ·intro A i;refine qCs 1 127 3 126 4 (vI x6.2.2.2.2.1) st.t.h (qCs 1 129 3 128 4 (vI x7.2.2.2.2.1) st.h (qAb 4 [(133,vB (x6.2.2.2.2.1 !=x7.2.2.2.2.1))] ?_));cases i;exact qBv _ kr (K _ _ ⟨m15,rfl,q,st.f8.f8.f8.f8.f8.f8.f8.f8.f8,r5,r7,r6,r3,r2⟩)
           ·intro A i;refine qAb 14 [(133,vB false)] ?_;cases i;exact qBv _ kr (K _ _ ⟨m15,rfl,q,st.f8.f8.f8.f8.f8.f8.f8.f8.f8,r5,r7,r6,r3,r2⟩)
     ·intro A i;refine qDy (qAi ?_);cases i;have ho:=hBu4 _ rfl;have st:=st.f6.f6.f6.f6.f6.f6.f6;refine qAi ?_;exact xE (K4_u4 _ _ ⟨(),m15,ho,rfl,q,st,r6,r3,r2⟩)
  intro K2_u3;refine qHk _ kr (qEl (fun k2 L' w'=>∃(s4:Int×Tl),∃m10,qBf (qCi N) k2 s4=some out2∧L'=[(4,vP b2 0),(5,vP b3 0),(8,vI s4.1),(9,vI s4.2.1)]∧m.le m10∧St m10 (kB b3 #[vS a4 o1 c4] 28::kB b2 #[vS a3 y1.2 c3] 28::kB b1 (V1 y1.1 a2 c2) 25::opc a4 (qAz (fun x:Tj=>((V3 x):List Value)) s4.2.2 T1) 68::kR a3 y1.2 c3 68 2::O) w'∧RepS C1 m10 a3 c3 y1.2∧RepS (cInt .i64) m10 a2 c2 y1.1.1∧List.length s4.2.2=o1.length) N ⟨(0,wr ((o1.length:Int)-1),o1),m3,i,rfl,q,st.f4.f4.f4.f4.f4,r3,r2,rfl⟩ ?_);rintro k2 _ w19 ⟨s4,m10,hL,rfl,q,st,r3,r2,hn2⟩;rcases k2 with _|k2
  ·exact qBr hL
  ·obtain⟨qu3,i,hSu3,hBu3⟩:=qBs hL;clear hL;unfold qCi at i;refine qAr (W_sr (qAe 3 [(51,vB (decide (s4.1<s4.2.1)))] (W_if i ?_ ?_)))
   ·intro A i;refine qAn (qAg (qAr (qAy (qFl [(20,fun w'=>Inv m10 w'∧Piece.holds m10 w' (kB b3 #[vS a4 o1 c4] 28)∧True),(17,fun w'=>Inv m10 w'∧Piece.holds m10 w' (opc a4 (qAz (fun x:Tj=>((V3 x):List Value)) s4.2.2 T1) 68)∧True)] kr st fun w20 _ st=> ?_))));have hmS3:=m10.le_refl;refine⟨⟨.inr ⟨Inv.anti st.inv hmS3,Piece.holds_anti st.h hmS3,trivial⟩,⟨.inr ⟨Inv.anti st.inv hmS3,zIt st.t.t.t.h hmS3,trivial⟩,trivial⟩⟩,?_⟩;refine qAu 0 56 (vP b3 0) (.head _) (qFa 26 56 1 57 0 (vS a4 o1 c4) (.head _) (fun _ h=>h.2.1) (qAu 2 58 (vI s4.1) (.head _) (qAu 3 59 (vP b3 0) (.head _) (qFa 26 59 4 60 0 (vS a4 o1 c4) (.head _) (fun _ h=>h.2.1) (qAu 5 61 (vI s4.2.1) (.head _) (qAu 6 62 (vP b3 0) (.head _) (qFa 26 62 7 63 0 (vS a4 o1 c4) (.head _) (fun _ h=>h.2.1) (qAu 8 64 (vI s4.2.1) (.head _) ?_))))))));have⟨x2,d8,i⟩:=qAw i;refine qMm (t:=26) (e:=68) (x:=(.tmp 63)) (y:=(.tmp 64)) (k:=2) 9 65 kr rfl kr (.head _) (qDm (qCn (qCn (qDm (qCn qJh))))) (ev (vS a4 o1 c4)) (ev (vI s4.2.1)) kr hs1 hn2 d8 ?_;refine qTf (t:=68) (x:=(.tmp 65)) (o:=0) (f:=(fun x:Tj=>((V3 x):List Value))) (z:=x2) (v:= .agg (V2 x2)) 10 66 (fun _=>rfl) (Int.toNat s4.2.1*2) rfl kr rfl kr (.tail _ (.head _)) (qDm (qCn (qCn (qDm (qCn qJh))))) (fun _ h=>h.2.1) (ev (.pointer (some ⟨ab a4,Int.toNat s4.2.1*2,none⟩))) hs1 hn2 d8 kr ?_
    refine qAu 11 67 (vP b3 0) (.head _) (qFa 26 67 12 68 0 (vS a4 o1 c4) (.head _) (fun _ h=>h.2.1) (qAu 13 69 (vI s4.1) (.head _) ?_));have⟨x3,d9,i⟩:=qAw i;refine qMm (t:=26) (e:=68) (x:=(.tmp 68)) (y:=(.tmp 69)) (k:=2) 14 70 kr rfl kr (.head _) (qDm (qCn (qCn (qDm (qCn qJh))))) (ev (vS a4 o1 c4)) (ev (vI s4.1)) kr hs1 hn2 d9 ?_;refine qTf (t:=68) (x:=(.tmp 70)) (o:=0) (f:=(fun x:Tj=>((V3 x):List Value))) (z:=x3) (v:= .agg (V2 x3)) 15 71 (fun _=>rfl) (Int.toNat s4.1*2) rfl kr rfl kr (.tail _ (.head _)) (qDm (qCn (qCn (qDm (qCn qJh))))) (fun _ h=>h.2.1) (ev (.pointer (some ⟨ab a4,Int.toNat s4.1*2,none⟩))) hs1 hn2 d9 kr ?_;have⟨x4,d10,i⟩:=qAw i;refine qMm (t:=26) (e:=68) (x:=(.tmp 57)) (y:=(.tmp 58)) (k:=2) 16 72 kr rfl kr (.head _) (qDm (qCn (qCn (qDm (qCn qJh))))) (ev (vS a4 o1 c4)) (ev (vI s4.1)) kr hs1 hn2 d10 ?_;refine qBh 17 kr (qRj (t:=68) (x:=(.tmp 72)) (y:=(.tmp 66)) (o:=0) (f:=(fun x:Tj=>((V3 x):List Value))) (z:=x4) (u:=x2) (v:= .agg (V2 x2)) (fun _=>rfl) (Int.toNat s4.1*2) rfl kr (ev (.pointer (some ⟨ab a4,Int.toNat s4.1*2,none⟩))) (ev (.agg (V2 x2))) st.f3 hs1 hn2 d10 kr rfl fun w21 st=> ?_);have hn3:List.length (List.set s4.2.2 (Int.toNat s4.1) x2)=o1.length:=qXv hn2 _ _
    refine⟨⟨.inr ⟨Inv.anti st.inv hmS3,Piece.holds_anti st.t.h hmS3,trivial⟩,⟨.inl rfl,trivial⟩⟩,?_⟩;have⟨x5,d11,i⟩:=qAw i;refine qMm (t:=26) (e:=68) (x:=(.tmp 60)) (y:=(.tmp 61)) (k:=2) 18 73 kr rfl kr (.head _) (qDm (qCn (qCn (qDm (qCn qJh))))) (ev (vS a4 o1 c4)) (ev (vI s4.2.1)) kr hs1 hn3 d11 ?_;refine qBh 19 kr (qRj (t:=68) (x:=(.tmp 73)) (y:=(.tmp 71)) (o:=0) (f:=(fun x:Tj=>((V3 x):List Value))) (z:=x5) (u:=x3) (v:= .agg (V2 x3)) (fun _=>rfl) (Int.toNat s4.2.1*2) rfl kr (ev (.pointer (some ⟨ab a4,Int.toNat s4.2.1*2,none⟩))) (ev (.agg (V2 x3))) st hs1 hn3 d11 kr rfl fun w22 st=> ?_);have hn4:List.length (List.set (List.set s4.2.2 (Int.toNat s4.1) x2) (Int.toNat s4.2.1) x3)=o1.length:=qXv hn3 _ _;refine⟨⟨.inr ⟨Inv.anti st.inv hmS3,Piece.holds_anti st.t.h hmS3,trivial⟩,⟨.inl rfl,trivial⟩⟩,?_⟩;refine qCd kr ?_;refine qBm (qAg (qAm (qAb 6 [(8,vI (wr (s4.1+1))),(9,vI (wr (s4.2.1-1)))] (qAs rfl ?_))));obtain rfl:=sI i;have hL:=hSu3 _ rfl;exact xE (qCr k2 (jE _) ⟨(wr (s4.1+1),wr (s4.2.1-1),List.set (List.set s4.2.2 (Int.toNat s4.1) x2) (Int.toNat s4.2.1) x3),m10,hL,rfl,q,st.f4.f1.f4.f4.f4,r3,r2,hn4⟩)
   ·intro A i;refine qDy (qAi ?_);cases i;have ho:=hBu3 _ rfl;have st:=st.f4.f4.f4.f4.f4;refine qAi ?_;exact xE (K2_u3 _ _ ⟨s4.2.2,m10,ho,rfl,q,st,r3,r2,hn2⟩)
 intro K0_u1;refine qHk _ kr (qEl (fun k1 L' w'=>∃(s1:Tl),∃a5 c5 T2 m4,qBf (qCa N y1) k1 s1=some out1∧L'=[(4,vP b2 0),(5,vP b3 0),(21,vS a3 y1.2 c3),(22,vI (y1.2.length:Int)),(23,vI s1.1)]∧m.le m4∧St m4 (kB b3 #[vS a5 s1.2 c5] 28::kB b2 #[vS a3 y1.2 c3] 28::kB b1 (V1 y1.1 a2 c2) 25::opc a5 (qAz (fun x:Tj=>((V3 x):List Value)) s1.2 T2) 68::kR a3 y1.2 c3 68 2::O) w'∧RepS C1 m4 a3 c3 y1.2∧RepS (cInt .i64) m4 a2 c2 y1.1.1∧OAS a5 s1.2.length c5 2 T2) N ⟨(0,([]:Tk)),none,0,[],m2,i,rfl,q.t e2,st.f3.f1.f4.f4.f4,r3,r2,(OAS.nil 2)⟩ ?_);rintro k1 _ w7 ⟨s1,a5,c5,T2,m4,hL,rfl,q,st,r3,r2,hs2⟩;rcases k1 with _|k1
 ·exact qBr hL
 ·obtain⟨qu1,i,hSu1,hBu1⟩:=qBs hL;clear hL;unfold qCa at i;refine W_sr (qAe 1 [(24,vB (decide (s1.1<(y1.2.length:Int))))] (qAr (W_if i ?_ ?_)))
  ·intro A i;refine qAn (qAg (qAr ?_));have⟨o2,i,j2⟩:=qAw i;refine qCg .normal (fun L' w'=>∃a6 c6 T3 m5,L'=[(4,vP b2 0),(5,vP b3 0),(21,vS a3 y1.2 c3),(22,vI (y1.2.length:Int)),(23,vI s1.1)]∧m.le m5∧St m5 (kB b3 #[vS a6 o2 c6] 28::kB b2 #[vS a3 y1.2 c3] 28::kB b1 (V1 y1.1 a2 c2) 25::opc a6 (qAz (fun x:Tj=>((V3 x):List Value)) o2 T3) 68::kR a3 y1.2 c3 68 2::O) w'∧RepS C1 m5 a3 c3 y1.2∧RepS (cInt .i64) m5 a2 c2 y1.1.1∧OAS a6 o2.length c6 2 T3) ?_ ?_
   ·have i:=j2;rintro _ w8 ⟨a6,c6,T3,m5,rfl,q,st,r3,r2,hs3⟩;refine qAg (qAm (qAb 2 [(23,vI (wr (s1.1+1)))] (qAs rfl ?_)));obtain rfl:=sI i;have hL:=hSu1 _ rfl;exact xE (qCr k1 (jE _) ⟨(wr (s1.1+1),o2),a6,c6,T3,m5,hL,rfl,q,st.f4.f4.f4.f4.f4,r3,r2,hs3⟩)
   ·intro Ku2;refine qAy (W_sr (qAb 1 [(25,vI s1.1)] (qAa rfl (qGx 26 26 68 21 23 r3 i ?_))));rintro x1 i b4 f1 cs1 ⟨_,_,rfl,rfl,rfl⟩ hq1;refine qHg 27 68 26 f1 (.agg (V2 x1)) st hq1 (qAa rfl (qCm 7 68 (.agg #[vT eB,vT eB]) st fun b5 w9 st=>(qAb 1 [(6,vI s1.1)] (qAa rfl (qBn 68 7 27 (.agg (V2 x1)) st fun w10 st=>(WO_e (W_sr (qCs 1 29 9 28 0 (vT x1.1) st.h (qAv 30 i (fun _ h=>qMz st h) ?_)))))))));rintro y2 i _ w11 ⟨m6,rfl,e3,st⟩;refine WO_e (W_if i ?_ ?_)
    ·intro A i;refine qFl [(14,fun w'=>Inv m6 w'∧Piece.holds m6 w' (kB b5 (V2 x1) 68)∧True),(13,fun w'=>Inv m6 w'∧Piece.holds m6 w' (kB b3 #[vS a5 s1.2 c5] 28)∧True)] kr st fun w12 _ st=> ?_;have hmS1:=m6.le_refl;refine⟨⟨.inr ⟨Inv.anti st.inv hmS1,Piece.holds_anti st.h hmS1,trivial⟩,⟨.inr ⟨Inv.anti st.inv hmS1,Piece.holds_anti st.t.h hmS1,trivial⟩,trivial⟩⟩,?_⟩;refine qAu 0 31 (vP b3 0) (.head _) (qFa 26 31 1 32 0 (vS a5 s1.2 c5) (.tail _ (.head _)) (fun _ h=>h.2.1) (qAu 2 33 (vI s1.1) (.head _) (qAu 3 34 (vI (wr (9-s1.1))) (.head _) (qAu 7 38 (vP b5 1) (.head _) (qFa 9 38 8 39 1 (vT x1.2) (.head _) (fun _ h=>h.2.1) (qBh 4 kr (qCt 35 i (fun _ h=>qHz st h) ?_)))))));rintro y3 i _ w13 ⟨m7,rfl,e4,st⟩;refine⟨_,rfl,?_⟩;have hmS1:=Mem.le_trans hmS1 e4;refine⟨⟨.inr ⟨Inv.anti st.inv hmS1,Piece.holds_anti st.h hmS1,trivial⟩,⟨.inr ⟨Inv.anti st.inv hmS1,Piece.holds_anti st.t.h hmS1,trivial⟩,trivial⟩⟩,?_⟩;refine qHl 9 9 ((.const (vT bo))) 35 5 36 (.head _) i fun s2 i=> ?_;refine qHl 9 9 36 ((.const (vT (⟨#[46,115,114,99]⟩:ByteArray)))) 6 37 (.head _) i fun s3 i=> ?_
     refine qAu 9 40 (.agg #[vT s3,vT x1.2]) (.head _) (qBh 10 kr (qAq (d:=41) (t:=26) (e:=68) (len:=1) (parts:= #[(0,(.tmp 40))]) C1 (xs:=[(s3,x1.2)]) [vT s3,vT x1.2] kr rfl (fun _=>qAp kr _) rfl rfl st ⟨[vT s3,vT x1.2],_,rfl,⟨_,_,rfl,rfl,rfl⟩,rfl⟩ fun b6 m8 w14 e5 st r4=> ?_));have hmS1:=Mem.le_trans hmS1 e5;refine⟨⟨.inr ⟨Inv.anti st.inv hmS1,Piece.holds_anti st.t.h hmS1,trivial⟩,⟨.inr ⟨Inv.anti st.inv hmS1,Piece.holds_anti st.t.t.h hmS1,trivial⟩,trivial⟩⟩,?_⟩;have st:=st.f5;have⟨l1,d7,i⟩:=qAw i;refine qBh 11 kr (qQq (d:=42) (t:=26) (u:=26) (e:=68) (by_:=32) (x:=(.tmp 32)) (y:=(.tmp 41)) (c:=C1) (f:=(fun x:Tj=>((V3 x):List Value))) (l:=s1.2) (fun _ _ _ h=>by obtain⟨_,_,rfl,rfl,rfl⟩:=h;rfl) (fun _=>rfl) kr rfl (ev (vS a5 s1.2 c5)) (ev (vS (aP b6) ([(s3,x1.2)]) 1)) st hs2 rfl kr (.inl kr) r4.src d7 fun a7 c7 T4 w15 hs4 st=>(⟨⟨.inr ⟨Inv.anti st.inv hmS1,Piece.holds_anti st.t.t.h hmS1,trivial⟩,⟨.inr ⟨Inv.anti st.inv hmS1,Piece.holds_anti st.t.t.t.h hmS1,trivial⟩,trivial⟩⟩,?_⟩));refine qAu 12 43 (vP b3 0) (.head _) (qBh 13 kr (qBn 26 43 42 (vS a7 l1 c7) st.f3 fun w16 st=>(⟨⟨.inr ⟨Inv.anti st.inv hmS1,Piece.holds_anti st.t.t.t.h hmS1,trivial⟩,⟨.inl rfl,trivial⟩⟩,?_⟩)));refine qCd kr ?_;have st:=st.f2.t;refine qBm ?_;cases i
     exact xE (Ku2 _ _ ⟨a7,c7,T4,m8,rfl,((q.t e3).t e4).t e5,st.f2.t.f4.f2.f4.f4.f4,((r3.mono e3).mono e4).mono e5,((r2.mono e3).mono e4).mono e5,hs4⟩)
    ·intro A i;refine qAn (qBm ?_);cases i;exact xE (Ku2 _ _ ⟨a5,c5,T2,m6,rfl,q.t e3,st.t.f4.f4.f4.f4.f4,r3.mono e3,r2.mono e3,hs2⟩)
  ·intro A i;refine qDy (qAi ?_);cases i;have ho:=hBu1 _ rfl;have st:=st.f4.f4.f4.f4.f4;refine qAi ?_;exact xE (K0_u1 _ _ ⟨s1.2,a5,c5,T2,m4,ho,rfl,q,st,r3,r2,hs2⟩)
end
end Go.Proofs.YtcdpbapbpcpflaaGreatDoor
section
namespace Go.Dc
theorem qXs{σ β:Type}{f:σ→Option (σ⊕β)}(st:Nat→σ)(k:Nat)(res:β)(step:∀i,i<k→f (st i)=some (.inl (st (i+1))))(stop:f (st k)=some (.inr res)){N:Nat}(hN:k<N):qBf f N (st 0)=some res:=by
 have key:∀d i M,i+d=k→d<M→qBf f M (st i)=some res:=by
  intro d
  induction d with
  |zero=>intro i M h hM;obtain⟨M',rfl⟩:∃M',M=M'+1:=⟨M-1,by omega⟩;simp only[gV] at h;subst h;simp[qBf,stop]
  |succ d ih=>
   intro i M h hM
   obtain⟨M',rfl⟩:∃M',M=M'+1:=⟨M-1,by omega⟩
   have:=ih (i+1) M' (by omega) (by omega)
   simp[qBf,step i (by omega),this]
 exact key k 0 N (by omega) hN
section
variable {ν:Type}
theorem zBm{l:List (Int×ν)}{k c:Int}{v:ν}(h:c≠k):mget (l.map fun p=>if k=p.1 then(k,v) else p) c=mget l c:=by
 induction l with
 |nil=>rfl
 |cons p l ih=>
  simp only[jW,mget]
  by_cases hk:k=p.1
  ·subst hk;rw[if_pos rfl,if_neg h,if_neg h,ih]
  ·rw[if_neg hk,ih]
theorem zBs{l:List (Int×ν)}{k:Int}{v:ν}(h:(mget l k).isSome=true):mget (l.map fun p=>if k=p.1 then(k,v) else p) k=some v:=by
 induction l with
 |nil=>cases h
 |cons p l ih=>
  simp only[jW,mget] at h ⊢
  by_cases hk:k=p.1
  ·subst hk;simp
  ·rw[if_neg hk] at h ⊢
   rw[if_neg hk]
   exact ih h
theorem zGt{l:List (Int×ν)}{k:Int}{v:ν}(h:mget l k=none)(c:Int):mget (mins l k v) c=if c=k then some v else mget l c:=by
 induction l with
 |nil=>rfl
 |cons p l ih=>
  simp only[mget] at h
  split at h
  ·cases h
  ·rename_i hk
   simp only[mins]
   split
   ·simp only[mget]
   ·simp only[mget,ih h]
    by_cases hc:c=k
    ·subst hc;simp[hk]
    ·simp[hc]
theorem zFh(l:List (Int×ν))(k:Int)(v:ν)(c:Int):mget (mset l k v) c=if c=k then some v else mget l c:=by
 unfold mset
 split
 ·rename_i h
  split
  ·rename_i hc;subst hc;exact zBs h
  ·rename_i hc;exact zBm hc
 ·rename_i h
  exact zGt (by simpa using h) c
def Srt(l:List (Int×ν)):Prop:=(l.map (·.1)).Pairwise (· < ·)
theorem Srt.nil:Srt ([]:List (Int×ν)):=List.Pairwise.nil
theorem Srt.mins{l:List (Int×ν)}{k:Int}{v:ν}(hs:Srt l)(h:mget l k=none):Srt (mins l k v):=by
 induction l with
 |nil=>simp[Srt,Go.Dc.mins]
 |cons p l ih=>
  have hs':=hs
  simp only[Srt,jW,jQ] at hs
  simp only[mget] at h
  split at h
  ·cases h
  ·rename_i hk
   simp only[Go.Dc.mins]
   split
   ·rename_i hlt
    have hlt:k<p.1:=by simpa[KOrd.lt] using hlt
    refine jQ.2 ⟨fun a ha=> ?_,hs'⟩
    simp only[jW,jH] at ha
    rcases ha with rfl|ha
    ·exact hlt
    ·exact Int.lt_trans hlt (hs.1 a ha)
   ·rename_i hlt
    have hlt:¬k<p.1:=by simpa[KOrd.lt] using hlt
    refine jQ.2 ⟨fun a ha=> ?_,ih hs.2 h⟩
    obtain⟨q,hq,rfl⟩:=kX.1 ha
    rcases jH.1 ((zAd l k v).mem_iff.1 hq) with rfl|hq
    ·show p.1<k;omega
    ·exact hs.1 _ (kT hq)
theorem Srt.mset{l:List (Int×ν)}(hs:Srt l)(k:Int)(v:ν):Srt (mset l k v):=by
 unfold Go.Dc.mset
 split
 ·unfold Srt
  have:(l.map fun p=>if k=p.1 then(k,v) else p).map (·.1)=l.map (·.1):=by
   rw[List.map_map]
   refine fG fun p _=> ?_
   simp only[Function.comp_apply]
   split
   ·rename_i h;exact h
   ·rfl
  rw[this];exact hs
 ·rename_i h
  exact hs.mins (by simpa using h)
theorem Srt.out{l:List (Int×ν)}{c:Int}(h:∀a∈l.map (·.1),c<a):mget l c=none:=by
 rw[qPd];intro hm;exact Int.lt_irrefl _ (h c hm)
theorem Srt.ext:∀{l k:List (Int×ν)},Srt l→Srt k→(∀c,mget l c=mget k c)→l=k
 |[],[],_,_,_=>rfl
 |[],q::k,_,_,h=>by have:=h q.1;simp[mget] at this
 |p::l,[],_,_,h=>by have:=h p.1;simp[mget] at this
 |p::l,q::k,hl,hk,h=>by
  have hl':(∀a∈l.map (·.1),p.1<a)∧Srt l:=jQ.1 hl
  have hk':(∀a∈k.map (·.1),q.1<a)∧Srt k:=jQ.1 hk
  have h1:p.1=q.1:=by
   rcases Int.lt_trichotomy p.1 q.1 with hlt|he|hlt
   ·have:=h p.1
    rw[Srt.out (l:=q::k) (c:=p.1)] at this
    ·simp[mget] at this
    ·intro a ha
     rcases jH.1 ha with rfl|ha
     ·exact hlt
     ·exact Int.lt_trans hlt (hk'.1 a ha)
   ·exact he
   ·have:=h q.1
    rw[Srt.out (l:=p::l) (c:=q.1)] at this
    ·simp[mget] at this
    ·intro a ha
     rcases jH.1 ha with rfl|ha
     ·exact hlt
     ·exact Int.lt_trans hlt (hl'.1 a ha)
  have h2:p.2=q.2:=by have:=h p.1;simpa[mget,h1] using this
  have h3:l=k:=by
   refine Srt.ext hl'.2 hk'.2 fun c=> ?_
   by_cases hc:c=p.1
   ·rw[Srt.out (l:=l) (fun a ha=>hc▸hl'.1 a ha),Srt.out (l:=k) (fun a ha=>by rw[hc,h1];exact hk'.1 a ha)]
   ·have:=h c
    simpa[mget,hc,h1▸hc] using this
  rw[h3,Prod.ext h1 h2]
def qMp(v:ν)(m:List (Int×ν))(xs:List UInt8):List (Int×ν):=xs.foldl (fun m x=>mset m (x.toNat:Int) v) m
theorem qVm{v:ν}:∀{xs:List UInt8} {m:List (Int×ν)},Srt m→Srt (qMp v m xs)
 |[],_,h=>h
 |_::xs,_,h=>qVm (xs:=xs) (h.mset _ _)
theorem qWk{v:ν}(c:Int):∀(xs:List UInt8) (m:List (Int×ν)),mget (qMp v m xs) c=if xs.any (fun x=>decide ((x.toNat:Int)=c))=true then some v else mget m c
 |[],m=>by simp[qMp]
 |x::xs,m=>by
  have:=qWk (v:=v) c xs (mset m (x.toNat:Int) v)
  rw[show qMp v m (x::xs)=qMp v (mset m (x.toNat:Int) v) xs from rfl,this,zFh]
  by_cases h1:xs.any (fun x=>decide ((x.toNat:Int)=c))=true
  ·simp[h1]
  ·by_cases h2:(x.toNat:Int)=c
   ·subst h2;simp[h1]
   ·have h3:¬c=(x.toNat:Int):=fun e=>h2 e.symm
    simp[h1,h2,h3]
end
end Go.Dc
namespace Go.Proofs.YtcdpbapbpcpflaaGreatDoor
open Go Go.Dc
def allK:List (Int×ByteArray):=[(1,⟨#[97,98,99,100,101,102,103,104,105,106,107,108,109,110,111,112,113,114,115,116,117,118,119,120,121,122]⟩),(2,⟨#[48,49,50,51,52,53,54,55,56,57]⟩),(3,⟨#[95]⟩),(4,⟨#[46]⟩),(5,⟨#[9,10,13,32]⟩),(6,⟨#[35]⟩),(7,⟨#[34]⟩),(8,⟨#[59,44,40,41,43,45,42,47,37,60,61]⟩)]
def kdL:List (Int×Int):=[(9,5),(10,5),(13,5),(32,5),(34,7),(35,6),(37,8),(40,8),(41,8),(42,8),(43,8),(44,8),(45,8),(46,4),(47,8),(48,2),(49,2),(50,2),(51,2),(52,2),(53,2),(54,2),(55,2),(56,2),(57,2),(59,8),(60,8),(61,8),(95,3),(97,1),(98,1),(99,1),(100,1),(101,1),(102,1),(103,1),(104,1),(105,1),(106,1),(107,1),(108,1),(109,1),(110,1),(111,1),(112,1),(113,1),(114,1),(115,1),(116,1),(117,1),(118,1),(119,1),(120,1),(121,1),(122,1)]
def kdI(c:Int):Int:=(mget kdL c).getD 0
def inE(e:Int×ByteArray)(c:Int):Bool:=e.2.data.toList.any fun x=>decide ((x.toNat:Int)=c)
def layK(m:List (Int×Int))(k:List (Int×ByteArray)):List (Int×Int):=k.foldl (fun m e=>qMp e.1 m e.2.data.toList) m
theorem zCd:∀{k:List (Int×ByteArray)} {m:List (Int×Int)},Srt m→Srt (layK m k)
 |[],_,h=>h
 |_::k,_,h=>zCd (k:=k) (qVm h)
theorem zCe(c:Int):∀(k:List (Int×ByteArray)) (m:List (Int×Int)),(∀e∈k,inE e c=true→e.1=kdI c)→(∀v,mget m c=some v→v=kdI c)→
  mget (layK m k) c=if(k.any fun e=>inE e c)=true then some (kdI c) else mget m c
 |[],m,_,_=>by simp[layK]
 |e::k,m,h,hm=>by
  have hg:=qWk (v:=e.1) c e.2.data.toList m
  have:=zCe c k (qMp e.1 m e.2.data.toList) (fun e' he=>h e' (jK _ he)) (fun v hv=>by
   rw[hg] at hv
   split at hv
   ·rename_i hi
    rw[←jC hv]
    exact h e (jJ ..) hi
   ·exact hm v hv)
  rw[show layK m (e::k)=layK (qMp e.1 m e.2.data.toList) k from rfl,this,hg]
  by_cases h1:(k.any fun e=>inE e c)=true
  ·simp[h1]
  ·by_cases h2:inE e c=true
   ·have:=h e (jJ ..) h2
    have h2':(e.2.data.toList.any fun x=>decide ((x.toNat:Int)=c))=true:=h2
    simp only[List.any_cons,h2,Bool.true_or,jU,h1,h2',this]
    simp
   ·have h2':(e.2.data.toList.any fun x=>decide ((x.toNat:Int)=c))=false:=by simpa[inE] using h2
    simp only[List.any_cons,h1,h2',Bool.or_false,jD,jS]
    simp[h2]
theorem zCw:(allK.all fun e=>e.2.data.toList.all fun x=>decide (e.1=kdI (x.toNat:Int)))=true∧(kdL.all fun p=>allK.any fun e=>inE e p.1)=true:=⟨by kernel_rfl,by kernel_rfl⟩
theorem kd_in{e:Int×ByteArray}{c:Int}(he:e∈allK)(h:inE e c=true):e.1=kdI c:=by
 have:=jN.1 zCw.1 e he
 obtain⟨x,hx,hc⟩:=gS.1 h
 have h2:=jN.1 this x hx
 have hc:(x.toNat:Int)=c:=by simpa using hc
 subst hc
 simpa using h2
theorem zKl(c:Int):mget kdL c=if(allK.any fun e=>inE e c)=true then some (kdI c) else none:=by
 cases h:mget kdL c with
 |none=>
  rw[if_neg]
  intro ha
  obtain⟨e,he,hi⟩:=gS.1 ha
  have h1:=kd_in he hi
  have h0:kdI c=0:=by simp[kdI,h]
  have:(allK.all fun e=>decide (e.1≠0))=true:=by kernel_rfl
  have:=jN.1 this e he
  simp[h1,h0] at this
 |some v=>
  have hm:(c,v)∈kdL:=(qRg (l:=kdL) (by
   have:decide ((kdL.map (·.1)).Nodup)=true:=by kernel_rfl
   simpa using this)).1 h
  have:=jN.1 zCw.2 _ hm
  rw[if_pos this]
  simp[kdI,h]
theorem zKn:Srt kdL:=by
 have:decide ((kdL.map (·.1)).Pairwise (· < ·))=true:=by kernel_rfl
 simpa[Srt] using this
theorem zFx{k:List (Int×ByteArray)}(h:k.Perm allK):layK [] k=kdL:=by
 refine Srt.ext (zCd Srt.nil) zKn fun c=> ?_
 rw[zCe c k [] (fun e he hi=>kd_in (h.mem_iff.1 he) hi) (fun v hv=>by cases hv),zKl]
 have:(k.any fun e=>inE e c)=(allK.any fun e=>inE e c):=by
  rw[kE,gS,gS]
  exact⟨fun⟨e,he,hi⟩=>⟨e,h.mem_iff.1 he,hi⟩,fun⟨e,he,hi⟩=>⟨e,h.mem_iff.2 he,hi⟩⟩
 rw[this]
 rfl
theorem zHs{N:Nat}{e:Int×ByteArray}(m:List (Int×Int))(he:e.2.size≤26)(hN:30<N):qEm N (some e) (some m)=some (.inl (some (qMp e.1 m e.2.data.toList))):=by
 have hsz:e.2.data.toList.length=e.2.size:=by simp
 have hb:bytesOf e.2=some e.2.data.toList:=by unfold bytesOf;rw[if_pos (by simp only[maxLen];omega)]
 simp only[qEm,hb,j0]
 have key:=qXs (f:=qHv N e e.2.data.toList) (fun i=>((i:Int),some (qMp e.1 m (e.2.data.toList.take i)))) e.2.data.toList.length (some (qMp e.1 m e.2.data.toList)) (fun i hi=> ?_) ?_ (N:=N) (by omega)
 ·simp only[Int.natCast_zero,List.take_zero] at key
  rw[show qMp e.1 m []=m from rfl] at key
  rw[key];rfl
 ·simp only[qHv]
  rw[if_pos (by simpa using hi),qFw hi]
  simp only[j0,qIi,jX]
  rw[wi64 (by omega) (by omega),kQ hi]
  simp[qMp]
 ·simp only[qHv]
  rw[if_neg (by simp),fC]
theorem qWn{N:Nat}(hN:30<N):∀(k:List (Int×ByteArray)) (m:List (Int×Int)),(∀e∈k,e.2.size≤26)→qJr (qEm N) k (some m)=some (some (layK m k))
 |[],m,_=>by simp[qJr,qEm,layK]
 |e::k,m,h=>by
  have:=qWn hN k (qMp e.1 m e.2.data.toList) (fun e' he=>h e' (jK _ he))
  simp only[qJr,zHs m (h e (jJ ..)) hN,j0,this]
  rfl
theorem qXj{N:Nat}(hN:30<N):qJk N=some (some kdL):=by
 have h8:∀e∈allK,e.2.size≤26:=by
  have:(allK.all fun e=>decide (e.2.size≤26))=true:=by kernel_rfl
  intro e he
  simpa using jN.1 this e he
 have key:qRa (qEm N) allK (some [])=some (some kdL):=zAi fun k hk=>by
  rw[qWn hN k [] (fun e he=>h8 e (hk.mem_iff.1 he)),zFx hk]
 have h1:qJk N=(qRa (qEm N) allK (some [])).bind fun o1=>some o1:=by kernel_rfl
 rw[h1,key];rfl
end Go.Proofs.YtcdpbapbpcpflaaGreatDoor
end
namespace Go.Proofs.YtcdpbapbpcpflaaGreatDoor
section
open Go Go.Dc
theorem qCc(s:ByteArray):s.data.toList.length=s.size:=by simp
theorem qLz{s:ByteArray}{i:Nat}(h:i<s.data.toList.length):idxB s (i:Int)=some (s.data.toList[i]):=by
 have h':i<s.size:=by simpa using h
 rw[qXb h']
 simp[ByteArray.getElem_eq_getElem_data]
def tw(p:UInt8→Bool)(l:List UInt8)(a:Nat):Nat:=a+((l.drop a).takeWhile p).length
section
variable {p:UInt8→Bool} {l:List UInt8} {a:Nat}
theorem qRf(h:a≤l.length):a≤tw p l a∧tw p l a≤l.length:=by
 have:=(fO p (l:=l.drop a)).length_le
 simp only[gA] at this
 unfold tw;omega
theorem qRr(h:a<l.length)(hb:p l[a]=true):tw p l (a+1)=tw p l a:=by
 unfold tw
 rw[jT h,gH hb]
 simp only[jA];omega
theorem qUk(h:a<l.length)(hb:p l[a]=false):tw p l a=a:=by
 unfold tw
 rw[jT h,f0 (by simp[hb])]
 simp
theorem zCl(h:l.length≤a):tw p l a=a:=by
 unfold tw
 rw[k0 h];rfl
theorem zFs:∀(d a:Nat),a+d=l.length→∀h:tw p l a<l.length,p (l[tw p l a]'h)=false
 |0,a,hd,h=>by rw[zCl (by omega)] at h;omega
 |d+1,a,hd,h=>by
  have ha:a<l.length:=by omega
  cases hb:p l[a] with
  |true=>
   have e:=qRr ha hb
   have:=zFs d (a+1) (by omega) (by rw[e];exact h)
   simpa only[e] using this
  |false=>
   have e:=qUk ha hb
   simpa only[e] using hb
theorem zGz{β:Type}{f:Int→Option (Int⊕β)}(out:Nat→β)(go:∀i:Nat,∀h:i<l.length,p l[i]=true→f (i:Int)=some (.inl ((i:Int)+1)))
  (no:∀i:Nat,∀h:i<l.length,p l[i]=false→f (i:Int)=some (.inr (out i))) (en:f (l.length:Int)=some (.inr (out l.length))):
  ∀(d a N:Nat),a+d=l.length→d<N→qBf f N (a:Int)=some (out (tw p l a))
 |d,a,0,_,h=>by omega
 |0,a,N+1,hd,h=>by
  have:a=l.length:=by omega
  subst this
  rw[zCl (jL _)];simp[qBf,en]
 |d+1,a,N+1,hd,h=>by
  have ha:a<l.length:=by omega
  cases hb:p l[a] with
  |true=>
   have:=zGz out go no en d (a+1) N (by omega) (by omega)
   rw[qRr ha hb] at this
   simpa[qBf,go a ha hb] using this
  |false=>
   rw[qUk ha hb];simp[qBf,no a ha hb]
end
def kd(c:UInt8):Int:=kdI (c.toNat:Int)
def inK(ks:List Int)(c:UInt8):Bool:=ks.any fun k=>kd c==k
theorem qVh{N:Nat}{s:ByteArray}{ks:List Int}{i:Nat}(h:i<s.data.toList.length)(hk:ks.length≤10)(hN:10<N):qBf (qHq N s (some kdL) ks (i:Int)) N (false,0)=some (inK ks (s.data.toList[i])):=by
 have key:=qXs (f:=qHq N s (some kdL) ks (i:Int)) (fun j=>((ks.take j).any (fun k=>kd (s.data.toList[i])==k),(j:Int))) ks.length (inK ks (s.data.toList[i])) (fun j hj=> ?_) ?_ (N:=N) (by omega)
 ·simpa using key
 ·simp only[qHq]
  rw[if_pos (by simpa using hj),qFw hj,qLz h]
  simp only[j0]
  rw[wi64 (by omega) (by omega),kQ hj,List.any_append]
  cases(ks.take j).any (fun k=>kd (s.data.toList[i])==k)
  ·simp[kd,kdI,qAl]
  ·simp
 ·simp only[qHq]
  rw[if_neg (by simp),fC]
  rfl
theorem qTv{N:Nat}{s:ByteArray}{ks:List Int}{i:Nat}(hi:i≤s.data.toList.length)(hl:s.data.toList.length<1000000)(hk:ks.length≤10)(hN:s.data.toList.length+10<N):
  qHu N s (i:Int) (some kdL) ks=some ((tw (inK ks) s.data.toList i:Nat):Int):=by
 have hs:=qCc s
 have key:=zGz (f:=qHo N s (some kdL) ks) (l:=s.data.toList) (p:=inK ks) (fun n=>(n:Int)) (fun j hj hb=>by
   simp only[qHo]
   rw[if_pos (by simp only[j9];omega),qVh hj hk (by omega),hb]
   simp only[j0]
   rw[wi64 (by omega) (by omega)]
   rfl) (fun j hj hb=>by
   simp only[qHo]
   rw[if_pos (by simp only[j9];omega),qVh hj hk (by omega),hb]
   rfl) (by
   simp only[qHo]
   rw[if_neg (by simp only[j9];omega)]) (s.data.toList.length-i) i N (by omega) (by omega)
 unfold qHu
 rw[key]
 rfl
end
section
open Go Go.Dc
theorem zHd(c:UInt8):(qAl (some kdL) (c.toNat:Int)).getD 0=kd c:=rfl
theorem qJj{l:List UInt8}{i:Nat}(h:i<l.length):l.getD i 0=l[i]:=by simp[k9,h]
theorem zCt{β:Type}{p:UInt8→Bool}{l:List UInt8}{a0:Nat}{f:Int→Option (Int⊕β)}(out:Nat→β)(go:∀i:Nat,∀h:i<l.length,p l[i]=true→f (i:Int)=some (.inl ((i:Int)+1)))
  (no:∀i:Nat,∀h:i<l.length,a0≤i→p l[i]=false→f (i:Int)=some (.inr (out i))) (en:f (l.length:Int)=some (.inr (out l.length))):
  ∀(d a N:Nat),a0≤a→a+d=l.length→d<N→qBf f N (a:Int)=some (out (tw p l a))
 |d,a,0,_,_,h=>by omega
 |0,a,N+1,_,hd,h=>by
  have:a=l.length:=by omega
  subst this
  rw[zCl (jL _)];simp[qBf,en]
 |d+1,a,N+1,h0,hd,h=>by
  have ha:a<l.length:=by omega
  cases hb:p l[a] with
  |true=>
   have:=zCt out go no en d (a+1) N (by omega) (by omega) (by omega)
   rw[qRr ha hb] at this
   simpa[qBf,go a ha hb] using this
  |false=>
   rw[qUk ha hb];simp[qBf,no a ha h0 hb]
def numS(n:Int)(c:UInt8):Int:=if 9007199254740993<10*n+((c.toNat:Int)-48) then 9007199254740993 else 10*n+((c.toNat:Int)-48)
def numL(ds:List UInt8):Int:=ds.foldl numS 0
def qUz(c:UInt8):Bool:=decide (32≤c.toNat)&&decide (c.toNat≤126)&&c !=34
def zEq:Int×ByteArray×Int×Int:=(0,⟨#[]⟩,0,0)
def zAa(l:List UInt8)(i:Nat):Nat:=if l.getD i 0=61∧l.getD (i+1) 0=61 then i+2 else i+1
def tokP(s:ByteArray)(i:Nat):(Int×ByteArray×Int×Int)×Int×Int:=
 if kd (s.data.toList.getD i 0)=1 then
  if tw (inK [1,2,3]) s.data.toList i-i>24 then(zEq,0,2) else((1,s.extract i (tw (inK [1,2,3]) s.data.toList i),0,0),((tw (inK [1,2,3]) s.data.toList i:Nat):Int),0)
 else if kd (s.data.toList.getD i 0)=2 then
  if numL ((s.data.toList.drop i).takeWhile (inK [2]))>9007199254740992 then(zEq,0,3) else((2,⟨#[]⟩,numL ((s.data.toList.drop i).takeWhile (inK [2])),0),((tw (inK [2]) s.data.toList i:Nat):Int),0)
 else if kd (s.data.toList.getD i 0)=7 then
  if s.data.toList.getD (tw qUz s.data.toList (i+1)) 0=34 then((3,s.extract (i+1) (tw qUz s.data.toList (i+1)),0,0),((tw qUz s.data.toList (i+1)+1:Nat):Int),0) else(zEq,0,9)
 else if kd (s.data.toList.getD i 0)=8 then
  ((4,s.extract i (zAa s.data.toList i),0,0),((zAa s.data.toList i:Nat):Int),0)
 else(zEq,0,9)
theorem zCz:∀c:UInt8,kd c=2→48≤c.toNat∧c.toNat≤57:=by
 have h:((List.range 256).all fun n=> !(decide (kd (UInt8.ofNat n)=2))||(decide (48≤n)&&decide (n≤57)))=true:=by kernel_rfl
 intro c hc
 have:=jN.1 h c.toNat (kV.2 c.toNat_lt)
 simpa[hc] using this
theorem qWz{s:ByteArray}{p:UInt8→Bool}{i:Nat}:(s.extract i (tw p s.data.toList i)).data.toList=(s.data.toList.drop i).takeWhile p:=by
 simp only[ByteArray.data_extract,fA]
 have h:=List.prefix_iff_eq_take.1 (List.takeWhile_prefix p (l:=s.data.toList.drop i))
 rw[gL,show tw p s.data.toList i-i=((s.data.toList.drop i).takeWhile p).length by unfold tw;omega]
 exact h.symm
theorem qZw(l:List UInt8)(c:UInt8):numL (l++[c])=numS (numL l) c:=by simp[numL]
theorem zFj{p:UInt8→Bool}:∀{l:List UInt8} {c:UInt8},c∈l.takeWhile p→p c=true
 |[],_,h=>by simp at h
 |x::l,c,h=>by
  cases hx:p x with
  |true=>
   rw[gH hx] at h
   rcases jH.1 h with rfl|h
   ·exact hx
   ·exact zFj h
  |false=>rw[f0 (by simp[hx])] at h;cases h
theorem zIf{N:Nat}{ds:List UInt8}(hd:∀c∈ds,kd c=2)(hl:ds.length<1000000)(hN:ds.length<N):qBf (qGq N ds) N (0,0)=some (numL ds):=by
 have hb:∀j,j≤ds.length→0≤numL (ds.take j)∧numL (ds.take j)≤9007199254740993:=by
  intro j
  induction j with
  |zero=>intro _;simp[numL]
  |succ j ih=>
   intro hj
   have:=ih (by omega)
   rw[kQ (by omega)]
   have hc:=zCz _ (hd _ (kI (show j<ds.length by omega)))
   rw[qZw]
   unfold numS
   split<;>omega
 have key:=qXs (f:=qGq N ds) (fun j=>(numL (ds.take j),(j:Int))) ds.length (numL ds) (fun j hj=> ?_) ?_ (N:=N) (by omega)
 ·exact key
 ·have hc:=zCz _ (hd _ (kI hj))
  have h0:=hb j (by omega)
  simp only[qGq]
  rw[if_pos (by simpa using hj),qFw hj]
  simp only[j0]
  rw[wu8 (by omega) (by omega),wi64 (x:=10*numL (ds.take j)) (by omega) (by omega),wi64 (x:=((ds[j]).toNat:Int)-48) (by omega) (by omega),wi64 (x:=(j:Int)+1) (by omega) (by omega),wi64 (by omega) (by omega),kQ hj,qZw]
  rfl
 ·simp only[qGq]
  rw[if_neg (by simp),fC]
theorem qMi{s:ByteArray}{i e:Nat}(h1:i≤e)(h2:e≤s.data.toList.length):subB s (i:Int) (e:Int)=some (s.extract i e):=by
 have:=qCc s
 rw[qNi (by omega) (by omega) (by omega)]
 simp
theorem zLa{N:Nat}{s:ByteArray}{i j:Nat}(hj:j<s.data.toList.length)(hl:s.data.toList.length<1000000)(hb:qUz (s.data.toList[j])=true):qFm N s (i:Int) (j:Int)=some (.inl ((j:Int)+1)):=by
 have hs:=qCc s
 simp only[qUz,jO,j9,bne_iff_ne,ne_eq] at hb
 obtain⟨⟨h1,h2⟩,h3⟩:=hb
 have h3':¬((s.data.toList[j]).toNat:Int)=34:=fun e=>h3 (UInt8.toNat_inj.1 (by show _=34;omega))
 simp only[qFm,qLz hj,j0]
 rw[if_pos (by simp only[j9];omega),if_pos (by simp only[j9];omega)]
 simp only[j0]
 rw[if_pos (by simp only[j9];omega),if_neg (by simpa using h3'),wi64 (by omega) (by omega)]
theorem zKw{N:Nat}{s:ByteArray}{i j:Nat}(hi:i<s.data.toList.length)(hj:j<s.data.toList.length)(hl:s.data.toList.length<1000000)(hij:i+1≤j)(hb:qUz (s.data.toList[j])=false):
  qFm N s (i:Int) (j:Int)=some (.inr (if s.data.toList.getD j 0=34 then(.inr ((3,s.extract (i+1) j,0,0),((j+1:Nat):Int),0)) else(.inl ()))):=by
 have hs:=qCc s
 simp only[qFm,qLz hj,j0,qJj hj]
 rw[if_pos (by simp only[j9];omega)]
 by_cases h34:s.data.toList[j]=34
 ·rw[h34]
  simp only[show((34:UInt8).toNat:Int)=34 from rfl]
  rw[wi64 (x:=(i:Int)+1) (by omega) (by omega),wi64 (by omega) (by omega),←Int.natCast_succ,qMi hij (by omega)]
  rfl
 ·have h3':¬((s.data.toList[j]).toNat:Int)=34:=fun e=>h34 (UInt8.toNat_inj.1 (by show _=34;omega))
  rw[if_neg h34]
  simp only[qUz,Bool.and_eq_false_iff,decide_eq_false_iff_not,bne_eq_false_iff_eq,h34,or_false] at hb
  by_cases h1:32≤(s.data.toList[j]).toNat
  ·rw[if_pos (by simp only[j9];omega)]
   simp only[j0]
   rw[if_neg (by simp only[j9];omega)]
  ·rw[if_neg (by simp only[j9];omega)]
   simp
theorem qUh{s:ByteArray}{i:Nat}(h1:i≤s.data.toList.length):subB s (i:Int) (s.size:Int)=some (s.extract i s.data.toList.length):=by
 have hs:=qCc s
 rw[←qMi h1 (jL _),hs]
theorem qHc(x y:ByteArray):(x.toList==y.toList)=decide (x=y):=by
 rw[kE]
 simp only[kC,j9]
 constructor
 ·intro h
  rw[ByteArray.toList_eq,ByteArray.toList_eq] at h
  exact Go.WideShapes.bytes_inj h
 ·rintro rfl;rfl
theorem zGl{N:Nat}{s:ByteArray}{i:Nat}(hi:i<s.data.toList.length):qHj N (s.extract i s.data.toList.length) (⟨#[61,61]⟩:ByteArray)=some (decide (s.data.toList.getD i 0=61∧s.data.toList.getD (i+1) 0=61)):=by
 have hs:=qCc s
 have hsz:(s.extract i s.data.toList.length).size=s.data.toList.length-i:=by rw[ByteArray.size_extract];omega
 simp only[qHj,qDu,hsz,show(⟨#[61,61]⟩:ByteArray).size=2 from rfl]
 by_cases h:i+1<s.data.toList.length
 ·have hd:((s.extract i s.data.toList.length).extract 0 2).data.toList=[s.data.toList[i],s.data.toList[i+1]]:=by
   simp only[ByteArray.data_extract,fA,gL,kJ]
   rw[List.take_take,jT hi,jT h]
   have:min (2-0) (s.data.toList.length-i)=2:=by omega
   rw[this];rfl
  have hsub:subB (s.extract i s.data.toList.length) 0 ((2:Nat):Int)=some ((s.extract i s.data.toList.length).extract 0 2):=by
   have:=qMi (s:=s.extract i s.data.toList.length) (i:=0) (e:=2) (by omega) (by rw[qCc,hsz];omega)
   simpa only[Int.natCast_zero] using this
  rw[if_pos (by simp only[j9];omega),hsub]
  simp only[j0,qHc]
  rw[qJj hi,qJj h]
  generalize (s.extract i s.data.toList.length).extract 0 2=X at hd
  refine congrArg some (decide_eq_decide.2 ?_)
  constructor
  ·intro e
   rw[e] at hd
   have hd':[(61:UInt8),61]=[s.data.toList[i],s.data.toList[i+1]]:=hd
   simp only[k8,and_true] at hd'
   exact⟨hd'.1.symm,hd'.2.symm⟩
  ·rintro⟨e1,e2⟩
   apply Go.WideShapes.bytes_inj
   rw[hd,e1,e2]
 ·rw[if_neg (by simp only[j9];omega)]
  have h0:s.data.toList.getD (i+1) 0=0:=by rw[k9,List.getElem?_eq_none (by omega)];rfl
  rw[h0]
  simp
theorem zIw{N:Nat}{s:ByteArray}{i:Nat}(hi:i<s.data.toList.length)(hl:s.data.toList.length<1000000)(hN:s.data.toList.length+20<N):qLm N s (i:Int) (some kdL)=some (tokP s i):=by
 have hs:=qCc s
 simp only[qLm,qLz hi,j0,zHd,tokP,qJj hi,kC]
 by_cases h1:kd (s.data.toList[i])=1
 ·simp only[h1,jU]
  have hb:=qRf (p:=inK [1,2,3]) (l:=s.data.toList) (a:=i) (by omega)
  rw[qTv (by omega) hl (by simp) (by omega)]
  simp only[j0]
  rw[wi64 (by omega) (by omega),qMi hb.1 hb.2]
  by_cases h:tw (inK [1,2,3]) s.data.toList i-i>24
  ·rw[if_pos (by simp only[j9];omega),if_pos h];rfl
  ·rw[if_neg (by simp only[j9];omega),if_neg h];rfl
 simp only[h1,jS]
 by_cases h2:kd (s.data.toList[i])=2
 ·simp only[h2,jU]
  have hb:=qRf (p:=inK [2]) (l:=s.data.toList) (a:=i) (by omega)
  have hx:=qCc (s.extract i (tw (inK [2]) s.data.toList i))
  have he:=qWz (s:=s) (p:=inK [2]) (i:=i)
  have hlen:((s.data.toList.drop i).takeWhile (inK [2])).length≤s.data.toList.length:=by
   have:=(fO (inK [2]) (l:=s.data.toList.drop i)).length_le
   simp only[gA] at this;omega
  rw[qTv (by omega) hl (by simp) (by omega)]
  simp only[j0]
  rw[qMi hb.1 hb.2]
  simp only[j0]
  have hbo:bytesOf (s.extract i (tw (inK [2]) s.data.toList i))=some ((s.data.toList.drop i).takeWhile (inK [2])):=by
   unfold bytesOf;rw[←he,if_pos];rw[←hx,he];simp only[maxLen];omega
  rw[hbo]
  simp only[j0]
  rw[zIf (fun c hc=> ?_) (by omega) (by omega)]
  ·simp only[j0,j9]
   split<;>rfl
  ·have:=zFj hc
   simpa[inK] using this
 simp only[h2,jS]
 by_cases h7:kd (s.data.toList[i])=7
 ·simp only[h7,jU]
  have key:=zCt (a0:=i+1) (f:=qFm N s (i:Int)) (l:=s.data.toList) (p:=qUz) (fun e=>if s.data.toList.getD e 0=34 then(.inr ((3,s.extract (i+1) e,0,0),((e+1:Nat):Int),0)) else(.inl ()))
   (fun j hj hb=>zLa hj hl hb) (fun j hj h0 hb=>zKw hi hj hl h0 hb) (by
    simp only[qFm]
    rw[if_neg (by simp only[j9];omega),if_neg (by simp)]
    rfl) (s.data.toList.length-(i+1)) (i+1) N (jL _) (by omega) (by omega)
  rw[wi64 (x:=(i:Int)+1) (by omega) (by omega),←Int.natCast_succ,key]
  simp only[j0]
  split
  ·rename_i h;split at h<;>simp_all [zEq]
  ·rename_i h;split at h<;>simp_all
 simp only[h7,jS]
 by_cases h8:kd (s.data.toList[i])=8
 ·simp only[h8,jU]
  rw[qUh (by omega),wi64 (x:=(i:Int)+1) (by omega) (by omega)]
  simp only[j0]
  rw[zGl hi]
  simp only[j0,j9]
  by_cases h:s.data.toList.getD i 0=61∧s.data.toList.getD (i+1) 0=61
  ·have hlt:i+1<s.data.toList.length:=by
    rcases fJ (i+1) s.data.toList.length with h'|h'
    ·exact h'
    ·have h0:s.data.toList.getD (i+1) 0=0:=by rw[k9,List.getElem?_eq_none h'];rfl
     rw[h0] at h;exact absurd h.2 (by decide)
   have hE:zAa s.data.toList i=i+2:=by rw[zAa,if_pos h]
   rw[if_pos h,wi64 (by omega) (by omega),hE]
   simp only[j0]
   rw[show((i:Int)+1+1)=((i+2:Nat):Int) by omega,qMi (by omega) (by omega)]
   rfl
  ·have hE:zAa s.data.toList i=i+1:=by rw[zAa,if_neg h]
   rw[if_neg h,hE]
   simp only[j0]
   rw[←Int.natCast_succ,qMi (by omega) (by omega)]
   rfl
 simp only[h8,jS]
 rfl
end
section
open Go Go.Dc
theorem zJm{p:UInt8→Bool}{l:List UInt8}(h:∀c∈l,p c=true):tw p l 0=l.length:=by
 unfold tw
 have:l.takeWhile p=l:=by
  induction l with
  |nil=>rfl
  |cons c l ih=>rw[gH (h c (jJ ..)),ih fun d hd=>h d (jK _ hd)]
 simp[this]
end
section
open Go Go.Dc
abbrev Tok:=Int×ByteArray×Int×Int
theorem zCk{ks:List Int}{k:Int}{c:UInt8}(hk:k∈ks)(h:kd c=k):inK ks c=true:=by
 unfold inK;exact gS.2 ⟨k,hk,by simp[h]⟩
theorem qZh{p:UInt8→Bool}{l:List UInt8}{a:Nat}(h:a<l.length)(hp:p l[a]=true):a<tw p l a:=by
 rw[←qRr h hp];have:=(qRf (p:=p) (l:=l) (a:=a+1) (by omega)).1;omega
theorem zCc{l:List UInt8}{i:Nat}(h:l.getD i 0≠0):i<l.length:=by
 rcases fJ i l.length with h'|h'
 ·exact h'
 ·exfalso;apply h;rw[k9,List.getElem?_eq_none h'];rfl
theorem zBq{s:ByteArray}{i:Nat}(hi:i<s.data.toList.length)(h:(tokP s i).2.2=0):∃e:Nat,(tokP s i).2.1=(e:Int)∧i<e∧e≤s.data.toList.length∧
  (((tokP s i).1.1=1∨(tokP s i).1.1=4)∧(tokP s i).1.2.1=s.extract i e∨(tokP s i).1.1=2∧(tokP s i).1.2.1=⟨#[]⟩∨(tokP s i).1.1=3∧(tokP s i).1.2.1.size+i<e):=by
 have hs:=qCc s
 unfold tokP at h ⊢
 rw[qJj hi] at h ⊢
 by_cases h1:kd (s.data.toList[i])=1
 ·rw[if_pos h1] at h ⊢
  split at h
  ·cases h
  ·rename_i h24
   rw[if_neg h24]
   have hb:=qRf (p:=inK [1,2,3]) (l:=s.data.toList) (a:=i) (by omega)
   exact⟨_,rfl,qZh hi (zCk (by simp) h1),hb.2,.inl ⟨.inl rfl,rfl⟩⟩
 rw[if_neg h1] at h ⊢
 by_cases h2:kd (s.data.toList[i])=2
 ·rw[if_pos h2] at h ⊢
  split at h
  ·cases h
  ·rename_i h24
   rw[if_neg h24]
   have hb:=qRf (p:=inK [2]) (l:=s.data.toList) (a:=i) (by omega)
   exact⟨_,rfl,qZh hi (zCk (by simp) h2),hb.2,.inr (.inl ⟨rfl,rfl⟩)⟩
 rw[if_neg h2] at h ⊢
 by_cases h7:kd (s.data.toList[i])=7
 ·rw[if_pos h7] at h ⊢
  split at h
  ·rename_i h24
   rw[if_pos h24]
   have hb:=qRf (p:=qUz) (l:=s.data.toList) (a:=i+1) (by omega)
   have hlt:tw qUz s.data.toList (i+1)<s.data.toList.length:=zCc (by rw[h24];decide)
   refine⟨_,rfl,by omega,by omega,.inr (.inr ⟨rfl,?_⟩)⟩
   simp only[ByteArray.size_extract]
   omega
  ·cases h
 rw[if_neg h7] at h ⊢
 by_cases h8:kd (s.data.toList[i])=8
 ·rw[if_pos h8] at h ⊢
  refine⟨_,rfl,?_,?_,.inl ⟨.inr rfl,rfl⟩⟩
  ·unfold zAa;split<;>omega
  ·unfold zAa
   split
   ·rename_i hh
    have:i+1<s.data.toList.length:=zCc (by rw[hh.2];decide)
    omega
   ·omega
 rw[if_neg h8] at h
 cases h
def qIt(c:UInt8):Bool:=c !=10
def tokG:Nat→ByteArray→Nat→(Int×Int)⊕List Tok
 |0,_,_=> .inr []
 |k+1,s,i=>
  if tw (inK [5]) s.data.toList i=s.data.toList.length then .inr [(5,⟨#[]⟩,0,(s.data.toList.length:Int))]
  else if kd (s.data.toList.getD (tw (inK [5]) s.data.toList i) 0)=6 then tokG k s (tw qIt s.data.toList (tw (inK [5]) s.data.toList i))
  else if(tokP s (tw (inK [5]) s.data.toList i)).2.2≠0 then .inl ((tw (inK [5]) s.data.toList i:Nat),(tokP s (tw (inK [5]) s.data.toList i)).2.2)
  else match tokG k s (tokP s (tw (inK [5]) s.data.toList i)).2.1.toNat with
   | .inl x=> .inl x
   | .inr r=> .inr (((tokP s (tw (inK [5]) s.data.toList i)).1.1,(tokP s (tw (inK [5]) s.data.toList i)).1.2.1,(tokP s (tw (inK [5]) s.data.toList i)).1.2.2.1,((tw (inK [5]) s.data.toList i:Nat):Int))::r)
def zHk(acc:List Tok):(Int×Int)⊕List Tok→List Tok×Int×Int
 | .inl x=>([],x.1,x.2)
 | .inr r=>(acc++r,0,0)
def qGy(s:ByteArray):List Tok×Int×Int:=if s.data.toList.length>16384 then([],0,2) else zHk [] (tokG (s.data.toList.length+1) s 0)
theorem zKy{s:ByteArray}{i:Nat}(hi:i≤s.data.toList.length):
  (if ixB (s.extract i s.data.toList.length) 10<0 then((s.data.toList.length-i:Nat):Int) else ixB (s.extract i s.data.toList.length) 10)=((tw qIt s.data.toList i-i:Nat):Int):=by
 have hs:=qCc s
 have hsz:(s.extract i s.data.toList.length).size=s.data.toList.length-i:=by rw[ByteArray.size_extract];omega
 have hb:=qRf (p:=qIt) (l:=s.data.toList) (a:=i) hi
 have hget:∀j,j<s.data.toList.length-i→(s.extract i s.data.toList.length)[j]! =s.data.toList.getD (i+j) 0:=by
  intro j hj
  have hj':i+j<s.data.toList.length:=by omega
  rw[qJj hj',getElem!_pos _ _ (by rw[hsz];exact hj),ByteArray.getElem_extract]
  simp[ByteArray.getElem_eq_getElem_data]
 have hin:∀d a,a+d=s.data.toList.length→∀j,a≤j→j<tw qIt s.data.toList a→s.data.toList.getD j 0≠10:=by
  intro d
  induction d with
  |zero=>intro a ha j h1 h2;rw[zCl (by omega)] at h2;omega
  |succ d ih=>
   intro a ha j h1 h2
   have hlt:a<s.data.toList.length:=by omega
   cases hc:qIt (s.data.toList[a]) with
   |true=>
    rw[←qRr hlt hc] at h2
    rcases Nat.eq_or_lt_of_le h1 with rfl|h1
    ·rw[qJj hlt];simpa[qIt] using hc
    ·exact ih (a+1) (by omega) j h1 h2
   |false=>rw[qUk hlt hc] at h2;omega
 have hin:=hin (s.data.toList.length-i) i (by omega)
 unfold ixB
 rw[hsz]
 cases hf:(List.range (s.data.toList.length-i)).find? (fun j=>(s.extract i s.data.toList.length)[j]! ==(10:Int).toNat.toUInt8) with
 |none=>
  rw[List.find?_eq_none] at hf
  simp only
  rw[if_pos (by omega)]
  have:¬tw qIt s.data.toList i<s.data.toList.length:=by
   intro hlt
   have h1:=zFs (p:=qIt) (l:=s.data.toList) (s.data.toList.length-i) i (by omega) hlt
   have h2:=hf (tw qIt s.data.toList i-i) (kV.2 (by omega))
   rw[hget _ (by omega),show i+(tw qIt s.data.toList i-i)=tw qIt s.data.toList i by omega,qJj hlt] at h2
   simp only[qIt,bne_eq_false_iff_eq] at h1
   rw[h1] at h2
   exact h2 (by decide)
  omega
 |some k=>
  have h1:=List.find?_some hf
  have hk:k<s.data.toList.length-i:=kV.1 (gK hf)
  simp only
  rw[if_neg (by omega)]
  rw[hget k hk] at h1
  have h1:s.data.toList.getD (i+k) 0=10:=by simpa using h1
  have h2:¬i+k<tw qIt s.data.toList i:=fun h=>hin (i+k) (by omega) h h1
  have h3:¬tw qIt s.data.toList i<i+k:=by
   intro hlt
   have hlt':tw qIt s.data.toList i<s.data.toList.length:=by omega
   have h4:=zFs (p:=qIt) (l:=s.data.toList) (s.data.toList.length-i) i (by omega) hlt'
   have h5:=List.not_of_lt_findIdx (xs:=List.range (s.data.toList.length-i)) (p:=fun j=>(s.extract i s.data.toList.length)[j]! ==(10:Int).toNat.toUInt8) (i:=tw qIt s.data.toList i-i)
   have h6:=(List.find?_range_eq_some.1 hf).2.2 (tw qIt s.data.toList i-i) (by omega)
   rw[hget _ (by omega),show i+(tw qIt s.data.toList i-i)=tw qIt s.data.toList i by omega,qJj hlt'] at h6
   simp only[qIt,bne_eq_false_iff_eq] at h4
   rw[h4] at h6
   simp at h6
  omega
end
end Go.Proofs.YtcdpbapbpcpflaaGreatDoor
