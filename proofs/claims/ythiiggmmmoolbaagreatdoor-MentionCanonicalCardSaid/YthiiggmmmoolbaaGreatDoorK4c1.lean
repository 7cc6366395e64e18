/- No condition but those of each theorem. -/
import Derived.Test.YthiiggmmmoolbaaGreatDoorProg
import Derived.WalkKit
import Derived.Deep.LoopGhost
import Derived.KernelRfl
import Derived.OrdersHeld
import Derived.OrdersIn
import Derived.LoopNIn
import Derived.Sort.LoopGhostIn
import Derived.Laws.AppendOwn
import Derived.RangeFuncLeaves
import Derived.RangeFuncRecord
import Derived.MapKept
import Derived.Maps.RangeRun
import Derived.ChangeKeysEq
import Derived.HandedShaped
import Derived.ChangeStays
import Derived.ChangeSame
import Derived.OpenShut
import Derived.WideShapes
import Derived.JoinedOf
import Derived.ReadAgain
import Derived.ChangeAt
import Derived.RowKit
import Derived.Lib.Overlaps
import Derived.Shelf.Sort.Plain
import Derived.Shelf.Slices.In.SortNone
import Derived.WalkSmall
import Derived.Recover
import Derived.Lib.Builder
import Derived.Lib.UnsafeStr
import Derived.Shelf.Strconv.Itoa3
import Derived.Room.Shelf.Join48
import Derived.Lib.Bytealg
import Derived.Test.YthiiggmmmoolbaaGreatDoorK3c1
namespace Go.Proofs.YthiiggmmmoolbaaGreatDoor
section
open Go Go.Dc Go.Proofs.Tryz
set_option maxHeartbeats 4000000
set_option maxRecDepth 100000
variable {N bp0 c1 c2 c3:Nat} {m:Mem} {O:List Piece} {w:World} {a1 a2 a3:Option Addr}
def FV(N:Nat)(R8:bI->Tl->(Int)->eP)(R9:bI->(Int)->sM)(Ra:bI->(Int)->eP)(Rb:bI->(Int)->(Int)->eP)(Rc:bI->(Int)->eP)(p0:bI)(p1:Tl)(p2:Int):eP:=
 (oY N p0 (⟨#[40]⟩:BA)).bind fun y1=>(match y1 with| .inl a=>some (.inl a)| .inr b=>(if(p1.2.1.toList==(⟨#[114,101,97,100]⟩:BA).toList)=true then((vQ N b).bind fun a=>(match a with| .inl a=>some (.inr (.inl a))| .inr c=>(oY N c.1 (⟨#[44]⟩:BA)).bind fun y5=>(match y5 with| .inl a=>some (.inr (.inl a))| .inr a=>(Rc a (IntKind.wrap .i64 (p2+1))).bind fun a=>(match a with| .inl a=>some (.inr (.inl a))| .inr a=>some (.inl (6,0,c.2.2.1,[a.2],a.1.1,a.1.2.1,a.1.2.2.1,a.1.2.2.2)))))) else(if(p1.2.1.toList==(⟨#[115,105,122,101]⟩:BA).toList)=true then((vQ N b).bind fun a=>(match a with| .inl a=>some (.inr (.inl a))| .inr a=>some (.inl (7,0,a.2.2.1,([]:T6),a.1.1,a.1.2.1,a.1.2.2.1,a.1.2.2.2)))) else(if(p1.2.1.toList==(⟨#[104,97,115]⟩:BA).toList)=true then((vQ N b).bind fun a=>(match a with| .inl a=>some (.inr (.inl a))| .inr a=>some (.inl (8,0,a.2.2.1,([]:T6),a.1.1,a.1.2.1,a.1.2.2.1,a.1.2.2.2)))) else(if(p1.2.1.toList==(⟨#[101,110,118]⟩:BA).toList)=true then((vR N b 3).bind fun a=>(match a with| .inl a=>some (.inr (.inl a))| .inr a=>(zX N a.2.2.1).bind fun c=>(if(!c)=true then((lJ N a.2 9).bind fun c=>(match c with| .inl c=>some (.inr (.inr (.inl c)))| .inr c=>some (.inl ()))) else(some (.inl ())):Option T26).bind fun c=>(match c with| .inl o2=>some (.inl (9,0,a.2.2.1,([]:T6),a.1.1,a.1.2.1,a.1.2.2.1,a.1.2.2.2))| .inr z=>some z))) else((vR N b 2).bind fun a=>(match a with| .inl a=>some (.inr (.inl a))| .inr a=>(if(decide (a.2.2.2.1>=64))=true then((lJ N a.2 9).bind fun b=>(match b with| .inl b=>some (.inr (.inr (.inl b)))| .inr b=>some (.inl ()))) else(some (.inl ())):Option T26).bind fun b=>(match b with| .inl b=>some (.inl (10,a.2.2.2.1,(⟨#[]⟩:BA),([]:T6),a.1.1,a.1.2.1,a.1.2.2.1,a.1.2.2.2))| .inr z=>some z)))))):Option T25).bind fun a=>(match a with| .inl a=>(oY N a.2.2.2.2 (⟨#[41]⟩:BA)).bind fun b=>(match b with| .inl b=>some (.inl b)| .inr b=>(sP N b p1 (a.1,a.2.1,0,a.2.2.1,a.2.2.2.1)).bind fun a=>(match a with| .inl a=>some (.inl a)| .inr a=>some (.inr (a.1,a.2))))| .inr z=>some z))
def FN(N:Nat)(Rc:bI->(Int)->eP)(p1:Int)(a:BJ):Option (BJ⊕BJ⊕JG):=
 (Rc a.2 (IntKind.wrap .i64 (p1+1))).bind fun b=>(match b with| .inl b=>some (.inr (.inr (.inl b)))| .inr y5=>(cU 8 a.1 ([y5.2])).bind fun b=>(uK N y5.1 (⟨#[44]⟩:BA)).bind fun a=>if(!a.2)=true then(some (.inr (.inl (b,a.1.1,a.1.2.1,a.1.2.2.1,a.1.2.2.2)))) else(some (.inl (b,a.1.1,a.1.2.1,a.1.2.2.1,a.1.2.2.2))))
def FP(N:Nat)(R8:bI->Tl->(Int)->eP)(R9:bI->(Int)->sM)(Ra:bI->(Int)->eP)(Rb:bI->(Int)->(Int)->eP)(Rc:bI->(Int)->eP)(p0:bI)(p1:Int):sM:=
 (oY N p0 (⟨#[40]⟩:BA)).bind fun y1=>(match y1 with| .inl a=>some (.inl a)| .inr a=>(uK N a (⟨#[41]⟩:BA)).bind fun a=>if a.2=true then(some (.inr (a.1,([]:T6)))) else((aJ (FN N Rc p1) N (([]:T6),a.1.1,a.1.2.1,a.1.2.2.1,a.1.2.2.2)).bind fun a=>(match a with| .inl a=>(oY N a.2 (⟨#[41]⟩:BA)).bind fun b=>(match b with| .inl b=>some (.inl b)| .inr b=>some (.inr (b,a.1)))| .inr (z)=>some z)))
def GE(N:Nat)(R8:bI->Tl->(Int)->eP)(R9:bI->(Int)->sM)(Ra:bI->(Int)->eP)(Rb:bI->(Int)->(Int)->eP)(Rc:bI->(Int)->eP)(p0:bI)(p1:Int):eP:=
 (qT N p0).bind fun y1=>(if(y1.2.1==2)=true then((sP N (y1.1.1,IntKind.wrap .i64 (y1.1.2.1+1),y1.1.2.2.1,y1.1.2.2.2) y1.2 (1,y1.2.2.2.1,0,(⟨#[]⟩:BA),([]:T6))).bind fun a=>(match a with| .inl a=>some (.inr (.inl a))| .inr a=>some (.inr (.inr (a.1,a.2))))) else((uK N y1.1 (⟨#[45]⟩:BA)).bind fun a=>if a.2=true then((vR N a.1 2).bind fun y5=>(match y5 with| .inl b=>some (.inr (.inl b))| .inr b=>(sP N b.1 y1.2 (1,IntKind.wrap .i64 (0-b.2.2.2.1),0,(⟨#[]⟩:BA),([]:T6))).bind fun b=>(match b with| .inl b=>some (.inr (.inl b))| .inr b=>some (.inr (.inr (b.1,b.2)))))) else((uK N a.1 (⟨#[40]⟩:BA)).bind fun a=>if a.2=true then((Rc a.1 (IntKind.wrap .i64 (p1+1))).bind fun b=>(match b with| .inl b=>some (.inr (.inl b))| .inr b=>(oY N b.1 (⟨#[41]⟩:BA)).bind fun c=>(match c with| .inl c=>some (.inr (.inl c))| .inr c=>some (.inr (.inr (c,b.2)))))) else(if(y1.2.1 !=1)=true then((lJ N y1.2 9).bind fun b=>(match b with| .inl b=>some (.inr (.inl b))| .inr b=>some (.inl a.1))) else(some (.inl a.1))))):Option (bI⊕oU)).bind fun a=>(match a with| .inl a=>(if(y1.2.2.1.toList==(⟨#[114,101,97,100]⟩:BA).toList)=true then(some (y1.2.2.1.toList==(⟨#[114,101,97,100]⟩:BA).toList)) else(if(y1.2.2.1.toList==(⟨#[115,105,122,101]⟩:BA).toList)=true then(some (y1.2.2.1.toList==(⟨#[115,105,122,101]⟩:BA).toList)) else(if(y1.2.2.1.toList==(⟨#[104,97,115]⟩:BA).toList)=true then(some (y1.2.2.1.toList==(⟨#[104,97,115]⟩:BA).toList)) else(if(y1.2.2.1.toList==(⟨#[101,110,118]⟩:BA).toList)=true then(some (y1.2.2.1.toList==(⟨#[101,110,118]⟩:BA).toList)) else(some (y1.2.2.1.toList==(⟨#[102,108,105,112]⟩:BA).toList))))):Te).bind fun o2=>if o2=true then((R8 (a.1,IntKind.wrap .i64 (a.2.1+1),a.2.2.1,a.2.2.2) y1.2 p1).bind fun b=>(match b with| .inl b=>some (.inl b)| .inr b=>some (.inr (b.1,b.2)))) else((zI N y1.2.2.1).bind fun b=>(if b=true then((lJ N y1.2 9).bind fun b=>(match b with| .inl b=>some (.inr (.inl b))| .inr b=>some (.inl ()))) else(some (.inl ())):Option yO).bind fun b=>(match b with| .inl b=>(uL N (a.1,IntKind.wrap .i64 (a.2.1+1),a.2.2.1,a.2.2.2) 4 (⟨#[40]⟩:BA)).bind fun a=>if a.2=true then((R9 a.1 p1).bind fun b=>(match b with| .inl b=>some (.inl b)| .inr b=>(sP N b.1 y1.2 (3,0,0,y1.2.2.1,b.2)).bind fun b=>(match b with| .inl b=>some (.inl b)| .inr b=>some (.inr (b.1,b.2))))) else((yS N a.1.2.2.1 y1.2.2.1).bind fun b=>(if(decide (b<0))=true then((lJ N y1.2 9).bind fun c=>(match c with| .inl c=>some (.inr (.inl c))| .inr c=>some (.inl ()))) else(some (.inl ())):Option yO).bind fun c=>(match c with| .inl o4=>(sP N a.1 y1.2 (2,b,0,(⟨#[]⟩:BA),([]:T6))).bind fun a=>(match a with| .inl a=>some (.inl a)| .inr a=>some (.inr (a.1,a.2)))| .inr z=>some z))| .inr z=>some z))| .inr z=>some z)
def FT(N:Nat)(Rb:bI->(Int)->(Int)->eP)(p1:Int)(p2:Int)(b:Int×bI):Option (Int×bI⊕oU):=
 (GF N b.2 p1).bind fun y5=>if(y5.2==0)=true then(some (.inr (.inr (y5.1,b.1)))) else((qT N y5.1).bind fun a=>(Rb (a.1.1,IntKind.wrap .i64 (a.1.2.1+1),a.1.2.2.1,a.1.2.2.2) (IntKind.wrap .i64 (p1+1)) p2).bind fun c=>(match c with| .inl c=>some (.inr (.inl c))| .inr c=>(sP N c.1 a.2 (4,0,y5.2,(⟨#[]⟩:BA),[b.1,c.2])).bind fun a=>(match a with| .inl a=>some (.inr (.inl a))| .inr a=>if(p1==1)=true then(some (.inr (.inr (a.1,a.2)))) else(some (.inl (a.2,a.1.1,a.1.2.1,a.1.2.2.1,a.1.2.2.2))))))
def yW(N:Nat)(R8:bI->Tl->(Int)->eP)(R9:bI->(Int)->sM)(Ra:bI->(Int)->eP)(Rb:bI->(Int)->(Int)->eP)(Rc:bI->(Int)->eP)(p0:bI)(p1:Int)(p2:Int):eP:=
 if(p1==4)=true then((Ra p0 p2).bind fun y1=>(match y1 with| .inl a=>some (.inl a)| .inr a=>some (.inr (a.1,a.2)))) else((Rb p0 (IntKind.wrap .i64 (p1+1)) p2).bind fun a=>(match a with| .inl a=>some (.inl a)| .inr a=>(aJ (FT N Rb p1 p2) N (a.2,a.1.1,a.1.2.1,a.1.2.2.1,a.1.2.2.2)).bind fun z=>some z))
def zA(N:Nat)(R8:bI->Tl->(Int)->eP)(R9:bI->(Int)->sM)(Ra:bI->(Int)->eP)(Rb:bI->(Int)->(Int)->eP)(Rc:bI->(Int)->eP)(p0:bI)(p1:Int):eP:=
 (qT N p0).bind fun y1=>(if(decide (p1>32))=true then((lJ N y1.2 2).bind fun a=>(match a with| .inl a=>some (.inr (.inl a))| .inr a=>some (.inl ()))) else(some (.inl ())):Option yO).bind fun a=>(match a with| .inl a=>(uL N y1.1 1 (⟨#[105,102]⟩:BA)).bind fun a=>if(!a.2)=true then((Rb a.1 1 p1).bind fun y5=>(match y5 with| .inl b=>some (.inl b)| .inr b=>some (.inr (b.1,b.2)))) else((Rc (a.1.1,IntKind.wrap .i64 (a.1.2.1+1),a.1.2.2.1,a.1.2.2.2) (IntKind.wrap .i64 (p1+1))).bind fun a=>(match a with| .inl a=>some (.inl a)| .inr c=>(zE N c.1 (⟨#[116,104,101,110]⟩:BA)).bind fun a=>(match a with| .inl a=>some (.inl a)| .inr a=>(Rc a (IntKind.wrap .i64 (p1+1))).bind fun a=>(match a with| .inl a=>some (.inl a)| .inr a=>(zE N a.1 (⟨#[101,108,115,101]⟩:BA)).bind fun b=>(match b with| .inl b=>some (.inl b)| .inr b=>(Rc b (IntKind.wrap .i64 (p1+1))).bind fun b=>(match b with| .inl b=>some (.inl b)| .inr b=>(sP N b.1 y1.2 (5,0,0,(⟨#[]⟩:BA),[c.2,a.2,b.2])).bind fun a=>(match a with| .inl a=>some (.inl a)| .inr a=>some (.inr (a.1,a.2)))))))))| .inr z=>some z)
def iB(N:Nat):Nat->(bI->Tl->(Int)->eP)×(((List (Int×BA×Int×Int))×Int×List BA×(List (Int×Int×Int×BA×List Int)))->(Int)->sM)×(((List (Int×BA×Int×Int))×Int×List BA×(List (Int×Int×Int×BA×List Int)))->(Int)->eP)×(((List (Int×BA×Int×Int))×Int×List BA×(List (Int×Int×Int×BA×List Int)))->(Int)->(Int)->eP)×(((List (Int×BA×Int×Int))×Int×List BA×(List (Int×Int×Int×BA×List Int)))->(Int)->eP)
 |0=>((fun _ _ _=>none),(fun _ _=>none),(fun _ _=>none),(fun _ _ _=>none),(fun _ _=>none))
 |D+1=>(FV N (iB N D).1 (iB N D).2.1 (iB N D).2.2.1 (iB N D).2.2.2.1 (iB N D).2.2.2.2,FP N (iB N D).1 (iB N D).2.1 (iB N D).2.2.1 (iB N D).2.2.2.1 (iB N D).2.2.2.2,GE N (iB N D).1 (iB N D).2.1 (iB N D).2.2.1 (iB N D).2.2.2.1 (iB N D).2.2.2.2,yW N (iB N D).1 (iB N D).2.1 (iB N D).2.2.1 (iB N D).2.2.2.1 (iB N D).2.2.2.2,zA N (iB N D).1 (iB N D).2.1 (iB N D).2.2.1 (iB N D).2.2.2.1 (iB N D).2.2.2.2)
def OD(N:Nat)(p0:bI)(p1:Int):eP:=(iB N N).2.2.2.2 p0 p1
abbrev FS(F:bI->Tl->(Int)->eP):Prop:=∀{m:Mem} {O:List Piece} {w:World} {p0:bI} {p1:Tl} {p2:Int} {a:Nat} {d:Option Addr} {h:Nat} {f:Option Addr} {k:Nat} {b:Option Addr} {c:Nat} {r:oU} (g:St m (kB a (Vc p0 d h f k b c) 84::kR b p0.2.2.2 c 61 5::O) w) (l:RepS C2 m d h p0.1) (d:RepS aH m f k p0.2.2.1) (d:RepS C3 m b c p0.2.2.2) (i:F p0 p1 p2=some r),Calls prog 170 #[vP a 0,.agg (V2 p1),vI p2] w fun e w'=>(∃(z0:Tk),∃m',r= .inl z0/\e= .panicked [{v:= .iface 80 (.agg (Vd z0)),recovered:=false}]/\m.le m'/\St m' (O) w')\/(∃(d:pI),r= .inr d/\∃f k h l b c m',e= .returned (vI d.2)/\m.le m'/\St m' (kB a (Vc d.1 f k h l b c) 84::kR b d.1.2.2.2 c 61 5::O) w'/\P7 m' f k h l b c d.1)
abbrev FO(F:bI->(Int)->sM):Prop:=∀{m:Mem} {O:List Piece} {w:World} {p0:bI} {p1:Int} {b:Nat} {d:Option Addr} {h:Nat} {f:Option Addr} {k:Nat} {a:Option Addr} {c:Nat} {r:JG} (g:St m (kB b (Vc p0 d h f k a c) 84::kR a p0.2.2.2 c 61 5::O) w) (l:RepS C2 m d h p0.1) (d:RepS aH m f k p0.2.2.1) (d:RepS C3 m a c p0.2.2.2) (i:F p0 p1=some r),Calls prog 171 #[vP b 0,vI p1] w fun e w'=>(∃(z0:Tk),∃m',r= .inl z0/\e= .panicked [{v:= .iface 80 (.agg (Vd z0)),recovered:=false}]/\m.le m'/\St m' (O) w')\/(∃(a:T21),r= .inr a/\∃k n l o c f d h m',e= .returned (vS d a.2 h)/\m.le m'/\St m' (kR d a.2 h 3 1::kB b (Vc a.1 k n l o c f) 84::kR c a.1.2.2.2 f 61 5::O) w'/\P8 m' k n l o c f d h a)
abbrev FY(F:bI->(Int)->eP):Prop:=∀{m:Mem} {O:List Piece} {w:World} {p0:bI} {p1:Int} {a:Nat} {d:Option Addr} {h:Nat} {f:Option Addr} {k:Nat} {b:Option Addr} {c:Nat} {r:oU} (g:St m (kB a (Vc p0 d h f k b c) 84::kR b p0.2.2.2 c 61 5::O) w) (l:RepS C2 m d h p0.1) (d:RepS aH m f k p0.2.2.1) (d:RepS C3 m b c p0.2.2.2) (i:F p0 p1=some r),Calls prog 160 #[vP a 0,vI p1] w fun e w'=>(∃(z0:Tk),∃m',r= .inl z0/\e= .panicked [{v:= .iface 80 (.agg (Vd z0)),recovered:=false}]/\m.le m'/\St m' (O) w')\/(∃(d:pI),r= .inr d/\∃f k h l b c m',e= .returned (vI d.2)/\m.le m'/\St m' (kB a (Vc d.1 f k h l b c) 84::kR b d.1.2.2.2 c 61 5::O) w'/\P7 m' f k h l b c d.1)
abbrev FW(F:bI->(Int)->(Int)->eP):Prop:=∀{m:Mem} {O:List Piece} {w:World} {p0:bI} {p1:Int} {p2:Int} {a:Nat} {d:Option Addr} {h:Nat} {f:Option Addr} {k:Nat} {b:Option Addr} {c:Nat} {r:oU} (g:St m (kB a (Vc p0 d h f k b c) 84::kR b p0.2.2.2 c 61 5::O) w) (l:RepS C2 m d h p0.1) (d:RepS aH m f k p0.2.2.1) (d:RepS C3 m b c p0.2.2.2) (i:F p0 p1 p2=some r),Calls prog 151 #[vP a 0,vI p1,vI p2] w fun e w'=>(∃(z0:Tk),∃m',r= .inl z0/\e= .panicked [{v:= .iface 80 (.agg (Vd z0)),recovered:=false}]/\m.le m'/\St m' (O) w')\/(∃(d:pI),r= .inr d/\∃f k h l b c m',e= .returned (vI d.2)/\m.le m'/\St m' (kB a (Vc d.1 f k h l b c) 84::kR b d.1.2.2.2 c 61 5::O) w'/\P7 m' f k h l b c d.1)
abbrev GJ(F:bI->(Int)->eP):Prop:=∀{m:Mem} {O:List Piece} {w:World} {p0:bI} {p1:Int} {a:Nat} {d:Option Addr} {h:Nat} {f:Option Addr} {k:Nat} {b:Option Addr} {c:Nat} {r:oU} (g:St m (kB a (Vc p0 d h f k b c) 84::kR b p0.2.2.2 c 61 5::O) w) (l:RepS C2 m d h p0.1) (d:RepS aH m f k p0.2.2.1) (d:RepS C3 m b c p0.2.2.2) (i:F p0 p1=some r),Calls prog 128 #[vP a 0,vI p1] w fun e w'=>(∃(z0:Tk),∃m',r= .inl z0/\e= .panicked [{v:= .iface 80 (.agg (Vd z0)),recovered:=false}]/\m.le m'/\St m' (O) w')\/(∃(d:pI),r= .inr d/\∃f k h l b c m',e= .returned (vI d.2)/\m.le m'/\St m' (kB a (Vc d.1 f k h l b c) 84::kR b d.1.2.2.2 c 61 5::O) w'/\P7 m' f k h l b c d.1)
theorem qFt{R8:bI->Tl->(Int)->eP}{R9:bI->(Int)->sM}{Ra:bI->(Int)->eP}{Rb:bI->(Int)->(Int)->eP}{Rc:bI->(Int)->eP}(l:FS R8)(k:FO R9)(o:FY Ra)(n:FW Rb)(c:GJ Rc){p0:bI}{p1:Tl}{p2:Int}{r:oU}(g:St m (kB bp0 (Vc p0 a1 c1 a2 c2 a3 c3) 84::kR a3 p0.2.2.2 c3 61 5::O) w)(r1:RepS C2 m a1 c1 p0.1)(r2:RepS aH m a2 c2 p0.2.2.1)(r3:RepS C3 m a3 c3 p0.2.2.2)(i:FV N R8 R9 Ra Rb Rc p0 p1 p2=some r):Calls prog 170 #[vP bp0 0,.agg (V2 p1),vI p2] w fun e w'=>(∃(z0:Tk),∃m',r= .inl z0/\e= .panicked [{v:= .iface 80 (.agg (Vd z0)),recovered:=false}]/\m.le m'/\St m' (O) w')\/(∃(y0:pI),r= .inr y0/\∃b9 d1 d0 d2 b6 b7 m',e= .returned (vI y0.2)/\m.le m'/\St m' (kB bp0 (Vc y0.1 b9 d1 d0 d2 b6 b7) 84::kR b6 y0.1.2.2.2 b7 61 5::O) w'/\P7 m' b9 d1 d0 d2 b6 b7 y0.1):=by
 unfold FV at i;have q:=m.le_refl;refine bG func170 rfl ntmps170 ?_;refine aC (mJ 4 109 (.agg (V2 p1)) g fun z m1 w1 e1 g b=>(aF 1 [] (aC (aA 1 [(10,vP bp0 0)] (cY 11 i (sO (p0:=p0) g.f1.f1 (r1.mono e1) (r2.mono e1) (r3.mono e1)) ?_)))));rintro y1 i _ w2 (⟨z1,m3,rfl,rfl,e3,g⟩|⟨y2,rfl,a4,c4,a5,c5,a6,c6,m2,rfl,e2,g,r4,r5,r6⟩)
 .refine bU ?_;obtain rfl:=sI i;exact cP (.inl ⟨z1,m3,rfl,rfl,(q.t e1).t e3,g⟩)
 have q:=(q.t e1).t e2;have b:=b.mono e2;refine aN (aC (eQ 7 61 (.agg #[vI 0,vI 0,vI 0,vT eB,v7]) g fun B w4 g=>(aN (aG (aS 1 [(12,vP z 1)] (cI 13 (vT p1.2.1) g (b.drop 1) (aN ?_)))))));have⟨d9,i,p⟩:=aZ i;refine cZ .normal (fun L' w'=>∃(d:Int×Int×T8×BJ),∃U Z a8 c8 a9 c9 D F m4,(.inl d:T25)=d9/\L'=[(0,vP bp0 0),(4,vP z 0),(7,vP B 0)]/\m.le m4/\St m4 (kB B #[vI d.1,vI d.2.1,vI 0,vT d.2.2.1,vS U d.2.2.2.1 Z] 61::kB bp0 (Vc d.2.2.2.2 a8 c8 a9 c9 D F) 84::kR U d.2.2.2.1 Z 3 1::kR D d.2.2.2.2.2.2.2 F 61 5::O) w'/\MRow m4 z 0 [vI p1.1,vT p1.2.1,vI p1.2.2.1,vI p1.2.2.2]/\P9 m4 U Z a8 c8 a9 c9 D F d.2.2.2) ?_ ?_
 .rintro _ w5 ⟨d,U,Z,a8,c8,a9,c9,D,F,m4,rfl,rfl,q,g,b,r7,r8,r9,Y⟩;have i:=p;refine aE (aS 1 [(63,vP bp0 0)] (cY 64 i (sO (p0:=d.2.2.2.2) g.f3.f2 r8 r9 Y) ?_));rintro g2 i _ g0 (⟨d8,R,rfl,rfl,H,g⟩|⟨d7,rfl,f0,f6,f4,f7,f5,f8,f9,rfl,a,g,b0,b8,d3⟩)
  .refine bU ?_;obtain rfl:=sI i;have g:=g.t.t;exact cP (.inl ⟨d8,R,rfl,rfl,q.t H,g⟩)
  refine aN (aC (aA 1 [(65,vP bp0 0)] (cI 66 (.agg (V2 p1)) g (b.mono a) (bF 67 (.agg #[vI d.1,vI d.2.1,vI 0,vT d.2.2.1,vS U d.2.2.2.1 Z]) g.t.t.h (cY 68 i (yX (p0:=d7) (p1:=p1) (p2:=(d.1,d.2.1,0,d.2.2.1,d.2.2.2.1)) g.f1.f1 b0 b8 d3 (r7.mono a)) ?_)))));rintro g3 i _ g1 (⟨e0,V,rfl,rfl,M,g⟩|⟨f,rfl,s,y,u,E,x,G,S,rfl,K,g,d4,d5,d6⟩)
  .refine bU ?_;obtain rfl:=sI i;have g:=g.t.t;exact cP (.inl ⟨e0,V,rfl,rfl,(q.t a).t M,g⟩)
  refine aF 1 [(6,vI f.2)] (aL ?_);cases i;exact aO [6] [vI f.2] (.inr ⟨_,rfl,s,y,u,E,x,G,S,rfl,(q.t a).t K,g.f2.t.f2.t.f1.f1,d4,d5,d6⟩)
 intro x;refine bD (aD 2 [(24,vB (p1.2.1.toList==b17.toList))] (aI i ?_ ?_))
 .intro A i;refine aS 1 [(26,vP bp0 0)] ?_;refine cY 27 i (KL (p0:=y2) g.f2.f2 r4 r5 r6) ?_;rintro y3 i _ w6 (⟨z2,m6,rfl,rfl,e5,g⟩|⟨s,rfl,f6,g2,f7,g3,f8,g4,m5,rfl,V,g,d3,d4,d5⟩)
  .refine bU ?_;refine iV ?_;obtain rfl:=sI i;have i:=p;refine bU ?_;obtain rfl:=sI i;have g:=g.t;exact cP (.inl ⟨z2,m6,rfl,rfl,q.t e5,g⟩)
  have q:=q.t V;refine aA 2 [(29,.agg #[vI 6,vI 0,vI 0,vT s.2.2.1,v8])] (cG (.agg #[vI 6,vI 0,vI 0,vT s.2.2.1,v8]) g.f2 fun w8 g=>(aN (aC (aA 1 [(30,vP bp0 0)] (cY 31 i (sO (p0:=s.1) g.f2.f2 d3 d4 d5) ?_)))));rintro y5 i _ w9 (⟨z3,m8,rfl,rfl,e7,g⟩|⟨y6,rfl,f9,g5,g0,g6,g1,g7,m7,rfl,y,g,d6,d7,d8⟩)
  .refine bU ?_;refine iV ?_;obtain rfl:=sI i;have i:=p;refine bU ?_;obtain rfl:=sI i;have g:=g.t;exact cP (.inl ⟨z3,m8,rfl,rfl,q.t e7,g⟩)
  refine aN (bC (aA 3 [(32,vP bp0 0),(34,vI (wr (p2+1)))] (cY 35 i (c (p0:=y6) g.f1.f1 d6 d7 d8) ?_)));rintro y7 i _ g8 (⟨z4,b0,rfl,rfl,e9,g⟩|⟨f,rfl,E,M,G,R,H,S,m9,rfl,Y,g,e0,f0,f4⟩)
  .refine iV ?_;obtain rfl:=sI i;have i:=p;refine bU ?_;obtain rfl:=sI i;have g:=g.t;exact cP (.inl ⟨z4,b0,rfl,rfl,(q.t y).t e9,g⟩)
  refine iN 36 3 1 (aT .i64) [f.2] g fun K b8 g9 a g f5=> ?_;refine aA 1 [(37,vP B 4)] (eJ #[vI 6,vI 0,vI 0,vT s.2.2.1,vS (aP K) ([f.2]) 1] g.f3 fun h0 g=>(aU rfl (bQ ?_)));have u:=jG i;exact xE (x _ _ ⟨(6,0,s.2.2.1,[f.2],f.1.1,f.1.2.1,f.1.2.2.1,f.1.2.2.2),(aP K),1,E,M,G,R,H,S,b8,u,rfl,((q.t y).t Y).t a,g.f3.f2.f3.f3,(((b.mono V).mono y).mono Y).mono a,f5,e0.mono a,f0.mono a,f4.mono a⟩)
 intro A i;refine aD 2 [(38,vB (p1.2.1.toList==b18.toList))] (aI i ?_ ?_)
 .intro A i;refine bC (aA 1 [(40,vP bp0 0)] (cY 41 i (KL (p0:=y2) g.f2.f2 r4 r5 r6) ?_));rintro y9 i _ b8 (⟨z5,S,rfl,rfl,M,g⟩|⟨a,rfl,s,G,y,H,E,K,R,rfl,f,g,V,Y,b0⟩)
  .refine iV ?_;obtain rfl:=sI i;have i:=p;refine bU ?_;obtain rfl:=sI i;have g:=g.t;exact cP (.inl ⟨z5,S,rfl,rfl,q.t M,g⟩)
  refine aA 2 [(43,.agg #[vI 7,vI 0,vI 0,vT a.2.2.1,v8])] (cG (.agg #[vI 7,vI 0,vI 0,vT a.2.2.1,v8]) g.f2 fun d3 g=>(aU rfl (bQ ?_)));have u:=jG i;have g:=(g.nilroom 3 1).front3.front1.front3.front3;exact xE (x _ _ ⟨(7,0,a.2.2.1,([]:T6),a.1.1,a.1.2.1,a.1.2.2.1,a.1.2.2.2),none,0,s,G,y,H,E,K,R,u,rfl,q.t f,g,b.mono f,(RepS.nil _ _),V,Y,b0⟩)
 intro A i;refine aD 2 [(44,vB (p1.2.1.toList==b19.toList))] (aI i ?_ ?_)
 .intro A i;refine bC (aA 1 [(46,vP bp0 0)] (cY 47 i (KL (p0:=y2) g.f2.f2 r4 r5 r6) ?_));rintro d4 i _ b8 (⟨z6,S,rfl,rfl,M,g⟩|⟨a,rfl,s,G,y,H,E,K,R,rfl,f,g,V,Y,b0⟩)
  .refine iV ?_;obtain rfl:=sI i;have i:=p;refine bU ?_;obtain rfl:=sI i;have g:=g.t;exact cP (.inl ⟨z6,S,rfl,rfl,q.t M,g⟩)
  refine aA 2 [(49,.agg #[vI 8,vI 0,vI 0,vT a.2.2.1,v8])] (cG (.agg #[vI 8,vI 0,vI 0,vT a.2.2.1,v8]) g.f2 fun d3 g=>(aU rfl (bQ ?_)));have u:=jG i;have g:=(g.nilroom 3 1).front3.front1.front3.front3;exact xE (x _ _ ⟨(8,0,a.2.2.1,([]:T6),a.1.1,a.1.2.1,a.1.2.2.1,a.1.2.2.2),none,0,s,G,y,H,E,K,R,u,rfl,q.t f,g,b.mono f,(RepS.nil _ _),V,Y,b0⟩)
 intro A i;refine aD 2 [(50,vB (p1.2.1.toList==b1a.toList))] (aI i ?_ ?_)
 .intro A i;refine aS 1 [(52,vP bp0 0)] ?_;refine cY 53 i (GG (p0:=y2) g.f2.f2 r4 r5 r6) ?_;rintro g0 i _ f5 (⟨z7,d5,rfl,rfl,d3,g⟩|⟨a,rfl,R,V,S,Y,E,G,f4,rfl,b0,g,H,K,M⟩)
  .refine bU ?_;refine iV ?_;obtain rfl:=sI i;have i:=p;refine bU ?_;obtain rfl:=sI i;have g:=g.t;exact cP (.inl ⟨z7,d5,rfl,rfl,q.t d3,g⟩)
  refine eQ 8 109 (.agg (V3 0 eB 0 0)) g fun b4 f6 g=> ?_;refine cG (.agg (V2 a.2)) g fun f7 g=> ?_;refine aN (aG (aC (bW 1 55 9 54 1 (vT a.2.2.1) g.h (aK 56 i (OO g) ?_))));rintro f0 i _ f8 ⟨d6,rfl,f,g⟩;have q:=(q.t b0).t f;refine aF 1 [(57,vB (!f0))] ?_;have⟨e0,i,j2⟩:=aZ i;refine cZ .normal (fun L' w'=>∃(o2:Unit),∃s,(.inl o2:T26)=e0/\L'=[(0,vP bp0 0),(4,vP z 0),(7,vP B 0),(8,vP b4 0)]/\m.le s/\St s (kB b4 (V2 a.2) 109::kB bp0 (Vc a.1 R V S Y E G) 84::kB B #[vI 0,vI 0,vI 0,vT eB,v8] 61::kR E a.1.2.2.2 G 61 5::O) w'/\MRow s z 0 [vI p1.1,vT p1.2.1,vI p1.2.2.1,vI p1.2.2.2]/\P7 s R V S Y E G a.1) ?_ ?_
  .rintro _ y ⟨o2,s,rfl,rfl,q,g,b,H,K,M⟩;have i:=j2;refine aE (bC (bW 1 61 9 60 1 (vT a.2.2.1) g.h (aA 1 [(62,.agg #[vI 9,vI 0,vI 0,vT a.2.2.1,v8])] (cG (.agg #[vI 9,vI 0,vI 0,vT a.2.2.1,v8]) g.f2 fun b8 g=>(aU rfl (bQ ?_))))));have u:=jG i;have g:=(g.nilroom 3 1).front2;exact xE (x _ _ ⟨(9,0,a.2.2.1,([]:T6),a.1.1,a.1.2.1,a.1.2.2.1,a.1.2.2.2),none,0,R,V,S,Y,E,G,s,u,rfl,q,g.t.f3.f1.f3.f3,b,(RepS.nil _ _),H,K,M⟩)
  intro b8;refine aI i ?_ ?_
  .intro A i;refine bC (bF 58 (.agg (V2 a.2)) g.h (cY 59 i (oZ (p0:=a.2) g) ?_));rintro g1 i _ f9 (⟨z8,d8,rfl,rfl,d4,g⟩|⟨g2,rfl,d7,rfl,y,g⟩)
   .obtain rfl:=sI i;have i:=j2;refine bU ?_;refine iV ?_;obtain rfl:=sI i;have i:=p;refine bU ?_;obtain rfl:=sI i;have g:=g.t.t.t.t;exact cP (.inl ⟨z8,d8,rfl,rfl,q.t d4,g⟩)
   refine aU rfl ?_;have n2:=jG i;exact xE (b8 _ _ ⟨(),d7,n2,rfl,q.t y,g.f2.f3.f3.f3,((b.mono b0).mono f).mono y,(H.mono f).mono y,(K.mono f).mono y,(M.mono f).mono y⟩)
  intro A i;refine aM ?_;have n2:=jG i;exact xE (b8 _ _ ⟨(),d6,n2,rfl,q,g.f2.f3.f3.f3,(b.mono b0).mono f,H.mono f,K.mono f,M.mono f⟩)
 intro A i;refine aS 1 [(14,vP bp0 0)] ?_;refine cY 15 i (GG (p0:=y2) g.f2.f2 r4 r5 r6) ?_;rintro f6 i _ e0 (⟨z9,d4,rfl,rfl,b0,g⟩|⟨a,rfl,M,S,R,V,y,E,d3,rfl,Y,g,G,H,K⟩)
 .refine bU ?_;refine iV ?_;obtain rfl:=sI i;have i:=p;refine bU ?_;obtain rfl:=sI i;have g:=g.t;exact cP (.inl ⟨z9,d4,rfl,rfl,q.t b0,g⟩)
 have q:=q.t Y;refine eQ 9 109 (.agg (V3 0 eB 0 0)) g fun b5 f0 g=> ?_;refine cG (.agg (V2 a.2)) g fun f4 g=> ?_;refine aN (aG (aC (bW 1 17 3 16 2 (vI a.2.2.2.1) g.h (aF 1 [(18,vB (decide (a.2.2.2.1>=64)))] ?_))));have⟨d7,i,j3⟩:=aZ i;refine cZ .normal (fun L' w'=>∃(o3:Unit),∃f,(.inl o3:T26)=d7/\L'=[(0,vP bp0 0),(4,vP z 0),(7,vP B 0),(9,vP b5 0)]/\m.le f/\St f (kB b5 (V2 a.2) 109::kB bp0 (Vc a.1 M S R V y E) 84::kB B #[vI 0,vI 0,vI 0,vT eB,v8] 61::kR y a.1.2.2.2 E 61 5::O) w'/\MRow f z 0 [vI p1.1,vT p1.2.1,vI p1.2.2.1,vI p1.2.2.2]/\P7 f M S R V y E a.1) ?_ ?_
 .rintro _ s ⟨o3,f,rfl,rfl,q,g,b,G,H,K⟩;have i:=j3;refine aE (bC (bW 1 22 3 21 2 (vI a.2.2.2.1) g.h (aA 1 [(23,.agg #[vI 10,vI a.2.2.2.1,vI 0,vT eB,v8])] (cG (.agg #[vI 10,vI a.2.2.2.1,vI 0,vT eB,v8]) g.f2 fun b8 g=>(aU rfl (bQ ?_))))));have u:=jG i;have g:=(g.nilroom 3 1).front2;exact xE (x _ _ ⟨(10,a.2.2.2.1,eB,([]:T6),a.1.1,a.1.2.1,a.1.2.2.1,a.1.2.2.2),none,0,M,S,R,V,y,E,f,u,rfl,q,g.t.f3.f1.f3.f3,b,(RepS.nil _ _),G,H,K⟩)
 intro u;refine aI i ?_ ?_
 .intro A i;refine bC (bF 19 (.agg (V2 a.2)) g.h (cY 20 i (oZ (p0:=a.2) g) ?_));rintro f7 i _ f5 (⟨d8,d6,rfl,rfl,b8,g⟩|⟨f8,rfl,d5,rfl,s,g⟩)
  .obtain rfl:=sI i;have i:=j3;refine bU ?_;refine iV ?_;obtain rfl:=sI i;have i:=p;refine bU ?_;obtain rfl:=sI i;have g:=g.t.t.t.t;exact cP (.inl ⟨d8,d6,rfl,rfl,q.t b8,g⟩)
  refine aU rfl ?_;have n3:=jG i;exact xE (u _ _ ⟨(),d5,n3,rfl,q.t s,g.f2.f3.f3.f3,(b.mono Y).mono s,G.mono s,H.mono s,K.mono s⟩)
 intro A i;refine aM ?_;have n3:=jG i;exact xE (u _ _ ⟨(),d3,n3,rfl,q,g.f2.f3.f3.f3,b.mono Y,G,H,K⟩)
theorem qFp{R8:bI->Tl->(Int)->eP}{R9:bI->(Int)->sM}{Ra:bI->(Int)->eP}{Rb:bI->(Int)->(Int)->eP}{Rc:bI->(Int)->eP}(f:FS R8)(b:FO R9)(k:FY Ra)(h:FW Rb)(a:GJ Rc){p0:bI}{p1:Int}{r:JG}(g:St m (kB bp0 (Vc p0 a1 c1 a2 c2 a3 c3) 84::kR a3 p0.2.2.2 c3 61 5::O) w)(r1:RepS C2 m a1 c1 p0.1)(r2:RepS aH m a2 c2 p0.2.2.1)(r3:RepS C3 m a3 c3 p0.2.2.2)(i:FP N R8 R9 Ra Rb Rc p0 p1=some r):Calls prog 171 #[vP bp0 0,vI p1] w fun e w'=>(∃(z0:Tk),∃m',r= .inl z0/\e= .panicked [{v:= .iface 80 (.agg (Vd z0)),recovered:=false}]/\m.le m'/\St m' (O) w')\/(∃(D:T21),r= .inr D/\∃d8 e0 d9 f0 b2 b4 b3 b5 m',e= .returned (vS b3 D.2 b5)/\m.le m'/\St m' (kR b3 D.2 b5 3 1::kB bp0 (Vc D.1 d8 e0 d9 f0 b2 b4) 84::kR b2 D.1.2.2.2 b4 61 5::O) w'/\P8 m' d8 e0 d9 f0 b2 b4 b3 b5 D):=by
 unfold FP at i;have q:=m.le_refl;refine bG func171 rfl ntmps171 ?_;refine aD 1 [] (aC ?_);refine aF 1 [(5,v8)] (aC (aA 1 [(6,vP bp0 0)] (cY 7 i (sO (p0:=p0) g.f1.f1 r1 r2 r3) ?_)));rintro y1 i _ w1 (⟨z1,m2,rfl,rfl,e2,g⟩|⟨y2,rfl,a4,c4,a5,c5,a6,c6,m1,rfl,e1,g,r4,r5,r6⟩)
 .refine bU ?_;obtain rfl:=sI i;exact cP (.inl ⟨z1,m2,rfl,rfl,q.t e2,g⟩)
 refine aN (aG (aS 1 [(8,vP bp0 0)] (aK 9 i (BT (p0:=y2) g.f1.f1 r4 r5 r6) ?_)));rintro y3 i _ w3 ⟨a7,c7,a8,c8,a9,c9,m3,rfl,e3,g,r7,r8,r9⟩;refine aN (aI i ?_ ?_)
 .intro A i;refine aD 1 [(4,v8)] (aL ?_);refine aQ ?_;cases i;refine aO [4] [v8] ?_;have g:=(g.nilroom 3 1).front2.front2.front2;exact .inr ⟨_,rfl,a7,c7,a8,c8,a9,c9,none,0,m3,rfl,(q.t e1).t e3,g,r7,r8,r9,(RepS.nil _ _)⟩
 intro A i;refine aM (aE (aG (bD ?_)));have⟨b0,i,j1⟩:=aZ i;refine cZ (.exit 0) (fun L' w'=>∃(l:BJ),∃c d E M F R u y m4,(.inl l)=b0/\L'=[(0,vP bp0 0),(5,vS c l.1 d)]/\m.le m4/\St m4 (kB bp0 (Vc l.2 E M F R u y) 84::kR c l.1 d 3 1::kR u l.2.2.2.2 y 61 5::O) w'/\P9 m4 c d E M F R u y l) ?_ ?_
 .rintro _ w4 ⟨l,c,d,E,M,F,R,u,y,m4,rfl,rfl,q,g,S,U,V,Y⟩;have i:=j1;refine dW (aE (aS 1 [(20,vP bp0 0)] (cY 21 i (sO (p0:=l.2) g.f2.f1 U V Y) ?_)));rintro y7 i _ b8 (⟨z3,K,rfl,rfl,B,g⟩|⟨y8,rfl,n,s,o,x,p,z,H,rfl,G,g,Z,b6,b7⟩)
  .refine bU ?_;obtain rfl:=sI i;have g:=g.t;exact cP (.inl ⟨z3,K,rfl,rfl,q.t B,g⟩)
  refine aN (aC (aF 2 [(4,vS c l.1 d)] (aL ?_)));cases i;exact aO [4] [vS c l.1 d] (.inr ⟨_,rfl,n,s,o,x,p,z,c,d,H,rfl,q.t G,g.f1.f1.f2,Z,b6,b7,S.mono G⟩)
 intro b6;have g:=(g.nilroom 3 1).front2.front1.front2;refine cX _ kr (cW (fun k1 L' w'=>∃(n:BJ),∃p s G S H U x z m5,aJ (FN N Rc p1) k1 n=some b0/\L'=[(0,vP bp0 0),(1,vI p1),(5,vS p n.1 s)]/\m.le m5/\St m5 (kB bp0 (Vc n.2 G S H U x z) 84::kR p n.1 s 3 1::kR x n.2.2.2.2 z 61 5::O) w'/\P9 m5 p s G S H U x z n) N ⟨(([]:T6),y3.1.1,y3.1.2.1,y3.1.2.2.1,y3.1.2.2.2),none,0,a7,c7,a8,c8,a9,c9,m3,i,rfl,(q.t e1).t e3,g,(RepS.nil _ _),r7,r8,r9⟩ ?_);rintro k1 _ w5 ⟨n,p,s,G,S,H,U,x,z,m5,hL,rfl,q,g,f5,f6,f7,f8⟩;rcases k1 with _|k1
 .exact dV hL
 obtain⟨g9,i,f4,Z⟩:=dX hL;clear hL;unfold FN at i;refine bD (aS 4 [(10,vS p n.1 s),(11,vP bp0 0),(13,vI (wr (p1+1)))] (cY 14 i (a (p0:=n.2) g.f2.f1 f6 f7 f8) ?_));rintro y4 i _ w6 (⟨z2,m7,rfl,rfl,e5,g⟩|⟨y5,rfl,g3,g6,g4,g7,g5,g8,m6,rfl,e4,g,f9,g0,g1⟩)
 .refine bU ?_;refine iV ?_;have ho:=Z _ (sI i);subst ho;have i:=j1;refine bU ?_;refine iV ?_;refine bU ?_;obtain rfl:=sI i;have g:=g.t;exact cP (.inl ⟨z2,m7,rfl,rfl,q.t e5,g⟩)
 refine iN 15 3 1 (aT .i64) [y5.2] g fun b1 m8 w8 B g g2=> ?_;refine lR 16 22 22 3 8 10 15 g.f3 (.inl kr) ((f5.mono e4).mono B) g2.src i fun l1 i K V m9 w9 Y g d4=> ?_;refine aA 1 [(5,vS K l1 V)] (aU rfl ?_);have g:=g.f1.t;refine aE (aS 1 [(17,vP bp0 0)] (aK 18 i (BT (p0:=y5.1) g.f2.f2 ((f9.mono B).mono Y) ((g0.mono B).mono Y) ((g1.mono B).mono Y)) ?_));rintro o i _ h0 ⟨b7,d0,b8,d1,b9,d2,d3,rfl,e8,g,d5,d6,d7⟩;refine aF 1 [(19,vB (!o.2))] (aI i ?_ ?_)
 .intro A i;refine cQ (xM rfl ?_);have ho:=Z _ (sI i);have g:=g.f1.f2.f2;refine bK ?_;exact xE (b6 _ _ ⟨(l1,o.1.1,o.1.2.1,o.1.2.2.1,o.1.2.2.2),K,V,b7,d0,b8,d1,b9,d2,d3,ho,rfl,(((q.t e4).t B).t Y).t e8,g,d4.mono e8,d5,d6,d7⟩)
 intro A i;refine aM (bQ ?_);have hL:=f4 _ (sI i);exact xE (cT ⟨(l1,o.1.1,o.1.2.1,o.1.2.2.1,o.1.2.2.2),K,V,b7,d0,b8,d1,b9,d2,d3,hL,rfl,(((q.t e4).t B).t Y).t e8,g.f1.f2.f2,d4.mono e8,d5,d6,d7⟩)
theorem qFx{R8:bI->Tl->(Int)->eP}{R9:bI->(Int)->sM}{Ra:bI->(Int)->eP}{Rb:bI->(Int)->(Int)->eP}{Rc:bI->(Int)->eP}(d:FS R8)(c:FO R9)(B:FY Ra)(z:FW Rb)(f:GJ Rc){p0:bI}{p1:Int}{r:oU}(g:St m (kB bp0 (Vc p0 a1 c1 a2 c2 a3 c3) 84::kR a3 p0.2.2.2 c3 61 5::O) w)(r1:RepS C2 m a1 c1 p0.1)(r2:RepS aH m a2 c2 p0.2.2.1)(r3:RepS C3 m a3 c3 p0.2.2.2)(i:GE N R8 R9 Ra Rb Rc p0 p1=some r):Calls prog 160 #[vP bp0 0,vI p1] w fun e w'=>(∃(z0:Tk),∃m',r= .inl z0/\e= .panicked [{v:= .iface 80 (.agg (Vd z0)),recovered:=false}]/\m.le m'/\St m' (O) w')\/(∃(y0:pI),r= .inr y0/\∃d6 d8 d7 d9 b9 d0 m',e= .returned (vI y0.2)/\m.le m'/\St m' (kB bp0 (Vc y0.1 d6 d8 d7 d9 b9 d0) 84::kR b9 y0.1.2.2.2 d0 61 5::O) w'/\P7 m' d6 d8 d7 d9 b9 d0 y0.1):=by
 unfold GE at i;have q:=m.le_refl;refine bG func160 rfl ntmps160 ?_;refine aD 1 [] (aC ?_);refine aA 1 [(8,vP bp0 0)] (aK 9 i (tN (p0:=p0) g.f1.f1 r1 r2 r3) ?_);rintro y1 i _ w1 ⟨a4,c4,a5,c5,a6,c6,m1,rfl,e1,g,r4,r5,r6⟩;have q:=q.t e1;refine eQ 5 109 (.agg (V3 0 eB 0 0)) g fun k w2 g=> ?_;refine cG (.agg (V2 y1.2)) g fun w3 g=> ?_;refine aN (aG ?_);have⟨g5,i,D⟩:=aZ i;refine cZ .normal (fun L' w'=>∃(a:bI),∃G K H M s u F,(.inl a:bI⊕oU)=g5/\L'=[(0,vP bp0 0),(1,vI p1),(5,vP k 0)]/\m.le F/\St F (kB k (V2 y1.2) 109::kB bp0 (Vc a G K H M s u) 84::kR s a.2.2.2 u 61 5::O) w'/\P7 F G K H M s u a) ?_ ?_
 .rintro _ w4 ⟨a,G,K,H,M,s,u,F,rfl,rfl,q,g,l,n,o⟩;have i:=D;refine aE (aS 3 [(54,vP bp0 0),(56,vP bp0 1)] (bF 57 (vI a.2.1) g.t.h (aA 3 [(58,vI (wr (a.2.1+1))),(60,vP bp0 1)] (eJ #[vS G a.1 K,vI (wr (a.2.1+1)),vS H a.2.2.1 M,vS s a.2.2.2 u] g.f1 fun k2 g=>(aN (aG (aC (bW 1 62 9 61 1 (vT y1.2.2.1) g.t.h (aN (bD (aG (aD 2 [(63,vB (y1.2.2.1.toList==b17.toList))] (cJ .normal i (fun o2 L' w'=>∃b4,L'=[(0,vP bp0 0),(1,vI p1),(5,vP k 0),(63,vB o2)]/\m.le b4/\St b4 (kB bp0 #[vS G a.1 K,vI (wr (a.2.1+1)),vS H a.2.2.1 M,vS s a.2.2.2 u] 84::kB k (V2 y1.2) 109::kR s a.2.2.2 u 61 5::O) w'/\P7 b4 G K H M s u a) ?_ ?_)))))))))))))
  .rintro o2 i _ k3 ⟨b4,rfl,q,g,l,n,o⟩;refine aE (aI i ?_ ?_)
   .intro A i;refine aS 1 [(69,vP bp0 0)] ?_;refine bF 70 (.agg (V2 y1.2)) g.t.h ?_;refine aA 1 [(71,vI p1)] (cY 72 i (d (p0:=(a.1,wr (a.2.1+1),a.2.2.1,a.2.2.2)) (p1:=y1.2) g.f2.f1 l n o) ?_);rintro b6 i _ b5 (⟨z7,Z,rfl,rfl,V,g⟩|⟨b,rfl,p,E,x,R,y,S,Y,rfl,U,g,b0,b2,b3⟩)
    .refine bU ?_;refine iV ?_;refine bU ?_;obtain rfl:=sI i;have g:=g.t;exact cP (.inl ⟨z7,Z,rfl,rfl,q.t V,g⟩)
    refine aF 1 [(4,vI b.2)] (aL (bH (aQ ?_)));cases i;exact aO [4] [vI b.2] (.inr ⟨_,rfl,p,E,x,R,y,S,Y,rfl,q.t U,g.f2.t.f1.f1,b0,b2,b3⟩)
   intro A i;refine aM (bQ (aE (aG (aC (bW 1 74 9 73 1 (vT y1.2.2.1) g.t.h (aK 75 i (OE g) ?_))))));rintro l0 i _ k4 ⟨g1,rfl,b2,g⟩;have q:=q.t b2;have l:=l.mono b2;have n:=n.mono b2;have o:=o.mono b2;refine aN ?_;have⟨g6,i,j3⟩:=aZ i;refine cZ .normal (fun L' w'=>∃(o3:Unit),∃b5,(.inl o3:yO)=g6/\L'=[(0,vP bp0 0),(1,vI p1),(5,vP k 0)]/\m.le b5/\St b5 (kB bp0 #[vS G a.1 K,vI (wr (a.2.1+1)),vS H a.2.2.1 M,vS s a.2.2.2 u] 84::kB k (V2 y1.2) 109::kR s a.2.2.2 u 61 5::O) w'/\P7 b5 G K H M s u a) ?_ ?_
   .rintro _ k5 ⟨o3,b5,rfl,rfl,q,g,l,n,o⟩;have i:=j3;refine aE (aG (aS 1 [(78,vP bp0 0)] (aK 79 i (CE (p0:=(a.1,wr (a.2.1+1),a.2.2.1,a.2.2.2)) g.f2.f1 l n o) ?_)));rintro y i _ k6 ⟨b7,b8,V,Z,Y,b0,x,rfl,g0,g,R,E,S⟩;have q:=q.t g0;refine aN (aI i ?_ ?_)
    .intro A i;refine aG (iF [(10,fun w'=>Inv x w'/\Piece.holds x w' (kB k (V2 y1.2) 109)/\True)] kr g fun k7 _ g=> ?_);have b:=x.le_refl;refine⟨⟨.inr ⟨Inv.anti g.inv b,Piece.holds_anti g.t.t.h b,trivial⟩,trivial⟩,?_⟩;refine aR 0 80 (vP bp0 0) (.head _) (eR 109 5 1 81 0 (.agg (V2 y1.2)) (.head _) (fun _ h=>h.2.1) (aR 2 82 (vP k 1) (.head _) (eR 9 82 3 83 1 (vT y1.2.2.1) (.head _) (fun _ h=>h.2.1) (aR 4 84 (vP bp0 0) (.head _) (aR 5 85 (vI p1) (.head _) ?_)))));have g:=g.f1.f1;have⟨l1,f8,i⟩:=aZ i;refine cH 6 kr (EA 86 171 #[vP bp0 0,vI p1] kr rfl ((c (p0:=y.1) g R E S f8).mono ?_));rintro _ k8 (⟨z9,g2,rfl,rfl,d1,g⟩|⟨p,rfl,h5,h8,h6,h9,h7,k0,b3,b6,k1,rfl,U,g,g7,g8,g9,h0⟩)
     .refine .inr ⟨_,rfl,?_⟩;have b:=Mem.le_trans b d1;refine bU ?_;refine bU ?_;obtain rfl:=sI i;have g:=g.t;exact cP (.inl ⟨z9,g2,rfl,rfl,q.t d1,g⟩)
     refine .inl ⟨_,rfl,?_⟩;have b:=Mem.le_trans b U;refine⟨⟨.inr ⟨Inv.anti g.inv b,Piece.holds_anti g.t.t.t.h b,trivial⟩,trivial⟩,?_⟩;refine aR 7 87 (.agg #[vI 3,vI 0,vI 0,vT y1.2.2.1,vS b3 p.2 b6]) (.head _) ?_;have g:=g.f2.f2;have⟨l2,f9,i⟩:=aZ i;refine cH 8 kr (EA 88 152 #[vP bp0 0,.agg (V2 y1.2),.agg #[vI 3,vI 0,vI 0,vT y1.2.2.1,vS b3 p.2 b6]] kr rfl ((yX (p0:=p.1) (p1:=y1.2) (p2:=(3,0,0,y1.2.2.1,p.2)) g g7 g8 g9 h0 f9).mono ?_));rintro _ k9 (⟨h4,g4,rfl,rfl,d3,g⟩|⟨e0,rfl,f0,f5,f3,f6,f4,f7,g3,rfl,d2,g,h1,h2,h3⟩)
     .refine .inr ⟨_,rfl,?_⟩;have b:=Mem.le_trans b d3;refine bU ?_;refine bU ?_;obtain rfl:=sI i;have g:=g.t.t;exact cP (.inl ⟨h4,g4,rfl,rfl,(q.t U).t d3,g⟩)
     refine .inl ⟨_,rfl,?_⟩;have b:=Mem.le_trans b d2;refine⟨⟨.inr ⟨Inv.anti g.inv b,Piece.holds_anti g.t.t.t.h b,trivial⟩,trivial⟩,?_⟩;refine aR 9 4 (vI e0.2) (.head _) (eW kr ?_);have g:=g.f2.t;refine aE (aL (aQ ?_));cases i;exact aO [4] [vI e0.2] (.inr ⟨_,rfl,f0,f5,f3,f6,f4,f7,g3,rfl,(q.t U).t d2,g.f2.t.f1.f1,h1,h2,h3⟩)
    intro A i;refine aM (aE (aG (iF [(8,fun w'=>Inv x w'/\Piece.holds x w' (kB bp0 (Vc y.1 b7 b8 V Z Y b0) 84)/\Piece.holds x w' (kB k (V2 y1.2) 109)/\True)] kr g fun g8 _ g=> ?_)));have b:=x.le_refl;refine⟨⟨.inr ⟨Inv.anti g.inv b,Piece.holds_anti g.h b,Piece.holds_anti g.t.t.h b,trivial⟩,trivial⟩,?_⟩;refine aR 0 89 (vP bp0 0) (.head _) (aR 1 90 (vP bp0 0) (.head _) (aR 2 91 (vP bp0 2) (.head _) (eR 26 91 3 92 2 (vS V y.1.2.2.1 Z) (.head _) (fun _ h=>h.2.1) (aR 4 93 (vP k 1) (.head _) (eR 9 93 5 94 1 (vT y1.2.2.1) (.head _) (fun _ h=>h.2.2.1) (cH 6 kr (mW 95 i (fun _ h=>UD g E h) ?_)))))));rintro U i _ g9 ⟨f6,rfl,p,g⟩;refine⟨_,rfl,?_⟩;have q:=q.t p;have b:=Mem.le_trans b p;refine⟨⟨.inr ⟨Inv.anti g.inv b,Piece.holds_anti g.h b,Piece.holds_anti g.t.t.h b,trivial⟩,trivial⟩,?_⟩;refine aR 7 7 (vI U) (.head _) (eW kr (aE (aG (aD 2 [(97,vB (decide (U<0)))] ?_))));have⟨f9,i,j4⟩:=aZ i;refine cZ .normal (fun L' w'=>∃(o4:Unit),∃b6,(.inl o4:yO)=f9/\L'=[(0,vP bp0 0),(5,vP k 0),(7,vI U)]/\m.le b6/\St b6 (kB bp0 (Vc y.1 b7 b8 V Z Y b0) 84::kB k (V2 y1.2) 109::kR Y y.1.2.2.2 b0 61 5::O) w'/\P7 b6 b7 b8 V Z Y b0 y.1) ?_ ?_
    .rintro _ h0 ⟨o4,b6,rfl,rfl,q,g,R,E,S⟩;have i:=j4;refine aE (aS 1 [(100,vP bp0 0)] (bF 101 (.agg (V2 y1.2)) g.t.h (aA 2 [(103,.agg #[vI 2,vI U,vI 0,vT eB,v8])] (cY 104 i (yX (p0:=y.1) (p1:=y1.2) (p2:=(2,U,0,eB,([]:T6))) g.f2.f1 R E S (RepS.nil _ _)) ?_))));rintro h2 i _ h1 (⟨g7,f8,rfl,rfl,f5,g⟩|⟨b3,rfl,d1,e0,d2,f0,d3,f3,f7,rfl,f4,g,g2,g3,g4⟩)
     .refine bU ?_;obtain rfl:=sI i;have g:=g.t;exact cP (.inl ⟨g7,f8,rfl,rfl,q.t f5,g⟩)
     refine aF 1 [(4,vI b3.2)] (aL ?_);cases i;exact aO [4] [vI b3.2] (.inr ⟨_,rfl,d1,e0,d2,f0,d3,f3,f7,rfl,q.t f4,g.f2.t.f1.f1,g2,g3,g4⟩)
    intro d1;refine aI i ?_ ?_
    .intro A i;refine bC (bF 98 (.agg (V2 y1.2)) g.t.t.h (cY 99 i (oZ (p0:=y1.2) g) ?_));rintro f4 i _ f3 (⟨f0,e0,rfl,rfl,d2,g⟩|⟨f5,rfl,d3,rfl,b3,g⟩)
     .obtain rfl:=sI i;have i:=j4;refine bU ?_;obtain rfl:=sI i;have g:=g.t.t.t;exact cP (.inl ⟨f0,e0,rfl,rfl,q.t d2,g⟩)
     refine aU rfl ?_;have n4:=jG i;exact xE (d1 _ _ ⟨(),d3,n4,rfl,q.t b3,g.f1.f2.f2,(R.mono p).mono b3,(E.mono p).mono b3,(S.mono p).mono b3⟩)
    intro A i;refine aM ?_;have n4:=jG i;exact xE (d1 _ _ ⟨(),f6,n4,rfl,q,g.f1.f2.f2,R.mono p,E.mono p,S.mono p⟩)
   intro p;refine aI i ?_ ?_
   .intro A i;refine bC (bF 76 (.agg (V2 y1.2)) g.t.h (cY 77 i (oZ (p0:=y1.2) g) ?_));rintro V i _ U (⟨S,R,rfl,rfl,y,g⟩|⟨Y,rfl,E,rfl,b,g⟩)
    .obtain rfl:=sI i;have i:=j3;refine bU ?_;obtain rfl:=sI i;have g:=g.t.t.t;exact cP (.inl ⟨S,R,rfl,rfl,q.t y,g⟩)
    refine aU rfl ?_;have x:=jG i;exact xE (p _ _ ⟨(),E,x,rfl,q.t b,g.f2.f2.f2,l.mono b,n.mono b,o.mono b⟩)
   intro A i;refine aM ?_;have x:=jG i;exact xE (p _ _ ⟨(),g1,x,rfl,q,g.f2.f2.f2,l,n,o⟩)
  intro o2 i b;refine aI i ?_ ?_
  .intro A i;refine aM ?_;cases i;exact xE (b _ _ ⟨F,rfl,q,g.f2.f2.f2,l,n,o⟩)
  intro A i;refine aD 2 [(63,vB (y1.2.2.1.toList==b18.toList))] (aI i ?_ ?_)
  .intro A i;refine aM ?_;cases i;exact xE (b _ _ ⟨F,rfl,q,g.f2.f2.f2,l,n,o⟩)
  intro A i;refine aD 2 [(63,vB (y1.2.2.1.toList==b19.toList))] (aI i ?_ ?_)
  .intro A i;refine aM ?_;cases i;exact xE (b _ _ ⟨F,rfl,q,g.f2.f2.f2,l,n,o⟩)
  intro A i;refine aD 2 [(63,vB (y1.2.2.1.toList==b1a.toList))] (aI i ?_ ?_)
  .intro A i;refine aM ?_;cases i;exact xE (b _ _ ⟨F,rfl,q,g.f2.f2.f2,l,n,o⟩)
  intro A i;refine bC (aA 2 [(63,vB (y1.2.2.1.toList==b1b.toList))] (aU rfl ?_));cases i;exact xE (b _ _ ⟨F,rfl,q,g.f2.f2.f2,l,n,o⟩)
 intro x;refine bD (aC (bW 1 12 3 11 0 (vI y1.2.1) g.h (aF 2 [(10,vB (y1.2.1==2))] (aI i ?_ ?_))))
 .intro A i;refine aS 3 [(14,vP bp0 0),(16,vP bp0 1)] ?_;refine bF 17 (vI y1.1.2.1) g.t.h ?_;refine aA 3 [(18,vI (wr (y1.1.2.1+1))),(20,vP bp0 1)] (eJ #[vS a4 y1.1.1 c4,vI (wr (y1.1.2.1+1)),vS a5 y1.1.2.2.1 c5,vS a6 y1.1.2.2.2 c6] g.f1 fun w5 g=>(aN (aC (aA 1 [(21,vP bp0 0)] (bF 22 (.agg (V2 y1.2)) g.t.h (bW 1 24 3 23 2 (vI y1.2.2.2.1) g.t.h (aA 1 [(25,.agg #[vI 1,vI y1.2.2.2.1,vI 0,vT eB,v8])] (cY 26 i (yX (p0:=(y1.1.1,wr (y1.1.2.1+1),y1.1.2.2.1,y1.1.2.2.2)) (p1:=y1.2) (p2:=(1,y1.2.2.2.1,0,eB,([]:T6))) g.f2.f1 r4 r5 r6 (RepS.nil _ _)) ?_))))))));rintro y2 i _ w6 (⟨z1,m4,rfl,rfl,Y,g⟩|⟨U,rfl,b,o,l,p,n,y,Z,rfl,V,g,E,R,S⟩)
  .refine bU ?_;refine iV ?_;obtain rfl:=sI i;have i:=D;refine bU ?_;obtain rfl:=sI i;have g:=g.t;exact cP (.inl ⟨z1,m4,rfl,rfl,q.t Y,g⟩)
  refine aF 1 [(4,vI U.2)] (aL (bH ?_));cases i;have i:=D;refine aQ ?_;cases i;exact aO [4] [vI U.2] (.inr ⟨_,rfl,b,o,l,p,n,y,Z,rfl,q.t V,g.f2.t.f1.f1,E,R,S⟩)
 intro A i;refine aS 1 [(28,vP bp0 0)] ?_;refine aK 29 i (BT (p0:=y1.1) g.f2.f2 r4 r5 r6) ?_;rintro y4 i _ w8 ⟨g1,g8,g2,g9,g3,h0,m5,rfl,e4,g,Z,b0,b2⟩;have q:=q.t e4;refine aF 1 [(27,vB y4.2)] (aI i ?_ ?_)
 .intro A i;refine aG (iF [(9,fun w'=>Inv m5 w'/\Piece.holds m5 w' (kB k (V2 y1.2) 109)/\True)] kr g fun w9 _ g=> ?_);have b:=m5.le_refl;refine⟨⟨.inr ⟨Inv.anti g.inv b,Piece.holds_anti g.t.t.h b,trivial⟩,trivial⟩,?_⟩;refine aR 0 30 (vP bp0 0) (.head _) (eR 109 5 1 31 0 (.agg (V2 y1.2)) (.head _) (fun _ h=>h.2.1) (aR 2 32 (vP bp0 0) (.head _) ?_));have g:=g.f1.f1;have⟨y5,d4,i⟩:=aZ i;refine cH 3 kr (EA 33 121 #[vP bp0 0,vI 2] kr rfl ((GG (p0:=y4.1) g Z b0 b2 d4).mono ?_));rintro _ f4 (⟨z2,m7,rfl,rfl,U,g⟩|⟨l,rfl,d1,e0,d2,f0,d3,f3,m6,rfl,n,g,b3,b4,b5⟩)
  .refine .inr ⟨_,rfl,?_⟩;have b:=Mem.le_trans b U;refine bU ?_;refine iV ?_;obtain rfl:=sI i;have i:=D;refine bU ?_;obtain rfl:=sI i;have g:=g.t;exact cP (.inl ⟨z2,m7,rfl,rfl,q.t U,g⟩)
  refine .inl ⟨_,rfl,?_⟩;have b:=Mem.le_trans b n;refine⟨⟨.inr ⟨Inv.anti g.inv b,Piece.holds_anti g.t.t.h b,trivial⟩,trivial⟩,?_⟩;refine aR 4 34 (vI l.2.2.2.1) (.head _) (aR 5 35 (vI (wr (0-l.2.2.2.1))) (.head _) (aR 6 36 (.agg #[vI 1,vI (wr (0-l.2.2.2.1)),vI 0,vT eB,v8]) (.head _) ?_));have g:=g.f1.f1;have⟨y7,d5,i⟩:=aZ i;refine cH 7 kr (EA 37 152 #[vP bp0 0,.agg (V2 y1.2),.agg #[vI 1,vI (wr (0-l.2.2.2.1)),vI 0,vT eB,v8]] kr rfl ((yX (p0:=l.1) (p1:=y1.2) (p2:=(1,wr (0-l.2.2.2.1),0,eB,([]:T6))) g b3 b4 b5 (RepS.nil _ _) d5).mono ?_));rintro _ f5 (⟨z3,m9,rfl,rfl,Y,g⟩|⟨y8,rfl,o,E,p,R,y,S,m8,rfl,V,g,b6,b7,b8⟩)
  .refine .inr ⟨_,rfl,?_⟩;have b:=Mem.le_trans b Y;refine bU ?_;refine iV ?_;obtain rfl:=sI i;have i:=D;refine bU ?_;obtain rfl:=sI i;have g:=g.t;exact cP (.inl ⟨z3,m9,rfl,rfl,(q.t n).t Y,g⟩)
  refine .inl ⟨_,rfl,?_⟩;have b:=Mem.le_trans b V;refine⟨⟨.inr ⟨Inv.anti g.inv b,Piece.holds_anti g.t.t.h b,trivial⟩,trivial⟩,?_⟩;refine aR 8 4 (vI y8.2) (.head _) (eW kr (aE (aL (bH ?_))));cases i;have i:=D;refine aQ ?_;cases i;exact aO [4] [vI y8.2] (.inr ⟨_,rfl,o,E,p,R,y,S,m8,rfl,(q.t n).t V,g.f2.t.f1.f1,b6,b7,b8⟩)
 intro A i;refine aS 1 [(39,vP bp0 0)] ?_;refine aK 40 i (BT (p0:=y4.1) g.f1.f1 Z b0 b2) ?_;rintro p i _ h5 ⟨y,S,E,U,R,V,e0,rfl,e9,g,l,n,o⟩;have q:=q.t e9;refine aF 1 [(38,vB p.2)] (aI i ?_ ?_)
 .intro A i;refine aS 3 [(41,vP bp0 0),(43,vI (wr (p1+1)))] ?_;refine cY 44 i (f (p0:=p.1) g.f1.f1 l n o) ?_;rintro h8 i _ h6 (⟨z4,f0,rfl,rfl,d1,g⟩|⟨b,rfl,g4,h1,g6,h2,g7,h3,h4,rfl,Y,g,f5,f6,f7⟩)
  .refine bU ?_;refine iV ?_;obtain rfl:=sI i;have i:=D;refine bU ?_;obtain rfl:=sI i;have g:=g.t;exact cP (.inl ⟨z4,f0,rfl,rfl,q.t d1,g⟩)
  refine aF 1 [(6,vI b.2)] (aC (aA 1 [(45,vP bp0 0)] (cY 46 i (sO (p0:=b.1) g.f1.f1 f5 f6 f7) ?_)));rintro h9 i _ h7 (⟨z5,f4,rfl,rfl,d3,g⟩|⟨k0,rfl,b3,b6,b4,b7,b5,b8,f3,rfl,d2,g,f8,f9,g0⟩)
  .refine bU ?_;refine iV ?_;obtain rfl:=sI i;have i:=D;refine bU ?_;obtain rfl:=sI i;have g:=g.t;exact cP (.inl ⟨z5,f4,rfl,rfl,(q.t Y).t d3,g⟩)
  refine aN (aC (aF 2 [(4,vI b.2)] (aL (bH ?_))));cases i;have i:=D;refine aQ ?_;cases i;exact aO [4] [vI b.2] (.inr ⟨_,rfl,b3,b6,b4,b7,b5,b8,f3,rfl,(q.t Y).t d2,g.f2.t.f1.f1,f8,f9,g0⟩)
 intro A i;refine aC (bW 1 50 3 49 0 (vI y1.2.1) g.t.t.h (aF 2 [(48,vB (y1.2.1 !=1))] (aI i ?_ ?_)))
 .intro A i;refine bC (bF 52 (.agg (V2 y1.2)) g.t.t.h (cY 53 i (oZ (p0:=y1.2) g) ?_));rintro b7 i _ b6 (⟨z6,b5,rfl,rfl,b3,g⟩|⟨b8,rfl,b4,rfl,b,g⟩)
  .refine iV ?_;obtain rfl:=sI i;have i:=D;refine bU ?_;obtain rfl:=sI i;have g:=g.t.t.t;exact cP (.inl ⟨z6,b5,rfl,rfl,q.t b3,g⟩)
  refine aU rfl (bQ ?_);have Y:=jG i;exact xE (x _ _ ⟨p.1,y,S,E,U,R,V,b4,Y,rfl,q.t b,g.f1.f1.f2,l.mono b,n.mono b,o.mono b⟩)
 intro A i;refine aM (bQ ?_);have Y:=jG i;exact xE (x _ _ ⟨p.1,y,S,E,U,R,V,e0,Y,rfl,q,g.f1.f1.f2,l,n,o⟩)
theorem qGa{R8:bI->Tl->(Int)->eP}{R9:bI->(Int)->sM}{Ra:bI->(Int)->eP}{Rb:bI->(Int)->(Int)->eP}{Rc:bI->(Int)->eP}(l:FS R8)(k:FO R9)(b:FY Ra)(a:FW Rb)(n:GJ Rc){p0:bI}{p1:Int}{p2:Int}{r:oU}(g:St m (kB bp0 (Vc p0 a1 c1 a2 c2 a3 c3) 84::kR a3 p0.2.2.2 c3 61 5::O) w)(r1:RepS C2 m a1 c1 p0.1)(r2:RepS aH m a2 c2 p0.2.2.1)(r3:RepS C3 m a3 c3 p0.2.2.2)(i:yW N R8 R9 Ra Rb Rc p0 p1 p2=some r):Calls prog 151 #[vP bp0 0,vI p1,vI p2] w fun e w'=>(∃(z0:Tk),∃m',r= .inl z0/\e= .panicked [{v:= .iface 80 (.agg (Vd z0)),recovered:=false}]/\m.le m'/\St m' (O) w')\/(∃(G:pI),r= .inr G/\∃d1 d3 d2 d4 E F m',e= .returned (vI G.2)/\m.le m'/\St m' (kB bp0 (Vc G.1 d1 d3 d2 d4 E F) 84::kR E G.1.2.2.2 F 61 5::O) w'/\P7 m' d1 d3 d2 d4 E F G.1):=by
 unfold yW at i;have q:=m.le_refl;refine bG func151 rfl ntmps151 ?_;refine aD 1 [] (aG ?_);refine aD 2 [(12,vB (p1==4))] (aI i ?_ ?_)
 .intro A i;refine aS 2 [(13,vP bp0 0),(14,vI p2)] ?_;refine cY 15 i (b (p0:=p0) g.f1.f1 r1 r2 r3) ?_;rintro y1 i _ R (⟨M,B,rfl,rfl,y,g⟩|⟨c,rfl,d,p,f,s,o,u,z,rfl,x,g,D,H,K⟩)
  .refine bU ?_;refine bU ?_;obtain rfl:=sI i;exact cP (.inl ⟨M,B,rfl,rfl,q.t y,g⟩)
  refine aF 1 [(6,vI c.2)] (aL (aQ ?_));cases i;exact aO [6] [vI c.2] (.inr ⟨_,rfl,d,p,f,s,o,u,z,rfl,q.t x,g.f1.f1,D,H,K⟩)
 intro A i;refine aM (aE (aS 4 [(16,vP bp0 0),(18,vI (wr (p1+1))),(19,vI p2)] (cY 20 i (a (p0:=p0) g.f1.f1 r1 r2 r3) ?_)));rintro y3 i _ w3 (⟨z2,m4,rfl,rfl,e4,g⟩|⟨u,rfl,a7,c7,a8,c8,a9,c9,m3,rfl,e3,g,r7,r8,r9⟩)
 .refine bU ?_;obtain rfl:=sI i;exact cP (.inl ⟨z2,m4,rfl,rfl,q.t e4,g⟩)
 refine aF 1 [(7,vI u.2)] (bD ?_);have⟨d6,i,K⟩:=aZ i;refine cX _ kr (cW (fun M L' w'=>∃(c:Int×bI),∃y B z D p s R,aJ (FT N Rb p1 p2) M c=some d6/\L'=[(0,vP bp0 0),(1,vI p1),(2,vI p2),(7,vI c.1)]/\m.le R/\St R (kB bp0 (Vc c.2 y B z D p s) 84::kR p c.2.2.2.2 s 61 5::O) w'/\P7 R y B z D p s c.2) N ⟨(u.2,u.1.1,u.1.2.1,u.1.2.2.1,u.1.2.2.2),a7,c7,a8,c8,a9,c9,m3,i,rfl,q.t e3,g.f1.f1,r7,r8,r9⟩ ?_);rintro M _ w5 ⟨c,y,B,z,D,p,s,R,hL,rfl,q,g,g2,g3,g4⟩;rcases M with _|M
 .exact dV hL
 obtain⟨h9,i,d5,o⟩:=dX hL;clear hL;unfold FT at i;refine bD (aS 2 [(21,vP bp0 0),(22,vI p1)] (aK 23 i (qFy (p0:=c.2) g.f1.f1 g2 g3 g4) ?_));rintro y5 i _ w6 ⟨d7,f4,d8,f5,d9,f6,m6,rfl,e5,g,b5,b6,b7⟩;have q:=q.t e5;refine aF 1 [(8,vI y5.2)] (aG (aD 2 [(25,vB (y5.2==0))] (aI i ?_ ?_)))
 .intro A i;refine aD 2 [(6,vI c.1)] (aL ?_);refine aQ (bH ?_);have ho:=o _ (sI i);subst ho;have i:=K;refine aQ (bH ?_);cases i;exact aO [6] [vI c.1] (.inr ⟨_,rfl,d7,f4,d8,f5,d9,f6,m6,rfl,q,g.f1.f1,b5,b6,b7⟩)
 intro A i;refine aM (aE (aS 1 [(27,vP bp0 0)] (aK 28 i (tN (p0:=y5.1) g.f1.f1 b5 b6 b7) ?_)));rintro d i _ w7 ⟨e0,f7,f0,f8,f3,f9,m7,rfl,e6,g,g5,g6,g7⟩;refine eQ 9 109 (.agg (V3 0 eB 0 0)) g fun b1 w8 g=> ?_;refine cG (.agg (V2 d.2)) g fun w9 g=> ?_;refine aN (aC (aA 3 [(29,vP bp0 0),(31,vP bp0 1)] (bF 32 (vI d.1.2.1) g.t.h (aA 3 [(33,vI (wr (d.1.2.1+1))),(35,vP bp0 1)] (eJ #[vS e0 d.1.1 f7,vI (wr (d.1.2.1+1)),vS f0 d.1.2.2.1 f8,vS f3 d.1.2.2.2 f9] g.f1 fun k0 g=>(aN (aC (aA 4 [(36,vP bp0 0),(38,vI (wr (p1+1))),(39,vI p2)] (cY 40 i (a (p0:=(d.1.1,wr (d.1.2.1+1),d.1.2.2.1,d.1.2.2.2)) g.f2.f1 g5 g6 g7) ?_)))))))));rintro y7 i _ k2 (⟨z3,m9,rfl,rfl,e8,g⟩|⟨x,rfl,h2,h5,h3,h6,h4,h7,m8,rfl,e7,g,g8,g9,h0⟩)
 .refine bU ?_;refine iV ?_;have ho:=o _ (sI i);subst ho;have i:=K;refine bU ?_;refine iV ?_;obtain rfl:=sI i;have g:=g.t;exact cP (.inl ⟨z3,m9,rfl,rfl,(q.t e6).t e8,g⟩)
 refine aF 1 [(10,vI x.2)] (aC (aA 1 [(41,vP bp0 0)] (bF 42 (.agg (V2 d.2)) g.t.t.h (aA 3 [(43,vI y5.2),(44,vI c.1),(45,vI x.2)] (iN 46 3 2 (aT .i64) [c.1,x.2] g fun b2 h8 k3 H g h1=> ?_)))));have q:=((q.t e6).t e7).t H;refine aA 1 [(47,.agg #[vI 4,vI 0,vI y5.2,vT eB,vS (aP b2) ([c.1,x.2]) 2])] (cY 48 i (yX (p0:=x.1) (p1:=d.2) (p2:=(4,0,y5.2,eB,[c.1,x.2])) g.f2.f2 (g8.mono H) (g9.mono H) (h0.mono H) h1) ?_);rintro y9 i _ k4 (⟨z4,g1,rfl,rfl,g0,g⟩|⟨f,rfl,S,Y,U,Z,V,b0,b4,rfl,b3,g,b8,b9,d0⟩)
 .refine bU ?_;refine iV ?_;have ho:=o _ (sI i);subst ho;have i:=K;refine bU ?_;refine iV ?_;obtain rfl:=sI i;have g:=g.t.t;exact cP (.inl ⟨z4,g1,rfl,rfl,q.t g0,g⟩)
 refine aA 1 [(7,vI f.2)] (aU rfl ?_);have g:=g.f2.t;refine aE (aD 2 [(50,vB (p1==1))] (aI i ?_ ?_))
 .intro A i;refine aD 2 [(6,vI f.2)] (aL ?_);refine bH ?_;have ho:=o _ (sI i);subst ho;have i:=K;refine aQ (bH ?_);cases i;exact aO [6] [vI f.2] (.inr ⟨_,rfl,S,Y,U,Z,V,b0,b4,rfl,q.t b3,g.f2.t.f1.f1,b8,b9,d0⟩)
 intro A i;refine aM (bQ ?_);have hL:=d5 _ (sI i);exact xE (cT ⟨(f.2,f.1.1,f.1.2.1,f.1.2.2.1,f.1.2.2.2),S,Y,U,Z,V,b0,b4,hL,rfl,q.t b3,g.f2.t.f1.f1,b8,b9,d0⟩)
theorem qGi{R8:bI->Tl->(Int)->eP}{R9:bI->(Int)->sM}{Ra:bI->(Int)->eP}{Rb:bI->(Int)->(Int)->eP}{Rc:bI->(Int)->eP}(f:FS R8)(c:FO R9)(k:FY Ra)(b:FW Rb)(a:GJ Rc){p0:bI}{p1:Int}{r:oU}(g:St m (kB bp0 (Vc p0 a1 c1 a2 c2 a3 c3) 84::kR a3 p0.2.2.2 c3 61 5::O) w)(r1:RepS C2 m a1 c1 p0.1)(r2:RepS aH m a2 c2 p0.2.2.1)(r3:RepS C3 m a3 c3 p0.2.2.2)(i:zA N R8 R9 Ra Rb Rc p0 p1=some r):Calls prog 128 #[vP bp0 0,vI p1] w fun e w'=>(∃(z0:Tk),∃m',r= .inl z0/\e= .panicked [{v:= .iface 80 (.agg (Vd z0)),recovered:=false}]/\m.le m'/\St m' (O) w')\/(∃(x:pI),r= .inr x/\∃G K H M s u m',e= .returned (vI x.2)/\m.le m'/\St m' (kB bp0 (Vc x.1 G K H M s u) 84::kR s x.1.2.2.2 u 61 5::O) w'/\P7 m' G K H M s u x.1):=by
 unfold zA at i;have q:=m.le_refl;refine bG func128 rfl ntmps128 ?_;refine aD 1 [] (aC ?_);refine aA 1 [(9,vP bp0 0)] (aK 10 i (tN (p0:=p0) g.f1.f1 r1 r2 r3) ?_);rintro y1 i _ w1 ⟨a4,c4,a5,c5,S,U,m1,rfl,e1,g,z,B,D⟩;have q:=q.t e1;refine eQ 5 109 (.agg (V3 0 eB 0 0)) g fun b1 w2 g=> ?_;refine cG (.agg (V2 y1.2)) g fun w3 g=> ?_;refine aN (aG (aD 2 [(12,vB (decide (p1>32)))] ?_));have⟨d8,i,j1⟩:=aZ i;refine cZ .normal (fun L' w'=>∃(o1:Unit),∃y,(.inl o1:yO)=d8/\L'=[(0,vP bp0 0),(1,vI p1),(5,vP b1 0)]/\m.le y/\St y (kB b1 (V2 y1.2) 109::kB bp0 (Vc y1.1 a4 c4 a5 c5 S U) 84::kR S y1.1.2.2.2 U 61 5::O) w'/\P7 y a4 c4 a5 c5 S U y1.1) ?_ ?_
 .rintro _ w4 ⟨o1,y,rfl,rfl,q,g,z,B,D⟩;have i:=j1;refine aE (aG (aS 1 [(15,vP bp0 0)] (aK 16 i (CE (p0:=y1.1) g.f2.f2 z B D) ?_)));rintro d i _ w7 ⟨a7,c7,a8,c8,a9,c9,m5,rfl,e4,g,r7,r8,r9⟩;have q:=q.t e4;refine aF 1 [(17,vB (!d.2))] (aI i ?_ ?_)
  .intro A i;refine aS 2 [(18,vP bp0 0),(19,vI p1)] ?_;refine cY 20 i (b (p0:=d.1) g.f1.f1 r7 r8 r9) ?_;rintro y5 i _ w8 (⟨z2,m7,rfl,rfl,e6,g⟩|⟨Z,rfl,l,p,n,E,o,F,m6,rfl,e5,g,R,V,Y⟩)
   .refine bU ?_;refine bU ?_;obtain rfl:=sI i;have g:=g.t;exact cP (.inl ⟨z2,m7,rfl,rfl,q.t e6,g⟩)
   refine aF 1 [(4,vI Z.2)] (aL (aQ ?_));cases i;exact aO [4] [vI Z.2] (.inr ⟨_,rfl,l,p,n,E,o,F,m6,rfl,q.t e5,g.f2.t.f1.f1,R,V,Y⟩)
  intro A i;refine aM (aE (aS 3 [(21,vP bp0 0),(23,vP bp0 1)] (bF 24 (vI d.1.2.1) g.h (aA 3 [(25,vI (wr (d.1.2.1+1))),(27,vP bp0 1)] (eJ #[vS a7 d.1.1 c7,vI (wr (d.1.2.1+1)),vS a8 d.1.2.2.1 c8,vS a9 d.1.2.2.2 c9] g fun n7 g=>(aN (aC (aA 3 [(28,vP bp0 0),(30,vI (wr (p1+1)))] (cY 31 i (a (p0:=(d.1.1,wr (d.1.2.1+1),d.1.2.2.1,d.1.2.2.2)) g.f1.f1 r7 r8 r9) ?_)))))))));rintro y7 i _ n8 (⟨z3,m9,rfl,rfl,e8,g⟩|⟨p,rfl,h1,k6,h2,k7,h3,k8,m8,rfl,e7,g,d9,e0,f0⟩)
  .refine bU ?_;obtain rfl:=sI i;have g:=g.t;exact cP (.inl ⟨z3,m9,rfl,rfl,q.t e8,g⟩)
  refine aF 1 [(6,vI p.2)] (aC (aA 1 [(32,vP bp0 0)] (cY 33 i (NY (p0:=p.1) g.f1.f1 d9 e0 f0) ?_)));rintro y9 i _ n9 (⟨z4,d2,rfl,rfl,b5,g⟩|⟨g9,rfl,h4,k9,h5,l0,h6,l1,n2,rfl,e9,g,f3,f4,f5⟩)
  .refine bU ?_;obtain rfl:=sI i;have g:=g.t;exact cP (.inl ⟨z4,d2,rfl,rfl,(q.t e7).t b5,g⟩)
  have q:=(q.t e7).t e9;refine aN (aC (aA 3 [(34,vP bp0 0),(36,vI (wr (p1+1)))] (cY 37 i (a (p0:=g9) g.f1.f1 f3 f4 f5) ?_)));rintro o8 i _ o0 (⟨z5,d3,rfl,rfl,b6,g⟩|⟨l,rfl,h7,l2,h8,l3,h9,l4,n3,rfl,E,g,f6,f7,f8⟩)
  .refine bU ?_;obtain rfl:=sI i;have g:=g.t;exact cP (.inl ⟨z5,d3,rfl,rfl,q.t b6,g⟩)
  refine aF 1 [(7,vI l.2)] (aC (aA 1 [(38,vP bp0 0)] (cY 39 i (NY (p0:=l.1) g.f1.f1 f6 f7 f8) ?_)));rintro o9 i _ o3 (⟨z6,d4,rfl,rfl,b8,g⟩|⟨h0,rfl,k0,l5,k1,l6,k2,l7,n4,rfl,b7,g,f9,g0,g1⟩)
  .refine bU ?_;obtain rfl:=sI i;have g:=g.t;exact cP (.inl ⟨z6,d4,rfl,rfl,(q.t E).t b8,g⟩)
  have q:=(q.t E).t b7;refine aN (aC (aA 3 [(40,vP bp0 0),(42,vI (wr (p1+1)))] (cY 43 i (a (p0:=h0) g.f1.f1 f9 g0 g1) ?_)));rintro q0 i _ o5 (⟨z7,d5,rfl,rfl,b9,g⟩|⟨n,rfl,k3,l8,k4,l9,k5,n0,n5,rfl,F,g,g2,g3,g4⟩)
  .refine bU ?_;obtain rfl:=sI i;have g:=g.t;exact cP (.inl ⟨z7,d5,rfl,rfl,q.t b9,g⟩)
  refine aF 1 [(8,vI n.2)] (aC (aA 1 [(44,vP bp0 0)] (bF 45 (.agg (V2 y1.2)) g.t.t.h (aA 3 [(46,vI p.2),(47,vI l.2),(48,vI n.2)] (iN 49 3 3 (aT .i64) [p.2,l.2,n.2] g fun b2 n6 o6 o g g5=>(aA 1 [(50,.agg #[vI 5,vI 0,vI 0,vT eB,vS (aP b2) ([p.2,l.2,n.2]) 3])] (cY 51 i (yX (p0:=n.1) (p1:=y1.2) (p2:=(5,0,0,eB,[p.2,l.2,n.2])) g.f2.f2 (g2.mono o) (g3.mono o) (g4.mono o) g5) ?_)))))));rintro q1 i _ o7 (⟨z8,d7,rfl,rfl,d1,g⟩|⟨R,rfl,V,b0,Y,b3,Z,b4,d6,rfl,d0,g,g6,g7,g8⟩)
  .refine bU ?_;obtain rfl:=sI i;have g:=g.t.t;exact cP (.inl ⟨z8,d7,rfl,rfl,((q.t F).t o).t d1,g⟩)
  refine aA 1 [(4,vI R.2)] (aU rfl ?_);have g:=g.f2.t;refine aE (aL ?_);cases i;exact aO [4] [vI R.2] (.inr ⟨_,rfl,V,b0,Y,b3,Z,b4,d6,rfl,((q.t F).t o).t d0,g.f2.t.f1.f1,g6,g7,g8⟩)
 intro l;refine aI i ?_ ?_
 .intro A i;refine bC (bF 13 (.agg (V2 y1.2)) g.h (cY 14 i (oZ (p0:=y1.2) g) ?_));rintro V i _ R (⟨F,E,rfl,rfl,o,g⟩|⟨Y,rfl,p,rfl,d,g⟩)
  .obtain rfl:=sI i;have i:=j1;refine bU ?_;obtain rfl:=sI i;have g:=g.t.t.t;exact cP (.inl ⟨F,E,rfl,rfl,q.t o,g⟩)
  refine aU rfl ?_;have n:=jG i;exact xE (l _ _ ⟨(),p,n,rfl,q.t d,g.f2.f2.f2,z.mono d,B.mono d,D.mono d⟩)
 intro A i;refine aM ?_;have n:=jG i;exact xE (l _ _ ⟨(),m1,n,rfl,q,g.f2.f2.f2,z,B,D⟩)
theorem mU(N:Nat):∀D:Nat,(∀{m:Mem} {O:List Piece} {w:World} {p0:bI} {p1:Tl} {p2:Int} {b:Nat} {p:Option Addr} {s:Nat} {q:Option Addr} {t:Nat} {n:Option Addr} {o:Nat} {r:oU} (g:St m (kB b (Vc p0 p s q t n o) 84::kR n p0.2.2.2 o 61 5::O) w) (u:RepS C2 m p s p0.1) (x:RepS aH m q t p0.2.2.1) (y:RepS C3 m n o p0.2.2.2) (i:(iB N D).1 p0 p1 p2=some r),Calls prog 170 #[vP b 0,.agg (V2 p1),vI p2] w fun e w'=>(∃(z0:Tk),∃m',r= .inl z0/\e= .panicked [{v:= .iface 80 (.agg (Vd z0)),recovered:=false}]/\m.le m'/\St m' (O) w')\/(∃(a:pI),r= .inr a/\∃f k h l c d m',e= .returned (vI a.2)/\m.le m'/\St m' (kB b (Vc a.1 f k h l c d) 84::kR c a.1.2.2.2 d 61 5::O) w'/\P7 m' f k h l c d a.1))/\(∀{m:Mem} {O:List Piece} {w:World} {p0:bI} {p1:Int} {b:Nat} {p:Option Addr} {s:Nat} {q:Option Addr} {t:Nat} {n:Option Addr} {o:Nat} {r:JG} (g:St m (kB b (Vc p0 p s q t n o) 84::kR n p0.2.2.2 o 61 5::O) w) (u:RepS C2 m p s p0.1) (x:RepS aH m q t p0.2.2.1) (y:RepS C3 m n o p0.2.2.2) (i:(iB N D).2.1 p0 p1=some r),Calls prog 171 #[vP b 0,vI p1] w fun e w'=>(∃(z0:Tk),∃m',r= .inl z0/\e= .panicked [{v:= .iface 80 (.agg (Vd z0)),recovered:=false}]/\m.le m'/\St m' (O) w')\/(∃(a:T21),r= .inr a/\∃f k h l c d z A m',e= .returned (vS z a.2 A)/\m.le m'/\St m' (kR z a.2 A 3 1::kB b (Vc a.1 f k h l c d) 84::kR c a.1.2.2.2 d 61 5::O) w'/\P8 m' f k h l c d z A a))/\(∀{m:Mem} {O:List Piece} {w:World} {p0:bI} {p1:Int} {b:Nat} {p:Option Addr} {s:Nat} {q:Option Addr} {t:Nat} {n:Option Addr} {o:Nat} {r:oU} (g:St m (kB b (Vc p0 p s q t n o) 84::kR n p0.2.2.2 o 61 5::O) w) (u:RepS C2 m p s p0.1) (x:RepS aH m q t p0.2.2.1) (y:RepS C3 m n o p0.2.2.2) (i:(iB N D).2.2.1 p0 p1=some r),Calls prog 160 #[vP b 0,vI p1] w fun e w'=>(∃(z0:Tk),∃m',r= .inl z0/\e= .panicked [{v:= .iface 80 (.agg (Vd z0)),recovered:=false}]/\m.le m'/\St m' (O) w')\/(∃(a:pI),r= .inr a/\∃f k h l c d m',e= .returned (vI a.2)/\m.le m'/\St m' (kB b (Vc a.1 f k h l c d) 84::kR c a.1.2.2.2 d 61 5::O) w'/\P7 m' f k h l c d a.1))/\(∀{m:Mem} {O:List Piece} {w:World} {p0:bI} {p1:Int} {p2:Int} {b:Nat} {p:Option Addr} {s:Nat} {q:Option Addr} {t:Nat} {n:Option Addr} {o:Nat} {r:oU} (g:St m (kB b (Vc p0 p s q t n o) 84::kR n p0.2.2.2 o 61 5::O) w) (u:RepS C2 m p s p0.1) (x:RepS aH m q t p0.2.2.1) (y:RepS C3 m n o p0.2.2.2) (i:(iB N D).2.2.2.1 p0 p1 p2=some r),Calls prog 151 #[vP b 0,vI p1,vI p2] w fun e w'=>(∃(z0:Tk),∃m',r= .inl z0/\e= .panicked [{v:= .iface 80 (.agg (Vd z0)),recovered:=false}]/\m.le m'/\St m' (O) w')\/(∃(a:pI),r= .inr a/\∃f k h l c d m',e= .returned (vI a.2)/\m.le m'/\St m' (kB b (Vc a.1 f k h l c d) 84::kR c a.1.2.2.2 d 61 5::O) w'/\P7 m' f k h l c d a.1))/\(∀{m:Mem} {O:List Piece} {w:World} {p0:bI} {p1:Int} {b:Nat} {p:Option Addr} {s:Nat} {q:Option Addr} {t:Nat} {n:Option Addr} {o:Nat} {r:oU} (g:St m (kB b (Vc p0 p s q t n o) 84::kR n p0.2.2.2 o 61 5::O) w) (u:RepS C2 m p s p0.1) (x:RepS aH m q t p0.2.2.1) (y:RepS C3 m n o p0.2.2.2) (i:(iB N D).2.2.2.2 p0 p1=some r),Calls prog 128 #[vP b 0,vI p1] w fun e w'=>(∃(z0:Tk),∃m',r= .inl z0/\e= .panicked [{v:= .iface 80 (.agg (Vd z0)),recovered:=false}]/\m.le m'/\St m' (O) w')\/(∃(a:pI),r= .inr a/\∃f k h l c d m',e= .returned (vI a.2)/\m.le m'/\St m' (kB b (Vc a.1 f k h l c d) 84::kR c a.1.2.2.2 d 61 5::O) w'/\P7 m' f k h l c d a.1))
 |0=>⟨fun _ _ _ _ i=>(by cases i),fun _ _ _ _ i=>(by cases i),fun _ _ _ _ i=>(by cases i),fun _ _ _ _ i=>(by cases i),fun _ _ _ _ i=>(by cases i)⟩
 |D+1=>⟨fun g u x y i=>qFt (mU N D).1 (mU N D).2.1 (mU N D).2.2.1 (mU N D).2.2.2.1 (mU N D).2.2.2.2 g u x y i,fun g u x y i=>qFp (mU N D).1 (mU N D).2.1 (mU N D).2.2.1 (mU N D).2.2.2.1 (mU N D).2.2.2.2 g u x y i,fun g u x y i=>qFx (mU N D).1 (mU N D).2.1 (mU N D).2.2.1 (mU N D).2.2.2.1 (mU N D).2.2.2.2 g u x y i,fun g u x y i=>qGa (mU N D).1 (mU N D).2.1 (mU N D).2.2.1 (mU N D).2.2.2.1 (mU N D).2.2.2.2 g u x y i,fun g u x y i=>qGi (mU N D).1 (mU N D).2.1 (mU N D).2.2.1 (mU N D).2.2.2.1 (mU N D).2.2.2.2 g u x y i⟩
theorem qGr{p0:bI}{p1:Int}{r:oU}(g:St m (kB bp0 (Vc p0 a1 c1 a2 c2 a3 c3) 84::kR a3 p0.2.2.2 c3 61 5::O) w)(l:RepS C2 m a1 c1 p0.1)(n:RepS aH m a2 c2 p0.2.2.1)(o:RepS C3 m a3 c3 p0.2.2.2)(i:OD N p0 p1=some r):Calls prog 128 #[vP bp0 0,vI p1] w fun e w'=>(∃(z0:Tk),∃m',r= .inl z0/\e= .panicked [{v:= .iface 80 (.agg (Vd z0)),recovered:=false}]/\m.le m'/\St m' (O) w')\/(∃(c:pI),r= .inr c/\∃d h f k a b m',e= .returned (vI c.2)/\m.le m'/\St m' (kB bp0 (Vc c.1 d h f k a b) 84::kR a c.1.2.2.2 b 61 5::O) w'/\P7 m' d h f k a b c.1):=
 (mU N N).2.2.2.2 g l n o i
end
section
open Go Go.Dc Go.Proofs.Tryz
set_option maxHeartbeats 4000000
set_option maxRecDepth 100000
variable {N bp0 c1 c2 c3 c4:Nat} {m:Mem} {O:List Piece} {w:World} {a1 a2 a3 a4:Option Addr}
def CB(N:Nat)(p1:Tz)(b:Option (List Tj))(y1:wY)(o4:T27)(a:Int):Option (Int⊕Unit⊕Int):=
 if(decide (a<(List.length p1:Int)))=true then((idx p1 a).bind fun x1=>(if(x1.1==((cS b y1.2.2.1).getD 0))=true then(some (x1.2.1.toList==o4.2.2.2.2.2.1.toList)) else(some false):Te).bind fun b=>if b=true then(some (.inr (.inr (a)))) else(some (.inl (IntKind.wrap .i64 (a+1))))) else(some (.inr (.inl ())))
def GT(N:Nat)(p0:bI)(p1:Tz):Option BH:=
 (lG (some []:Option (List Tj)) (⟨#[102,117,110,99]⟩:BA) 1).bind fun a=>(lG a (⟨#[116,101,115,116]⟩:BA) 2).bind fun a=>(lG a (⟨#[103,101,110]⟩:BA) 3).bind fun a=>(qT N p0).bind fun y1=>(if(y1.2.1 !=1)=true then(some true) else(some (((cS a y1.2.2.1).getD 0)==0)):Te).bind fun b=>(if b=true then((lJ N y1.2 9).bind fun b=>(match b with| .inl b=>some (.inr (.inl b))| .inr b=>some (.inl ()))) else(some (.inl ())):Option FB).bind fun b=>(match b with| .inl o2=>(if((List.length p1:Int)==64)=true then((lJ N y1.2 2).bind fun b=>(match b with| .inl b=>some (.inr (.inl b))| .inr y5=>some (.inl ()))) else(some (.inl ())):Option FB).bind fun b=>(match b with| .inl b=>(if(((cS a y1.2.2.1).getD 0)==3)=true then((vQ N (y1.1.1,IntKind.wrap .i64 (y1.1.2.1+1),y1.1.2.2.1,y1.1.2.2.2)).bind fun b=>(match b with| .inl b=>some (.inr (.inl b))| .inr b=>some (.inl (b.1.1,b.1.2.1,b.1.2.2.1,b.1.2.2.2,b.2.1,b.2.2.1,b.2.2.2.1,b.2.2.2.2)))) else((vU N (y1.1.1,IntKind.wrap .i64 (y1.1.2.1+1),y1.1.2.2.1,y1.1.2.2.2)).bind fun b=>(match b with| .inl b=>some (.inr (.inl b))| .inr b=>some (.inl (b.1.1,b.1.2.1,b.1.2.2.1,b.1.2.2.2,b.2.1,b.2.2.1,b.2.2.2.1,b.2.2.2.2)))):Option (T27⊕BH)).bind fun b=>(match b with| .inl o4=>((aJ (CB N p1 a y1 o4) N 0).bind fun b=>(match b with| .inl b=>some (-1)| .inr (z)=>some z):T5).bind fun b=>(if(decide (b>=0))=true then((lJ N o4.2.2.2.2 10).bind fun b=>(match b with| .inl b=>some (.inr (.inl b))| .inr b=>some (.inl ()))) else(some (.inl ())):Option FB).bind fun b=>(match b with| .inl b=>(if(((cS a y1.2.2.1).getD 0)==1)=true then((BS N (o4.1,o4.2.1,o4.2.2.1,o4.2.2.2.1)).bind fun b=>(match b with| .inl b=>some (.inr (.inl b))| .inr b=>some (.inl (b.2,b.1.1,b.1.2.1,b.1.2.2.1,b.1.2.2.2)))) else(some (.inl (([]:T9),o4.1,o4.2.1,o4.2.2.1,o4.2.2.2.1))):Option (vG⊕BH)).bind fun b=>(match b with| .inl c=>(oY N c.2 (⟨#[61]⟩:BA)).bind fun b=>(match b with| .inl b=>some (.inl b)| .inr b=>(OD N (b.1,b.2.1,c.1,([]:Tr)) 1).bind fun b=>(match b with| .inl b=>some (.inl b)| .inr b=>(oY N b.1 (⟨#[59]⟩:BA)).bind fun d=>(match d with| .inl d=>some (.inl d)| .inr d=>some (.inr (d,(((cS a y1.2.2.1).getD 0),o4.2.2.2.2.2.1,c.1,b.1.2.2.2))))))| .inr z=>some z)| .inr z=>some z)| .inr z=>some z)| .inr z=>some z)| .inr z=>some z)
theorem qGu{p0:bI}{p1:Tz}{r:BH}(g:St m (kB bp0 (Vc p0 a1 c1 a2 c2 a3 c3) 84::kR a3 p0.2.2.2 c3 61 5::O) w)(r1:RepS C2 m a1 c1 p0.1)(r2:RepS aH m a2 c2 p0.2.2.1)(r3:RepS C3 m a3 c3 p0.2.2.2)(B:RepS C4 m a4 c4 p1)(i:GT N p0 p1=some r):Calls prog 90 #[vP bp0 0,vS a4 p1 c4] w fun e w'=>(∃(z0:Tk),∃m',r= .inl z0/\e= .panicked [{v:= .iface 80 (.agg (Vd z0)),recovered:=false}]/\m.le m'/\St m' (O) w')\/(∃(y0:bI×Ty),r= .inr y0/\∃h0 h3 h1 h4 g2 g4 g3 g5 h2 h5 m',e= .returned (.agg (V7 y0.2 g3 g5 h2 h5))/\m.le m'/\St m' (kR g3 y0.2.2.2.1 g5 9 1::kB bp0 (Vc y0.1 h0 h3 h1 h4 g2 g4) 84::kR g2 y0.1.2.2.2 g4 61 5::O) w'/\RepS C2 m' h0 h3 y0.1.1/\RepS aH m' h1 h4 y0.1.2.2.1/\RepS C3 m' g2 g4 y0.1.2.2.2/\RepS aH m' g3 g5 y0.2.2.2.1/\RepS C3 m' h2 h5 y0.2.2.2.2):=by
 unfold GT at i;have q:=m.le_refl;refine bG func90 rfl ntmps90 ?_;refine aC (eQ 4 43 (.agg #[vI 0,vT eB,v7,v7]) g fun V w1 g=>(aN (aC (bA rfl (HE (d:=9) (t:=151) kr rfl g fun p w2 g=> ?_)))));have⟨s3,d1,i⟩:=aZ i;refine bA rfl (oD (ek:=(fun s:BA=>Value.string s)) (c:=(aT .i64)) (agg:=false) (k:=br) (yv:=1) (cs:=[vI 1]) (z:=(vI 0)) (v:=(vI 1)) (kt:=9) (et:=3) (t:=151) (x:=(.tmp 9)) (y:=(.const (vT br))) (u:=(.const (vI 1))) kr (ev (.map (some p))) (ev (vT br)) (ev (vI 1)) kr (ND kr) g (MapQ.new (fun s:BA=>Value.string s) (aT .i64) false _ _) rfl rfl d1 fun q9 q6 w3 g r5=> ?_);have⟨s4,d2,i⟩:=aZ i;refine bA rfl (oD (ek:=(fun s:BA=>Value.string s)) (c:=(aT .i64)) (agg:=false) (k:=bv) (yv:=2) (cs:=[vI 2]) (z:=(vI 0)) (v:=(vI 2)) (kt:=9) (et:=3) (t:=151) (x:=(.tmp 9)) (y:=(.const (vT bv))) (u:=(.const (vI 2))) kr (ev (.map (some p))) (ev (vT bv)) (ev (vI 2)) kr (ND kr) g r5 rfl rfl d2 fun r0 q7 w4 g r6=> ?_);have⟨a,d3,i⟩:=aZ i
 refine bA rfl (oD (ek:=(fun s:BA=>Value.string s)) (c:=(aT .i64)) (agg:=false) (k:=bw) (yv:=3) (cs:=[vI 3]) (z:=(vI 0)) (v:=(vI 3)) (kt:=9) (et:=3) (t:=151) (x:=(.tmp 9)) (y:=(.const (vT bw))) (u:=(.const (vI 3))) kr (ev (.map (some p))) (ev (vT bw)) (ev (vI 3)) kr (ND kr) g r6 rfl rfl d3 fun o n w5 g b=>(aF 2 [(5,.map (some p))] (aC (aA 1 [(11,vP bp0 0)] (aK 12 i (tN (p0:=p0) g.f3.f3 r1 r2 r3) ?_)))));rintro y1 i _ w6 ⟨a5,c5,a6,c6,a7,c7,m1,rfl,e1,g,r8,r9,U⟩;have b:=b.mono e1;refine eQ 6 109 (.agg (V3 0 eB 0 0)) g fun H w7 g=> ?_;refine cG (.agg (V2 y1.2)) g fun w8 g=> ?_;refine aN (aC (aA 2 [(13,.map (some p)),(14,vP H 1)] (bF 15 (vT y1.2.2.1) g.h (bA rfl (zU (ek:=(fun s:BA=>Value.string s)) (c:=(aT .i64)) (agg:=false) (k:=y1.2.2.1) (zx:=0) (zcs:=[vI 0]) (z:=(vI 0)) (kt:=9) (et:=3) (d:=16) (t:=151) (x:=(.tmp 13)) (y:=(.tmp 15)) (ok:=false) kr rfl (ev (.map (some p))) (ev (vT y1.2.2.1)) kr (ND kr) g.t.t.t.h b rfl rfl ?_)))));rintro q8 rfl;refine eQ 7 3 (vI 0) g fun M w9 g=> ?_;refine cG (vI ((cS a y1.2.2.1).getD 0)) g fun s7 g=> ?_;refine aN (aG (aC ?_));have⟨o1,i,J⟩:=aZ i
 refine wJ (j:=7) (fun L' w'=>∃m2,L'=[(0,vP bp0 0),(1,vS a4 p1 c4),(4,vP V 0),(6,vP H 0),(7,vP M 0),(23,vB o1)]/\m.le m2/\St m2 (kB M #[vI ((cS a y1.2.2.1).getD 0)] 3::kB H (V2 y1.2) 109::kB bp0 (Vc y1.1 a5 c5 a6 c6 a7 c7) 84::kB V #[vI 0,vT eB,v1,va] 43::eH (some p) o n::kR a7 y1.1.2.2.2 c7 61 5::O) w'/\RepS C4 m2 a4 c4 p1/\RepS C2 m2 a5 c5 y1.1.1/\RepS aH m2 a6 c6 y1.1.2.2.1/\RepS C3 m2 a7 c7 y1.1.2.2.2/\MapQ (fun s:BA=>Value.string s) (aT .i64) false m2 (some p) o n a) ?_ ?_
 .have i:=J;rintro _ s8 ⟨m2,rfl,q,g,B,r8,r9,U,b⟩;refine aN ?_;have⟨l2,i,j1⟩:=aZ i;refine cZ .normal (fun L' w'=>∃(o2:Unit),∃m3,(.inl o2:FB)=l2/\L'=[(0,vP bp0 0),(1,vS a4 p1 c4),(4,vP V 0),(6,vP H 0),(7,vP M 0)]/\m.le m3/\St m3 (kB M #[vI ((cS a y1.2.2.1).getD 0)] 3::kB H (V2 y1.2) 109::kB bp0 (Vc y1.1 a5 c5 a6 c6 a7 c7) 84::kB V #[vI 0,vT eB,v1,va] 43::eH (some p) o n::kR a7 y1.1.2.2.2 c7 61 5::O) w'/\RepS C4 m3 a4 c4 p1/\RepS C2 m3 a5 c5 y1.1.1/\RepS aH m3 a6 c6 y1.1.2.2.1/\RepS C3 m3 a7 c7 y1.1.2.2.2/\MapQ (fun s:BA=>Value.string s) (aT .i64) false m3 (some p) o n a) ?_ ?_
  .rintro _ s9 ⟨o2,m3,rfl,rfl,q,g,B,r8,r9,U,b⟩;have i:=j1;refine aE (aG (aD 3 [(28,vB ((p1.length:Int)==64))] ?_));have⟨l3,i,j2⟩:=aZ i;refine cZ .normal (fun L' w'=>∃(o3:Unit),∃m6,(.inl o3:FB)=l3/\L'=[(0,vP bp0 0),(1,vS a4 p1 c4),(4,vP V 0),(6,vP H 0),(7,vP M 0)]/\m.le m6/\St m6 (kB M #[vI ((cS a y1.2.2.1).getD 0)] 3::kB H (V2 y1.2) 109::kB bp0 (Vc y1.1 a5 c5 a6 c6 a7 c7) 84::kB V #[vI 0,vT eB,v1,va] 43::eH (some p) o n::kR a7 y1.1.2.2.2 c7 61 5::O) w'/\RepS C4 m6 a4 c4 p1/\RepS C2 m6 a5 c5 y1.1.1/\RepS aH m6 a6 c6 y1.1.2.2.1/\RepS C3 m6 a7 c7 y1.1.2.2.2/\MapQ (fun s:BA=>Value.string s) (aT .i64) false m6 (some p) o n a) ?_ ?_
   .rintro _ t3 ⟨o3,m6,rfl,rfl,q,g,B,r8,r9,U,b⟩;have i:=j2;refine aE (aS 3 [(31,vP bp0 0),(33,vP bp0 1)] (bF 34 (vI y1.1.2.1) g.t.t.h (aA 3 [(35,vI (wr (y1.1.2.1+1))),(37,vP bp0 1)] (eJ #[vS a5 y1.1.1 c5,vI (wr (y1.1.2.1+1)),vS a6 y1.1.2.2.1 c6,vS a7 y1.1.2.2.2 c7] g.f2 fun t4 g=>(aN (aG (aC (bF 38 (vI ((cS a y1.2.2.1).getD 0)) g.t.h (aF 1 [(39,vB (((cS a y1.2.2.1).getD 0)==3))] ?_)))))))));have⟨l4,i,j3⟩:=aZ i;refine cZ .normal (fun L' w'=>∃(o4:T27),∃Y c8 Z c9 f l m9,(.inl o4:T27⊕BH)=l4/\L'=[(0,vP bp0 0),(1,vS a4 p1 c4),(4,vP V 0),(6,vP H 0),(7,vP M 0)]/\m.le m9/\St m9 (kB bp0 #[vS Y o4.1 c8,vI o4.2.1,vS Z o4.2.2.1 c9,vS f o4.2.2.2.1 l] 84::kB M #[vI ((cS a y1.2.2.1).getD 0)] 3::kB H (V2 o4.2.2.2.2) 109::kB V #[vI 0,vT eB,v1,va] 43::eH (some p) o n::kR f o4.2.2.2.1 l 61 5::O) w'/\RepS C4 m9 a4 c4 p1/\RepS C2 m9 Y c8 o4.1/\RepS aH m9 Z c9 o4.2.2.1/\RepS C3 m9 f l o4.2.2.2.1/\MapQ (fun s:BA=>Value.string s) (aT .i64) false m9 (some p) o n a) ?_ ?_
    .rintro _ t5 ⟨o4,Y,c8,Z,c9,f,l,m9,rfl,rfl,q,g,B,E,F,G,b⟩;have i:=j3;refine aE (aG (aS 2 [(44,vS a4 p1 c4),(45,.func (.func 126) #[] #[vP M 0,vP H 0])] (bA rfl (eA 46 125 #[vS a4 p1 c4,.func (.func 126) #[] #[vP M 0,vP H 0]] kr rfl (bG func125 rfl ntmps125 (aD 1 [] (aC (aA 2 [(5,vS a4 p1 c4),(6,.func (.func 126) #[] #[vP M 0,vP H 0])] ?_))))))));have⟨o5,i,j4⟩:=aZ i;refine bA rfl (eA 7 149 #[vS a4 p1 c4,.func (.func 126) #[] #[vP M 0,vP H 0]] kr rfl (LM (fun v' w'=>∃b0,v'=(vI o5)/\m.le b0/\St b0 (kB bp0 #[vS Y o4.1 c8,vI o4.2.1,vS Z o4.2.2.1 c9,vS f o4.2.2.2.1 l] 84::kB M #[vI ((cS a y1.2.2.1).getD 0)] 3::kB H (V2 o4.2.2.2.2) 109::kB V #[vI 0,vT eB,v1,va] 43::eH (some p) o n::kR f o4.2.2.2.1 l 61 5::O) w'/\RepS C4 b0 a4 c4 p1/\RepS C2 b0 Y c8 o4.1/\RepS aH b0 Z c9 o4.2.2.1/\RepS C3 b0 f l o4.2.2.2.1/\MapQ (fun s:BA=>Value.string s) (aT .i64) false b0 (some p) o n a) ?_ ?_))
     .have i:=j4;rintro _ t6 ⟨b0,rfl,q,g,B,E,F,G,b⟩;refine⟨_,rfl,?_⟩;refine aF 2 [(4,vB (decide (o5>=0)))] (aL (aO [4] [vB (decide (o5>=0))] (⟨_,rfl,?_⟩)));refine aN ?_;have⟨l5,i,j7⟩:=aZ i;refine cZ .normal (fun L' w'=>∃(o8:Unit),∃b8,(.inl o8:FB)=l5/\L'=[(0,vP bp0 0),(4,vP V 0),(6,vP H 0),(7,vP M 0)]/\m.le b8/\St b8 (kB bp0 #[vS Y o4.1 c8,vI o4.2.1,vS Z o4.2.2.1 c9,vS f o4.2.2.2.1 l] 84::kB M #[vI ((cS a y1.2.2.1).getD 0)] 3::kB H (V2 o4.2.2.2.2) 109::kB V #[vI 0,vT eB,v1,va] 43::eH (some p) o n::kR f o4.2.2.2.1 l 61 5::O) w'/\RepS C2 b8 Y c8 o4.1/\RepS aH b8 Z c9 o4.2.2.1/\RepS C3 b8 f l o4.2.2.2.1/\MapQ (fun s:BA=>Value.string s) (aT .i64) false b8 (some p) o n a) ?_ ?_
      .rintro _ t7 ⟨o8,b8,rfl,rfl,q,g,E,F,G,b⟩;have i:=j7;refine aE (aC (bF 49 (vI ((cS a y1.2.2.1).getD 0)) g.t.h (bW 1 51 9 50 1 (vT o4.2.2.2.2.2.1) g.t.t.h (aA 1 [(52,.agg #[vI ((cS a y1.2.2.1).getD 0),vT o4.2.2.2.2.2.1,v1,va])] (eQ 8 43 (.agg #[vI 0,vT eB,v7,v7]) g fun b7 t8 g=>(cG (.agg #[vI ((cS a y1.2.2.1).getD 0),vT o4.2.2.2.2.2.1,v1,va]) g fun t9 g=>(aN (aG (aC (bF 53 (vI ((cS a y1.2.2.1).getD 0)) g.t.t.h (aF 1 [(54,vB (((cS a y1.2.2.1).getD 0)==1))] ?_)))))))))));have⟨l6,i,j8⟩:=aZ i;refine cZ .normal (fun L' w'=>∃(D:vG),∃R S d9 f0 e0 f8 d7 d8 b9,(.inl D:vG⊕BH)=l6/\L'=[(0,vP bp0 0),(4,vP V 0),(8,vP b7 0)]/\m.le b9/\St b9 (kB b7 #[vI ((cS a y1.2.2.1).getD 0),vT o4.2.2.2.2.2.1,vS R D.1 S,va] 43::kB bp0 (Vc D.2 d9 f0 e0 f8 d7 d8) 84::kB M #[vI ((cS a y1.2.2.1).getD 0)] 3::kB H (V2 o4.2.2.2.2) 109::kB V #[vI 0,vT eB,v1,va] 43::eH (some p) o n::kR R D.1 S 9 1::kR d7 D.2.2.2.2 d8 61 5::O) w'/\RepS aH b9 R S D.1/\RepS C2 b9 d9 f0 D.2.1/\RepS aH b9 e0 f8 D.2.2.2.1/\RepS C3 b9 d7 d8 D.2.2.2.2/\MapQ (fun s:BA=>Value.string s) (aT .i64) false b9 (some p) o n a) ?_ ?_
       .rintro _ u0 ⟨D,R,S,d9,f0,e0,f8,d7,d8,b9,rfl,rfl,q,g,g8,l7,l8,l9,b⟩;have i:=j8;refine aE (aS 1 [(58,vP bp0 0)] (cY 59 i (sO (p0:=D.2) g.f7.f2 l7 l8 l9) ?_));rintro u9 i _ u1 (⟨z7,k8,rfl,rfl,k5,g⟩|⟨d0,rfl,g6,g7,q0,q3,h6,k0,s0,rfl,f9,g,n0,s5,s6⟩)
        .refine bU ?_;obtain rfl:=sI i;have g:=g.t.t.t.t.t.t;exact cP (.inl ⟨z7,k8,rfl,rfl,q.t k5,g⟩)
        have q:=q.t f9;refine aN (aC (aA 3 [(60,vP bp0 0),(61,vP bp0 0),(62,vP b7 2)] (bF 63 (vS R D.1 S) g.t.t.h (aA 2 [(65,vP bp0 2)] (eJ #[vS g6 d0.1 g7,vI d0.2.1,vS R D.1 S,vS h6 d0.2.2.2 k0] g fun u2 g=>(aA 2 [(67,vP bp0 3)] (eJ #[vS g6 d0.1 g7,vI d0.2.1,vS R D.1 S,va] g fun u3 g=>(aU rfl ?_))))))));have g:=g.f1.t;refine aE (aS 1 [(68,vP bp0 0)] ?_);have g:=(g.nilroom 61 5).front1;refine cY 69 i (qGr (p0:=(d0.1,d0.2.1,D.1,([]:Tr))) g n0 (g8.mono f9) (RepS.nil _ _)) ?_;rintro v0 i _ u4 (⟨z8,k9,rfl,rfl,k6,g⟩|⟨d6,rfl,q1,q4,q2,q5,d4,d5,s2,rfl,g0,g,n4,n5,g9⟩)
        .refine bU ?_;obtain rfl:=sI i;have g:=g.t.t.t.t.t.t;exact cP (.inl ⟨z8,k9,rfl,rfl,q.t k6,g⟩)
        refine aN (aC (bW 3 73 41 72 3 (vS d4 d6.1.2.2.2 d5) g.h (aA 1 [(74,vP b7 3)] (eJ #[vI ((cS a y1.2.2.1).getD 0),vT o4.2.2.2.2.2.1,vS R D.1 S,vS d4 d6.1.2.2.2 d5] g.f2 fun u5 g=>(aN (aC (aA 1 [(75,vP bp0 0)] (cY 76 i (sO (p0:=d6.1) g.f2.f2 n4 n5 g9) ?_))))))));rintro v2 i _ u6 (⟨z9,l1,rfl,rfl,k7,g⟩|⟨v3,rfl,h7,k2,h8,k3,h9,k4,l0,rfl,g1,g,n6,n9,o0⟩)
        .refine bU ?_;obtain rfl:=sI i;have g:=g.t.t.t.t.t.t;exact cP (.inl ⟨z9,l1,rfl,rfl,(q.t g0).t k7,g⟩)
        refine aN (aC (bF 77 (.agg #[vI ((cS a y1.2.2.1).getD 0),vT o4.2.2.2.2.2.1,vS R D.1 S,vS d4 d6.1.2.2.2 d5]) g.t.t.h (cG (.agg #[vI ((cS a y1.2.2.1).getD 0),vT o4.2.2.2.2.2.1,vS R D.1 S,vS d4 d6.1.2.2.2 d5]) g.f5 fun u7 g=>(aN (aL ?_)))));obtain rfl:=sI i;refine lP 4 43 [] [] g.h ?_;exact .inr ⟨_,rfl,h7,k2,h8,k3,h9,k4,R,S,d4,d5,l0,rfl,(q.t g0).t g1,g.t.f2.t.f2.t.f2.t.f2.t.f1.f1.f2,n6,n9,o0,((g8.mono f9).mono g0).mono g1,g9.mono g1⟩
       intro d4;refine aI i ?_ ?_
       .intro A i;refine bC (aA 1 [(55,vP bp0 0)] (cY 56 i (qFr (p0:=(o4.1,o4.2.1,o4.2.2.1,o4.2.2.2.1)) g.f6.f2 E F G) ?_));rintro k6 i _ k4 (⟨z6,h8,rfl,rfl,h6,g⟩|⟨d0,rfl,g0,g7,g1,g8,g6,g9,d5,d6,h7,rfl,f9,g,h9,k0,k2,k3⟩)
        .obtain rfl:=sI i;have i:=j8;refine bU ?_;obtain rfl:=sI i;have g:=g.t.t.t.t.t;exact cP (.inl ⟨z6,h8,rfl,rfl,q.t h6,g⟩)
        refine aA 1 [(57,vP b7 2)] (eJ #[vI ((cS a y1.2.2.1).getD 0),vT o4.2.2.2.2.2.1,vS d5 d0.2 d6,va] g.f3 fun k5 g=>(aU rfl ?_));have n8:=jG i;exact xE (d4 _ _ ⟨(d0.2,d0.1.1,d0.1.2.1,d0.1.2.2.1,d0.1.2.2.2),d5,d6,g0,g7,g1,g8,g6,g9,h7,n8,rfl,q.t f9,g.f3.f2.f7.f7.f7.f7.f7.f7,k3,h9,k0,k2,b.mono f9⟩)
       intro A i;refine aM ?_;have n8:=jG i;have g:=(g.nilroom 9 1).front7.front1.front7.front7.front7.front7.front7.front7;exact xE (d4 _ _ ⟨(([]:T9),o4.1,o4.2.1,o4.2.2.1,o4.2.2.2.1),none,0,Y,c8,Z,c9,f,l,b8,n8,rfl,q,g,(RepS.nil _ _),E,F,G,b⟩)
      intro R;refine aI i ?_ ?_
      .intro A i;refine bC (bF 47 (.agg (V2 o4.2.2.2.2)) g.t.t.h (cY 48 i (oZ (p0:=o4.2.2.2.2) g) ?_));rintro d6 i _ d5 (⟨z5,d4,rfl,rfl,b9,g⟩|⟨d7,rfl,d0,rfl,D,g⟩)
       .obtain rfl:=sI i;have i:=j7;refine bU ?_;obtain rfl:=sI i;have g:=g.t.t.t.t.t.t;exact cP (.inl ⟨z5,d4,rfl,rfl,q.t b9,g⟩)
       refine aU rfl ?_;have S:=jG i;exact xE (R _ _ ⟨(),d0,S,rfl,q.t D,g.f5.f5.f5.f5.f5.f5,E.mono D,F.mono D,G.mono D,b.mono D⟩)
      intro A i;refine aM ?_;have S:=jG i;exact xE (R _ _ ⟨(),b0,S,rfl,q,g.f5.f5.f5.f5.f5.f5,E,F,G,b⟩)
     refine bG func149 rfl ntmps149 ?_;refine aD 1 [] (aG ?_);refine aD 3 [(7,vI (p1.length:Int)),(8,vI 0)] (bD ?_);have⟨d8,i,j5⟩:=aZ i;refine cZ (.exit 0) (fun L' w'=>∃(o6:Unit),∃S,(.inl o6)=d8/\L'=[]/\m.le S/\St S (kB bp0 #[vS Y o4.1 c8,vI o4.2.1,vS Z o4.2.2.1 c9,vS f o4.2.2.2.1 l] 84::kB M #[vI ((cS a y1.2.2.1).getD 0)] 3::kB H (V2 o4.2.2.2.2) 109::kB V #[vI 0,vT eB,v1,va] 43::eH (some p) o n::kR f o4.2.2.2.1 l 61 5::O) w'/\RepS C4 S a4 c4 p1/\RepS C2 S Y c8 o4.1/\RepS aH S Z c9 o4.2.2.1/\RepS C3 S f l o4.2.2.2.1/\MapQ (fun s:BA=>Value.string s) (aT .i64) false S (some p) o n a) ?_ ?_
     .rintro _ D ⟨o6,S,rfl,rfl,q,g,B,E,F,G,b⟩;have i:=j5;refine dW (aE (aD 1 [(4,vI (-1))] (aL ?_)));cases i;exact aO [4] [vI (-1)] ⟨_,rfl,⟨S,rfl,q,g.f5.f5.f5.f5.f5.f5,B,E,F,G,b⟩⟩
     intro f0;refine cX _ kr (cW (fun k1 L' w'=>∃(s1:Int),∃b8,aJ (CB N p1 a y1 o4) k1 s1=some d8/\L'=[(0,vS a4 p1 c4),(1,.func (.func 126) #[] #[vP M 0,vP H 0]),(7,vI (p1.length:Int)),(8,vI s1)]/\m.le b8/\St b8 (kB bp0 #[vS Y o4.1 c8,vI o4.2.1,vS Z o4.2.2.1 c9,vS f o4.2.2.2.1 l] 84::kB M #[vI ((cS a y1.2.2.1).getD 0)] 3::kB H (V2 o4.2.2.2.2) 109::kB V #[vI 0,vT eB,v1,va] 43::eH (some p) o n::kR f o4.2.2.2.1 l 61 5::O) w'/\RepS C4 b8 a4 c4 p1/\RepS C2 b8 Y c8 o4.1/\RepS aH b8 Z c9 o4.2.2.1/\RepS C3 b8 f l o4.2.2.2.1/\MapQ (fun s:BA=>Value.string s) (aT .i64) false b8 (some p) o n a) N ⟨0,m9,i,rfl,q,g.f5.f5.f5.f5.f5.f5,B,E,F,G,b⟩ ?_);rintro k1 _ g7 ⟨s1,b8,hL,rfl,q,g,B,E,F,G,b⟩;rcases k1 with _|k1
     .exact dV hL
     obtain⟨g6,i,g0,d7⟩:=dX hL;clear hL;unfold CB at i;refine aD 1 [(9,vB (decide (s1<(p1.length:Int))))] (aG ?_);refine aI i ?_ ?_
     .intro A i;refine aM (aE (aG (bD (aD 2 [(5,vI s1)] (aC (aA 3 [(11,.func (.func 126) #[] #[vP M 0,vP H 0]),(12,vS a4 p1 c4),(13,vI s1)] (iK 14 B i ?_)))))));rintro x1 i b5 f1 g1 ⟨_,_,rfl,rfl,⟨_,_,rfl,rfl,⟨_,_,rfl,⟨b9,d4,rfl,d9⟩,⟨d0,d5,rfl,e0⟩⟩⟩⟩ d6;refine iO 15 43 14 f1 (.agg (V7 x1 b9 d4 d0 d5)) g d6 (bA rfl (eA 16 126 #[.agg (V7 x1 b9 d4 d0 d5),vP M 0,vP H 0] kr rfl (bG func126 rfl ntmps126 (aC (mJ 3 43 (.agg (V7 x1 b9 d4 d0 d5)) g fun b6 f9 g8 D g f8=> ?_)))));have B:=B.mono D;have b:=b.mono D;refine aF 1 [] (aC (eM 12 i (fun o7 L' w'=>∃R,L'=[(4,vB o7)]/\m.le R/\St R (kB bp0 #[vS Y o4.1 c8,vI o4.2.1,vS Z o4.2.2.1 c9,vS f o4.2.2.2.1 l] 84::kB M #[vI ((cS a y1.2.2.1).getD 0)] 3::kB H (V2 o4.2.2.2.2) 109::kB V #[vI 0,vT eB,v1,va] 43::eH (some p) o n::kR f o4.2.2.2.1 l 61 5::O) w'/\RepS C4 R a4 c4 p1/\MRow R b5 f1 (Va x1 b9 d4 d0 d5)/\RepS aH R b9 d4 x1.2.2.1/\RepS C3 R d0 d5 x1.2.2.2/\RepS C2 R Y c8 o4.1/\RepS aH R Z c9 o4.2.2.1/\RepS C3 R f l o4.2.2.2.1/\MapQ (fun s:BA=>Value.string s) (aT .i64) false R (some p) o n a) ?_ ?_))
      .rintro o7 i _ g9 ⟨R,rfl,q,g,B,d6,d9,e0,E,F,G,b⟩;refine aN (aL (aO [4] [vB o7] (⟨_,rfl,?_⟩)));refine aN (aI i ?_ ?_)
       .intro A i;refine aD 2 [(4,vI s1)] (aL ?_);refine bH (aQ ?_);have ho:=d7 _ (sI i);subst ho;have i:=j5;refine aQ (bH (aQ ?_));obtain rfl:=sI i;exact aO [4] [vI s1] ⟨_,rfl,⟨R,rfl,q,g.f5.f5.f5.f5.f5.f5,B,E,F,G,b⟩⟩
       intro A i;refine aM (bQ (aE (bC (aA 2 [(8,vI (wr (s1+1)))] (aU rfl ?_)))));have hL:=g0 _ (sI i);exact xE (cT ⟨wr (s1+1),R,hL,rfl,q,g.f5.f5.f5.f5.f5.f5,B,E,F,G,b⟩)
      intro o7 i K;refine aA 1 [(5,vP b6 0)] (cI 6 (vI x1.1) g f8 (bF 7 (vI ((cS a y1.2.2.1).getD 0)) g.t.h (aA 2 [(9,vB (x1.1==((cS a y1.2.2.1).getD 0)))] (bN 9 i ?_ ?_))))
      .intro A i;refine aA 1 [(10,vP b6 1)] (cI 11 (vT x1.2.1) g (f8.drop 1) (bW 1 13 9 12 1 (vT o4.2.2.2.2.2.1) g.t.t.h (aA 3 [(4,vB (x1.2.1.toList==o4.2.2.2.2.2.1.toList))] ?_)));cases i;exact aY _ kr (K _ _ ⟨f9,rfl,q.t D,g.f5.f5.f5.f5.f5.f5,B,d6.mono D,d9.mono D,e0.mono D,E.mono D,F.mono D,G.mono D,b⟩)
      intro A i;refine aA 7 [(4,vB false)] ?_;cases i;exact aY _ kr (K _ _ ⟨f9,rfl,q.t D,g.f5.f5.f5.f5.f5.f5,B,d6.mono D,d9.mono D,e0.mono D,E.mono D,F.mono D,G.mono D,b⟩)
     intro A i;refine cQ (bK ?_);have ho:=d7 _ (sI i);have g:=g.f5.f5.f5.f5.f5.f5;refine bK ?_;exact xE (f0 _ _ ⟨(),b8,ho,rfl,q,g,B,E,F,G,b⟩)
    intro E;refine aI i ?_ ?_
    .intro A i;refine bC (aA 1 [(40,vP bp0 0)] (cY 41 i (KL (p0:=(y1.1.1,wr (y1.1.2.1+1),y1.1.2.2.1,y1.1.2.2.2)) g.f5.f1 r8 r9 U) ?_));rintro y6 i _ d9 (⟨z3,d5,rfl,rfl,e7,g⟩|⟨D,rfl,R,b8,S,b9,b0,d0,d4,rfl,F,g,d6,d7,d8⟩)
     .obtain rfl:=sI i;have i:=j3;refine bU ?_;obtain rfl:=sI i;have g:=g.t.t.t.t;exact cP (.inl ⟨z3,d5,rfl,rfl,q.t e7,g⟩)
     refine cG (.agg (V2 D.2)) g.f3 fun e0 g=> ?_;refine aU rfl ?_;have G:=jG i;exact xE (E _ _ ⟨(D.1.1,D.1.2.1,D.1.2.2.1,D.1.2.2.2,D.2.1,D.2.2.1,D.2.2.2.1,D.2.2.2.2),R,b8,S,b9,b0,d0,d4,G,rfl,q.t F,g.f2.f5.f5.f3.f5.f5,B.mono F,d6,d7,d8,b.mono F⟩)
    intro A i;refine bC (aA 1 [(42,vP bp0 0)] (cY 43 i (KM (p0:=(y1.1.1,wr (y1.1.2.1+1),y1.1.2.2.1,y1.1.2.2.2)) g.f5.f1 r8 r9 U) ?_));rintro y8 i _ d9 (⟨z4,d5,rfl,rfl,e9,g⟩|⟨D,rfl,R,b8,S,b9,b0,d0,d4,rfl,F,g,d6,d7,d8⟩)
    .obtain rfl:=sI i;have i:=j3;refine bU ?_;obtain rfl:=sI i;have g:=g.t.t.t.t;exact cP (.inl ⟨z4,d5,rfl,rfl,q.t e9,g⟩)
    refine cG (.agg (V2 D.2)) g.f3 fun e0 g=> ?_;refine aU rfl ?_;have G:=jG i;exact xE (E _ _ ⟨(D.1.1,D.1.2.1,D.1.2.2.1,D.1.2.2.2,D.2.1,D.2.2.1,D.2.2.2.1,D.2.2.2.2),R,b8,S,b9,b0,d0,d4,G,rfl,q.t F,g.f2.f5.f5.f3.f5.f5,B.mono F,d6,d7,d8,b.mono F⟩)
   intro l;refine aI i ?_ ?_
   .intro A i;refine bC (bF 29 (.agg (V2 y1.2)) g.t.h (cY 30 i (oZ (p0:=y1.2) g) ?_));rintro Y i _ S (⟨R,G,rfl,rfl,E,g⟩|⟨y5,rfl,F,rfl,f,g⟩)
    .obtain rfl:=sI i;have i:=j2;refine bU ?_;obtain rfl:=sI i;have g:=g.t.t.t.t.t.t;exact cP (.inl ⟨R,G,rfl,rfl,q.t E,g⟩)
    refine aU rfl ?_;have D:=jG i;exact xE (l _ _ ⟨(),F,D,rfl,q.t f,g.f5.f5.f5.f5.f5.f5,B.mono f,r8.mono f,r9.mono f,U.mono f,b.mono f⟩)
   intro A i;refine aM ?_;have D:=jG i;exact xE (l _ _ ⟨(),m3,D,rfl,q,g.f5.f5.f5.f5.f5.f5,B,r8,r9,U,b⟩)
  intro l;refine aI i ?_ ?_
  .intro A i;refine bC (bF 24 (.agg (V2 y1.2)) g.t.h (cY 25 i (oZ (p0:=y1.2) g) ?_));rintro Y i _ S (⟨R,G,rfl,rfl,E,g⟩|⟨Z,rfl,F,rfl,f,g⟩)
   .obtain rfl:=sI i;have i:=j1;refine bU ?_;obtain rfl:=sI i;have g:=g.t.t.t.t.t.t;exact cP (.inl ⟨R,G,rfl,rfl,q.t E,g⟩)
   refine aU rfl ?_;have D:=jG i;exact xE (l _ _ ⟨(),F,D,rfl,q.t f,g.f5.f5.f5.f5.f5.f5,B.mono f,r8.mono f,r9.mono f,U.mono f,b.mono f⟩)
  intro A i;refine aM ?_;have D:=jG i;exact xE (l _ _ ⟨(),m2,D,rfl,q,g.f5.f5.f5.f5.f5.f5,B,r8,r9,U,b⟩)
 intro K;refine bW 1 18 3 17 0 (vI y1.2.1) g.t.h (aA 2 [(20,vB (y1.2.1 !=1))] (bN 20 i ?_ ?_))
 .intro A i;refine aA 3 [(23,vB true)] ?_;cases i;exact aY _ kr (K _ _ ⟨m1,rfl,q.t e1,g.f3.f4.f5.f5.f5.f5,B.mono e1,r8,r9,U,b⟩)
 intro A i;refine bF 21 (vI ((cS a y1.2.2.1).getD 0)) g.h ?_;refine aA 2 [(23,vB (((cS a y1.2.2.1).getD 0)==0))] ?_;cases i;exact aY _ kr (K _ _ ⟨m1,rfl,q.t e1,g.f3.f4.f5.f5.f5.f5,B.mono e1,r8,r9,U,b⟩)
def GH(N:Nat)(d:wY)(a:JT):Option JZ:=
 (uL N (a.1,a.2.1,a.2.2.1,a.2.2.2.1) 1 (⟨#[105,109,112,111,114,116]⟩:BA)).bind fun c=>if c.2=true then((if((List.length a.2.2.2.2:Int)==8)=true then((qT N c.1).bind fun b=>(lJ N b.2 2).bind fun e=>(match e with| .inl e=>some (.inr (.inr (.inr (.inl e))))| .inr e=>some (.inl b.1))) else(some (.inl c.1)):Option (bI⊕JZ)).bind fun b=>(match b with| .inl o2=>(vU N (o2.1,IntKind.wrap .i64 (o2.2.1+1),o2.2.2.1,o2.2.2.2)).bind fun b=>(match b with| .inl b=>some (.inr (.inr (.inl b)))| .inr b=>(if(b.2.2.1.toList==d.2.2.1.toList)=true then(some true) else((uF N a.2.2.2.2 b.2.2.1).bind fun d=>some d):Te).bind fun d=>(if d=true then((lJ N b.2 10).bind fun d=>(match d with| .inl d=>some (.inr (.inr (.inr (.inl d))))| .inr d=>some (.inl ()))) else(some (.inl ())):Option (Unit⊕JZ)).bind fun d=>(match d with| .inl o4=>(cU 16 a.2.2.2.2 ([b.2.2.1])).bind fun d=>(oY N b.1 (⟨#[59]⟩:BA)).bind fun b=>(match b with| .inl b=>some (.inr (.inr (.inl b)))| .inr b=>some (.inl (b.1,b.2.1,b.2.2.1,b.2.2.2,d)))| .inr z=>some z))| .inr z=>some z)) else(some (.inr (.inl (c.1.1,c.1.2.1,c.1.2.2.1,c.1.2.2.2,a.2.2.2.2))))
def xF(N:Nat)(c:JN):Option (JN⊕JN⊕T2b):=
 (qT N (c.1,c.2.1,c.2.2.1,c.2.2.2.1)).bind fun a=>if(a.2.1 !=5)=true then((GT N a.1 c.2.2.2.2).bind fun b=>(match b with| .inl b=>some (.inr (.inr (.inl b)))| .inr b=>(cU 72 c.2.2.2.2 ([b.2])).bind fun d=>some (.inl (b.1.1,b.1.2.1,b.1.2.2.1,b.1.2.2.2,d)))) else(some (.inr (.inl (a.1.1,a.1.2.1,a.1.2.2.1,a.1.2.2.2,c.2.2.2.2))))
def CH(N:Nat)(p0:bI):Option T2b:=
 (zE N p0 (⟨#[112,97,99,107,97,103,101]⟩:BA)).bind fun y1=>(match y1 with| .inl a=>some (.inl a)| .inr a=>(vU N a).bind fun a=>(match a with| .inl a=>some (.inl a)| .inr c=>(oY N c.1 (⟨#[59]⟩:BA)).bind fun y5=>(match y5 with| .inl a=>some (.inl a)| .inr a=>(aJ (GH N c) N (a.1,a.2.1,a.2.2.1,a.2.2.2,([]:T9))).bind fun a=>(match a with| .inl a=>(aJ (xF N) N (a.1,a.2.1,a.2.2.1,a.2.2.2.1,([]:Tz))).bind fun b=>(match b with| .inl b=>some (.inr ((b.1,b.2.1,b.2.2.1,b.2.2.2.1),(c.2.2.1,a.2.2.2.2,b.2.2.2.2)))| .inr (z)=>some z)| .inr (z)=>some z))))
theorem qGq{p0:bI}{r:T2b}(g:St m (kB bp0 (Vc p0 a1 c1 a2 c2 a3 c3) 84::kR a3 p0.2.2.2 c3 61 5::O) w)(r1:RepS C2 m a1 c1 p0.1)(r2:RepS aH m a2 c2 p0.2.2.1)(r3:RepS C3 m a3 c3 p0.2.2.2)(i:CH N p0=some r):Calls prog 40 #[vP bp0 0] w fun e w'=>(∃(z0:Tk),∃m',r= .inl z0/\e= .panicked [{v:= .iface 80 (.agg (Vd z0)),recovered:=false}]/\m.le m'/\St m' (O) w')\/(∃(G:bI×nD),r= .inr G/\∃k3 k5 k4 k6 g5 g8 g6 g9 g7 h0 m',e= .returned (.agg (V6 G.2 g6 g9 g7 h0))/\m.le m'/\St m' (kR g6 G.2.2.1 g9 9 1::kR g7 G.2.2.2 h0 43 4::kB bp0 (Vc G.1 k3 k5 k4 k6 g5 g8) 84::kR g5 G.1.2.2.2 g8 61 5::O) w'/\RepS C2 m' k3 k5 G.1.1/\RepS aH m' k4 k6 G.1.2.2.1/\RepS C3 m' g5 g8 G.1.2.2.2/\RepS aH m' g6 g9 G.2.2.1/\RepS C4 m' g7 h0 G.2.2.2):=by
 unfold CH at i;have q:=m.le_refl;refine bG func40 rfl ntmps40 ?_;refine aC (eQ 2 29 (.agg #[vT eB,v7,v7]) g fun u w1 g=>(aN (aC (aA 1 [(5,vP bp0 0)] (cY 6 i (NY (p0:=p0) g.f2.f2 r1 r2 r3) ?_)))));rintro y1 i _ w2 (⟨z1,m2,rfl,rfl,e2,g⟩|⟨y2,rfl,a4,c4,a5,c5,a6,c6,m1,rfl,e1,g,r4,r5,r6⟩)
 .refine bU ?_;obtain rfl:=sI i;have g:=g.t;exact cP (.inl ⟨z1,m2,rfl,rfl,q.t e2,g⟩)
 have q:=q.t e1;refine aN (aC (aA 1 [(7,vP bp0 0)] (cY 8 i (KM (p0:=y2) g.f1.f1 r4 r5 r6) ?_)));rintro y3 i _ w4 (⟨z2,m4,rfl,rfl,e4,g⟩|⟨s,rfl,a7,c7,a8,c8,a9,c9,m3,rfl,e3,g,r7,r8,r9⟩)
 .refine bU ?_;obtain rfl:=sI i;have g:=g.t;exact cP (.inl ⟨z2,m4,rfl,rfl,q.t e4,g⟩)
 refine aA 2 [(10,.agg #[vT s.2.2.1,v1,vb])] (eQ 3 29 (.agg #[vT eB,v7,v7]) g fun p w6 g=>(cG (.agg #[vT s.2.2.1,v1,vb]) g fun w7 g=>(aN (aC (aA 1 [(11,vP bp0 0)] (cY 12 i (sO (p0:=s.1) g.f2.f2 r7 r8 r9) ?_))))));rintro y5 i _ w8 (⟨z3,m6,rfl,rfl,e6,g⟩|⟨y6,rfl,k8,l6,k9,l7,l0,l8,m5,rfl,e5,g,o7,o8,o9⟩)
 .refine bU ?_;obtain rfl:=sI i;have g:=g.t.t;exact cP (.inl ⟨z3,m6,rfl,rfl,(q.t e3).t e6,g⟩)
 refine aN (aG (bD ?_));have⟨g1,i,j1⟩:=aZ i;refine cZ (.exit 0) (fun L' w'=>∃(c:JT),∃b0 d2 b6 d3 S V n o m7,(.inl c)=g1/\L'=[(0,vP bp0 0),(2,vP u 0),(3,vP p 0)]/\m.le m7/\St m7 (kB bp0 #[vS b0 c.1 d2,vI c.2.1,vS b6 c.2.2.1 d3,vS S c.2.2.2.1 V] 84::kB p #[vT s.2.2.1,vS n c.2.2.2.2 o,vb] 29::kB u #[vT eB,v1,vb] 29::kR S c.2.2.2.1 V 61 5::kR n c.2.2.2.2 o 9 1::O) w'/\RepS C2 m7 b0 d2 c.1/\RepS aH m7 b6 d3 c.2.2.1/\RepS C3 m7 S V c.2.2.2.1/\RepS aH m7 n o c.2.2.2.2) ?_ ?_
 .rintro _ s4 ⟨c,b0,d2,b6,d3,S,V,n,o,m7,rfl,rfl,q,g,n9,o0,o6,H⟩;have i:=j1;refine dW (aE (aG (bD ?_)));have⟨g0,i,j5⟩:=aZ i;refine cZ (.exit 2) (fun L' w'=>∃(f:JN),∃b7 d0 b8 d1 R U z B x,(.inl f)=g0/\L'=[(2,vP u 0),(3,vP p 0)]/\m.le x/\St x (kB bp0 #[vS b7 f.1 d0,vI f.2.1,vS b8 f.2.2.1 d1,vS R f.2.2.2.1 U] 84::kB p #[vT s.2.2.1,vS n c.2.2.2.2 o,vS z f.2.2.2.2 B] 29::kB u #[vT eB,v1,vb] 29::kR n c.2.2.2.2 o 9 1::kR R f.2.2.2.1 U 61 5::kR z f.2.2.2.2 B 43 4::O) w'/\RepS C2 x b7 d0 f.1/\RepS aH x b8 d1 f.2.2.1/\RepS C3 x R U f.2.2.2.1/\RepS aH x n o c.2.2.2.2/\RepS C4 x z B f.2.2.2.2) ?_ ?_
  .rintro _ y ⟨f,b7,d0,b8,d1,R,U,z,B,x,rfl,rfl,q,g,a,b,k,H,l⟩;have i:=j5;refine dW (aE (aC (bF 67 (.agg #[vT s.2.2.1,vS n c.2.2.2.2 o,vS z f.2.2.2.2 B]) g.t.h (cG (.agg #[vT s.2.2.1,vS n c.2.2.2.2 o,vS z f.2.2.2.2 B]) g.f2 fun D g=>(aN (aL ?_))))));cases i;refine lP 2 29 [] [] g.h ?_;exact .inr ⟨_,rfl,b7,d0,b8,d1,R,U,n,o,z,B,x,rfl,q,g.t.f1.t.f2.f1.f3.f3,a,b,k,H,l⟩
  intro g2;have g:=(g.nilroom 43 4).front4.front5.front5.front5.front5;refine cX _ kr (cW (fun k2 L' w'=>∃(b:JN),∃d7 e0 d8 f0 b9 d4 k l y,aJ (xF N) k2 b=some g0/\L'=[(0,vP bp0 0),(2,vP u 0),(3,vP p 0)]/\m.le y/\St y (kB bp0 #[vS d7 b.1 e0,vI b.2.1,vS d8 b.2.2.1 f0,vS b9 b.2.2.2.1 d4] 84::kB p #[vT s.2.2.1,vS n c.2.2.2.2 o,vS k b.2.2.2.2 l] 29::kB u #[vT eB,v1,vb] 29::kR n c.2.2.2.2 o 9 1::kR b9 b.2.2.2.1 d4 61 5::kR k b.2.2.2.2 l 43 4::O) w'/\RepS C2 y d7 e0 b.1/\RepS aH y d8 f0 b.2.2.1/\RepS C3 y b9 d4 b.2.2.2.1/\RepS aH y n o c.2.2.2.2/\RepS C4 y k l b.2.2.2.2) N ⟨(c.1,c.2.1,c.2.2.1,c.2.2.2.1,([]:Tz)),b0,d2,b6,d3,S,V,none,0,m7,i,rfl,q,g,n9,o0,o6,H,(RepS.nil _ _)⟩ ?_);rintro k2 _ s5 ⟨b,d7,e0,d8,f0,b9,d4,k,l,y,hL,rfl,q,g,q0,q1,q2,H,Z⟩;rcases k2 with _|k2
  .exact dV hL
  obtain⟨s3,i,h7,f9⟩:=dX hL;clear hL;unfold xF at i;refine aG (aS 1 [(54,vP bp0 0)] (aK 55 i (tN (p0:=(b.1,b.2.1,b.2.2.1,b.2.2.2.1)) g.f4.f1 q0 q1 q2) ?_));rintro M i _ s6 ⟨h8,l5,h9,l9,k0,n0,Y,rfl,d5,g,h4,h5,h6⟩;have q:=q.t d5;have Z:=Z.mono d5;refine aF 2 [(57,vB (M.2.1 !=5))] (aI i ?_ ?_)
  .intro A i;refine aM (aE (bD (iF [(10,fun w'=>Inv Y w'/\True),(9,fun w'=>Inv Y w'/\Piece.holds Y w' (kB p #[vT s.2.2.1,vS n c.2.2.2.2 o,vS k b.2.2.2.2 l] 29)/\True)] kr g fun s7 _ g=> ?_)));have a:=Y.le_refl;refine⟨⟨iA g a,⟨.inr ⟨Inv.anti g.inv a,Piece.holds_anti g.t.t.h a,trivial⟩,trivial⟩⟩,?_⟩;refine aR 0 58 (vP p 2) (.head _) (eR 27 58 1 59 2 (vS k b.2.2.2.2 l) (.tail _ (.head _)) (fun _ h=>h.2.1) (aR 2 60 (vP bp0 0) (.head _) (aR 3 61 (vP p 2) (.head _) (eR 27 61 4 62 2 (vS k b.2.2.2.2 l) (.tail _ (.head _)) (fun _ h=>h.2.1) ?_))));have g:=g.f1.f1;have⟨t5,n6,i⟩:=aZ i;refine cH 5 kr (EA 63 90 #[vP bp0 0,vS k b.2.2.2.2 l] kr rfl ((qGu (p0:=M.1) g h4 h5 h6 Z n6).mono ?_));rintro _ s8 (⟨z8,n7,rfl,rfl,h3,g⟩|⟨E,rfl,k7,n1,l3,n4,l4,n5,g3,h1,g4,h2,r0,rfl,d6,g,q3,q4,q5,q6,q7⟩)
   .refine .inr ⟨_,rfl,?_⟩;have a:=Mem.le_trans a h3;refine iV ?_;have ho:=f9 _ (sI i);subst ho;have i:=j5;refine bU ?_;refine iV ?_;refine bU ?_;obtain rfl:=sI i;have g:=g.t.t.t.t;exact cP (.inl ⟨z8,n7,rfl,rfl,q.t h3,g⟩)
   refine .inl ⟨_,rfl,?_⟩;have a:=Mem.le_trans a d6;refine⟨⟨iA g a,⟨.inr ⟨Inv.anti g.inv a,Piece.holds_anti g.t.t.t.h a,trivial⟩,trivial⟩⟩,?_⟩;refine cH 6 kr (rH (d:=64) (t:=27) (e:=43) (len:=1) (parts:= #[(0,(.tmp 63))]) C4 (xs:=[E.2]) (Va E.2 g3 h1 g4 h2) kr rfl (fun _=>rG kr _) rfl rfl g ⟨(Va E.2 g3 h1 g4 h2),_,rfl,⟨_,_,rfl,rfl,⟨_,_,rfl,rfl,⟨_,_,rfl,(xY q6),(xY q7)⟩⟩⟩,rfl⟩ fun b5 s0 s9 D g q8=> ?_);have a:=Mem.le_trans a D;refine⟨⟨iA g a,⟨.inr ⟨Inv.anti g.inv a,Piece.holds_anti g.t.t.t.t.h a,trivial⟩,trivial⟩⟩,?_⟩;refine cH 7 kr (DT 65 27 27 43 72 59 64 g.f7 (.inl kr) ((Z.mono d6).mono D) q8.src i fun l2 i d9 f8 n8 t3 F g q9=> ?_);have a:=Mem.le_trans a F;refine⟨⟨iA g a,⟨.inr ⟨Inv.anti g.inv a,Piece.holds_anti g.t.t.t.t.t.h a,trivial⟩,trivial⟩⟩,?_⟩;refine aR 8 66 (vP p 2) (.head _) (cH 9 kr (IM 27 66 65 2 (vS d9 l2 f8) #[vT s.2.2.1,vS n c.2.2.2.2 o,vS d9 l2 f8] g.f5 fun t4 g=>(⟨⟨iA g a,⟨.inl rfl,trivial⟩⟩,?_⟩)));refine eW kr ?_;have g:=g.f2.t.f2.t;refine bQ ?_;have hL:=h7 _ (sI i);exact xE (cT ⟨(E.1.1,E.1.2.1,E.1.2.2.1,E.1.2.2.2,l2),k7,n1,l3,n4,l4,n5,d9,f8,n8,hL,rfl,((q.t d6).t D).t F,g.f1.f3.f5.f5.f4.f5,(q3.mono D).mono F,(q4.mono D).mono F,(q5.mono D).mono F,(((H.mono d5).mono d6).mono D).mono F,q9⟩)
  intro A i;refine cQ (bK ?_);have ho:=f9 _ (sI i);have g:=g.f5.f2.f5.f5.f5.f5;refine bK ?_;exact xE (g2 _ _ ⟨(M.1.1,M.1.2.1,M.1.2.2.1,M.1.2.2.2,b.2.2.2.2),h8,l5,h9,l9,k0,n0,k,l,Y,ho,rfl,q,g,h4,h5,h6,H.mono d5,Z⟩)
 intro h1;have g:=(g.nilroom 9 1).front2.front4.front4.front4;refine cX _ kr (cW (fun k1 L' w'=>∃(b:JT),∃e0 f8 f0 f9 b7 d4 f k m8,aJ (GH N s) k1 b=some g1/\L'=[(0,vP bp0 0),(2,vP u 0),(3,vP p 0)]/\m.le m8/\St m8 (kB bp0 #[vS e0 b.1 f8,vI b.2.1,vS f0 b.2.2.1 f9,vS b7 b.2.2.2.1 d4] 84::kB p #[vT s.2.2.1,vS f b.2.2.2.2 k,vb] 29::kB u #[vT eB,v1,vb] 29::kR b7 b.2.2.2.1 d4 61 5::kR f b.2.2.2.2 k 9 1::O) w'/\RepS C2 m8 e0 f8 b.1/\RepS aH m8 f0 f9 b.2.2.1/\RepS C3 m8 b7 d4 b.2.2.2.1/\RepS aH m8 f k b.2.2.2.2) N ⟨(y6.1,y6.2.1,y6.2.2.1,y6.2.2.2,([]:T9)),k8,l6,k9,l7,l0,l8,none,0,m5,i,rfl,(q.t e3).t e5,g,o7,o8,o9,(RepS.nil _ _)⟩ ?_);rintro k1 _ s5 ⟨b,e0,f8,f0,f9,b7,d4,f,k,m8,hL,rfl,q,g,q0,q1,q2,l⟩;rcases k1 with _|k1
 .exact dV hL
 obtain⟨s4,i,k7,y⟩:=dX hL;clear hL;unfold GH at i;refine aG (aS 1 [(13,vP bp0 0)] (aK 14 i (CE (p0:=(b.1,b.2.1,b.2.2.1,b.2.2.2.1)) g.f3.f1 q0 q1 q2) ?_));rintro y7 i _ s6 ⟨h2,h6,h3,h7,h4,h8,m9,rfl,e7,g,g2,g3,g4⟩;have q:=q.t e7;have l:=l.mono e7;refine aN (aI i ?_ ?_)
 .intro A i;refine aM (aE (bD (aG (aC (bW 1 16 26 15 1 (vS f b.2.2.2.2 k) g.t.t.h (aF 2 [(18,vB ((b.2.2.2.2.length:Int)==8))] ?_))))));have⟨o0,i,j2⟩:=aZ i;refine cZ .normal (fun L' w'=>∃(o2:bI),∃b8 d5 b9 d6 U Y z,(.inl o2:bI⊕JZ)=o0/\L'=[(0,vP bp0 0),(2,vP u 0),(3,vP p 0)]/\m.le z/\St z (kB bp0 (Vc o2 b8 d5 b9 d6 U Y) 84::kB p #[vT s.2.2.1,vS f b.2.2.2.2 k,vb] 29::kB u #[vT eB,v1,vb] 29::kR f b.2.2.2.2 k 9 1::kR U o2.2.2.2 Y 61 5::O) w'/\RepS C2 z b8 d5 o2.1/\RepS aH z b9 d6 o2.2.2.1/\RepS C3 z U Y o2.2.2.2/\RepS aH z f k b.2.2.2.2) ?_ ?_
  .rintro _ s7 ⟨o2,b8,d5,b9,d6,U,Y,z,rfl,rfl,q,g,q3,q4,q5,l⟩;have i:=j2;refine aE (aS 3 [(22,vP bp0 0),(24,vP bp0 1)] (bF 25 (vI o2.2.1) g.h (aA 3 [(26,vI (wr (o2.2.1+1))),(28,vP bp0 1)] (eJ #[vS b8 o2.1 d5,vI (wr (o2.2.1+1)),vS b9 o2.2.2.1 d6,vS U o2.2.2.2 Y] g fun s8 g=>(aN (aC (aA 1 [(29,vP bp0 0)] (cY 30 i (KM (p0:=(o2.1,wr (o2.2.1+1),o2.2.2.1,o2.2.2.2)) g.f4.f1 q3 q4 q5) ?_))))))));rintro u1 i _ s9 (⟨z5,n7,rfl,rfl,n4,g⟩|⟨a,rfl,d0,d7,d1,d8,H,M,n6,rfl,g0,g,D,E,F⟩)
   .refine bU ?_;refine iV ?_;have ho:=y _ (sI i);subst ho;have i:=j1;refine bU ?_;refine iV ?_;refine bU ?_;obtain rfl:=sI i;have g:=g.t.t.t;exact cP (.inl ⟨z5,n7,rfl,rfl,q.t n4,g⟩)
   have l:=l.mono g0;refine eQ 4 109 (.agg (V3 0 eB 0 0)) g fun b3 t3 g=> ?_;refine cG (.agg (V2 a.2)) g fun t4 g=> ?_;refine aN (aG (aC (eM 12 i (fun o3 L' w'=>∃x,L'=[(0,vP bp0 0),(2,vP u 0),(3,vP p 0),(4,vP b3 0),(42,vB o3)]/\m.le x/\St x (kB b3 (V2 a.2) 109::kB bp0 (Vc a.1 d0 d7 d1 d8 H M) 84::kB p #[vT s.2.2.1,vS f b.2.2.2.2 k,vb] 29::kB u #[vT eB,v1,vb] 29::kR H a.1.2.2.2 M 61 5::kR f b.2.2.2.2 k 9 1::O) w'/\RepS C2 x d0 d7 a.1.1/\RepS aH x d1 d8 a.1.2.2.1/\RepS C3 x H M a.1.2.2.2/\RepS aH x f k b.2.2.2.2) ?_ ?_)))
   .rintro o3 i _ t5 ⟨x,rfl,q,g,D,E,F,l⟩;refine aN ?_;have⟨o6,i,j3⟩:=aZ i;refine cZ .normal (fun L' w'=>∃(o4:Unit),∃B,(.inl o4:Unit⊕JZ)=o6/\L'=[(0,vP bp0 0),(2,vP u 0),(3,vP p 0),(4,vP b3 0)]/\m.le B/\St B (kB b3 (V2 a.2) 109::kB bp0 (Vc a.1 d0 d7 d1 d8 H M) 84::kB p #[vT s.2.2.1,vS f b.2.2.2.2 k,vb] 29::kB u #[vT eB,v1,vb] 29::kR H a.1.2.2.2 M 61 5::kR f b.2.2.2.2 k 9 1::O) w'/\RepS C2 B d0 d7 a.1.1/\RepS aH B d1 d8 a.1.2.2.1/\RepS C3 B H M a.1.2.2.2/\RepS aH B f k b.2.2.2.2) ?_ ?_
    .rintro _ t6 ⟨o4,B,rfl,rfl,q,g,D,E,F,l⟩;have i:=j3;refine aE (aC (bW 1 46 26 45 1 (vS f b.2.2.2.2 k) g.t.t.h (bW 1 48 9 47 1 (vT a.2.2.1) g.h (iN 49 9 1 aH [a.2.2.1] g fun b4 s0 t7 R g q6=>(lR 50 26 26 9 16 46 49 g.f6 (.inl kr) (l.mono R) q6.src i fun l1 i h5 h9 s3 t8 Z g q7=>(aA 1 [(51,vP p 1)] (eJ #[vT s.2.2.1,vS h5 l1 h9,vb] g.f4 fun t9 g=>(aU rfl ?_))))))));have g:=g.f2.t;refine aE (bC (aA 1 [(52,vP bp0 0)] (cY 53 i (sO (p0:=a.1) g.f5.f4 ((D.mono R).mono Z) ((E.mono R).mono Z) ((F.mono R).mono Z)) ?_)));rintro u2 i _ u0 (⟨z7,n9,rfl,rfl,n5,g⟩|⟨d9,rfl,l3,l9,l4,n0,l5,n1,n8,rfl,k0,g,q8,q9,r0⟩)
     .refine iV ?_;have ho:=y _ (sI i);subst ho;have i:=j1;refine bU ?_;refine iV ?_;refine bU ?_;obtain rfl:=sI i;have g:=g.t.t.t.t;exact cP (.inl ⟨z7,n9,rfl,rfl,((q.t R).t Z).t n5,g⟩)
     refine aU rfl (bQ ?_);have hL:=k7 _ (sI i);exact xE (cT ⟨(d9.1,d9.2.1,d9.2.2.1,d9.2.2.2,l1),l3,l9,l4,n0,l5,n1,h5,h9,n8,hL,rfl,((q.t R).t Z).t k0,g.f4.t.f3.f2.f4.f4.f4,q8,q9,r0,q7.mono k0⟩)
    intro Z;refine aI i ?_ ?_
    .intro A i;refine bC (bF 43 (.agg (V2 a.2)) g.h (cY 44 i (oZ (p0:=a.2) g) ?_));rintro l3 i _ k0 (⟨z6,h9,rfl,rfl,d9,g⟩|⟨l4,rfl,h5,rfl,R,g⟩)
     .obtain rfl:=sI i;have i:=j3;refine bU ?_;refine iV ?_;have ho:=y _ (sI i);subst ho;have i:=j1;refine bU ?_;refine iV ?_;refine bU ?_;obtain rfl:=sI i;have g:=g.t.t.t.t.t.t;exact cP (.inl ⟨z6,h9,rfl,rfl,q.t d9,g⟩)
     refine aU rfl ?_;have n3:=jG i;exact xE (Z _ _ ⟨(),h5,n3,rfl,q.t R,g.f5.f5.f5.f5.f5.f5,D.mono R,E.mono R,F.mono R,l.mono R⟩)
    intro A i;refine aM ?_;have n3:=jG i;exact xE (Z _ _ ⟨(),x,n3,rfl,q,g.f5.f5.f5.f5.f5.f5,D,E,F,l⟩)
   intro o3 i K;refine bW 1 32 9 31 1 (vT a.2.2.1) g.h (bW 1 34 9 33 0 (vT s.2.2.1) g.t.t.t.h (aA 2 [(36,vB (a.2.2.1.toList==s.2.2.1.toList))] (bN 36 i ?_ ?_)))
   .intro A i;refine aA 6 [(42,vB true)] ?_;cases i;exact aY _ kr (K _ _ ⟨n6,rfl,q.t g0,g.f5.f3.f5.f5.f5.f5,D,E,F,l⟩)
   intro A i;refine bW 1 38 26 37 1 (vS f b.2.2.2.2 k) g.t.t.t.h (bW 1 40 9 39 1 (vT a.2.2.1) g.h (aK 41 i (KB g l) ?_));rintro Z i _ d9 ⟨R,rfl,B,g⟩;refine aA 1 [(42,vB Z)] ?_;cases i;exact aY _ kr (K _ _ ⟨R,rfl,(q.t g0).t B,g.f5.f3.f5.f5.f5.f5,D.mono B,E.mono B,F.mono B,l.mono B⟩)
  intro x;refine aI i ?_ ?_
  .intro A i;refine bC (aA 1 [(19,vP bp0 0)] (aK 20 i (tN (p0:=y7.1) g.f1.f1 g2 g3 g4) ?_));rintro y8 i _ h9 ⟨E,M,F,R,H,Z,h5,rfl,B,g,d8,d9,g0⟩;refine cY 21 i (oZ (p0:=y8.2) g) ?_;rintro y9 i _ k0 (⟨z4,d7,rfl,rfl,d0,g⟩|⟨l3,rfl,d1,rfl,a,g⟩)
   .obtain rfl:=sI i;have i:=j2;refine bU ?_;refine iV ?_;have ho:=y _ (sI i);subst ho;have i:=j1;refine bU ?_;refine iV ?_;refine bU ?_;obtain rfl:=sI i;have g:=g.t.t.t.t.t;exact cP (.inl ⟨z4,d7,rfl,rfl,(q.t B).t d0,g⟩)
   refine aU rfl ?_;have D:=jG i;exact xE (x _ _ ⟨y8.1,E,M,F,R,H,Z,d1,D,rfl,(q.t B).t a,g.f1.f4.f4.f4.f4,d8.mono a,d9.mono a,g0.mono a,(l.mono B).mono a⟩)
  intro A i;refine aM ?_;have D:=jG i;exact xE (x _ _ ⟨y7.1,h2,h6,h3,h7,h4,h8,m9,D,rfl,q,g.f1.f4.f4.f4.f4,g2,g3,g4,l⟩)
 intro A i;refine cQ (bK ?_);have ho:=y _ (sI i);have g:=g.f4.f2.f4.f4.f4;refine bK ?_;exact xE (h1 _ _ ⟨(y7.1.1,y7.1.2.1,y7.1.2.2.1,y7.1.2.2.2,b.2.2.2.2),h2,h6,h3,h7,h4,h8,f,k,m9,ho,rfl,q,g,g2,g3,g4,l⟩)
def HC(N:Nat)(p0:BA):Option T1b:=
 (HB N p0).bind fun y1=>if(y1.2.2 !=0)=true then(some (((⟨#[]⟩:BA),([]:T9),([]:Tz)),y1.2.1,y1.2.2)) else((CH N (y1.1,0,([]:T9),([]:Tr))).bind fun a=>(match a with| .inl a=>some (((⟨#[]⟩:BA),([]:T9),([]:Tz)),a.1,a.2)| .inr a=>some (a.2,0,0)))
theorem qHn{p0:BA}{r:T1b}(g:St m (O) w)(i:HC N p0=some r):Calls prog 9 #[vT p0] w fun e w'=>∃n s p u m',e= .returned (.tuple #[.agg (V6 r.1 n s p u),vI r.2.1,vI r.2.2])/\m.le m'/\St m' (kR n r.1.2.1 s 9 1::kR p r.1.2.2 u 43 4::O) w'/\P5 m' n s p u r.1.2:=by
 unfold HC at i;have q:=m.le_refl;refine qPt func9 rfl ntmps9 [(0,vT p0)] kr rfl ?_;refine MV ?_;refine bC (eQ 2 29 (.agg #[vT eB,v7,v7]) g fun l w1 g=>(eQ 3 3 (vI 0) g fun c w2 g=>(eQ 4 31 (vI 0) g fun f w3 g=>(aU rfl (MN (MV (bC (aA 1 [(8,vT p0)] (aK 9 i (qHl g) ?_)))))))));rintro y1 i _ w4 ⟨E,G,k,rfl,M,g,V⟩;have q:=q.t M;refine aA 5 [(11,vI y1.2.1),(12,vI y1.2.2),(5,vS E y1.1 G)] (cG (vI y1.2.1) g.f2 fun w5 g=>(cG (vI y1.2.2) g.f2 fun w6 g=>(aU rfl (MN (MV (aC (bF 13 (vI y1.2.2) g.h (aF 1 [(14,vB (y1.2.2 !=0))] (aI i ?_ ?_)))))))))
 .intro A i;refine aG (iF [(6,fun w'=>Inv k w'/\True),(5,fun w'=>Inv k w'/\Piece.holds k w' (kB f #[vI y1.2.2] 31)/\True),(4,fun w'=>Inv k w'/\Piece.holds k w' (kB c #[vI y1.2.1] 3)/\True)] kr g fun x _ g=> ?_);have a:=k.le_refl;refine⟨⟨iA g a,⟨.inr ⟨Inv.anti g.inv a,Piece.holds_anti g.h a,trivial⟩,⟨.inr ⟨Inv.anti g.inv a,Piece.holds_anti g.t.h a,trivial⟩,trivial⟩⟩⟩,?_⟩;refine aR 0 15 (.agg #[vT eB,v1,vb]) (.head _) (eR 3 3 1 16 0 (vI y1.2.1) (.tail _ (.tail _ (.head _))) (fun _ h=>h.2.1) (eR 31 4 2 17 0 (vI y1.2.2) (.tail _ (.head _)) (fun _ h=>h.2.1) (cH 3 kr (wG 29 2 15 (.agg #[vT eB,v1,vb]) g.f3 fun y g=>(⟨⟨iA g a,⟨.inr ⟨Inv.anti g.inv a,Piece.holds_anti g.t.h a,trivial⟩,⟨.inr ⟨Inv.anti g.inv a,Piece.holds_anti g.t.t.h a,trivial⟩,trivial⟩⟩⟩,?_⟩)))));refine cH 4 kr (wG 3 3 16 (vI y1.2.1) g.f2 fun z g=>(⟨⟨iA g a,⟨.inr ⟨Inv.anti g.inv a,Piece.holds_anti g.t.t.h a,trivial⟩,⟨.inl rfl,trivial⟩⟩⟩,?_⟩));refine cH 5 kr (wG 31 4 17 (vI y1.2.2) g.f2 fun b g=>(⟨⟨iA g a,⟨.inl rfl,⟨.inl rfl,trivial⟩⟩⟩,?_⟩));refine eW kr ?_;have g:=g.f3.t;refine aE (aL (aQ (qMn ?_)));cases i
  refine qSs [.cell 2 29,.cell 3 3,.cell 4 31] [.agg #[vT eB,v1,vb],vI y1.2.1,vI y1.2.2] rfl (ResAll.cons (ResAt.blk (v:= .agg #[vT eB,v1,vb]) (o:=0) kr g.t.t.h kr) (ResAll.cons (ResAt.blk (v:=vI y1.2.1) (o:=0) kr g.t.h kr) (ResAll.cons (ResAt.blk (v:=vI y1.2.2) (o:=0) kr g.h kr) ResAll.nil))) ?_;have g:=(g.nilroom 9 1).nilroom 43 4;exact⟨none,0,none,0,k,rfl,q,g.f2.t.f2.t.f2.t.f1,(RepS.nil _ _),(RepS.nil _ _)⟩
 intro A i;refine aM (MN (MV (bC (aA 1 [(18,.func (.func 39) #[] #[vP l 0,vP c 0,vP f 0])] (qNn ({target:= .fn (.func 39) #[vP l 0,vP c 0,vP f 0],args:= #[]}) kr kr (aU rfl (MN (aS 2 [(20,.agg #[vS E y1.1 G,vI 0,v1,va])] (bA rfl (yA 21 84 20 (.agg #[vS E y1.1 G,vI 0,v1,va]) g fun K a7 g=>(aF 1 [(6,vP K 0)] (aC (aA 1 [(22,vP K 0)] ?_)))))))))))));have g:=(g.nilroom 61 5).front1;refine cY 23 i (qGq (p0:=(y1.1,0,([]:T9),([]:Tr))) g V (RepS.nil _ _) (RepS.nil _ _)) ?_;rintro y2 i _ a8 (⟨b,D,rfl,rfl,S,g⟩|⟨H,rfl,a2,c2,a3,c3,a4,c4,x,z,y,B,U,rfl,R,g,r2,r3,r4,Y,Z⟩)
 .refine bU ?_;refine qTd [.cell 2 29,.cell 3 3,.cell 4 31] rfl (YR func39 kr) ?_;refine XI (.panicking [{v:= .iface 80 (.agg (Vd b)),recovered:=false}]) func39 rfl ntmps39 [(0,vP l 0),(1,vP c 0),(2,vP f 0)] kr rfl (d:=6) kr kr [(3,.iface 80 (.agg (Vd b))),(6,.iface 80 (.agg (Vd b))),(0,vP l 0),(1,vP c 0),(2,vP f 0)] (.iface 80 (.agg (Vd b))) (.panicking [{v:= .iface 80 (.agg (Vd b)),recovered:=true}]) rfl kr ?_;refine aS 2 [(8,vB true)] ?_;refine aU rfl ?_;have g:=g.f2.t;refine aE (tR true kr ?_ (fun h=>Bool.noConfusion h));intro _;refine aS 5 [(12,.agg (Vd b)),(13,vB true)] ?_;refine eQ 4 80 (.agg #[vI 0,vI 0]) g fun F a9 g=> ?_;refine cG (.agg (Vd b)) g fun b0 g=> ?_;refine aF 1 [(5,vB true)] (aG (aD 2 [(15,vB false)] (tR false kr (fun h=>Bool.noConfusion h) ?_)));intro _;refine aM (aE (iF [(8,fun w'=>Inv D w'/\Piece.holds D w' (kB F (Vd b) 80)/\True)] kr g fun b6 _ g=> ?_));have a:=D.le_refl;refine⟨⟨.inr ⟨Inv.anti g.inv a,Piece.holds_anti g.h a,trivial⟩,trivial⟩,?_⟩
  refine aR 0 17 (.agg #[vT eB,v1,vb]) (.head _) (aR 1 18 (vP F 0) (.head _) (eR 3 18 2 19 0 (vI b.1) (.head _) (fun _ h=>h.2.1) (aR 3 20 (vP F 1) (.head _) (eR 31 20 4 21 1 (vI b.2) (.head _) (fun _ h=>h.2.1) (cH 5 kr (wG 29 0 17 (.agg #[vT eB,v1,vb]) g.f3 fun b7 g=>(⟨⟨.inr ⟨Inv.anti g.inv a,Piece.holds_anti g.t.h a,trivial⟩,trivial⟩,?_⟩)))))));refine cH 6 kr (wG 3 1 19 (vI b.1) g.f3 fun b8 g=>(⟨⟨.inr ⟨Inv.anti g.inv a,Piece.holds_anti g.t.t.h a,trivial⟩,trivial⟩,?_⟩));refine cH 7 kr (wG 31 2 21 (vI b.2) g.f3 fun b9 g=>(⟨⟨.inr ⟨Inv.anti g.inv a,Piece.holds_anti g.t.t.t.h a,trivial⟩,trivial⟩,?_⟩));refine eW kr ?_;obtain rfl:=sI i;refine pR [] [] rfl ResAll.nil (⟨_,rfl,?_⟩);refine⟨[.agg #[vT eB,v1,vb],vI b.1,vI b.2],(ResAll.cons (ResAt.blk (v:= .agg #[vT eB,v1,vb]) (o:=0) kr g.t.t.h kr) (ResAll.cons (ResAt.blk (v:=vI b.1) (o:=0) kr g.t.h kr) (ResAll.cons (ResAt.blk (v:=vI b.2) (o:=0) kr g.h kr) ResAll.nil))),?_⟩;have g:=(g.nilroom 9 1).nilroom 43 4;exact⟨none,0,none,0,D,rfl,q.t S,g.f2.t.f2.t.f2.t.f2.t.f1,(RepS.nil _ _),(RepS.nil _ _)⟩
 refine cG (.agg (V6 H.2 x z y B)) g.f7 fun a g=> ?_;refine cG (vI 0) g.f6 fun F g=> ?_;refine cG (vI 0) g.f6 fun a9 g=> ?_;refine aU rfl ?_;have g:=g.f7.t;refine aE (aL (qTl [.cell 2 29,.cell 3 3,.cell 4 31] rfl (YR func39 kr) (XI .returning func39 rfl ntmps39 [(0,vP l 0),(1,vP c 0),(2,vP f 0)] kr rfl (d:=6) kr kr [(3,.nilIface),(6,.nilIface),(0,vP l 0),(1,vP c 0),(2,vP f 0)] (.nilIface) .returning rfl kr (aD 2 [(8,vB false)] (tR false kr (fun h=>Bool.noConfusion h) ?_)))));intro _;refine aM ?_;cases i;refine pR [] [] rfl ResAll.nil (⟨_,rfl,?_⟩);refine⟨[.agg (V6 H.2 x z y B),vI 0,vI 0],(ResAll.cons (ResAt.blk (v:= .agg (V6 H.2 x z y B)) (o:=0) kr g.t.t.h kr) (ResAll.cons (ResAt.blk (v:=vI 0) (o:=0) kr g.t.h kr) (ResAll.cons (ResAt.blk (v:=vI 0) (o:=0) kr g.h kr) ResAll.nil))),?_⟩;exact⟨x,z,y,B,U,rfl,q.t R,g.t.t.t.f2.t.f2.t.f1.f1,Y,Z⟩
def HA(N:Nat)(p0:BA):Option (nD×Int):=
 (HC N p0).bind fun y1=>if(y1.2.2 !=0)=true then(some (((⟨#[]⟩:BA),([]:T9),([]:Tz)),y1.2.2)) else(if((List.length y1.1.2.2:Int) !=1)=true then(some (((⟨#[]⟩:BA),([]:T9),([]:Tz)),6)) else((qM N y1.1 0).bind fun a=>if(!(a.1.toList==p0.toList))=true then(some (((⟨#[]⟩:BA),([]:T9),([]:Tz)),6)) else(some (y1.1,0))))
theorem qHm{p0:BA}{r:nD×Int}(g:St m (O) w)(i:HA N p0=some r):Calls prog 26 #[vT p0] w fun e w'=>∃f l k n m',e= .returned (.tuple #[.agg (V6 r.1 f l k n),vI r.2])/\m.le m'/\St m' (kR f r.1.2.1 l 9 1::kR k r.1.2.2 n 43 4::O) w'/\P5 m' f l k n r.1.2:=by
 unfold HA at i;have q:=m.le_refl;refine bG func26 rfl ntmps26 ?_;refine aC (eQ 2 29 (.agg #[vT eB,v7,v7]) g fun z B g=>(aF 1 [] (aC (aA 1 [(7,vT p0)] (aK 8 i (qHn g) ?_)))));rintro y1 i _ D ⟨c,d,a,b,p,rfl,y,g,u,v⟩;have q:=q.t y;refine aA 4 [(9,.agg (V6 y1.1 c d a b)),(11,vI y1.2.2)] (cG (.agg (V6 y1.1 c d a b)) g.f2 fun E g=>(aF 1 [(3,vI y1.2.2)] (aG (aD 2 [(13,vB (y1.2.2 !=0))] (aI i ?_ ?_)))))
 .intro A i;refine aS 2 [(14,.agg #[vT eB,v1,vb]),(15,vI y1.2.2)] ?_;refine cG (.agg #[vT eB,v1,vb]) g fun o g=> ?_;refine aA 1 [(3,vI y1.2.2)] (aU rfl ?_);have g:=g.f1.t.f1.t;refine aE (aL (aQ ?_));cases i;refine lP 2 29 [3] [vI y1.2.2] g.h ?_;have g:=(g.nilroom 9 1).nilroom 43 4;exact⟨none,0,none,0,p,rfl,q,g.f2.t.f1,(RepS.nil _ _),(RepS.nil _ _)⟩
 intro A i;refine aM (aE (aG (aC (bW 1 17 27 16 2 (vS a y1.1.2.2 b) g.h (aF 2 [(19,vB ((y1.1.2.2.length:Int) !=1))] (aI i ?_ ?_))))))
 .intro A i;refine aS 1 [(20,.agg #[vT eB,v1,vb])] ?_;refine cG (.agg #[vT eB,v1,vb]) g fun o g=> ?_;refine aA 1 [(3,vI 6)] (aU rfl ?_);have g:=g.f1.t.f1.t;refine aE (aL (aQ ?_));cases i;refine lP 2 29 [3] [vI 6] g.h ?_;have g:=(g.nilroom 9 1).nilroom 43 4;exact⟨none,0,none,0,p,rfl,q,g.f2.t.f1,(RepS.nil _ _),(RepS.nil _ _)⟩
 intro A i;refine aM (aE (aG (aC (bF 22 (.agg (V6 y1.1 c d a b)) g.h (aK 23 i (GV (p0:=y1.1) g u v) ?_)))));rintro x i _ F ⟨s,rfl,o,g⟩;refine aF 5 [(4,vT x.1)] (aC (aF 3 [(28,vB (!(x.1.toList==p0.toList)))] (aI i ?_ ?_)))
 .intro A i;refine aS 1 [(29,.agg #[vT eB,v1,vb])] ?_;refine cG (.agg #[vT eB,v1,vb]) g fun G g=> ?_;refine aA 1 [(3,vI 6)] (aU rfl ?_);have g:=g.f1.t.f1.t;refine aE (aL (aQ ?_));cases i;refine lP 2 29 [3] [vI 6] g.h ?_;have g:=(g.nilroom 9 1).nilroom 43 4;exact⟨none,0,none,0,s,rfl,q.t o,g.f2.t.f1,(RepS.nil _ _),(RepS.nil _ _)⟩
 intro A i;refine aM (aE (aC (bF 30 (.agg (V6 y1.1 c d a b)) g.h (cG (.agg (V6 y1.1 c d a b)) g fun G g=>(aF 1 [(3,vI 0)] (aL ?_))))));cases i;refine lP 2 29 [3] [vI 0] g.h ?_;exact⟨c,d,a,b,s,rfl,q.t o,g.t.f1.f1,u.mono o,v.mono o⟩
def FM(N:Nat)(p0:T9)(p1:T9)(a:Int):Td:=
 if(decide (a<(List.length p0:Int)))=true then((idx p0 a).bind fun x1=>(idx p1 a).bind fun b=>if(!(x1.toList==b.toList))=true then(some (.inr (.inr (false)))) else(some (.inl (IntKind.wrap .i64 (a+1))))) else(some (.inr (.inl ())))
def FU(N:Nat)(p0:T9)(p1:T9):Te:=
 if((List.length p0:Int) !=(List.length p1:Int))=true then(some false) else((aJ (FM N p0 p1) N 0).bind fun a=>(match a with| .inl a=>some true| .inr (z)=>some z))
theorem qFu{p0:T9}{p1:T9}{r:Bool}(g:St m (O) w)(n:RepS aH m a1 c1 p0)(o:RepS aH m a2 c2 p1)(i:FU N p0 p1=some r):Calls prog 41 #[vS a1 p0 c1,vS a2 p1 c2] w fun e w'=>∃m',e= .returned (vB r)/\m.le m'/\St m' (O) w':=by
 unfold FU at i;have q:=m.le_refl;refine bG func41 rfl ntmps41 ?_;refine aD 1 [] (aG ?_);refine aD 5 [(10,vB ((p0.length:Int) !=(p1.length:Int)))] (aI i ?_ ?_)
 .intro A i;refine aD 1 [(4,vB false)] (aL ?_);refine aQ ?_;cases i;exact aO [4] [vB false] ⟨m,rfl,q,g⟩
 intro A i;refine aM (aE (aG (aD 3 [(12,vI (p0.length:Int)),(13,vI 0)] (bD ?_))));have⟨d,i,z⟩:=aZ i;refine cZ (.exit 0) (fun L' w'=>∃(B:Unit),∃l,(.inl B)=d/\L'=[]/\m.le l/\St l (O) w') ?_ ?_
 .rintro _ a ⟨B,l,rfl,rfl,q,g⟩;have i:=z;refine dW (aE (aD 1 [(4,vB true)] (aL ?_)));cases i;exact aO [4] [vB true] ⟨l,rfl,q,g⟩
 intro f;refine cX _ kr (cW (fun k L' w'=>∃(a:Int),∃b,aJ (FM N p0 p1) k a=some d/\L'=[(0,vS a1 p0 c1),(1,vS a2 p1 c2),(12,vI (p0.length:Int)),(13,vI a)]/\m.le b/\St b (O) w'/\RepS aH b a1 c1 p0/\RepS aH b a2 c2 p1) N ⟨0,m,i,rfl,q,g,n,o⟩ ?_);rintro k _ V ⟨a,b,hL,rfl,q,g,n,o⟩;rcases k with _|k
 .exact dV hL
 obtain⟨R,i,p,c⟩:=dX hL;clear hL;unfold FM at i;refine aD 1 [(14,vB (decide (a<(p0.length:Int))))] (aG ?_);refine aI i ?_ ?_
 .intro A i;refine aM (aE (aG (bD (aD 2 [(5,vI a)] (aG (iF [(9,fun w'=>Inv b w'/\True)] kr g fun Y _ g=> ?_))))));have s:=b.le_refl;refine tA g s ?_;refine aR 0 16 (vS a1 p0 c1) (.head _) (aR 1 17 (vI a) (.head _) ?_);have⟨x1,E,i⟩:=aZ i;refine qA (t:=26) (e:=9) (x:=(.tmp 16)) (y:=(.tmp 17)) 2 18 aH kr rfl kr (.head _) (bY (eV (bY (bY (eV (bY mN)))))) (ev (vS a1 p0 c1)) (ev (vI a)) kr n E ?_;rintro S G K rfl u;refine lU 9 18 3 19 G (vT x1) (.head _) (fun _ h=>h.1) u (aR 4 20 (vS a2 p1 c2) (.head _) (aR 5 21 (vI a) (.head _) ?_));have⟨D,F,i⟩:=aZ i;refine qA (t:=26) (e:=9) (x:=(.tmp 20)) (y:=(.tmp 21)) 6 22 aH kr rfl kr (.head _) (bY (eV (bY (bY (eV (bY mN)))))) (ev (vS a2 p1 c2)) (ev (vI a)) kr o F ?_;rintro U H M rfl v;refine lU 9 22 7 23 H (vT D) (.head _) (fun _ h=>h.1) v (aR 8 24 (vB (!(x1.toList==D.toList))) (.head _) (eW kr (aE (aI i ?_ ?_))))
  .intro A i;refine aD 1 [(4,vB false)] (aL ?_);refine bH (aQ ?_);have ho:=c _ (sI i);subst ho;have i:=z;refine aQ (bH (aQ ?_));cases i;exact aO [4] [vB false] ⟨b,rfl,q,g⟩
  intro A i;refine aM (bQ (aE (bC (aA 2 [(13,vI (wr (a+1)))] (aU rfl ?_)))));have hL:=p _ (sI i);exact xE (cT ⟨wr (a+1),b,hL,rfl,q,g,n,o⟩)
 intro A i;refine cQ (bK ?_);have ho:=c _ (sI i);refine bK ?_;exact xE (f _ _ ⟨(),b,ho,rfl,q,g⟩)
def BQ(N:Nat)(p0:Tq)(p1:Tq)(a:Int):Td:=
 if(decide (a<(List.length p0.2.2.2.2:Int)))=true then((idx p0.2.2.2.2 a).bind fun x1=>(idx p1.2.2.2.2 a).bind fun b=>if(x1 !=b)=true then(some (.inr (.inr (false)))) else(some (.inl (IntKind.wrap .i64 (a+1))))) else(some (.inr (.inl ())))
def GB(N:Nat)(p0:Tq)(p1:Tq):Te:=
 (if(p0.1 !=p1.1)=true then(some true) else(if(p0.2.1 !=p1.2.1)=true then(some true) else(if(p0.2.2.1 !=p1.2.2.1)=true then(some true) else(if(!(p0.2.2.2.1.toList==p1.2.2.2.1.toList))=true then(some true) else(some ((List.length p0.2.2.2.2:Int) !=(List.length p1.2.2.2.2:Int)))))):Te).bind fun a=>if a=true then(some false) else((aJ (BQ N p0 p1) N 0).bind fun a=>(match a with| .inl o2=>some true| .inr (z)=>some z))
theorem qGb{p0:Tq}{p1:Tq}{r:Bool}(g:St m (O) w)(d:RepS (aT .i64) m a1 c1 p0.2.2.2.2)(f:RepS (aT .i64) m a2 c2 p1.2.2.2.2)(i:GB N p0 p1=some r):Calls prog 75 #[.agg (V8 p0 a1 c1),.agg (V8 p1 a2 c2)] w fun e w'=>∃m',e= .returned (vB r)/\m.le m'/\St m' (O) w':=by
 unfold GB at i;have q:=m.le_refl;refine bG func75 rfl ntmps75 ?_;refine aC (mJ 2 61 (.agg (V8 p0 a1 c1)) g fun k m1 w1 E g a=>(mJ 3 61 (.agg (V8 p1 a2 c2)) g fun n s w2 z g b=> ?_));have q:=(q.t E).t z;have d:=(d.mono E).mono z;have f:=(f.mono E).mono z;have a:=a.mono z;refine aF 1 [] (aG (aC (eM 35 i (fun H L' w'=>∃o,L'=[(2,vP k 0),(3,vP n 0),(40,vB H)]/\m.le o/\St o (O) w'/\MRow o k 0 (V9 p0 a1 c1)/\RepS (aT .i64) o a1 c1 p0.2.2.2.2/\MRow o n 0 (V9 p1 a2 c2)/\RepS (aT .i64) o a2 c2 p1.2.2.2.2) ?_ ?_)))
 .rintro H i _ w3 ⟨o,rfl,q,g,a,d,b,f⟩;refine aN (aI i ?_ ?_)
  .intro A i;refine aD 1 [(4,vB false)] (aL ?_);refine aQ ?_;cases i;exact aO [4] [vB false] ⟨o,rfl,q,g⟩
  intro A i;refine aM (aE (aG (aS 1 [(41,vP k 4)] (cI 42 (vS a1 p0.2.2.2.2 c1) g (a.drop 4) (aF 2 [(43,vI (p0.2.2.2.2.length:Int)),(44,vI 0)] (bD ?_))))));have⟨u,i,S⟩:=aZ i;refine cZ (.exit 0) (fun L' w'=>∃(o2:Unit),∃D,(.inl o2)=u/\L'=[]/\m.le D/\St D (O) w') ?_ ?_
  .rintro _ c ⟨o2,D,rfl,rfl,q,g⟩;have i:=S;refine dW (aE (aD 1 [(4,vB true)] (aL ?_)));cases i;exact aO [4] [vB true] ⟨D,rfl,q,g⟩
  intro v;refine cX _ kr (cW (fun B L' w'=>∃(l:Int),∃c,aJ (BQ N p0 p1) B l=some u/\L'=[(2,vP k 0),(3,vP n 0),(43,vI (p0.2.2.2.2.length:Int)),(44,vI l)]/\m.le c/\St c (O) w'/\MRow c k 0 (V9 p0 a1 c1)/\RepS (aT .i64) c a1 c1 p0.2.2.2.2/\MRow c n 0 (V9 p1 a2 c2)/\RepS (aT .i64) c a2 c2 p1.2.2.2.2) N ⟨0,o,i,rfl,q,g,a,d,b,f⟩ ?_);rintro B _ w5 ⟨l,c,hL,rfl,q,g,a,d,b,f⟩;rcases B with _|B
  .exact dV hL
  obtain⟨a7,i,F,p⟩:=dX hL;clear hL;unfold BQ at i;refine aD 1 [(45,vB (decide (l<(p0.2.2.2.2.length:Int))))] (aG ?_);refine aI i ?_ ?_
  .intro A i;refine aM (aE (aG (bD (aD 2 [(5,vI l)] (aG (iF [(11,fun w'=>Inv c w'/\True)] kr g fun w6 _ g=> ?_))))));have G:=c.le_refl;refine tA g G ?_;refine aR 0 47 (vP k 4) (.head _) (lU 22 47 1 48 4 (vS a1 p0.2.2.2.2 c1) (.head _) (fun _ h=>h.1) (a.drop 4) (aR 2 49 (vI l) (.head _) ?_));have⟨x1,V,i⟩:=aZ i;refine qA (t:=22) (e:=3) (x:=(.tmp 48)) (y:=(.tmp 49)) 3 50 (aT .i64) kr rfl kr (.head _) (bY (eV (bY (bY (eV (bY mN)))))) (ev (vS a1 p0.2.2.2.2 c1)) (ev (vI l)) kr d V ?_;rintro b3 Z a5 rfl M;refine lU 3 50 4 51 Z (vI x1) (.head _) (fun _ h=>h.1) M (aR 5 52 (vP n 4) (.head _) (lU 22 52 6 53 4 (vS a2 p1.2.2.2.2 c2) (.head _) (fun _ h=>h.1) (b.drop 4) (aR 7 54 (vI l) (.head _) ?_)));have⟨U,Y,i⟩:=aZ i;refine qA (t:=22) (e:=3) (x:=(.tmp 53)) (y:=(.tmp 54)) 8 55 (aT .i64) kr rfl kr (.head _) (bY (eV (bY (bY (eV (bY mN)))))) (ev (vS a2 p1.2.2.2.2 c2)) (ev (vI l)) kr f Y ?_;rintro b4 f2 a6 rfl R;refine lU 3 55 9 56 f2 (vI U) (.head _) (fun _ h=>h.1) R (aR 10 57 (vB (x1 !=U)) (.head _) (eW kr (aE (aI i ?_ ?_))))
   .intro A i;refine aD 1 [(4,vB false)] (aL ?_);refine bH (aQ ?_);have ho:=p _ (sI i);subst ho;have i:=S;refine aQ (bH (aQ ?_));cases i;exact aO [4] [vB false] ⟨c,rfl,q,g⟩
   intro A i;refine aM (bQ (aE (bC (aA 2 [(44,vI (wr (l+1)))] (aU rfl ?_)))));have hL:=F _ (sI i);exact xE (cT ⟨wr (l+1),c,hL,rfl,q,g,a,d,b,f⟩)
  intro A i;refine cQ (bK ?_);have ho:=p _ (sI i);refine bK ?_;exact xE (v _ _ ⟨(),c,ho,rfl,q,g⟩)
 intro H i K;refine aA 1 [(6,vP k 0)] (cI 7 (vI p0.1) g a (aA 1 [(8,vP n 0)] (cI 9 (vI p1.1) g b (aA 2 [(11,vB (p0.1 !=p1.1))] (bN 11 i ?_ ?_)))))
 .intro A i;refine aA 29 [(40,vB true)] ?_;cases i;exact aY _ kr (K _ _ ⟨s,rfl,q,g,a,d,b,f⟩)
 intro A i;refine aA 1 [(12,vP k 1)] (cI 13 (vI p0.2.1) g (a.drop 1) (aA 1 [(14,vP n 1)] (cI 15 (vI p1.2.1) g (b.drop 1) (aA 3 [(18,vB (p0.2.1 !=p1.2.1))] (bN 18 i ?_ ?_)))))
 .intro A i;refine aA 22 [(40,vB true)] ?_;cases i;exact aY _ kr (K _ _ ⟨s,rfl,q,g,a,d,b,f⟩)
 intro A i;refine aA 1 [(19,vP k 2)] (cI 20 (vI p0.2.2.1) g (a.drop 2) (aA 1 [(21,vP n 2)] (cI 22 (vI p1.2.2.1) g (b.drop 2) (aA 3 [(25,vB (p0.2.2.1 !=p1.2.2.1))] (bN 25 i ?_ ?_)))))
 .intro A i;refine aA 15 [(40,vB true)] ?_;cases i;exact aY _ kr (K _ _ ⟨s,rfl,q,g,a,d,b,f⟩)
 intro A i;refine aA 1 [(26,vP k 3)] (cI 27 (vT p0.2.2.2.1) g (a.drop 3) (aA 1 [(28,vP n 3)] (cI 29 (vT p1.2.2.2.1) g (b.drop 3) (aA 3 [(32,vB (!(p0.2.2.2.1.toList==p1.2.2.2.1.toList)))] (bN 32 i ?_ ?_)))))
 .intro A i;refine aA 8 [(40,vB true)] ?_;cases i;exact aY _ kr (K _ _ ⟨s,rfl,q,g,a,d,b,f⟩)
 intro A i;refine aA 1 [(33,vP k 4)] (cI 34 (vS a1 p0.2.2.2.2 c1) g (a.drop 4) (aA 2 [(35,vI (p0.2.2.2.2.length:Int)),(36,vP n 4)] (cI 37 (vS a2 p1.2.2.2.2 c2) g (b.drop 4) (aA 3 [(40,vB ((p0.2.2.2.2.length:Int) !=(p1.2.2.2.2.length:Int)))] ?_))));cases i;exact aY _ kr (K _ _ ⟨s,rfl,q,g,a,d,b,f⟩)
def BR(N:Nat)(p0:Ty)(p1:Ty)(a:Int):Td:=
 if(decide (a<(List.length p0.2.2.2:Int)))=true then((idx p0.2.2.2 a).bind fun x1=>(idx p1.2.2.2 a).bind fun b=>(GB N x1 b).bind fun b=>if(!b)=true then(some (.inr (.inr (false)))) else(some (.inl (IntKind.wrap .i64 (a+1))))) else(some (.inr (.inl ())))
def BV(N:Nat)(p0:Ty)(p1:Ty):Te:=
 (if(p0.1 !=p1.1)=true then(some true) else(if(!(p0.2.1.toList==p1.2.1.toList))=true then(some true) else((FU N p0.2.2.1 p1.2.2.1).bind fun y1=>if(!y1)=true then(some true) else(some ((List.length p0.2.2.2:Int) !=(List.length p1.2.2.2:Int))))):Te).bind fun a=>if a=true then(some false) else((aJ (BR N p0 p1) N 0).bind fun a=>(match a with| .inl o2=>some true| .inr (z)=>some z))
theorem qFz{p0:Ty}{p1:Ty}{r:Bool}(g:St m (O) w)(d:RepS aH m a1 c1 p0.2.2.1)(f:RepS C3 m a2 c2 p0.2.2.2)(k:RepS aH m a3 c3 p1.2.2.1)(l:RepS C3 m a4 c4 p1.2.2.2)(i:BV N p0 p1=some r):Calls prog 27 #[.agg (V7 p0 a1 c1 a2 c2),.agg (V7 p1 a3 c3 a4 c4)] w fun e w'=>∃m',e= .returned (vB r)/\m.le m'/\St m' (O) w':=by
 unfold BV at i;have q:=m.le_refl;refine bG func27 rfl ntmps27 ?_;refine aC (mJ 2 43 (.agg (V7 p0 a1 c1 a2 c2)) g fun o m1 w1 B g a=>(mJ 3 43 (.agg (V7 p1 a3 c3 a4 c4)) g fun s Y w2 z g b=> ?_));have q:=(q.t B).t z;have d:=(d.mono B).mono z;have f:=(f.mono B).mono z;have k:=(k.mono B).mono z;have l:=(l.mono B).mono z;have a:=a.mono z;refine aF 1 [] (aG (aC (eM 29 i (fun R L' w'=>∃p,L'=[(2,vP o 0),(3,vP s 0),(34,vB R)]/\m.le p/\St p (O) w'/\MRow p o 0 (Va p0 a1 c1 a2 c2)/\RepS aH p a1 c1 p0.2.2.1/\RepS C3 p a2 c2 p0.2.2.2/\MRow p s 0 (Va p1 a3 c3 a4 c4)/\P2 p a3 c3 a4 c4 p1.2.2) ?_ ?_)))
 .rintro R i _ w3 ⟨p,rfl,q,g,a,d,f,b,k,l⟩;refine aN (aI i ?_ ?_)
  .intro A i;refine aD 1 [(4,vB false)] (aL ?_);refine aQ ?_;cases i;exact aO [4] [vB false] ⟨p,rfl,q,g⟩
  intro A i;refine aM (aE (aG (aS 1 [(35,vP o 3)] (cI 36 (vS a2 p0.2.2.2 c2) g (a.drop 3) (aF 2 [(37,vI (p0.2.2.2.length:Int)),(38,vI 0)] (bD ?_))))));have⟨E,i,V⟩:=aZ i;refine cZ (.exit 0) (fun L' w'=>∃(o2:Unit),∃H,(.inl o2)=E/\L'=[]/\m.le H/\St H (O) w') ?_ ?_
  .rintro _ c ⟨o2,H,rfl,rfl,q,g⟩;have i:=V;refine dW (aE (aD 1 [(4,vB true)] (aL ?_)));cases i;exact aO [4] [vB true] ⟨H,rfl,q,g⟩
  intro F;refine cX _ kr (cW (fun G L' w'=>∃(n:Int),∃c,aJ (BR N p0 p1) G n=some E/\L'=[(2,vP o 0),(3,vP s 0),(37,vI (p0.2.2.2.length:Int)),(38,vI n)]/\m.le c/\St c (O) w'/\MRow c o 0 (Va p0 a1 c1 a2 c2)/\RepS aH c a1 c1 p0.2.2.1/\RepS C3 c a2 c2 p0.2.2.2/\MRow c s 0 (Va p1 a3 c3 a4 c4)/\P2 c a3 c3 a4 c4 p1.2.2) N ⟨0,p,i,rfl,q,g,a,d,f,b,k,l⟩ ?_);rintro G _ w6 ⟨n,c,hL,rfl,q,g,a,d,f,b,k,l⟩;rcases G with _|G
  .exact dV hL
  obtain⟨a9,i,M,D⟩:=dX hL;clear hL;unfold BR at i;refine aD 1 [(39,vB (decide (n<(p0.2.2.2.length:Int))))] (aG ?_);refine aI i ?_ ?_
  .intro A i;refine aM (aE (aG (bD (aD 2 [(5,vI n)] (aG (iF [(12,fun w'=>Inv c w'/\True)] kr g fun w7 _ g=> ?_))))));have v:=c.le_refl;refine tA g v ?_;refine aR 0 41 (vP o 3) (.head _) (lU 41 41 1 42 3 (vS a2 p0.2.2.2 c2) (.head _) (fun _ h=>h.1) (a.drop 3) (aR 2 43 (vI n) (.head _) ?_));have⟨x1,d2,i⟩:=aZ i;refine qA (t:=41) (e:=61) (x:=(.tmp 42)) (y:=(.tmp 43)) 3 44 C3 kr rfl kr (.head _) (bY (eV (bY (bY (eV (bY mN)))))) (ev (vS a2 p0.2.2.2 c2)) (ev (vI n)) kr f d2 ?_;rintro b3 f1 a7 ⟨_,_,rfl,rfl,⟨_,_,rfl,rfl,⟨_,_,rfl,rfl,⟨_,_,rfl,rfl,⟨a5,c5,rfl,r5⟩⟩⟩⟩⟩ S;refine lU 61 44 4 45 f1 (.agg (V8 x1 a5 c5)) (.head _) (fun _ h=>h.1) S (aR 5 46 (vP s 3) (.head _) (lU 41 46 6 47 3 (vS a4 p1.2.2.2 c4) (.head _) (fun _ h=>h.1) (b.drop 3) (aR 7 48 (vI n) (.head _) ?_)));have⟨x2,d3,i⟩:=aZ i;refine qA (t:=41) (e:=61) (x:=(.tmp 47)) (y:=(.tmp 48)) 8 49 C3 kr rfl kr (.head _) (bY (eV (bY (bY (eV (bY mN)))))) (ev (vS a4 p1.2.2.2 c4)) (ev (vI n)) kr l d3 ?_;rintro b4 f2 a8 ⟨_,_,rfl,rfl,⟨_,_,rfl,rfl,⟨_,_,rfl,rfl,⟨_,_,rfl,rfl,⟨a6,c6,rfl,r6⟩⟩⟩⟩⟩ U;refine lU 61 49 9 50 f2 (.agg (V8 x2 a6 c6)) (.head _) (fun _ h=>h.1) U (cH 10 kr (mW 51 i (fun _ h=>qGb (p0:=x1) (p1:=x2) g r5 r6 h) ?_));rintro y2 i _ w8 ⟨Z,rfl,u,g⟩;refine⟨_,rfl,?_⟩
   have v:=Mem.le_trans v u;refine tA g v ?_;refine aR 11 52 (vB (!y2)) (.head _) (eW kr (aE (aI i ?_ ?_)))
   .intro A i;refine aD 1 [(4,vB false)] (aL ?_);refine bH (aQ ?_);have ho:=D _ (sI i);subst ho;have i:=V;refine aQ (bH (aQ ?_));cases i;exact aO [4] [vB false] ⟨Z,rfl,q.t u,g⟩
   intro A i;refine aM (bQ (aE (bC (aA 2 [(38,vI (wr (n+1)))] (aU rfl ?_)))));have hL:=M _ (sI i);exact xE (cT ⟨wr (n+1),Z,hL,rfl,q.t u,g,a.mono u,d.mono u,f.mono u,b.mono u,k.mono u,l.mono u⟩)
  intro A i;refine cQ (bK ?_);have ho:=D _ (sI i);refine bK ?_;exact xE (F _ _ ⟨(),c,ho,rfl,q,g⟩)
 intro R i K;refine aA 1 [(6,vP o 0)] (cI 7 (vI p0.1) g a (aA 1 [(8,vP s 0)] (cI 9 (vI p1.1) g b (aA 2 [(11,vB (p0.1 !=p1.1))] (bN 11 i ?_ ?_)))))
 .intro A i;refine aA 23 [(34,vB true)] ?_;cases i;exact aY _ kr (K _ _ ⟨Y,rfl,q,g,a,d,f,b,k,l⟩)
 intro A i;refine aA 1 [(12,vP o 1)] (cI 13 (vT p0.2.1) g (a.drop 1) (aA 1 [(14,vP s 1)] (cI 15 (vT p1.2.1) g (b.drop 1) (aA 3 [(18,vB (!(p0.2.1.toList==p1.2.1.toList)))] (bN 18 i ?_ ?_)))))
 .intro A i;refine aA 16 [(34,vB true)] ?_;cases i;exact aY _ kr (K _ _ ⟨Y,rfl,q,g,a,d,f,b,k,l⟩)
 intro A i;refine aA 1 [(19,vP o 2)] (cI 20 (vS a1 p0.2.2.1 c1) g (a.drop 2) (aA 1 [(21,vP s 2)] (cI 22 (vS a3 p1.2.2.1 c3) g (b.drop 2) (aK 23 i (qFu g d k) ?_))));rintro y1 i _ u ⟨n,rfl,c,g⟩;have a:=a.mono c;have b:=b.mono c;refine aA 3 [(26,vB (!y1))] (bN 26 i ?_ ?_)
 .intro A i;refine aA 8 [(34,vB true)] ?_;cases i;exact aY _ kr (K _ _ ⟨n,rfl,q.t c,g,a,d.mono c,f.mono c,b,k.mono c,l.mono c⟩)
 intro A i;refine aA 1 [(27,vP o 3)] (cI 28 (vS a2 p0.2.2.2 c2) g (a.drop 3) (aA 2 [(29,vI (p0.2.2.2.length:Int)),(30,vP s 3)] (cI 31 (vS a4 p1.2.2.2 c4) g (b.drop 3) (aA 3 [(34,vB ((p0.2.2.2.length:Int) !=(p1.2.2.2.length:Int)))] ?_))));cases i;exact aY _ kr (K _ _ ⟨n,rfl,q.t c,g,a,d.mono c,f.mono c,b,k.mono c,l.mono c⟩)
def BM(N:Nat)(y1:Tb)(a:Tj):Option (Tj⊕T8):=
 if(decide (a.2<(ByteArray.size y1.2:Int)))=true then(((eU y1.2 a.2).bind fun x1=>if((x1.toNat:Int)==59)=true then(some true) else((eU y1.2 a.2).bind fun b=>some ((b.toNat:Int)==40)):Te).bind fun b=>(if b=true then((cA a.1 (⟨#[32,35,32,120,10,32]⟩:BA)).bind fun b=>some b) else(some a.1):Tf).bind fun o4=>(mY y1.2 a.2 (IntKind.wrap .i64 (a.2+1))).bind fun b=>(cA o4 b).bind fun b=>some (.inl (b,IntKind.wrap .i64 (a.2+1)))) else(some (.inr a.1))
def FJ(N:Nat)(p0:T6)(p1:Int):Te:=
 (GQ N (p0,0) (⟨#[112]⟩:BA)).bind fun y1=>(xH N y1.2).bind fun a=>(if(a.2.2 !=0)=true then(some true) else(some ((List.length a.1.2.2:Int)==0)):Te).bind fun b=>if b=true then((CF N).bind fun b=>some b) else((aJ (BM N y1) N ((⟨#[]⟩:BA),0)).bind fun o2=>(xH N o2).bind fun d=>(CN N p1 (List.length a.1.2.2:Int)).bind fun y5=>(qM N a.1 y5).bind fun b=>(qM N d.1 y5).bind fun e=>(HA N b.1).bind fun c=>(if(d.2.2 !=0)=true then(some true) else(if(b.2 !=0)=true then(some true) else(if(e.2 !=0)=true then(some true) else(if(c.2 !=0)=true then(some true) else(if(!(b.1.toList==e.1.toList))=true then(some true) else(some ((List.length c.1.2.2:Int) !=1)))))):Te).bind fun d=>if d=true then(some false) else((qM N c.1 0).bind fun d=>(if(d.2==0)=true then(if(d.1.toList==b.1.toList)=true then((idx c.1.2.2 0).bind fun b=>(idx a.1.2.2 y5).bind fun a=>(BV N b a).bind fun a=>if a=true then((CF N).bind fun a=>some a) else(some false)) else(some false)) else(some false):Te).bind fun a=>some a))
theorem qFf{p0:T6}{p1:Int}{r:Bool}(g:St m (O) w)(r1:RepS (aT .i64) m a1 c1 p0)(i:FJ N p0 p1=some r):Calls prog 6 #[vS a1 p0 c1,vI p1] w fun e w'=>∃m',e= .returned (vB r)/\m.le m'/\St m' (O) w':=by
 unfold FJ at i;have q:=m.le_refl;refine bG func6 rfl ntmps6 ?_;refine aD 1 [] (aC ?_);refine aA 2 [(22,.agg #[vS a1 p0 c1,vI 0])] (bA rfl (yA 23 25 22 (.agg #[vS a1 p0 c1,vI 0]) g fun b1 w1 g=>(aF 1 [(5,vP b1 0)] (aC (aA 1 [(24,vP b1 0)] (aK 25 i (qGj (p0:=(p0,0)) g r1) ?_))))));rintro y1 i _ w2 ⟨S,U,m2,rfl,e2,g,k⟩;refine aF 1 [(6,vT y1.2)] (aC (aA 1 [(27,vT y1.2)] (aK 28 i (NX g) ?_)));rintro a i _ w3 ⟨p,s,l,n,m3,rfl,e3,g,f,c⟩;refine aA 4 [(29,.agg (V6 a.1 p s l n)),(30,vI a.2.1),(31,vI a.2.2)] (eQ 7 29 (.agg #[vT eB,v7,v7]) g fun H w4 g=>(cG (.agg (V6 a.1 p s l n)) g fun w5 g=>(aF 2 [(9,vI a.2.2)] (aG (aC ?_)))));have⟨o1,i,J⟩:=aZ i;refine wJ (j:=8) (fun L' w'=>∃m4,L'=[(1,vI p1),(6,vT y1.2),(7,vP H 0),(39,vB o1)]/\m.le m4/\St m4 (kB H (V6 a.1 p s l n) 29::kB b1 (V1 y1.1 S U) 25::kR p a.1.2.1 s 9 1::kR l a.1.2.2 n 43 4::O) w'/\RepS aH m4 p s a.1.2.1/\RepS C4 m4 l n a.1.2.2/\RepS (aT .i64) m4 S U y1.1.1) ?_ ?_
 .have i:=J;rintro _ w6 ⟨m4,rfl,q,g,f,c,k⟩;refine aN (aI i ?_ ?_)
  .intro A i;refine aC (aK 40 i (UH g) ?_);rintro o i _ z ⟨v,rfl,u,g⟩;refine aF 1 [(4,vB o)] (aL (aQ ?_));obtain rfl:=sI i;exact aO [4] [vB o] ⟨v,rfl,q.t u,g.t.t.t.t⟩
  intro A i;refine aM (aE (aD 1 [(10,vT eB)] (aG (aD 1 [(11,vI 0)] (bD (cJ (.exit 0) i (fun b9 L' w'=>∃(o2:BA),∃m6,o2=b9/\L'=[(1,vI p1),(7,vP H 0),(10,vT o2)]/\m.le m6/\St m6 (kB H (V6 a.1 p s l n) 29::kB b1 (V1 y1.1 S U) 25::kR p a.1.2.1 s 9 1::kR l a.1.2.2 n 43 4::O) w'/\RepS aH m6 p s a.1.2.1/\RepS C4 m6 l n a.1.2.2/\RepS (aT .i64) m6 S U y1.1.1) ?_ ?_))))))
  .rintro b9 i _ w8 ⟨o2,m6,rfl,rfl,q,g,f,c,k⟩;refine dW (aE (aS 1 [(67,vT o2)] (aK 68 i (NX g) ?_)));rintro D i _ g8 ⟨a5,c5,a6,c6,g4,rfl,e5,g,v,z⟩;refine aA 4 [(69,.agg (V6 D.1 a5 c5 a6 c6)),(70,vI D.2.1),(71,vI D.2.2)] (eQ 12 29 (.agg #[vT eB,v7,v7]) g fun b3 g9 g=>(cG (.agg (V6 D.1 a5 c5 a6 c6)) g fun h0 g=>(aF 2 [(9,vI D.2.2)] (aC (aA 2 [(72,vI p1),(73,vP H 2)] (bF 74 (vS l a.1.2.2 n) g.t.t.t.h (aA 1 [(75,vI (a.1.2.2.length:Int))] (aK 76 i (UO g) ?_))))))));rintro y5 i _ h1 ⟨g5,rfl,e6,g⟩;refine aF 1 [(1,vI y5)] (aC (bF 78 (.agg (V6 a.1 p s l n)) g.t.t.t.h (aA 1 [(79,vI y5)] (aK 80 i (GV (p0:=a.1) g ((f.mono e5).mono e6) ((c.mono e5).mono e6)) ?_))));rintro y6 i _ h2 ⟨g6,rfl,e7,g⟩;refine aF 5 [(14,vT y6.1),(15,vI y6.2)] (aC (bF 84 (.agg (V6 D.1 a5 c5 a6 c6)) g.h (aA 1 [(85,vI y5)] (aK 86 i (GV (p0:=D.1) g ((v.mono e6).mono e7) ((z.mono e6).mono e7)) ?_))));rintro y7 i _ h3 ⟨g7,rfl,e8,g⟩;refine aF 5 [(16,vT y7.1),(17,vI y7.2)] (aC (aA 1 [(90,vT y6.1)] (aK 91 i (qHm g) ?_)));rintro u i _ h4 ⟨a7,c7,Y,Z,b7,rfl,e9,g,G,B⟩;have q:=((((q.t e5).t e6).t e7).t e8).t e9;have v:=(((v.mono e6).mono e7).mono e8).mono e9;have z:=(((z.mono e6).mono e7).mono e8).mono e9;have f:=((((f.mono e5).mono e6).mono e7).mono e8).mono e9
   have c:=((((c.mono e5).mono e6).mono e7).mono e8).mono e9;have k:=((((k.mono e5).mono e6).mono e7).mono e8).mono e9;refine aA 3 [(92,.agg (V6 u.1 a7 c7 Y Z)),(93,vI u.2)] (eQ 18 29 (.agg #[vT eB,v7,v7]) g fun b4 h5 g=>(cG (.agg (V6 u.1 a7 c7 Y Z)) g fun h6 g=>(aF 1 [(19,vI u.2)] (aG (aC ?_)))));have⟨o5,i,J⟩:=aZ i;refine wJ (j:=25) (fun L' w'=>∃E,L'=[(1,vI y5),(7,vP H 0),(14,vT y6.1),(18,vP b4 0),(118,vB o5)]/\m.le E/\St E (kB b4 (V6 u.1 a7 c7 Y Z) 29::kB b3 (V6 D.1 a5 c5 a6 c6) 29::kB H (V6 a.1 p s l n) 29::kB b1 (V1 y1.1 S U) 25::kR a7 u.1.2.1 c7 9 1::kR Y u.1.2.2 Z 43 4::kR a5 D.1.2.1 c5 9 1::kR a6 D.1.2.2 c6 43 4::kR p a.1.2.1 s 9 1::kR l a.1.2.2 n 43 4::O) w'/\RepS aH E a7 c7 u.1.2.1/\RepS C4 E Y Z u.1.2.2/\RepS aH E a5 c5 D.1.2.1/\RepS C4 E a6 c6 D.1.2.2/\RepS aH E p s a.1.2.1/\RepS C4 E l n a.1.2.2/\RepS (aT .i64) E S U y1.1.1) ?_ ?_
   .have i:=J;rintro _ h7 ⟨E,rfl,q,g,G,B,v,z,f,c,k⟩;refine aN (aI i ?_ ?_)
    .intro A i;refine aD 1 [(4,vB false)] (aL ?_);refine aQ ?_;cases i;exact aO [4] [vB false] ⟨E,rfl,q,g.t.t.t.t.t.t.t.t.t.t⟩
    intro A i;refine aM (aE (aC (bF 120 (.agg (V6 u.1 a7 c7 Y Z)) g.h (aK 121 i (GV (p0:=u.1) g G B) ?_))));rintro R i _ h8 ⟨b8,rfl,b0,g⟩;have q:=q.t b0;have G:=G.mono b0;have B:=B.mono b0;have v:=v.mono b0;have z:=z.mono b0;have f:=f.mono b0;have c:=c.mono b0;have k:=k.mono b0;refine aF 5 [(20,vT R.1),(15,vI R.2)] (aG (cJ .normal i (fun o6 L' w'=>∃F,L'=[(4,vB o6)]/\m.le F/\St F (kB b4 (V6 u.1 a7 c7 Y Z) 29::kB b3 (V6 D.1 a5 c5 a6 c6) 29::kB H (V6 a.1 p s l n) 29::kB b1 (V1 y1.1 S U) 25::kR a7 u.1.2.1 c7 9 1::kR Y u.1.2.2 Z 43 4::kR a5 D.1.2.1 c5 9 1::kR a6 D.1.2.2 c6 43 4::kR p a.1.2.1 s 9 1::kR l a.1.2.2 n 43 4::O) w'/\RepS aH F a7 c7 u.1.2.1/\RepS C4 F Y Z u.1.2.2/\RepS aH F a5 c5 D.1.2.1/\RepS C4 F a6 c6 D.1.2.2/\RepS aH F p s a.1.2.1/\RepS C4 F l n a.1.2.2/\RepS (aT .i64) F S U y1.1.1) ?_ ?_))
    .rintro o6 i _ o ⟨F,rfl,q,g,G,B,v,z,f,c,k⟩;refine aE (aL ?_);obtain rfl:=sI i;exact aO [4] [vB o6] ⟨F,rfl,q,g.t.t.t.t.t.t.t.t.t.t⟩
    intro o6 i K;refine iF [(23,fun w'=>Inv b8 w'/\Piece.holds b8 w' (kB b4 (V6 u.1 a7 c7 Y Z) 29)/\Piece.holds b8 w' (kB H (V6 a.1 p s l n) 29)/\True)] kr g fun h9 _ g=> ?_;have o:=b8.le_refl;refine⟨⟨.inr ⟨Inv.anti g.inv o,Piece.holds_anti g.h o,Piece.holds_anti g.t.t.h o,trivial⟩,trivial⟩,?_⟩;refine aR 0 124 (vI R.2) (.head _) (aR 1 125 (vB (R.2==0)) (.head _) (aR 2 126 (vB (R.2==0)) (.head _) ?_));rcases eO (R.2==0) with A|A
    .rw[if_pos A] at i;refine xU (t:=126) (b:=true) (R.2==0) kr A ?_;refine aR 3 127 (vT R.1) (.head _) (aR 4 128 (vT y6.1) (.head _) (aR 5 129 (vB (R.1.toList==y6.1.toList)) (.head _) (aR 6 130 (vB (R.1.toList==y6.1.toList)) (.head _) (aR 7 131 (vB (R.1.toList==y6.1.toList)) (.head _) ?_))));rcases eO (R.1.toList==y6.1.toList) with A|A
     .rw[if_pos A] at i;refine xU (t:=131) (b:=true) (R.1.toList==y6.1.toList) kr A ?_;refine aR 8 132 (vP b4 2) (.head _) (eR 27 132 9 133 2 (vS Y u.1.2.2 Z) (.head _) (fun _ h=>h.2.1) ?_);have⟨x3,d9,i⟩:=aZ i;refine qA (t:=27) (e:=43) (x:=(.tmp 133)) (y:=(.const (vI 0))) 10 134 C4 kr rfl kr (.head _) (bY mN) (ev (vS Y u.1.2.2 Z)) (ev (vI 0)) kr B d9 ?_;rintro b5 f1 g2 ⟨_,_,rfl,rfl,⟨_,_,rfl,rfl,⟨_,_,rfl,⟨a9,c9,rfl,r9⟩,⟨d2,d5,rfl,f8⟩⟩⟩⟩ e1;refine lU 43 134 11 135 f1 (.agg (V7 x3 a9 c9 d2 d5)) (.head _) (fun _ h=>h.1) e1 (aR 12 136 (vP H 2) (.head _) (eR 27 136 13 137 2 (vS l a.1.2.2 n) (.head _) (fun _ h=>h.2.2.1) (aR 14 138 (vI y5) (.head _) ?_)));have⟨x4,e0,i⟩:=aZ i;refine qA (t:=27) (e:=43) (x:=(.tmp 137)) (y:=(.tmp 138)) 15 139 C4 kr rfl kr (.head _) (bY mN) (ev (vS l a.1.2.2 n)) (ev (vI y5)) kr c e0 ?_;rintro b6 f2 g3 ⟨_,_,rfl,rfl,⟨_,_,rfl,rfl,⟨_,_,rfl,⟨d3,d6,rfl,g0⟩,⟨d4,d8,rfl,g1⟩⟩⟩⟩ f0;refine lU 43 139 16 140 f2 (.agg (V7 x4 d3 d6 d4 d8)) (.head _) (fun _ h=>h.1) f0 (cH 17 kr (mW 141 i (fun _ h=>qFz (p0:=x3) (p1:=x4) g r9 f8 g0 g1 h) ?_));rintro d0 i _ k0 ⟨f4,rfl,M,g⟩;refine⟨_,rfl,?_⟩;have B:=B.mono M;have c:=c.mono M;have G:=G.mono M;have v:=v.mono M;have z:=z.mono M;have f:=f.mono M;have k:=k.mono M;have o:=Mem.le_trans o M
      refine⟨⟨.inr ⟨Inv.anti g.inv o,Piece.holds_anti g.h o,Piece.holds_anti g.t.t.h o,trivial⟩,trivial⟩,?_⟩;refine aR 18 142 (vB d0) (.head _) (aR 19 143 (vB d0) (.head _) ?_);rcases eO d0 with A|A
      .rw[if_pos A] at i;refine xU (t:=143) (b:=true) d0 kr A ?_;refine cH 20 kr (mW 144 i (fun _ h=>UH g h) ?_);rintro d1 i _ k2 ⟨f5,rfl,V,g⟩;refine⟨_,rfl,?_⟩;have o:=Mem.le_trans o V;refine⟨⟨.inr ⟨Inv.anti g.inv o,Piece.holds_anti g.h o,Piece.holds_anti g.t.t.h o,trivial⟩,trivial⟩,?_⟩;refine aR 21 145 (vB d1) (.head _) (aR 22 4 (vB d1) (.head _) ?_);cases i;exact eW kr (vA _ kr (K _ _ ⟨f5,rfl,(q.t M).t V,g.f9.f9.f9.f9.f9.f9.f9.f9.f9.f9,G.mono V,B.mono V,v.mono V,z.mono V,f.mono V,c.mono V,k.mono V⟩))
      rw[if_neg (not_true A)] at i;refine xU (t:=143) (b:=false) d0 kr A ?_;refine lQ 20 144 (.head _) (aR 21 145 (vB false) (.head _) (aR 22 4 (vB false) (.head _) ?_));cases i;exact eW kr (vA _ kr (K _ _ ⟨f4,rfl,q.t M,g.f9.f9.f9.f9.f9.f9.f9.f9.f9.f9,G,B,v,z,f,c,k⟩))
     rw[if_neg (not_true A)] at i;refine xU (t:=131) (b:=false) (R.1.toList==y6.1.toList) kr A ?_;refine lQ 8 132 (.head _) (lQ 9 133 (.head _) (lQ 10 134 (.head _) (lQ 11 135 (.head _) (lQ 12 136 (.head _) (lQ 13 137 (.head _) (lQ 14 138 (.head _) (lQ 15 139 (.head _) (lQ 16 140 (.head _) (lQ 17 141 (.head _) (aR 18 142 (vB false) (.head _) (aR 19 143 (vB false) (.head _) (lQ 20 144 (.head _) (aR 21 145 (vB false) (.head _) (aR 22 4 (vB false) (.head _) ?_))))))))))))));cases i;exact eW kr (vA _ kr (K _ _ ⟨b8,rfl,q,g.f9.f9.f9.f9.f9.f9.f9.f9.f9.f9,G,B,v,z,f,c,k⟩))
    rw[if_neg (not_true A)] at i;refine xU (t:=126) (b:=false) (R.2==0) kr A ?_;refine lQ 3 127 (.head _) (lQ 4 128 (.head _) (lQ 5 129 (.head _) (aR 6 130 (vB false) (.head _) (aR 7 131 (vB false) (.head _) (lQ 8 132 (.head _) (lQ 9 133 (.head _) (lQ 10 134 (.head _) (lQ 11 135 (.head _) (lQ 12 136 (.head _) (lQ 13 137 (.head _) (lQ 14 138 (.head _) (lQ 15 139 (.head _) (lQ 16 140 (.head _) (lQ 17 141 (.head _) (aR 18 142 (vB false) (.head _) (aR 19 143 (vB false) (.head _) (lQ 20 144 (.head _) (aR 21 145 (vB false) (.head _) (aR 22 4 (vB false) (.head _) ?_)))))))))))))))))));cases i;exact eW kr (vA _ kr (K _ _ ⟨b8,rfl,q,g.f9.f9.f9.f9.f9.f9.f9.f9.f9.f9,G,B,v,z,f,c,k⟩))
   intro K;refine aA 3 [(96,vB (D.2.2 !=0))] (bN 96 i ?_ ?_)
   .intro A i;refine aA 22 [(118,vB true)] ?_;cases i;exact aY _ kr (K _ _ ⟨b7,rfl,q,g.f9.f9.f7.f7.f6.f6.f9.f9.f9.f9,G,B,v,z,f,c,k⟩)
   intro A i;refine aA 4 [(100,vB (y6.2 !=0))] (bN 100 i ?_ ?_)
   .intro A i;refine aA 18 [(118,vB true)] ?_;cases i;exact aY _ kr (K _ _ ⟨b7,rfl,q,g.f9.f9.f7.f7.f6.f6.f9.f9.f9.f9,G,B,v,z,f,c,k⟩)
   intro A i;refine aA 4 [(104,vB (y7.2 !=0))] (bN 104 i ?_ ?_)
   .intro A i;refine aA 14 [(118,vB true)] ?_;cases i;exact aY _ kr (K _ _ ⟨b7,rfl,q,g.f9.f9.f7.f7.f6.f6.f9.f9.f9.f9,G,B,v,z,f,c,k⟩)
   intro A i;refine aA 4 [(108,vB (u.2 !=0))] (bN 108 i ?_ ?_)
   .intro A i;refine aA 10 [(118,vB true)] ?_;cases i;exact aY _ kr (K _ _ ⟨b7,rfl,q,g.f9.f9.f7.f7.f6.f6.f9.f9.f9.f9,G,B,v,z,f,c,k⟩)
   intro A i;refine aA 5 [(113,vB (!(y6.1.toList==y7.1.toList)))] (bN 113 i ?_ ?_)
   .intro A i;refine aA 5 [(118,vB true)] ?_;cases i;exact aY _ kr (K _ _ ⟨b7,rfl,q,g.f9.f9.f7.f7.f6.f6.f9.f9.f9.f9,G,B,v,z,f,c,k⟩)
   intro A i;refine bW 1 115 27 114 2 (vS Y u.1.2.2 Z) g.h (aA 3 [(118,vB ((u.1.2.2.length:Int) !=1))] ?_);cases i;exact aY _ kr (K _ _ ⟨b7,rfl,q,g.f9.f9.f7.f7.f6.f6.f9.f9.f9.f9,G,B,v,z,f,c,k⟩)
  intro b9 i B;refine cX _ kr (cW (fun D L' w'=>∃(o:Tj),∃u,aJ (BM N y1) D o=some b9/\L'=[(1,vI p1),(6,vT y1.2),(7,vP H 0),(10,vT o.1),(11,vI o.2)]/\m.le u/\St u (kB H (V6 a.1 p s l n) 29::kB b1 (V1 y1.1 S U) 25::kR p a.1.2.1 s 9 1::kR l a.1.2.2 n 43 4::O) w'/\RepS aH u p s a.1.2.1/\RepS C4 u l n a.1.2.2/\RepS (aT .i64) u S U y1.1.1) N ⟨(eB,0),m4,i,rfl,q,g.f3.f3.f3.f3,f,c,k⟩ ?_);rintro D _ w9 ⟨o,u,hL,rfl,q,g,f,c,k⟩;rcases D with _|D
  .exact dV hL
  obtain⟨V,i,G,F⟩:=dX hL;clear hL;unfold BM at i;refine aG (aD 4 [(44,vB (decide (o.2<(y1.2.size:Int))))] (aI i ?_ ?_))
  .intro A i;refine aM (aE (aG (bD (aG (aC (eM 10 i (fun M L' w'=>∃v,L'=[(1,vI p1),(6,vT y1.2),(7,vP H 0),(10,vT o.1),(11,vI o.2),(56,vB M)]/\m.le v/\St v (kB H (V6 a.1 p s l n) 29::kB b1 (V1 y1.1 S U) 25::kR p a.1.2.1 s 9 1::kR l a.1.2.2 n 43 4::O) w'/\RepS aH v p s a.1.2.1/\RepS C4 v l n a.1.2.2/\RepS (aT .i64) v S U y1.1.1) ?_ ?_))))))
   .rintro M i _ Y ⟨v,rfl,q,g,f,c,k⟩;refine aN (cJ .normal i (fun o4 L' w'=>∃z,L'=[(1,vI p1),(6,vT y1.2),(7,vP H 0),(10,vT o4),(11,vI o.2)]/\m.le z/\St z (kB H (V6 a.1 p s l n) 29::kB b1 (V1 y1.1 S U) 25::kR p a.1.2.1 s 9 1::kR l a.1.2.2 n 43 4::O) w'/\RepS aH z p s a.1.2.1/\RepS C4 z l n a.1.2.2/\RepS (aT .i64) z S U y1.1.1) ?_ ?_)
    .rintro o4 i _ Z ⟨z,rfl,q,g,f,c,k⟩;refine aE (bC (aA 5 [(59,vT o4),(60,vT y1.2),(61,vI o.2),(63,vI (wr (o.2+1)))] ?_));have⟨s3,R,i⟩:=aZ i;refine bA rfl (qL (d:=64) (t:=9) (x:=(.tmp 60)) (lo:=(some (.tmp 61))) (hi:=(some (.tmp 63))) kr rfl (ev (vT y1.2)) kr (.inr ⟨_,_,rfl,(ev (vI o.2))⟩) (.inr ⟨_,_,rfl,(ev (vI (wr (o.2+1))))⟩) R (iC 65 i fun E i=>(aA 1 [(10,vT E)] (aU rfl (bQ (aE (bC (aA 3 [(11,vI (wr (o.2+1)))] (aU rfl ?_)))))))));have hL:=G _ (sI i);exact xE (cT ⟨(E,wr (o.2+1)),z,hL,rfl,q,g.f3.f3.f3.f3,f,c,k⟩)
    intro o4 i E;refine aI i ?_ ?_
    .intro A i;refine bC (aA 1 [(57,vT o.1)] (iC 58 i fun R i=>(aA 1 [(10,vT R)] (aU rfl ?_))));cases i;exact xE (E _ _ ⟨v,rfl,q,g.f3.f3.f3.f3,f,c,k⟩)
    intro A i;refine aM ?_;cases i;exact xE (E _ _ ⟨v,rfl,q,g.f3.f3.f3.f3,f,c,k⟩)
   intro M i K;refine aA 2 [(47,vT y1.2),(48,vI o.2)] (lC 49 i fun x1 i=>(aA 2 [(51,vB ((x1.toNat:Int)==59))] (bN 51 i ?_ ?_)))
   .intro A i;refine aA 5 [(56,vB true)] ?_;cases i;exact aY _ kr (K _ _ ⟨u,rfl,q,g.f3.f3.f3.f3,f,c,k⟩)
   intro A i;refine aA 2 [(52,vT y1.2),(53,vI o.2)] (lC 54 i fun z i=>(aA 2 [(56,vB ((z.toNat:Int)==40))] ?_));cases i;exact aY _ kr (K _ _ ⟨u,rfl,q,g.f3.f3.f3.f3,f,c,k⟩)
  intro A i;refine cQ (bK ?_);have ho:=F _ (sI i);have g:=g.f3.f3.f3.f3;refine bK ?_;exact xE (B _ _ ⟨o.1,u,ho,rfl,q,g,f,c,k⟩)
 intro K;refine aA 3 [(34,vB (a.2.2 !=0))] (bN 34 i ?_ ?_)
 .intro A i;refine aA 5 [(39,vB true)] ?_;cases i;exact aY _ kr (K _ _ ⟨m3,rfl,(q.t e2).t e3,g.f2.f2.f3.f3,f,c,k.mono e3⟩)
 intro A i;refine bW 1 36 27 35 2 (vS l a.1.2.2 n) g.h (aA 3 [(39,vB ((a.1.2.2.length:Int)==0))] ?_);cases i;exact aY _ kr (K _ _ ⟨m3,rfl,(q.t e2).t e3,g.f2.f2.f3.f3,f,c,k.mono e3⟩)
end
end Go.Proofs.YthiiggmmmoolbaaGreatDoor
section
namespace Go.Dc
theorem QX{σ β:Type}{f:σ->Option (σ⊕β)}(st:Nat->σ)(k:Nat)(res:β)(step:∀i,i<k->f (st i)=some (.inl (st (i+1))))(stop:f (st k)=some (.inr res)){N:Nat}(b:k<N):aJ f N (st 0)=some res:=by
 have key:∀d i M,i+d=k->d<M->aJ f M (st i)=some res:=by
  intro d
  induction d with
  |zero=>intro i M h a;obtain⟨M',rfl⟩:∃M',M=M'+1:=⟨M-1,by omega⟩;simp only[fC] at h;subst h;simp[aJ,stop]
  |succ d c=>
   intro i M h a
   obtain⟨M',rfl⟩:∃M',M=M'+1:=⟨M-1,by omega⟩
   have:=c (i+1) M' (by omega) (by omega)
   simp[aJ,step i (by omega),this]
 exact key k 0 N (by omega) b
section
variable {ν:Type}
theorem qJd{l:List (Int×ν)}{k c:Int}{v:ν}(h:c≠k):eC (l.map fun p=>if k=p.1 then(k,v) else p) c=eC l c:=by
 induction l with
 |nil=>rfl
 |cons p l a=>
  simp only[kG,eC]
  by_cases hk:k=p.1
  .subst hk;rw[if_pos rfl,if_neg h,if_neg h,a]
  rw[if_neg hk,a]
theorem qKc{l:List (Int×ν)}{k:Int}{v:ν}(h:(eC l k).isSome=true):eC (l.map fun p=>if k=p.1 then(k,v) else p) k=some v:=by
 induction l with
 |nil=>cases h
 |cons p l a=>
  simp only[kG,eC] at h ⊢
  by_cases hk:k=p.1
  .subst hk;simp
  rw[if_neg hk] at h ⊢
  rw[if_neg hk]
  exact a h
theorem qLy{l:List (Int×ν)}{k:Int}{v:ν}(h:eC l k=none)(c:Int):eC (mins l k v) c=if c=k then some v else eC l c:=by
 induction l with
 |nil=>rfl
 |cons p l a=>
  simp only[eC] at h
  split at h
  .cases h
  rename_i hk
  simp only[mins]
  split
  .simp only[eC]
  simp only[eC,a h]
  by_cases hc:c=k
  .subst hc;simp[hk]
  simp[hc]
theorem qMh(l:List (Int×ν))(k:Int)(v:ν)(c:Int):eC (mset l k v) c=if c=k then some v else eC l c:=by
 unfold mset
 split
 .rename_i h
  split
  .rename_i hc;subst hc;exact qKc h
  rename_i hc;exact qJd hc
 rename_i h
 exact qLy (by simpa using h) c
def Srt(l:List (Int×ν)):Prop:=(l.map (·.1)).Pairwise (· < ·)
theorem Srt.nil:Srt ([]:List (Int×ν)):=List.Pairwise.nil
theorem Srt.mins{l:List (Int×ν)}{k:Int}{v:ν}(d:Srt l)(h:eC l k=none):Srt (mins l k v):=by
 induction l with
 |nil=>simp[Srt,Go.Dc.mins]
 |cons p l f=>
  have hs':=d
  simp only[Srt,kG,dA] at d
  simp only[eC] at h
  split at h
  .cases h
  rename_i hk
  simp only[Go.Dc.mins]
  split
  .rename_i b
   have b:k<p.1:=by simpa[KOrd.lt] using b
   refine dA.2 ⟨fun a c=> ?_,hs'⟩
   simp only[kG,jT] at c
   rcases c with rfl|c
   .exact b
   exact Int.lt_trans b (d.1 a c)
  rename_i b
  have b:¬k<p.1:=by simpa[KOrd.lt] using b
  refine dA.2 ⟨fun a c=> ?_,f d.2 h⟩
  obtain⟨q,e,rfl⟩:=fV.1 c
  rcases jT.1 ((ZL l k v).mem_iff.1 e) with rfl|e
  .show p.1<k;omega
  exact d.1 _ (gZ e)
theorem Srt.mset{l:List (Int×ν)}(a:Srt l)(k:Int)(v:ν):Srt (mset l k v):=by
 unfold Go.Dc.mset
 split
 .unfold Srt
  have:(l.map fun p=>if k=p.1 then(k,v) else p).map (·.1)=l.map (·.1):=by
   rw[List.map_map]
   refine List.map_congr_left fun p _=> ?_
   simp only[Function.comp_apply]
   split
   .rename_i h;exact h
   rfl
  rw[this];exact a
 rename_i h
 exact a.mins (by simpa using h)
theorem Srt.out{l:List (Int×ν)}{c:Int}(h:∀a∈l.map (·.1),c<a):eC l c=none:=by
 rw[QG];intro b;exact Int.lt_irrefl _ (h c b)
theorem Srt.ext:∀{l k:List (Int×ν)},Srt l->Srt k->(∀c,eC l c=eC k c)->l=k
 |[],[],_,_,_=>rfl
 |[],q::k,_,_,h=>by have:=h q.1;simp[eC] at this
 |p::l,[],_,_,h=>by have:=h p.1;simp[eC] at this
 |p::l,q::k,n,g,h=>by
  have hl':(∀a∈l.map (·.1),p.1<a)/\Srt l:=dA.1 n
  have hk':(∀a∈k.map (·.1),q.1<a)/\Srt k:=dA.1 g
  have e:p.1=q.1:=by
   rcases Int.lt_trichotomy p.1 q.1 with d|f|d
   .have:=h p.1
    rw[Srt.out (l:=q::k) (c:=p.1)] at this
    .simp[eC] at this
    intro a b
    rcases jT.1 b with rfl|b
    .exact d
    exact Int.lt_trans d (hk'.1 a b)
   .exact f
   have:=h q.1
   rw[Srt.out (l:=p::l) (c:=q.1)] at this
   .simp[eC] at this
   intro a b
   rcases jT.1 b with rfl|b
   .exact d
   exact Int.lt_trans d (hl'.1 a b)
  have d:p.2=q.2:=by have:=h p.1;simpa[eC,e] using this
  have f:l=k:=by
   refine Srt.ext hl'.2 hk'.2 fun c=> ?_
   by_cases hc:c=p.1
   .rw[Srt.out (l:=l) (fun a b=>hc▸hl'.1 a b),Srt.out (l:=k) (fun a b=>by rw[hc,e];exact hk'.1 a b)]
   have:=h c
   simpa[eC,hc,e▸hc] using this
  rw[f,Prod.ext e d]
def rP(v:ν)(m:List (Int×ν))(xs:List UInt8):List (Int×ν):=xs.foldl (fun m x=>mset m (x.toNat:Int) v) m
theorem XD{v:ν}:∀{xs:List UInt8} {m:List (Int×ν)},Srt m->Srt (rP v m xs)
 |[],_,h=>h
 |_::xs,_,h=>XD (xs:=xs) (h.mset _ _)
theorem WW{v:ν}(c:Int):∀(xs:List UInt8) (m:List (Int×ν)),eC (rP v m xs) c=if xs.any (fun x=>decide ((x.toNat:Int)=c))=true then some v else eC m c
 |[],m=>by simp[rP]
 |x::xs,m=>by
  have:=WW (v:=v) c xs (mset m (x.toNat:Int) v)
  rw[show rP v m (x::xs)=rP v (mset m (x.toNat:Int) v) xs from rfl,this,qMh]
  by_cases h1:xs.any (fun x=>decide ((x.toNat:Int)=c))=true
  .simp[h1]
  by_cases h2:(x.toNat:Int)=c
  .subst h2;simp[h1]
  have a:¬c=(x.toNat:Int):=fun e=>h2 e.symm
  simp[h1,h2,a]
end
end Go.Dc
namespace Go.Proofs.YthiiggmmmoolbaaGreatDoor
open Go Go.Dc
def allK:List (Int×BA):=[(1,⟨#[97,98,99,100,101,102,103,104,105,106,107,108,109,110,111,112,113,114,115,116,117,118,119,120,121,122]⟩),(2,⟨#[48,49,50,51,52,53,54,55,56,57]⟩),(3,⟨#[95]⟩),(4,⟨#[46]⟩),(5,⟨#[9,10,13,32]⟩),(6,⟨#[35]⟩),(7,⟨#[34]⟩),(8,⟨#[59,44,40,41,43,45,42,47,37,60,61]⟩)]
def kdL:List (Int×Int):=[(9,5),(10,5),(13,5),(32,5),(34,7),(35,6),(37,8),(40,8),(41,8),(42,8),(43,8),(44,8),(45,8),(46,4),(47,8),(48,2),(49,2),(50,2),(51,2),(52,2),(53,2),(54,2),(55,2),(56,2),(57,2),(59,8),(60,8),(61,8),(95,3),(97,1),(98,1),(99,1),(100,1),(101,1),(102,1),(103,1),(104,1),(105,1),(106,1),(107,1),(108,1),(109,1),(110,1),(111,1),(112,1),(113,1),(114,1),(115,1),(116,1),(117,1),(118,1),(119,1),(120,1),(121,1),(122,1)]
def uE(c:Int):Int:=(eC kdL c).getD 0
def vH(e:Int×BA)(c:Int):Bool:=e.2.data.toList.any fun x=>decide ((x.toNat:Int)=c)
def yN(m:List (Int×Int))(k:List (Int×BA)):List (Int×Int):=k.foldl (fun m e=>rP e.1 m e.2.data.toList) m
theorem qBe:∀{k:List (Int×BA)} {m:List (Int×Int)},Srt m->Srt (yN m k)
 |[],_,h=>h
 |_::k,_,h=>qBe (k:=k) (XD h)
theorem ZW(c:Int):∀(k:List (Int×BA)) (m:List (Int×Int)),(∀e∈k,vH e c=true->e.1=uE c)->(∀v,eC m c=some v->v=uE c)->
  eC (yN m k) c=if(k.any fun e=>vH e c)=true then some (uE c) else eC m c
 |[],m,_,_=>by simp[yN]
 |e::k,m,h,f=>by
  have b:=WW (v:=e.1) c e.2.data.toList m
  have:=ZW c k (rP e.1 m e.2.data.toList) (fun e' d=>h e' (jL _ d)) (fun v a=>by
   rw[b] at a
   split at a
   .rename_i hi
    rw[<-jG a]
    exact h e (jH ..) hi
   exact f v a)
  rw[show yN m (e::k)=yN (rP e.1 m e.2.data.toList) k from rfl,this,b]
  by_cases h1:(k.any fun e=>vH e c)=true
  .simp[h1]
  by_cases h2:vH e c=true
  .have:=h e (jH ..) h2
   have h2':(e.2.data.toList.any fun x=>decide ((x.toNat:Int)=c))=true:=h2
   simp only[fX,h2,Bool.true_or,jJ,h1,h2',this]
   simp
  have h2':(e.2.data.toList.any fun x=>decide ((x.toNat:Int)=c))=false:=by simpa[vH] using h2
  simp only[fX,h1,h2',dU,jB,jF]
  simp[h2]
theorem qAj:(allK.all fun e=>e.2.data.toList.all fun x=>decide (e.1=uE (x.toNat:Int)))=true/\(kdL.all fun p=>allK.any fun e=>vH e p.1)=true:=⟨by kernel_rfl,by kernel_rfl⟩
theorem qEb{e:Int×BA}{c:Int}(d:e∈allK)(h:vH e c=true):e.1=uE c:=by
 have:=jU.1 qAj.1 e d
 obtain⟨x,f,a⟩:=fQ.1 h
 have b:=jU.1 this x f
 have a:(x.toNat:Int)=c:=by simpa using a
 subst a
 simpa using b
theorem qQk(c:Int):eC kdL c=if(allK.any fun e=>vH e c)=true then some (uE c) else none:=by
 cases h:eC kdL c with
 |none=>
  rw[if_neg]
  intro f
  obtain⟨e,a,hi⟩:=fQ.1 f
  have d:=qEb a hi
  have b:uE c=0:=by simp[uE,h]
  have:(allK.all fun e=>decide (e.1≠0))=true:=by kernel_rfl
  have:=jU.1 this e a
  simp[d,b] at this
 |some v=>
  have a:(c,v)∈kdL:=(QO (l:=kdL) (by
   have:decide ((kdL.map (·.1)).Nodup)=true:=by kernel_rfl
   simpa using this)).1 h
  have:=jU.1 qAj.2 _ a
  rw[if_pos this]
  simp[uE,h]
theorem qQi:Srt kdL:=by
 have:decide ((kdL.map (·.1)).Pairwise (· < ·))=true:=by kernel_rfl
 simpa[Srt] using this
theorem qMj{k:List (Int×BA)}(h:k.Perm allK):yN [] k=kdL:=by
 refine Srt.ext (qBe Srt.nil) qQi fun c=> ?_
 rw[ZW c k [] (fun e a hi=>qEb (h.mem_iff.1 a) hi) (fun v b=>by cases b),qQk]
 have:(k.any fun e=>vH e c)=(allK.any fun e=>vH e c):=by
  rw[kM,fQ,fQ]
  exact⟨fun⟨e,a,hi⟩=>⟨e,h.mem_iff.1 a,hi⟩,fun⟨e,a,hi⟩=>⟨e,h.mem_iff.2 a,hi⟩⟩
 rw[this]
 rfl
theorem qOk{N:Nat}{e:Int×BA}(m:List (Int×Int))(d:e.2.size<=26)(c:30<N):uM N (some e) (some m)=some (.inl (some (rP e.1 m e.2.data.toList))):=by
 have b:e.2.data.toList.length=e.2.size:=by simp
 have a:bytesOf e.2=some e.2.data.toList:=by unfold bytesOf;rw[if_pos (by simp only[maxLen];omega)]
 simp only[uM,a,j0]
 have key:=QX (f:=CT N e e.2.data.toList) (fun i=>((i:Int),some (rP e.1 m (e.2.data.toList.take i)))) e.2.data.toList.length (some (rP e.1 m e.2.data.toList)) (fun i hi=> ?_) ?_ (N:=N) (by omega)
 .simp only[Int.natCast_zero,List.take_zero] at key
  rw[show rP e.1 m []=m from rfl] at key
  rw[key];rfl
 .simp only[CT]
  rw[if_pos (by simpa using hi),iX hi]
  simp only[j0,lG,kW]
  rw[bT (by omega) (by omega),gO hi]
  simp[rP]
 simp only[CT]
 rw[if_neg (by simp),fI]
theorem XH{N:Nat}(a:30<N):∀(k:List (Int×BA)) (m:List (Int×Int)),(∀e∈k,e.2.size<=26)->nN (uM N) k (some m)=some (some (yN m k))
 |[],m,_=>by simp[nN,uM,yN]
 |e::k,m,h=>by
  have:=XH a k (rP e.1 m e.2.data.toList) (fun e' b=>h e' (jL _ b))
  simp only[nN,qOk m (h e (jH ..)) a,j0,this]
  rfl
theorem QK{N:Nat}(d:30<N):zR N=some (some kdL):=by
 have c:∀e∈allK,e.2.size<=26:=by
  have:(allK.all fun e=>decide (e.2.size<=26))=true:=by kernel_rfl
  intro e a
  simpa using jU.1 this e a
 have key:wF (uM N) allK (some [])=some (some kdL):=YN fun k b=>by
  rw[XH d k [] (fun e a=>c e (b.mem_iff.1 a)),qMj b]
 have a:zR N=(wF (uM N) allK (some [])).bind fun f=>some f:=by kernel_rfl
 rw[a,key];rfl
end Go.Proofs.YthiiggmmmoolbaaGreatDoor
end
namespace Go.Proofs.YthiiggmmmoolbaaGreatDoor
section
open Go Go.Dc
theorem iH(s:BA):s.data.toList.length=s.size:=by simp
theorem nG{s:BA}{i:Nat}(h:i<s.data.toList.length):eU s (i:Int)=some (s.data.toList[i]):=by
 have h':i<s.size:=by simpa using h
 rw[qBf h']
 simp[ByteArray.getElem_eq_getElem_data]
def tw(p:UInt8->Bool)(l:List UInt8)(a:Nat):Nat:=a+((l.drop a).takeWhile p).length
section
variable {p:UInt8->Bool} {l:List UInt8} {a:Nat}
theorem nB(h:a<=l.length):a<=tw p l a/\tw p l a<=l.length:=by
 have:=(hZ p (l:=l.drop a)).length_le
 simp only[gQ] at this
 unfold tw;omega
theorem xW(h:a<l.length)(b:p l[a]=true):tw p l (a+1)=tw p l a:=by
 unfold tw
 rw[jR h,kV b]
 simp only[jC];omega
theorem xS(h:a<l.length)(b:p l[a]=false):tw p l a=a:=by
 unfold tw
 rw[jR h,fD (by simp[b])]
 simp
theorem EC(h:l.length<=a):tw p l a=a:=by
 unfold tw
 rw[jZ h];rfl
theorem TC:∀(d a:Nat),a+d=l.length->∀h:tw p l a<l.length,p (l[tw p l a]'h)=false
 |0,a,c,h=>by rw[EC (by omega)] at h;omega
 |d+1,a,c,h=>by
  have b:a<l.length:=by omega
  cases hb:p l[a] with
  |true=>
   have e:=xW b hb
   have:=TC d (a+1) (by omega) (by rw[e];exact h)
   simpa only[e] using this
  |false=>
   have e:=xS b hb
   simpa only[e] using hb
theorem DY{β:Type}{f:Int->Option (Int⊕β)}(out:Nat->β)(go:∀i:Nat,∀h:i<l.length,p l[i]=true->f (i:Int)=some (.inl ((i:Int)+1)))
  (no:∀i:Nat,∀h:i<l.length,p l[i]=false->f (i:Int)=some (.inr (out i))) (en:f (l.length:Int)=some (.inr (out l.length))):
  ∀(d a N:Nat),a+d=l.length->d<N->aJ f N (a:Int)=some (out (tw p l a))
 |d,a,0,_,h=>by omega
 |0,a,N+1,c,h=>by
  have:a=l.length:=by omega
  subst this
  rw[EC (jP _)];simp[aJ,en]
 |d+1,a,N+1,c,h=>by
  have b:a<l.length:=by omega
  cases hb:p l[a] with
  |true=>
   have:=DY out go no en d (a+1) N (by omega) (by omega)
   rw[xW b hb] at this
   simpa[aJ,go a b hb] using this
  |false=>
   rw[xS b hb];simp[aJ,no a b hb]
end
def kd(c:UInt8):Int:=uE (c.toNat:Int)
def aV(ks:List Int)(c:UInt8):Bool:=ks.any fun k=>kd c==k
theorem WN{N:Nat}{s:BA}{ks:List Int}{i:Nat}(h:i<s.data.toList.length)(c:ks.length<=10)(b:10<N):aJ (zN N s (some kdL) ks (i:Int)) N (false,0)=some (aV ks (s.data.toList[i])):=by
 have key:=QX (f:=zN N s (some kdL) ks (i:Int)) (fun j=>((ks.take j).any (fun k=>kd (s.data.toList[i])==k),(j:Int))) ks.length (aV ks (s.data.toList[i])) (fun j a=> ?_) ?_ (N:=N) (by omega)
 .simpa using key
 .simp only[zN]
  rw[if_pos (by simpa using a),iX a,nG h]
  simp only[j0]
  rw[bT (by omega) (by omega),gO a,List.any_append]
  cases(ks.take j).any (fun k=>kd (s.data.toList[i])==k)
  .simp[kd,uE,cS]
  simp
 simp only[zN]
 rw[if_neg (by simp),fI]
 rfl
theorem IB{N:Nat}{s:BA}{ks:List Int}{i:Nat}(hi:i<=s.data.toList.length)(e:s.data.toList.length<1000000)(c:ks.length<=10)(d:s.data.toList.length+10<N):
  uP N s (i:Int) (some kdL) ks=some ((tw (aV ks) s.data.toList i:Nat):Int):=by
 have g:=iH s
 have key:=DY (f:=zO N s (some kdL) ks) (l:=s.data.toList) (p:=aV ks) (fun n=>(n:Int)) (fun j b a=>by
   simp only[zO]
   rw[if_pos (by simp only[j9];omega),WN b c (by omega),a]
   simp only[j0]
   rw[bT (by omega) (by omega)]
   rfl) (fun j b a=>by
   simp only[zO]
   rw[if_pos (by simp only[j9];omega),WN b c (by omega),a]
   rfl) (by
   simp only[zO]
   rw[if_neg (by simp only[j9];omega)]) (s.data.toList.length-i) i N (by omega) (by omega)
 unfold uP
 rw[key]
 rfl
theorem TA(c:UInt8):(cS (some kdL) (c.toNat:Int)).getD 0=kd c:=rfl
theorem mA{l:List UInt8}{i:Nat}(h:i<l.length):l.getD i 0=l[i]:=by simp[jN,h]
theorem ZS{β:Type}{p:UInt8->Bool}{l:List UInt8}{a0:Nat}{f:Int->Option (Int⊕β)}(out:Nat->β)(go:∀i:Nat,∀h:i<l.length,p l[i]=true->f (i:Int)=some (.inl ((i:Int)+1)))
  (no:∀i:Nat,∀h:i<l.length,a0<=i->p l[i]=false->f (i:Int)=some (.inr (out i))) (en:f (l.length:Int)=some (.inr (out l.length))):
  ∀(d a N:Nat),a0<=a->a+d=l.length->d<N->aJ f N (a:Int)=some (out (tw p l a))
 |d,a,0,_,_,h=>by omega
 |0,a,N+1,_,e,h=>by
  have:a=l.length:=by omega
  subst this
  rw[EC (jP _)];simp[aJ,en]
 |d+1,a,N+1,c,e,h=>by
  have b:a<l.length:=by omega
  cases hb:p l[a] with
  |true=>
   have:=ZS out go no en d (a+1) N (by omega) (by omega) (by omega)
   rw[xW b hb] at this
   simpa[aJ,go a b hb] using this
  |false=>
   rw[xS b hb];simp[aJ,no a b c hb]
def wS(n:Int)(c:UInt8):Int:=if 9007199254740993<10*n+((c.toNat:Int)-48) then 9007199254740993 else 10*n+((c.toNat:Int)-48)
def mQ(ds:List UInt8):Int:=ds.foldl wS 0
def eD(c:UInt8):Bool:=decide (32<=c.toNat)&&decide (c.toNat<=126)&&c !=34
def yF:Int×BA×Int×Int:=(0,⟨#[]⟩,0,0)
def oJ(l:List UInt8)(i:Nat):Nat:=if l.getD i 0=61/\l.getD (i+1) 0=61 then i+2 else i+1
def cM(s:BA)(i:Nat):(Int×BA×Int×Int)×Int×Int:=
 if kd (s.data.toList.getD i 0)=1 then
  if tw (aV [1,2,3]) s.data.toList i-i>24 then(yF,0,2) else((1,s.extract i (tw (aV [1,2,3]) s.data.toList i),0,0),((tw (aV [1,2,3]) s.data.toList i:Nat):Int),0)
 else if kd (s.data.toList.getD i 0)=2 then
  if mQ ((s.data.toList.drop i).takeWhile (aV [2]))>9007199254740992 then(yF,0,3) else((2,⟨#[]⟩,mQ ((s.data.toList.drop i).takeWhile (aV [2])),0),((tw (aV [2]) s.data.toList i:Nat):Int),0)
 else if kd (s.data.toList.getD i 0)=7 then
  if s.data.toList.getD (tw eD s.data.toList (i+1)) 0=34 then((3,s.extract (i+1) (tw eD s.data.toList (i+1)),0,0),((tw eD s.data.toList (i+1)+1:Nat):Int),0) else(yF,0,9)
 else if kd (s.data.toList.getD i 0)=8 then
  ((4,s.extract i (oJ s.data.toList i),0,0),((oJ s.data.toList i:Nat):Int),0)
 else(yF,0,9)
theorem LZ:∀c:UInt8,kd c=2->48<=c.toNat/\c.toNat<=57:=by
 have h:((List.range 256).all fun n=> !(decide (kd (UInt8.ofNat n)=2))||(decide (48<=n)&&decide (n<=57)))=true:=by kernel_rfl
 intro c a
 have:=jU.1 h c.toNat (fB.2 c.toNat_lt)
 simpa[a] using this
theorem VE{s:BA}{p:UInt8->Bool}{i:Nat}:(s.extract i (tw p s.data.toList i)).data.toList=(s.data.toList.drop i).takeWhile p:=by
 simp only[ByteArray.data_extract,gU]
 have h:=dN.1 (fU p (l:=s.data.toList.drop i))
 rw[gG,show tw p s.data.toList i-i=((s.data.toList.drop i).takeWhile p).length by unfold tw;omega]
 exact h.symm
theorem HO(l:List UInt8)(c:UInt8):mQ (l++[c])=wS (mQ l) c:=by simp[mQ]
theorem NC{p:UInt8->Bool}:∀{l:List UInt8} {c:UInt8},c∈l.takeWhile p->p c=true
 |[],_,h=>by simp at h
 |x::l,c,h=>by
  cases hx:p x with
  |true=>
   rw[kV hx] at h
   rcases jT.1 h with rfl|h
   .exact hx
   exact NC h
  |false=>rw[fD (by simp[hx])] at h;cases h
theorem qOo{N:Nat}{ds:List UInt8}(b:∀c∈ds,kd c=2)(k:ds.length<1000000)(h:ds.length<N):aJ (zM N ds) N (0,0)=some (mQ ds):=by
 have d:∀j,j<=ds.length->0<=mQ (ds.take j)/\mQ (ds.take j)<=9007199254740993:=by
  intro j
  induction j with
  |zero=>intro _;simp[mQ]
  |succ j g=>
   intro a
   have:=g (by omega)
   rw[gO (by omega)]
   have e:=LZ _ (b _ (kH (show j<ds.length by omega)))
   rw[HO]
   unfold wS
   split<;>omega
 have key:=QX (f:=zM N ds) (fun j=>(mQ (ds.take j),(j:Int))) ds.length (mQ ds) (fun j a=> ?_) ?_ (N:=N) (by omega)
 .exact key
 .have e:=LZ _ (b _ (kH a))
  have g:=d j (by omega)
  simp only[zM]
  rw[if_pos (by simpa using a),iX a]
  simp only[j0]
  rw[wu8 (by omega) (by omega),bT (x:=10*mQ (ds.take j)) (by omega) (by omega),bT (x:=((ds[j]).toNat:Int)-48) (by omega) (by omega),bT (x:=(j:Int)+1) (by omega) (by omega),bT (by omega) (by omega),gO a,HO]
  rfl
 simp only[zM]
 rw[if_neg (by simp),fI]
theorem tO{s:BA}{i e:Nat}(a:i<=e)(b:e<=s.data.toList.length):mY s (i:Int) (e:Int)=some (s.extract i e):=by
 have:=iH s
 rw[LE (by omega) (by omega) (by omega)]
 simp
theorem qQd{N:Nat}{s:BA}{i j:Nat}(c:j<s.data.toList.length)(g:s.data.toList.length<1000000)(a:eD (s.data.toList[j])=true):vV N s (i:Int) (j:Int)=some (.inl ((j:Int)+1)):=by
 have h:=iH s
 simp only[eD,jI,j9,fO,ne_eq] at a
 obtain⟨⟨d,f⟩,b⟩:=a
 have h3':¬((s.data.toList[j]).toNat:Int)=34:=fun e=>b (UInt8.toNat_inj.1 (by show _=34;omega))
 simp only[vV,nG c,j0]
 rw[if_pos (by simp only[j9];omega),if_pos (by simp only[j9];omega)]
 simp only[j0]
 rw[if_pos (by simp only[j9];omega),if_neg (by simpa using h3'),bT (by omega) (by omega)]
theorem qRu{N:Nat}{s:BA}{i j:Nat}(hi:i<s.data.toList.length)(b:j<s.data.toList.length)(d:s.data.toList.length<1000000)(a:i+1<=j)(c:eD (s.data.toList[j])=false):
  vV N s (i:Int) (j:Int)=some (.inr (if s.data.toList.getD j 0=34 then(.inr ((3,s.extract (i+1) j,0,0),((j+1:Nat):Int),0)) else(.inl ()))):=by
 have f:=iH s
 simp only[vV,nG b,j0,mA b]
 rw[if_pos (by simp only[j9];omega)]
 by_cases h34:s.data.toList[j]=34
 .rw[h34]
  simp only[show((34:UInt8).toNat:Int)=34 from rfl]
  rw[bT (x:=(i:Int)+1) (by omega) (by omega),bT (by omega) (by omega),<-gY,tO a (by omega)]
  rfl
 have h3':¬((s.data.toList[j]).toNat:Int)=34:=fun e=>h34 (UInt8.toNat_inj.1 (by show _=34;omega))
 rw[if_neg h34]
 simp only[eD,Bool.and_eq_false_iff,decide_eq_false_iff_not,bne_eq_false_iff_eq,h34,dE] at c
 by_cases h1:32<=(s.data.toList[j]).toNat
 .rw[if_pos (by simp only[j9];omega)]
  simp only[j0]
  rw[if_neg (by simp only[j9];omega)]
 rw[if_neg (by simp only[j9];omega)]
 simp
theorem PQ{s:BA}{i:Nat}(a:i<=s.data.toList.length):mY s (i:Int) (s.size:Int)=some (s.extract i s.data.toList.length):=by
 have b:=iH s
 rw[<-tO a (jP _),b]
theorem mF(x y:BA):(x.toList==y.toList)=decide (x=y):=by
 rw[kM]
 simp only[kJ,j9]
 constructor
 .intro h
  rw[ByteArray.toList_eq,ByteArray.toList_eq] at h
  exact Go.WideShapes.bytes_inj h
 rintro rfl;rfl
theorem qMo{N:Nat}{s:BA}{i:Nat}(hi:i<s.data.toList.length):GU N (s.extract i s.data.toList.length) (⟨#[61,61]⟩:BA)=some (decide (s.data.toList.getD i 0=61/\s.data.toList.getD (i+1) 0=61)):=by
 have g:=iH s
 have b:(s.extract i s.data.toList.length).size=s.data.toList.length-i:=by rw[ByteArray.size_extract];omega
 simp only[GU,KD,b,show(⟨#[61,61]⟩:BA).size=2 from rfl]
 by_cases h:i+1<s.data.toList.length
 .have a:((s.extract i s.data.toList.length).extract 0 2).data.toList=[s.data.toList[i],s.data.toList[i+1]]:=by
   simp only[ByteArray.data_extract,gU,gG,kI]
   rw[List.take_take,jR hi,jR h]
   have:min (2-0) (s.data.toList.length-i)=2:=by omega
   rw[this];rfl
  have c:mY (s.extract i s.data.toList.length) 0 ((2:Nat):Int)=some ((s.extract i s.data.toList.length).extract 0 2):=by
   have:=tO (s:=s.extract i s.data.toList.length) (i:=0) (e:=2) (by omega) (by rw[iH,b];omega)
   simpa only[Int.natCast_zero] using this
  rw[if_pos (by simp only[j9];omega),c]
  simp only[j0,mF]
  rw[mA hi,mA h]
  generalize (s.extract i s.data.toList.length).extract 0 2=X at a
  refine congrArg some (decide_eq_decide.2 ?_)
  constructor
  .intro e
   rw[e] at a
   have hd':[(61:UInt8),61]=[s.data.toList[i],s.data.toList[i+1]]:=a
   simp only[gF,and_true] at hd'
   exact⟨hd'.1.symm,hd'.2.symm⟩
  rintro⟨d,f⟩
  apply Go.WideShapes.bytes_inj
  rw[a,d,f]
 rw[if_neg (by simp only[j9];omega)]
 have a:s.data.toList.getD (i+1) 0=0:=by rw[jN,List.getElem?_eq_none (by omega)];rfl
 rw[a]
 simp
theorem qOs{N:Nat}{s:BA}{i:Nat}(hi:i<s.data.toList.length)(d:s.data.toList.length<1000000)(r:s.data.toList.length+20<N):HD N s (i:Int) (some kdL)=some (cM s i):=by
 have t:=iH s
 simp only[HD,nG hi,j0,TA,cM,mA hi,kJ]
 by_cases h1:kd (s.data.toList[i])=1
 .simp only[h1,jJ]
  have b:=nB (p:=aV [1,2,3]) (l:=s.data.toList) (a:=i) (by omega)
  rw[IB (by omega) d (by simp) (by omega)]
  simp only[j0]
  rw[bT (by omega) (by omega),tO b.1 b.2]
  by_cases h:tw (aV [1,2,3]) s.data.toList i-i>24
  .rw[if_pos (by simp only[j9];omega),if_pos h];rfl
  rw[if_neg (by simp only[j9];omega),if_neg h];rfl
 simp only[h1,jF]
 by_cases h2:kd (s.data.toList[i])=2
 .simp only[h2,jJ]
  have b:=nB (p:=aV [2]) (l:=s.data.toList) (a:=i) (by omega)
  have q:=iH (s.extract i (tw (aV [2]) s.data.toList i))
  have k:=VE (s:=s) (p:=aV [2]) (i:=i)
  have o:((s.data.toList.drop i).takeWhile (aV [2])).length<=s.data.toList.length:=by
   have:=(hZ (aV [2]) (l:=s.data.toList.drop i)).length_le
   simp only[gQ] at this;omega
  rw[IB (by omega) d (by simp) (by omega)]
  simp only[j0]
  rw[tO b.1 b.2]
  simp only[j0]
  have g:bytesOf (s.extract i (tw (aV [2]) s.data.toList i))=some ((s.data.toList.drop i).takeWhile (aV [2])):=by
   unfold bytesOf;rw[<-k,if_pos];rw[<-q,k];simp only[maxLen];omega
  rw[g]
  simp only[j0]
  rw[qOo (fun c n=> ?_) (by omega) (by omega)]
  .simp only[j0,j9]
   split<;>rfl
  have:=NC n
  simpa[aV] using this
 simp only[h2,jF]
 by_cases h7:kd (s.data.toList[i])=7
 .simp only[h7,jJ]
  have key:=ZS (a0:=i+1) (f:=vV N s (i:Int)) (l:=s.data.toList) (p:=eD) (fun e=>if s.data.toList.getD e 0=34 then(.inr ((3,s.extract (i+1) e,0,0),((e+1:Nat):Int),0)) else(.inl ()))
   (fun j k b=>qQd k d b) (fun j k g b=>qRu hi k d g b) (by
    simp only[vV]
    rw[if_neg (by simp only[j9];omega),if_neg (by simp)]
    rfl) (s.data.toList.length-(i+1)) (i+1) N (jP _) (by omega) (by omega)
  rw[bT (x:=(i:Int)+1) (by omega) (by omega),<-gY,key]
  simp only[j0]
  split
  .rename_i h;split at h<;>simp_all [yF]
  rename_i h;split at h<;>simp_all
 simp only[h7,jF]
 by_cases h8:kd (s.data.toList[i])=8
 .simp only[h8,jJ]
  rw[PQ (by omega),bT (x:=(i:Int)+1) (by omega) (by omega)]
  simp only[j0]
  rw[qMo hi]
  simp only[j0,j9]
  by_cases h:s.data.toList.getD i 0=61/\s.data.toList.getD (i+1) 0=61
  .have k:i+1<s.data.toList.length:=by
    rcases fR (i+1) s.data.toList.length with h'|h'
    .exact h'
    have g:s.data.toList.getD (i+1) 0=0:=by rw[jN,List.getElem?_eq_none h'];rfl
    rw[g] at h;exact absurd h.2 (by decide)
   have b:oJ s.data.toList i=i+2:=by rw[oJ,if_pos h]
   rw[if_pos h,bT (by omega) (by omega),b]
   simp only[j0]
   rw[show((i:Int)+1+1)=((i+2:Nat):Int) by omega,tO (by omega) (by omega)]
   rfl
  have b:oJ s.data.toList i=i+1:=by rw[oJ,if_neg h]
  rw[if_neg h,b]
  simp only[j0]
  rw[<-gY,tO (by omega) (by omega)]
  rfl
 simp only[h8,jF]
 rfl
theorem qDl{p:UInt8->Bool}{l:List UInt8}(h:∀c∈l,p c=true):tw p l 0=l.length:=by
 unfold tw
 have:l.takeWhile p=l:=by
  induction l with
  |nil=>rfl
  |cons c l b=>rw[kV (h c (jH ..)),b fun d a=>h d (jL _ a)]
 simp[this]
abbrev bB:=Int×BA×Int×Int
theorem HX{ks:List Int}{k:Int}{c:UInt8}(a:k∈ks)(h:kd c=k):aV ks c=true:=by
 unfold aV;exact fQ.2 ⟨k,a,by simp[h]⟩
theorem uX{p:UInt8->Bool}{l:List UInt8}{a:Nat}(h:a<l.length)(b:p l[a]=true):a<tw p l a:=by
 rw[<-xW h b];have:=(nB (p:=p) (l:=l) (a:=a+1) (by omega)).1;omega
theorem DP{l:List UInt8}{i:Nat}(h:l.getD i 0≠0):i<l.length:=by
 rcases fR i l.length with h'|h'
 .exact h'
 exfalso;apply h;rw[jN,List.getElem?_eq_none h'];rfl
theorem HZ{s:BA}{i:Nat}(hi:i<s.data.toList.length)(h:(cM s i).2.2=0):∃e:Nat,(cM s i).2.1=(e:Int)/\i<e/\e<=s.data.toList.length/\
  (((cM s i).1.1=1\/(cM s i).1.1=4)/\(cM s i).1.2.1=s.extract i e\/(cM s i).1.1=2/\(cM s i).1.2.1=⟨#[]⟩\/(cM s i).1.1=3/\(cM s i).1.2.1.size+i<e):=by
 have d:=iH s
 unfold cM at h ⊢
 rw[mA hi] at h ⊢
 by_cases h1:kd (s.data.toList[i])=1
 .rw[if_pos h1] at h ⊢
  split at h
  .cases h
  rename_i h24
  rw[if_neg h24]
  have b:=nB (p:=aV [1,2,3]) (l:=s.data.toList) (a:=i) (by omega)
  exact⟨_,rfl,uX hi (HX (by simp) h1),b.2,.inl ⟨.inl rfl,rfl⟩⟩
 rw[if_neg h1] at h ⊢
 by_cases h2:kd (s.data.toList[i])=2
 .rw[if_pos h2] at h ⊢
  split at h
  .cases h
  rename_i h24
  rw[if_neg h24]
  have b:=nB (p:=aV [2]) (l:=s.data.toList) (a:=i) (by omega)
  exact⟨_,rfl,uX hi (HX (by simp) h2),b.2,.inr (.inl ⟨rfl,rfl⟩)⟩
 rw[if_neg h2] at h ⊢
 by_cases h7:kd (s.data.toList[i])=7
 .rw[if_pos h7] at h ⊢
  split at h
  .rename_i h24
   rw[if_pos h24]
   have b:=nB (p:=eD) (l:=s.data.toList) (a:=i+1) (by omega)
   have c:tw eD s.data.toList (i+1)<s.data.toList.length:=DP (by rw[h24];decide)
   refine⟨_,rfl,by omega,by omega,.inr (.inr ⟨rfl,?_⟩)⟩
   simp only[ByteArray.size_extract]
   omega
  cases h
 rw[if_neg h7] at h ⊢
 by_cases h8:kd (s.data.toList[i])=8
 .rw[if_pos h8] at h ⊢
  refine⟨_,rfl,?_,?_,.inl ⟨.inr rfl,rfl⟩⟩
  .unfold oJ;split<;>omega
  unfold oJ
  split
  .rename_i hh
   have:i+1<s.data.toList.length:=DP (by rw[hh.2];decide)
   omega
  omega
 rw[if_neg h8] at h
 cases h
def cF(c:UInt8):Bool:=c !=10
def iT:Nat->BA->Nat->(Int×Int)⊕List bB
 |0,_,_=> .inr []
 |k+1,s,i=>
  if tw (aV [5]) s.data.toList i=s.data.toList.length then .inr [(5,⟨#[]⟩,0,(s.data.toList.length:Int))]
  else if kd (s.data.toList.getD (tw (aV [5]) s.data.toList i) 0)=6 then iT k s (tw cF s.data.toList (tw (aV [5]) s.data.toList i))
  else if(cM s (tw (aV [5]) s.data.toList i)).2.2≠0 then .inl ((tw (aV [5]) s.data.toList i:Nat),(cM s (tw (aV [5]) s.data.toList i)).2.2)
  else match iT k s (cM s (tw (aV [5]) s.data.toList i)).2.1.toNat with
   | .inl x=> .inl x
   | .inr r=> .inr (((cM s (tw (aV [5]) s.data.toList i)).1.1,(cM s (tw (aV [5]) s.data.toList i)).1.2.1,(cM s (tw (aV [5]) s.data.toList i)).1.2.2.1,((tw (aV [5]) s.data.toList i:Nat):Int))::r)
def uZ(acc:List bB):(Int×Int)⊕List bB->List bB×Int×Int
 | .inl x=>([],x.1,x.2)
 | .inr r=>(acc++r,0,0)
def iP(s:BA):List bB×Int×Int:=if s.data.toList.length>16384 then([],0,2) else uZ [] (iT (s.data.toList.length+1) s 0)
theorem qSf{s:BA}{i:Nat}(hi:i<=s.data.toList.length):
  (if rB (s.extract i s.data.toList.length) 10<0 then((s.data.toList.length-i:Nat):Int) else rB (s.extract i s.data.toList.length) 10)=((tw cF s.data.toList i-i:Nat):Int):=by
 have x:=iH s
 have n:(s.extract i s.data.toList.length).size=s.data.toList.length-i:=by rw[ByteArray.size_extract];omega
 have v:=nB (p:=cF) (l:=s.data.toList) (a:=i) hi
 have f:∀j,j<s.data.toList.length-i->(s.extract i s.data.toList.length)[j]! =s.data.toList.getD (i+j) 0:=by
  intro j b
  have hj':i+j<s.data.toList.length:=by omega
  rw[mA hj',getElem!_pos _ _ (by rw[n];exact b),ByteArray.getElem_extract]
  simp[ByteArray.getElem_eq_getElem_data]
 have g:∀d a,a+d=s.data.toList.length->∀j,a<=j->j<tw cF s.data.toList a->s.data.toList.getD j 0≠10:=by
  intro d
  induction d with
  |zero=>intro a o j b e;rw[EC (by omega)] at e;omega
  |succ d q=>
   intro a o j b e
   have c:a<s.data.toList.length:=by omega
   cases hc:cF (s.data.toList[a]) with
   |true=>
    rw[<-xW c hc] at e
    rcases Nat.eq_or_lt_of_le b with rfl|b
    .rw[mA c];simpa[cF] using hc
    exact q (a+1) (by omega) j b e
   |false=>rw[xS c hc] at e;omega
 have g:=g (s.data.toList.length-i) i (by omega)
 unfold rB
 rw[n]
 cases hf:(List.range (s.data.toList.length-i)).find? (fun j=>(s.extract i s.data.toList.length)[j]! ==(10:Int).toNat.toUInt8) with
 |none=>
  rw[List.find?_eq_none] at hf
  simp only
  rw[if_pos (by omega)]
  have:¬tw cF s.data.toList i<s.data.toList.length:=by
   intro c
   have b:=TC (p:=cF) (l:=s.data.toList) (s.data.toList.length-i) i (by omega) c
   have e:=hf (tw cF s.data.toList i-i) (fB.2 (by omega))
   rw[f _ (by omega),show i+(tw cF s.data.toList i-i)=tw cF s.data.toList i by omega,mA c] at e
   simp only[cF,bne_eq_false_iff_eq] at b
   rw[b] at e
   exact e (by decide)
  omega
 |some k=>
  have b:=List.find?_some hf
  have r:k<s.data.toList.length-i:=fB.1 (fG hf)
  simp only
  rw[if_neg (by omega)]
  rw[f k r] at b
  have b:s.data.toList.getD (i+k) 0=10:=by simpa using b
  have e:¬i+k<tw cF s.data.toList i:=fun h=>g (i+k) (by omega) h b
  have t:¬tw cF s.data.toList i<i+k:=by
   intro c
   have hlt':tw cF s.data.toList i<s.data.toList.length:=by omega
   have q:=TC (p:=cF) (l:=s.data.toList) (s.data.toList.length-i) i (by omega) hlt'
   have u:=List.not_of_lt_findIdx (xs:=List.range (s.data.toList.length-i)) (p:=fun j=>(s.extract i s.data.toList.length)[j]! ==(10:Int).toNat.toUInt8) (i:=tw cF s.data.toList i-i)
   have o:=(List.find?_range_eq_some.1 hf).2.2 (tw cF s.data.toList i-i) (by omega)
   rw[f _ (by omega),show i+(tw cF s.data.toList i-i)=tw cF s.data.toList i by omega,mA hlt'] at o
   simp only[cF,bne_eq_false_iff_eq] at q
   rw[q] at o
   simp at o
  omega
theorem OW{N:Nat}{s:BA}(n:s.data.toList.length<=16384)(g:s.data.toList.length+40<N):∀(k M i:Nat) (acc:List bB),i<=s.data.toList.length->s.data.toList.length<i+k->k<=M->acc.length<=i->
  aJ (CR N s (some kdL)) M (acc,(i:Int))=some (uZ acc (iT k s i))
 |0,_,i,_,f,o,_,_=>by omega
 |k+1,0,_,_,_,_,q,_=>by omega
 |k+1,M+1,i,acc,f,o,q,v=>by
  have y:=iH s
  have t:=nB (p:=aV [5]) (l:=s.data.toList) (a:=i) f
  simp only[aJ,iT]
  have c:CR N s (some kdL) (acc,(i:Int))=if tw (aV [5]) s.data.toList i=s.data.toList.length then some (.inr (acc++[(5,⟨#[]⟩,0,(s.data.toList.length:Int))],0,0))
    else if kd (s.data.toList.getD (tw (aV [5]) s.data.toList i) 0)=6 then some (.inl (acc,((tw cF s.data.toList (tw (aV [5]) s.data.toList i):Nat):Int)))
    else if(cM s (tw (aV [5]) s.data.toList i)).2.2≠0 then some (.inr ([],(tw (aV [5]) s.data.toList i:Nat),(cM s (tw (aV [5]) s.data.toList i)).2.2))
    else some (.inl (acc++[((cM s (tw (aV [5]) s.data.toList i)).1.1,(cM s (tw (aV [5]) s.data.toList i)).1.2.1,(cM s (tw (aV [5]) s.data.toList i)).1.2.2.1,((tw (aV [5]) s.data.toList i:Nat):Int))],(cM s (tw (aV [5]) s.data.toList i)).2.1)):=by
   simp only[CR]
   rw[IB f (by omega) (by simp) (by omega)]
   simp only[j0]
   generalize hE:tw (aV [5]) s.data.toList i=e at t ⊢
   by_cases he:e=s.data.toList.length
   .rw[if_pos he,if_pos (by rw[kJ];omega),nQ (by simp only[jC,jE];omega) (by omega),he]
    rfl
   have b:e<s.data.toList.length:=by omega
   rw[if_neg he,if_neg (by rw[kJ];omega),nG b]
   simp only[j0,TA,kJ,mA b]
   by_cases h6:kd (s.data.toList[e])=6
   .rw[if_pos h6,if_pos h6,PQ (by omega)]
    have h:=qSf (s:=s) (i:=e) (by omega)
    have d:=nB (p:=cF) (l:=s.data.toList) (a:=e) (by omega)
    have u:(if(decide (rB (s.extract e s.data.toList.length) 10<0))=true then(some (IntKind.wrap .i64 ((ByteArray.size s:Int)-(e:Int)))) else(some (rB (s.extract e s.data.toList.length) 10)):Option Int)=some ((tw cF s.data.toList e-e:Nat):Int):=by
     rw[<-h,bT (by omega) (by omega)]
     by_cases hi:rB (s.extract e s.data.toList.length) 10<0
     .rw[if_pos (by simpa using hi),if_pos hi];congr 1;omega
     rw[if_neg (by simpa using hi),if_neg hi]
    simp only[j0,KR,BN]
    rw[u]
    simp only[j0]
    rw[bT (by omega) (by omega)]
    congr 3;omega
   rw[if_neg h6,if_neg h6,qOs b (by omega) (by omega)]
   simp only[j0,fO]
   by_cases h0:(cM s e).2.2≠0
   .rw[if_pos h0,if_pos h0]
   rw[if_neg h0,if_neg h0,nQ (by simp only[jC,jE];omega) (by omega)]
   rfl
  rw[c]
  by_cases he:tw (aV [5]) s.data.toList i=s.data.toList.length
  .rw[if_pos he,if_pos he];rfl
  rw[if_neg he,if_neg he]
  have b:tw (aV [5]) s.data.toList i<s.data.toList.length:=by omega
  by_cases h6:kd (s.data.toList.getD (tw (aV [5]) s.data.toList i) 0)=6
  .rw[if_pos h6,if_pos h6]
   have d:=nB (p:=cF) (l:=s.data.toList) (a:=tw (aV [5]) s.data.toList i) (by omega)
   have h:=uX (p:=cF) b (by
    rw[mA b] at h6
    simp only[cF,fO,ne_eq]
    intro e;rw[e] at h6;exact absurd h6 (by decide))
   exact OW n g k M _ acc d.2 (by omega) (by omega) (by omega)
  rw[if_neg h6,if_neg h6]
  by_cases h0:(cM s (tw (aV [5]) s.data.toList i)).2.2≠0
  .rw[if_pos h0,if_pos h0];rfl
  rw[if_neg h0,if_neg h0]
  obtain⟨e,d,u,h,_⟩:=HZ b (by simpa using h0)
  rw[d]
  simp only[j0,jX]
  rw[OW n g k M e _ h (by omega) (by omega) (by simp;omega)]
  cases iT k s e with
  |inl x=>rfl
  |inr r=>simp[uZ]
theorem qMd{N:Nat}{s:BA}(a:20000<N):HB N s=some (iP s):=by
 have b:=iH s
 unfold HB iP
 by_cases h:s.data.toList.length>16384
 .rw[if_pos (by simp only[j9];omega),if_pos h]
 rw[if_neg (by simp only[j9];omega),if_neg h,QK (by omega)]
 have:=OW (N:=N) (s:=s) (by omega) (by omega) (s.data.toList.length+1) N 0 [] (by omega) (by omega) (by omega) (by simp)
 simp only[j0]
 rw[show((0:Nat):Int)=0 from rfl] at this
 rw[this]
 rfl
def yL(t:bB):Int:=t.2.2.2+(t.2.1.size:Int)+(if t.1=2 then 1 else 0)
def TM(s:BA):Int->List bB->Prop
 |_,[]=>True
 |e,t::r=>e<=t.2.2.2/\t.2.2.2+(t.2.1.size:Int)<=s.size/\(t.1=5↔r=[])/\(t.1=1\/t.1=4->s.extract t.2.2.2.toNat (t.2.2.2+(t.2.1.size:Int)).toNat=t.2.1/\0<t.2.1.size)/\TM s (yL t) r
theorem PF{s:BA}:∀(k i:Nat) (e:Int) (r:List bB),i<=s.data.toList.length->s.data.toList.length<i+k->e<=i->iT k s i= .inr r->TM s e r/\r≠[]/\r.length<=s.data.toList.length+1-i
 |0,i,e,r,A,G,H,c=>by omega
 |k+1,i,e,r,A,G,H,c=>by
  have M:=iH s
  have K:=nB (p:=aV [5]) (l:=s.data.toList) (a:=i) A
  simp only[iT] at c
  generalize hE:tw (aV [5]) s.data.toList i=a at K c
  split at c
  .obtain rfl:=(Sum.inr.inj c).symm
   refine⟨⟨by show e<=(s.data.toList.length:Int);omega,by show(s.data.toList.length:Int)+((0:Nat):Int)<=_;omega,by simp,fun h=>by simp at h,trivial⟩,by simp,by simp;omega⟩
  rename_i he
  have o:a<s.data.toList.length:=by omega
  split at c
  .rename_i h6
   have u:=nB (p:=cF) (l:=s.data.toList) (a:=a) (by omega)
   have d:=uX (p:=cF) o (by
    rw[mA o] at h6
    simp only[cF,fO,ne_eq]
    intro e;rw[e] at h6;exact absurd h6 (by decide))
   obtain⟨v,y,F⟩:=PF k _ e r u.2 (by omega) (by omega) c
   exact⟨v,y,by omega⟩
  split at c
  .cases c
  rename_i h0
  obtain⟨b,B,u,D,E⟩:=HZ o (by simpa using h0)
  rw[B,jX] at c
  generalize (cM s a).1=t at c E
  cases z:iT k s b with
  |inl x=>rw[z] at c;cases c
  |inr q=>
   rw[z] at c
   obtain rfl:=(Sum.inr.inj c).symm
   have g:(s.extract a b).size=b-a:=by rw[ByteArray.size_extract];omega
   have f:yL (t.1,t.2.1,t.2.2.1,(a:Int))<=b/\(a:Int)+(t.2.1.size:Int)<=b/\t.1≠5/\(t.1=1\/t.1=4->t.2.1=s.extract a b):=by
    rcases E with ⟨n,d⟩|⟨n,d⟩|⟨n,d⟩
    .refine⟨?_,?_,by omega,fun _=>d⟩
     .simp only[yL,d,g];rw[if_neg (by omega)];omega
     rw[d,g];omega
    .have:(⟨#[]⟩:BA).size=0:=rfl
     refine⟨?_,?_,by omega,fun h=>by omega⟩
     .simp only[yL,d,this];rw[if_pos n];omega
     rw[d,this];omega
    refine⟨?_,by omega,by omega,fun h=>by omega⟩
    simp only[yL];rw[if_neg (by omega)];omega
   obtain⟨v,y,F⟩:=PF k b (yL (t.1,t.2.1,t.2.2.1,(a:Int))) q D (by omega) f.1 z
   refine⟨⟨by show e<=(a:Int);omega,?_,?_,?_,v⟩,by simp,by simp only[jC];omega⟩
   .show(a:Int)+(t.2.1.size:Int)<=_;omega
   .exact⟨fun h=>absurd h f.2.2.1,fun h=>absurd h y⟩
   intro h
   have:=f.2.2.2 h
   show s.extract (Int.toNat (a:Int)) ((a:Int)+(t.2.1.size:Int)).toNat=t.2.1/\0<t.2.1.size
   rw[this,g,jX,show((a:Int)+((b-a:Nat):Int)).toNat=b by omega]
   exact⟨rfl,by omega⟩
theorem HW{s:BA}:∀(k i:Nat) (x:Int×Int),i<=s.data.toList.length->s.data.toList.length<i+k->iT k s i= .inl x->0<=x.1/\x.1<=s.size/\x.2≠0
 |0,i,x,h,r,c=>by omega
 |k+1,i,x,h,r,c=>by
  have v:=iH s
  have t:=nB (p:=aV [5]) (l:=s.data.toList) (a:=i) h
  simp only[iT] at c
  generalize hE:tw (aV [5]) s.data.toList i=a at t c
  split at c
  .cases c
  rename_i he
  have d:a<s.data.toList.length:=by omega
  split at c
  .rename_i h6
   have f:=nB (p:=cF) (l:=s.data.toList) (a:=a) (by omega)
   have g:=uX (p:=cF) d (by
    rw[mA d] at h6
    simp only[cF,fO,ne_eq]
    intro e;rw[e] at h6;exact absurd h6 (by decide))
   exact HW k _ x f.2 (by omega) c
  split at c
  .rename_i h0
   obtain rfl:=Sum.inl.inj c
   exact⟨by simp only;omega,by simp only;omega,h0⟩
  rename_i h0
  obtain⟨b,n,f,o,u⟩:=HZ d (by simpa using h0)
  rw[n,jX] at c
  cases g:iT k s b with
  |inl y=>rw[g] at c;obtain rfl:=Sum.inl.inj c;exact HW k b y o (by omega) g
  |inr q=>rw[g] at c;cases c
theorem yB{p:UInt8->Bool}(h:((List.range 256).all fun n=>p (UInt8.ofNat n))=true)(c:UInt8):p c=true:=by
 have:=jU.1 h c.toNat (fB.2 c.toNat_lt)
 simpa using this
theorem PU{N:Nat}(c:UInt8):zB N (c.toNat:Int)=some (kd c==1):=by
 have h:=yB (p:=fun c=>(decide (97<=c.toNat)&&decide (c.toNat<=122))==(kd c==1)) (by kernel_rfl) c
 rw[kJ] at h
 rw[<-h]
 unfold zB
 by_cases h1:97<=c.toNat
 .rw[if_pos (by simp only[j9];omega)]
  simp only[h1,decide_true,fH,j0]
  congr 1
  exact decide_eq_decide.2 (by omega)
 rw[if_neg (by simp only[j9];omega)]
 simp[h1]
theorem HT{N:Nat}(c:UInt8):xJ N (c.toNat:Int)=some (aV [1,2,3] c):=by
 have h:=yB (p:=fun c=>(kd c==1||(decide (48<=c.toNat)&&decide (c.toNat<=57)||decide (c.toNat=95)))==aV [1,2,3] c) (by kernel_rfl) c
 rw[kJ] at h
 rw[<-h]
 unfold xJ
 rw[PU]
 simp only[j0]
 cases kd c==1
 .have a:((c.toNat:Int)==95)=decide (c.toNat=95):=by rw[kM,kJ,j9];omega
  simp only[jB,jF,gN,a]
  by_cases h1:48<=c.toNat
  .by_cases h2:c.toNat<=57
   .rw[if_pos (by simp only[j9];omega),if_pos (by simp only[j9];omega)];simp[h1,h2]
   rw[if_pos (by simp only[j9];omega),if_neg (by simp only[j9];omega)];simp[h2]
  rw[if_neg (by simp only[j9];omega)];simp[h1]
 rfl
theorem PI(c:UInt8):kd c=2↔48<=c.toNat/\c.toNat<=57:=by
 have h:=yB (p:=fun c=>(kd c==2)==(decide (48<=c.toNat)&&decide (c.toNat<=57))) (by kernel_rfl) c
 rw[kJ,kM] at h
 simpa using h
theorem YK(c:UInt8):kd c=7↔c=34:=by
 have h:=yB (p:=fun c=>(kd c==7)==(c==34)) (by kernel_rfl) c
 rw[kJ,kM] at h
 simpa using h
def signs:List UInt8:=[59,44,40,41,43,45,42,47,37,60,61]
theorem qAo(c:UInt8):kd c=8↔signs.contains c=true:=by
 have h:=yB (p:=fun c=>(kd c==8)==signs.contains c) (by kernel_rfl) c
 rw[kJ,kM] at h
 simpa using h
theorem qLv(c:UInt8):aV [5] c=true↔c.toNat=32\/c.toNat=9\/c.toNat=10\/c.toNat=13:=by
 have h:=yB (p:=fun c=>aV [5] c==(decide (c.toNat=32)||(decide (c.toNat=9)||(decide (c.toNat=10)||decide (c.toNat=13))))) (by kernel_rfl) c
 rw[kJ,kM] at h
 simpa using h
theorem qJr(c:UInt8):kd c=6↔c.toNat=35:=by
 have h:=yB (p:=fun c=>(kd c==6)==decide (c.toNat=35)) (by kernel_rfl) c
 rw[kJ,kM] at h
 simpa using h
def pV(n:Int)(c:UInt8):Int:=if n<=9007199254740992 then n*10+((c.toNat:Int)-48) else n
theorem qMs(l:List UInt8)(c:UInt8):(l++[c]).foldl pV 0=pV (l.foldl pV 0) c:=by simp
theorem qBs:∀(n:Nat) (ds:List UInt8),ds.length=n->(∀c∈ds,kd c=2)->0<=ds.foldl pV 0/\ds.foldl pV 0<=90071992547409930/\mQ ds=if ds.foldl pV 0>9007199254740992 then 9007199254740993 else ds.foldl pV 0
 |0,ds,h,_=>by obtain rfl:=kY.1 h;simp[mQ]
 |n+1,ds,h,k=>by
  obtain⟨l,c,rfl⟩:∃l c,ds=l++[c]:=by
   rcases fW ds with e|⟨l,c,e⟩
   .rw[e] at h;cases h
   exact⟨l,c,by simpa using e⟩
  obtain⟨d,f,a⟩:=qBs n l (by simpa using h) (fun c g=>k c (kA _ g))
  have g:=LZ c (k c (by simp))
  rw[qMs,HO]
  by_cases hu:l.foldl pV 0<=9007199254740992
  .rw[if_neg (by omega)] at a
   rw[a]
   generalize l.foldl pV 0=u at d f hu
   have b:pV u c=u*10+((c.toNat:Int)-48):=if_pos hu
   rw[b]
   unfold wS
   refine⟨by omega,by omega,?_⟩
   by_cases h4:9007199254740993<10*u+((c.toNat:Int)-48)
   .rw[if_pos h4,if_pos (by omega)]
   rw[if_neg h4]
   by_cases h5:u*10+((c.toNat:Int)-48)>9007199254740992
   .rw[if_pos h5];omega
   rw[if_neg h5];omega
  rw[if_pos (by omega)] at a
  rw[a]
  generalize l.foldl pV 0=u at d f hu
  have b:pV u c=u:=if_neg hu
  have o:wS 9007199254740993 c=9007199254740993:=if_pos (by omega)
  rw[b,o,if_pos (by omega)]
  exact⟨d,f,rfl⟩
theorem qEx(c:UInt8):aV [2] c=decide (48<=c.toNat/\c.toNat<=57):=by
 rw[kM,j9,<-PI];simp[aV]
theorem WJ{N:Nat}{s:BA}:∀(d i M:Nat) (n:Int),i+d=s.data.toList.length->s.data.toList.length<1000000->d<M->0<=n->n<=90071992547409930->
  aJ (BU N s) M ((i:Int),n)=some (((tw (aV [2]) s.data.toList i:Nat):Int),((s.data.toList.drop i).takeWhile (aV [2])).foldl pV n)
 |d,i,0,n,_,_,h,_,_=>by omega
 |0,i,M+1,n,c,b,e,f,g=>by
  have l:=iH s
  rw[EC (by omega),jZ (by omega)]
  simp only[aJ,BU]
  rw[if_neg (by simp only[j9];omega)]
  rfl
 |d+1,i,M+1,n,c,b,e,f,g=>by
  have l:=iH s
  have hi:i<s.data.toList.length:=by omega
  simp only[aJ,BU]
  rw[if_pos (by simp only[j9];omega),nG hi]
  simp only[j0]
  have k:(if decide (((s.data.toList[i]).toNat:Int)>=48)=true then some (decide (((s.data.toList[i]).toNat:Int)<=57)) else some false)=some (aV [2] (s.data.toList[i])):=by
   rw[qEx]
   by_cases h48:48<=(s.data.toList[i]).toNat
   .rw[if_pos (by simp only[j9];omega)];congr 1;exact decide_eq_decide.2 (by omega)
   rw[if_neg (by simp only[j9];omega)];congr 1;exact(jY (by omega)).symm
  rw[k]
  simp only[j0]
  rw[jR hi]
  cases hb:aV [2] (s.data.toList[i]) with
  |false=>
   rw[xS hi hb,fD (by rw[hb];exact kC)]
   rfl
  |true=>
   have o:48<=(s.data.toList[i]).toNat/\(s.data.toList[i]).toNat<=57:=by rw[qEx] at hb;simpa using hb
   rw[<-xW hi hb,kV hb,List.foldl_cons,if_pos rfl]
   have a:(if decide (n<=9007199254740992)=true then some (IntKind.wrap .i64 (IntKind.wrap .i64 (n*10)+IntKind.wrap .i64 (IntKind.wrap .u8 (((s.data.toList[i]).toNat:Int)-48)))) else some n)=some (pV n (s.data.toList[i])):=by
    unfold pV
    by_cases a:n<=9007199254740992
    .rw[if_pos (by simpa using a),if_pos a,wu8 (by omega) (by omega),bT (x:=n*10) (by omega) (by omega),bT (x:=((s.data.toList[i]).toNat:Int)-48) (by omega) (by omega),bT (by omega) (by omega)]
    rw[if_neg (by simpa using a),if_neg a]
   rw[a]
   simp only[j0]
   rw[bT (by omega) (by omega),<-gY]
   exact WJ d (i+1) M _ (by omega) b (by omega) (by unfold pV;split<;>omega) (by unfold pV;split<;>omega)
theorem ZZ(c:UInt8):(if decide ((c.toNat:Int)>=32)=true then(if decide ((c.toNat:Int)<=126)=true then some ((c.toNat:Int) !=34) else some false) else some false)=some (eD c):=by
 unfold eD
 by_cases h1:32<=c.toNat
 .rw[if_pos (by simp only[j9];omega)]
  by_cases h2:c.toNat<=126
  .rw[if_pos (by simp only[j9];omega)]
   simp only[h1,h2,decide_true,fH]
   congr 1
   rw[kM,fO,fO]
   exact⟨fun h e=>h (by rw[e];rfl),fun h e=>h (UInt8.toNat_inj.1 (by show _=34;omega))⟩
  rw[if_neg (by simp only[j9];omega)];simp[h2]
 rw[if_neg (by simp only[j9];omega)];simp[h1]
theorem qIn{N:Nat}{s:BA}(d i M:Nat)(c:i+d=s.data.toList.length)(h:s.data.toList.length<1000000)(g:d<M):aJ (xC N s) M (i:Int)=some ((tw eD s.data.toList i:Nat):Int):=by
 have k:=iH s
 refine DY (f:=xC N s) (l:=s.data.toList) (p:=eD) (fun e=>(e:Int)) (fun j b a=> ?_) (fun j b a=> ?_) ?_ d i M c g
 .simp only[xC]
  rw[if_pos (by simp only[j9];omega),nG b]
  simp only[j0,ZZ,a]
  rw[if_pos trivial,bT (by omega) (by omega)]
 .simp only[xC]
  rw[if_pos (by simp only[j9];omega),nG b]
  simp only[j0,ZZ,a]
  rfl
 simp only[xC]
 rw[if_neg (by simp only[j9];omega)]
 rfl
theorem qDe{N:Nat}{s:BA}{p1 a:Int}:FZ N s p1 a=if(decide (a<(signs.length:Int)))=true then((idx signs a).bind fun b=>(eU s p1).bind fun c=>if((c.toNat:Int)==(b.toNat:Int))=true then((mY s p1 (IntKind.wrap .i64 (p1+1))).bind fun d=>some (.inr (.inr (((4,d,0,p1),IntKind.wrap .i64 (p1+1),0))))) else(some (.inl (IntKind.wrap .i64 (a+1))))) else(some (.inr (.inl ()))):=rfl
theorem VV{N:Nat}{s:BA}{i:Nat}(hi:i<s.data.toList.length)(g:s.data.toList.length<1000000):∀(d j M:Nat),j+d=signs.length->d<M->
  aJ (FZ N s (i:Int)) M (j:Int)=some (if(signs.drop j).contains (s.data.toList[i])=true then .inr ((4,s.extract i (i+1),0,(i:Int)),((i+1:Nat):Int),0) else .inl ())
 |d,j,0,_,h=>by omega
 |0,j,M+1,e,f=>by
  simp only[aJ,qDe]
  rw[if_neg (by simp only[j9];omega),jZ (by omega)]
  rfl
 |d+1,j,M+1,e,f=>by
  have b:j<signs.length:=by omega
  have k:signs.length=11:=rfl
  simp only[aJ,qDe]
  rw[if_pos (by simp only[j9];omega),iX b,nG hi,jR b]
  simp only[j0,List.contains_cons]
  by_cases he:s.data.toList[i]=signs[j]
  .rw[if_pos (by rw[he];exact gA _),bT (x:=(i:Int)+1) (by omega) (by omega),<-gY,tO (by omega) (by omega)]
   simp only[j0]
   rw[if_pos (by rw[he];simp)]
  have c:¬((s.data.toList[i]).toNat:Int)=((signs[j]).toNat:Int):=fun h=>he (UInt8.toNat_inj.1 (by omega))
  have a:(s.data.toList[i]==signs[j])=false:=beq_eq_false_iff_ne.2 he
  rw[if_neg (by simpa using c),bT (by omega) (by omega),<-gY]
  simp only[j0,a,gN]
  exact VV hi g d (j+1) M (by omega) (by omega)
def TY(s:BA)(i:Nat):(Int×BA×Int×Int)×Int×Int:=
 if(cM s i).2.2=0 then(((cM s i).1.1,(cM s i).1.2.1,(cM s i).1.2.2.1,(i:Int)),(cM s i).2.1,0) else cM s i
theorem qJm{N:Nat}{s:BA}{i:Nat}(hi:i<s.data.toList.length)(n:s.data.toList.length<1000000)(v:s.data.toList.length+20<N):GN N s (i:Int)=some (TY s i):=by
 have y:=iH s
 simp only[GN,nG hi,j0,PU,TY,cM,mA hi,kJ]
 by_cases h1:kd (s.data.toList[i])=1
 .simp only[h1,jJ]
  have d:=nB (p:=aV [1,2,3]) (l:=s.data.toList) (a:=i) (by omega)
  have key:=DY (f:=yV N s) (l:=s.data.toList) (p:=aV [1,2,3]) (fun e=>(e:Int)) (fun j b d=>by
   simp only[yV]
   rw[if_pos (by simp only[j9];omega),nG b]
   simp only[j0,HT,d]
   rw[if_pos trivial,bT (by omega) (by omega)]) (fun j b d=>by
   simp only[yV]
   rw[if_pos (by simp only[j9];omega),nG b]
   simp only[j0,HT,d]
   rfl) (by
   simp only[yV]
   rw[if_neg (by simp only[j9];omega)]
   rfl) (s.data.toList.length-i) i N (by omega) (by omega)
  rw[key]
  simp only[j0]
  rw[bT (by omega) (by omega),tO d.1 d.2]
  by_cases h:tw (aV [1,2,3]) s.data.toList i-i>24
  .rw[if_pos (by simp only[j9];omega),if_pos h];rfl
  rw[if_neg (by simp only[j9];omega),if_neg h];rfl
 simp only[h1,jF]
 by_cases h2:kd (s.data.toList[i])=2
 .simp only[h2,jJ]
  have q:=(PI _).1 h2
  rw[if_pos (by simp only[j9];omega)]
  simp only[j0]
  obtain⟨b,k,o⟩:=qBs _ _ rfl (fun c (g:c∈(s.data.toList.drop i).takeWhile (aV [2]))=>by simpa[aV] using NC g)
  rw[if_pos (by simp only[j9];omega),WJ (s.data.toList.length-i) i N 0 (by omega) n (by omega) (by omega) (by omega),o]
  simp only[j0,j9]
  generalize ((s.data.toList.drop i).takeWhile (aV [2])).foldl pV 0=u at b k
  by_cases h4:u>9007199254740992
  .simp[h4,yF]
  simp[h4]
 simp only[h2,jF]
 have t:¬(48<=(s.data.toList[i]).toNat/\(s.data.toList[i]).toNat<=57):=fun h=>h2 ((PI _).2 h)
 have k:(if decide (((s.data.toList[i]).toNat:Int)>=48)=true then some (decide (((s.data.toList[i]).toNat:Int)<=57)) else some false)=some false:=by
  by_cases h48:48<=(s.data.toList[i]).toNat
  .rw[if_pos (by simp only[j9];omega)];congr 1;rw[decide_eq_false_iff_not];omega
  rw[if_neg (by simp only[j9];omega)]
 rw[k]
 simp only[j0,jB,jF]
 by_cases h7:kd (s.data.toList[i])=7
 .have g:s.data.toList[i]=34:=(YK _).1 h7
  simp only[h7,jJ]
  rw[if_pos (by rw[g];rfl),bT (x:=(i:Int)+1) (by omega) (by omega),<-gY]
  have d:=nB (p:=eD) (l:=s.data.toList) (a:=i+1) (by omega)
  rw[qIn (s.data.toList.length-(i+1)) (i+1) N (by omega) n (by omega)]
  simp only[j0]
  generalize tw eD s.data.toList (i+1)=e at d
  by_cases he:e=s.data.toList.length
  .rw[if_pos (by omega)]
   have:¬s.data.toList.getD e 0=34:=fun h=>by have:=DP (l:=s.data.toList) (i:=e) (by rw[h];decide);omega
   rw[if_neg this]
   rfl
  have b:e<s.data.toList.length:=by omega
  rw[if_neg (by omega),nG b,mA b]
  simp only[j0]
  by_cases h34:s.data.toList[e]=34
  .rw[if_pos h34,if_neg (by rw[h34];decide),tO d.1 d.2]
   simp only[j0,jJ]
   rw[bT (by omega) (by omega),<-gY]
  have h34':¬((s.data.toList[e]).toNat:Int)=34:=fun h=>h34 (UInt8.toNat_inj.1 (by show _=34;omega))
  rw[if_neg h34,if_pos (by simpa using h34')]
  simp[yF]
 have h34':¬((s.data.toList[i]).toNat:Int)=34:=fun h=>h7 ((YK _).2 (UInt8.toNat_inj.1 (by show _=34;omega)))
 simp only[h7,jF,h34']
 have q:(if((s.data.toList[i]).toNat:Int)=61 then(if decide (IntKind.wrap .i64 ((i:Int)+1)<(s.size:Int))=true then((eU s (IntKind.wrap .i64 ((i:Int)+1))).bind fun o=>some ((o.toNat:Int)==61)) else some false) else some false)=some (decide (s.data.toList.getD i 0=61/\s.data.toList.getD (i+1) 0=61)):=by
  rw[mA hi]
  by_cases h61:s.data.toList[i]=61
  .rw[if_pos (by rw[h61];rfl),bT (by omega) (by omega),<-gY]
   by_cases b:i+1<s.data.toList.length
   .rw[if_pos (by simp only[j9];omega),nG b,mA b]
    simp only[j0]
    congr 1
    rw[kM,kJ,j9]
    exact⟨fun h=>⟨h61,UInt8.toNat_inj.1 (by show _=61;omega)⟩,fun h=>by rw[h.2];rfl⟩
   rw[if_neg (by simp only[j9];omega)]
   congr 1
   refine(jY fun h=> ?_).symm
   have:=DP (l:=s.data.toList) (i:=i+1) (by rw[h.2];decide)
   omega
  rw[if_neg (fun h=>h61 (UInt8.toNat_inj.1 (by show _=61;omega)))]
  congr 1
  exact(jY fun h=>h61 h.1).symm
 rw[q]
 simp only[j0,j9]
 by_cases h61:s.data.toList.getD i 0=61/\s.data.toList.getD (i+1) 0=61
 .have b:i+1<s.data.toList.length:=DP (by rw[h61.2];decide)
  have d:kd (s.data.toList[i])=8:=by rw[<-mA hi,h61.1];kernel_rfl
  have g:oJ s.data.toList i=i+2:=by rw[oJ,if_pos h61]
  have r:s.extract i (i+2)=(⟨#[61,61]⟩:BA):=by
   apply Go.WideShapes.bytes_inj
   simp only[ByteArray.data_extract,gU,gG]
   rw[jR hi,jR b,<-mA hi,<-mA b,h61.1,h61.2,show i+2-i=2 by omega]
   rfl
  simp only[h61,and_self,jJ,d,g,r]
  rw[bT (by omega) (by omega)]
  simp
 have g:oJ s.data.toList i=i+1:=by rw[oJ,if_neg h61]
 have key:=VV (N:=N) hi n 11 0 N rfl (by omega)
 rw[show((0:Nat):Int)=0 from rfl] at key
 rw[if_neg h61,key]
 by_cases d:kd (s.data.toList[i])=8
 .have:=(qAo _).1 d
  simp only[d,jJ,kI,this,j0,g]
 have:¬signs.contains (s.data.toList[i])=true:=fun h=>d ((qAo _).2 h)
 simp only[d,jF,kI,this,j0]
 simp[yF]
def mP:Nat->List UInt8->Nat->Nat
 |0,_,i=>i
 |k+1,l,i=>
  if tw (aV [5]) l i=l.length then l.length
  else if kd (l.getD (tw (aV [5]) l i) 0)=6 then mP k l (tw cF l (tw (aV [5]) l i))
  else tw (aV [5]) l i
theorem qLr{N:Nat}{s:BA}{i:Nat}(hi:i<=s.data.toList.length)(k:s.data.toList.length<1000000)(g:s.data.toList.length+10<N):aJ (xD N s) N (i:Int)=some ((tw cF s.data.toList i:Nat):Int):=by
 have n:=iH s
 have d:∀c:UInt8,((c.toNat:Int) !=10)=cF c:=fun c=>by
  rw[kM,fO,cF,fO]
  exact⟨fun h e=>h (by rw[e];rfl),fun h e=>h (UInt8.toNat_inj.1 (by show _=10;omega))⟩
 refine DY (f:=xD N s) (l:=s.data.toList) (p:=cF) (fun e=>(e:Int)) (fun j b a=> ?_) (fun j b a=> ?_) ?_ (s.data.toList.length-i) i N (by omega) (by omega)
 .simp only[xD]
  rw[if_pos (by simp only[j9];omega),nG b]
  simp only[j0,d,a]
  rw[if_pos trivial,bT (by omega) (by omega)]
 .simp only[xD]
  rw[if_pos (by simp only[j9];omega),nG b]
  simp only[j0,d,a]
  rfl
 simp only[xD]
 rw[if_neg (by simp only[j9];omega)]
 rfl
theorem qKv{s:BA}{i:Nat}(hi:i<s.data.toList.length):((eU s (i:Int)).bind fun x1=>if((x1.toNat:Int)==32)=true then(some true) else((eU s (i:Int)).bind fun b=>if((b.toNat:Int)==9)=true then(some true) else((eU s (i:Int)).bind fun d=>if((d.toNat:Int)==10)=true then(some true) else((eU s (i:Int)).bind fun e=>some ((e.toNat:Int)==13)))))=some (aV [5] (s.data.toList[i])):=by
 simp only[nG hi,j0,kJ]
 generalize s.data.toList[i]=c
 have a:=qLv c
 by_cases h1:(c.toNat:Int)=32
 .rw[if_pos h1,a.2 (by omega)]
 rw[if_neg h1]
 by_cases h2:(c.toNat:Int)=9
 .rw[if_pos h2,a.2 (by omega)]
 rw[if_neg h2]
 by_cases h3:(c.toNat:Int)=10
 .rw[if_pos h3,a.2 (by omega)]
 rw[if_neg h3]
 congr 1
 rw[kM,kJ,a]
 omega
theorem qLs{N:Nat}{s:BA}{i:Nat}(hi:i<s.data.toList.length)(c:s.data.toList.length<1000000)(b:s.data.toList.length+10<N):
  yY N s (i:Int)=some (if aV [5] (s.data.toList[i])=true then .inl (((i+1:Nat)):Int) else if kd (s.data.toList[i])=6 then .inl ((tw cF s.data.toList i:Nat):Int) else .inr (.inr (i:Int))):=by
 have d:=iH s
 simp only[yY]
 rw[if_pos (by simp only[j9];omega),qKv hi]
 simp only[j0]
 by_cases h5:aV [5] (s.data.toList[i])=true
 .rw[if_pos h5,if_pos h5,bT (by omega) (by omega),<-gY]
 rw[if_neg h5,if_neg h5,nG hi]
 simp only[j0,kJ]
 have a:=qJr (s.data.toList[i])
 by_cases h6:kd (s.data.toList[i])=6
 .rw[if_pos (by have:=a.1 h6;omega),if_pos h6,qLr (by omega) c b]
  rfl
 rw[if_neg (fun h=>h6 (a.2 (by omega))),if_neg h6]
theorem PY{N:Nat}{s:BA}(f:s.data.toList.length<1000000)(c:s.data.toList.length+10<N):∀(d i k M:Nat),i+d=s.data.toList.length->d<k->d<M->∃z,aJ (yY N s) M (i:Int)=some z/\(z= .inl ((mP k s.data.toList i:Nat):Int)\/z= .inr ((mP k s.data.toList i:Nat):Int))
 |d,i,k,0,_,_,h=>by omega
 |d,i,0,M,_,h,_=>by omega
 |0,i,k+1,M+1,g,n,o=>by
  have r:=iH s
  refine⟨.inl ((s.data.toList.length:Nat):Int),?_,.inl ?_⟩
  .simp only[aJ,yY]
   rw[if_neg (by simp only[j9];omega)]
   simp only[j0]
   congr 2;omega
  simp only[mP]
  rw[EC (by omega),if_pos (by omega)]
 |d+1,i,k+1,M+1,g,n,o=>by
  have r:=iH s
  have hi:i<s.data.toList.length:=by omega
  simp only[aJ]
  rw[qLs hi f c]
  simp only[j0]
  cases h5:aV [5] (s.data.toList[i]) with
  |true=>
   rw[if_pos rfl]
   have:=PY f c d (i+1) (k+1) M (by omega) (by omega) (by omega)
   simp only[mP,xW hi h5] at this ⊢
   exact this
  |false=>
   rw[if_neg kC]
   by_cases h6:kd (s.data.toList[i])=6
   .have b:mP (k+1) s.data.toList i=mP k s.data.toList (tw cF s.data.toList i):=by
     simp only[mP,xS hi h5,mA hi,h6,jJ]
     rw[if_neg (by omega)]
    rw[b,if_pos h6]
    have t:=nB (p:=cF) (l:=s.data.toList) (a:=i) (by omega)
    have q:=uX (p:=cF) hi (by
     simp only[cF,fO,ne_eq]
     intro e;rw[e] at h6;exact absurd h6 (by decide))
    exact PY f c (s.data.toList.length-tw cF s.data.toList i) _ k M (by omega) (by omega) (by omega)
   have b:mP (k+1) s.data.toList i=i:=by
    simp only[mP,xS hi h5,mA hi,h6,jF]
    rw[if_neg (by omega)]
   rw[b,if_neg h6]
   exact⟨_,rfl,.inr rfl⟩
theorem qCc{N:Nat}{s:BA}{i k:Nat}(hi:i<=s.data.toList.length)(d:s.data.toList.length<1000000)(c:s.data.toList.length+10<N)(e:s.data.toList.length<i+k):CK N s (i:Int)=some ((mP k s.data.toList i:Nat):Int):=by
 obtain⟨z,a,b⟩:=PY d c (s.data.toList.length-i) i k N (by omega) (by omega) (by omega)
 unfold CK
 rw[a]
 rcases b with rfl|rfl<;>rfl
theorem YP{s:BA}:∀(k i:Nat),i<=s.data.toList.length->s.data.toList.length<i+k->i<=mP k s.data.toList i/\mP k s.data.toList i<=s.data.toList.length/\
  (mP k s.data.toList i=s.data.toList.length->iT k s i= .inr [(5,⟨#[]⟩,0,(s.data.toList.length:Int))])/\
  (mP k s.data.toList i<s.data.toList.length->∃k',(∀b,mP k s.data.toList i<b->s.data.toList.length<b+k')/\iT k s i=
   if(cM s (mP k s.data.toList i)).2.2≠0 then .inl ((mP k s.data.toList i:Nat),(cM s (mP k s.data.toList i)).2.2)
   else match iT k' s (cM s (mP k s.data.toList i)).2.1.toNat with
    | .inl x=> .inl x
    | .inr r=> .inr (((cM s (mP k s.data.toList i)).1.1,(cM s (mP k s.data.toList i)).1.2.1,(cM s (mP k s.data.toList i)).1.2.2.1,((mP k s.data.toList i:Nat):Int))::r))
 |0,i,d,t=>by omega
 |k+1,i,d,t=>by
  have f:=nB (p:=aV [5]) (l:=s.data.toList) (a:=i) d
  simp only[mP,iT]
  by_cases he:tw (aV [5]) s.data.toList i=s.data.toList.length
  .simp only[he,jJ]
   exact⟨d,jP _,fun _=>trivial,fun h=>absurd h (Nat.lt_irrefl _)⟩
  simp only[he,jF]
  have c:tw (aV [5]) s.data.toList i<s.data.toList.length:=by omega
  by_cases h6:kd (s.data.toList.getD (tw (aV [5]) s.data.toList i) 0)=6
  .simp only[h6,jJ]
   have g:=nB (p:=cF) (l:=s.data.toList) (a:=tw (aV [5]) s.data.toList i) (by omega)
   have u:=uX (p:=cF) c (by
    rw[mA c] at h6
    simp only[cF,fO,ne_eq]
    intro e;rw[e] at h6;exact absurd h6 (by decide))
   obtain⟨v,n,o,q⟩:=YP k (tw cF s.data.toList (tw (aV [5]) s.data.toList i)) g.2 (by omega)
   exact⟨by omega,n,o,q⟩
  simp only[h6,jF]
  exact⟨f.1,f.2,fun h=>absurd h he,fun _=>⟨k,fun b hb'=>by omega,rfl⟩⟩
theorem VB{N:Nat}{s:BA}(E:s.data.toList.length<=16384)(B:s.data.toList.length+40<N):∀(d i k M:Nat) (acc:List bB),i+d=s.data.toList.length->d<M->s.data.toList.length<i+k->acc.length<=i->
  ∃z,aJ (FX N s) M (acc,((mP k s.data.toList i:Nat):Int))=some z/\((∃o,z= .inl o/\o.length<=s.data.toList.length/\uZ acc (iT k s i)=(o++[(5,⟨#[]⟩,0,(s.size:Int))],0,0))\/z= .inr (uZ acc (iT k s i)))
 |d,i,k,0,acc,_,h,_,_=>by omega
 |d,i,k,M+1,acc,G,H,A,K=>by
  have F:=iH s
  obtain⟨v,y,g,l⟩:=YP (s:=s) k i (by omega) A
  generalize hA:mP k s.data.toList i=a at v y g l
  simp only[aJ,FX]
  by_cases he:a=s.data.toList.length
  .refine⟨.inl acc,?_,.inl ⟨acc,rfl,by omega,?_⟩⟩
   .rw[if_neg (by simp only[j9];omega)]
    rfl
   rw[g he,<-F];rfl
  have b:a<s.data.toList.length:=by omega
  obtain⟨k',n,p⟩:=l b
  rw[if_pos (by simp only[j9];omega),qJm b (by omega) (by omega)]
  simp only[j0,TY]
  by_cases h0:(cM s a).2.2=0
  .obtain⟨e,c,f,q,_⟩:=HZ b h0
   rw[if_pos h0]
   simp only[fK,jB,jF]
   rw[nQ (by simp only[jC,jE];omega) (by omega),c]
   simp only[j0]
   rw[qCc (k:=k') q (by omega) (by omega) (n e f)]
   simp only[j0]
   obtain⟨z,t,u⟩:=VB E B (s.data.toList.length-e) e k' M (acc++[((cM s a).1.1,(cM s a).1.2.1,(cM s a).1.2.2.1,(a:Int))]) (by omega) (by omega) (n e f) (by simp;omega)
   have D:uZ acc (iT k s i)=uZ (acc++[((cM s a).1.1,(cM s a).1.2.1,(cM s a).1.2.2.1,(a:Int))]) (iT k' s e):=by
    rw[p,if_neg (by simp[h0]),c,jX]
    cases iT k' s e with
    |inl x=>rfl
    |inr r=>simp[uZ]
   rw[D]
   exact⟨z,t,u⟩
  rw[if_neg h0]
  have c:((cM s a).2.2 !=0)=true:=by simpa using h0
  simp only[c,jJ,j0]
  refine⟨_,rfl,.inr ?_⟩
  rw[p,if_pos h0]
  rfl
theorem qIx{N:Nat}{s:BA}(e:20000<N):GL N s=some (iP s):=by
 have g:=iH s
 unfold GL iP
 by_cases h:s.data.toList.length>16384
 .rw[if_pos (by simp only[j9];omega),if_pos h]
 rw[if_neg (by simp only[j9];omega),if_neg h]
 have a:=qCc (N:=N) (s:=s) (i:=0) (k:=s.data.toList.length+1) (by omega) (by omega) (by omega) (by omega)
 rw[show((0:Nat):Int)=0 from rfl] at a
 rw[a]
 simp only[j0]
 obtain⟨z,b,c⟩:=VB (N:=N) (s:=s) (by omega) (by omega) s.data.toList.length 0 (s.data.toList.length+1) N [] (by omega) (by omega) (by omega) (by simp)
 rw[b]
 rcases c with ⟨o,rfl,f,d⟩|rfl
 .simp only[j0]
  rw[nQ (by simp only[jC,jE];omega) (by omega),d]
  rfl
 rfl
def lW(s:BA):Bool:=decide (1<=s.data.toList.length/\s.data.toList.length<=24/\kd (s.data.toList.getD 0 0)=1/\tw (aV [1,2,3]) s.data.toList 0=s.data.toList.length)
theorem AG{s:BA}(h:¬(1<=s.data.toList.length/\s.data.toList.length<=24/\kd (s.data.toList.getD 0 0)=1/\tw (aV [1,2,3]) s.data.toList 0=s.data.toList.length)):false=lW s:=(jY h).symm
theorem qNd{s:BA}(h:1<=s.data.toList.length/\s.data.toList.length<=24/\kd (s.data.toList.getD 0 0)=1/\tw (aV [1,2,3]) s.data.toList 0=s.data.toList.length):true=lW s:=(jV h).symm
theorem SO{N:Nat}{s:BA}(b:100<N):zX N s=some (lW s):=by
 have c:=iH s
 simp only[zX,QK (show 30<N by omega),j0]
 by_cases h1:1<=s.data.toList.length
 .by_cases h2:s.data.toList.length<=24
  .rw[if_pos (by simp only[j9];omega),if_pos (by simp only[j9];omega)]
   have hi:=nG (s:=s) (i:=0) (by omega)
   rw[show((0:Nat):Int)=0 from rfl] at hi
   rw[hi]
   simp only[j0,TA,kJ]
   have a:=IB (N:=N) (s:=s) (ks:=[1,2,3]) (i:=0) (by omega) (by omega) (by simp) (by omega)
   rw[show((0:Nat):Int)=0 from rfl] at a
   by_cases h3:kd (s.data.toList[0])=1
   .rw[if_pos h3,a]
    simp only[j0]
    congr 1
    rw[kM,kJ,lW,j9,mA (by omega)]
    exact⟨fun h=>⟨h1,h2,h3,by omega⟩,fun h=>by have:=h.2.2.2;omega⟩
   rw[if_neg h3]
   refine congrArg some (AG fun h=> ?_)
   rw[mA (by omega)] at h
   exact h3 h.2.2.1
  rw[if_pos (by simp only[j9];omega),if_neg (by simp only[j9];omega)]
  exact congrArg some (AG fun h=>h2 h.2.1)
 rw[if_neg (by simp only[j9];omega)]
 exact congrArg some (AG fun h=>h1 h.1)
theorem qLd{N:Nat}{s:BA}(c:100<N):CJ N s=some (lW s):=by
 have d:=iH s
 simp only[CJ]
 by_cases h1:1<=s.data.toList.length
 .by_cases h2:s.data.toList.length<=24
  .rw[if_neg (by simp only[j9];omega),if_neg (by simp only[j9];omega)]
   have hi:=nG (s:=s) (i:=0) (by omega)
   rw[show((0:Nat):Int)=0 from rfl] at hi
   rw[hi]
   simp only[j0,PU]
   by_cases h3:kd (s.data.toList[0])=1
   .rw[h3,if_neg (by simp)]
    have key:=DY (f:=yZ N s) (l:=s.data.toList) (p:=aV [1,2,3]) (fun e=>if e=s.data.toList.length then .inl () else .inr false) (fun j b a=>by
     simp only[yZ]
     rw[if_pos (by simp only[j9];omega),nG b]
     simp only[j0,HT,a]
     rw[bT (by omega) (by omega)]
     rfl) (fun j b a=>by
     simp only[yZ]
     rw[if_pos (by simp only[j9];omega),nG b]
     simp only[j0,HT,a]
     rw[if_neg (show ¬j=s.data.toList.length by omega)]
     rfl) (by
     simp only[yZ]
     rw[if_neg (by simp only[j9];omega)]
     simp) s.data.toList.length 0 N (by omega) (by omega)
    rw[show((0:Nat):Int)=0 from rfl] at key
    rw[key]
    simp only[j0]
    by_cases h4:tw (aV [1,2,3]) s.data.toList 0=s.data.toList.length
    .rw[if_pos h4]
     exact congrArg some (qNd ⟨h1,h2,by rw[mA (by omega)];exact h3,h4⟩)
    rw[if_neg h4]
    exact congrArg some (AG fun h=>h4 h.2.2.2)
   rw[if_pos (by rw[gT,beq_eq_false_iff_ne];exact h3)]
   refine congrArg some (AG fun h=> ?_)
   rw[mA (by omega)] at h
   exact h3 h.2.2.1
  rw[if_neg (by simp only[j9];omega),if_pos (by simp only[j9];omega)]
  simp only[j0,jJ]
  exact congrArg some (AG fun h=>h2 h.2.1)
 rw[if_pos (by simp only[j9];omega)]
 simp only[j0,jJ]
 exact congrArg some (AG fun h=>h1 h.1)
def sp:List UInt8->List (List UInt8)
 |[]=>[[]]
 |c::l=>if c=47 then[]::sp l else match sp l with
  |[]=>[[c]]
  |p::q=>(c::p)::q
theorem AT:∀l:List UInt8,sp l≠[]
 |[]=>by simp[sp]
 |c::l=>by
  simp only[sp]
  split
  .simp
  split<;>simp
theorem TE:∀l:List UInt8,(sp l).length=l.count 47+1
 |[]=>rfl
 |c::l=>by
  simp only[sp]
  split
  .rename_i h;subst h;simp[TE l]
  rename_i h
  have:=TE l
  split
  .rename_i e;exact absurd e (AT l)
  rename_i e
  rw[e] at this
  simp only[jC] at this ⊢
  rw[List.count_cons_of_ne h,<-this]
def nC(c:UInt8):Bool:=c !=47
theorem qCf:∀l:List UInt8,sp l=if(l.takeWhile nC).length=l.length then[l] else l.takeWhile nC::sp (l.drop ((l.takeWhile nC).length+1))
 |[]=>rfl
 |c::l=>by
  have b:=qCf l
  by_cases h:c=47
  .subst h
   rw[fD (by decide)]
   simp[sp]
  have a:nC c=true:=by simpa[nC] using h
  rw[kV a]
  simp only[sp,h,jF,b,jC,Nat.add_right_cancel_iff,List.drop_succ_cons]
  by_cases he:(l.takeWhile nC).length=l.length
  .simp[he]
  simp[he]
def vC:Nat->Nat->List UInt8->Option (Nat×Nat)
 |a,b,[]=>some (a,b)
 |a,b,c::l=>if c=47 then(if b=0 then none else vC (a+1) 0 l) else if aV [1,2,3,4] c=true then(if b+1>24 then none else vC a (b+1) l) else none
def qTy(p:List UInt8):Prop:=1<=p.length/\p.length<=24/\∀c∈p,aV [1,2,3,4] c=true
theorem QF:∀(l:List UInt8) (a b:Nat),b<=24->((∃x y,vC a b l=some (x,y)/\0<y/\x<=8)↔
  ∃p q,sp l=p::q/\1<=b+p.length/\b+p.length<=24/\(∀c∈p,aV [1,2,3,4] c=true)/\(∀r∈q,qTy r)/\a+q.length<=8)
 |[],a,b,v=>by
  constructor
  .rintro⟨x,y,h,e,g⟩
   simp only[vC,jM,Prod.mk.injEq] at h
   exact⟨[],[],rfl,by simp;omega,by simpa using v,by simp,by simp,by simp;omega⟩
  rintro⟨p,q,h,e,g,_,_,f⟩
  simp only[sp,gF] at h
  obtain⟨rfl,rfl⟩:=h
  simp only[jE] at e f
  exact⟨a,b,rfl,by omega,by omega⟩
 |c::l,a,b,v=>by
  by_cases hc:c=47
  .have t:sp (c::l)=[]::sp l:=by simp[sp,hc]
   rw[t]
   simp only[vC,hc,jJ]
   by_cases h0:b=0
   .subst h0
    simp only[jJ]
    constructor
    .rintro⟨x,y,h,_⟩;cases h
    rintro⟨p,q,h,e,_⟩
    simp only[gF] at h
    rw[<-h.1] at e;simp at e
   rw[if_neg h0]
   rw[QF l (a+1) 0 (by omega)]
   constructor
   .rintro⟨p,q,h,e,g,f,n,o⟩
    refine⟨[],sp l,rfl,by simp;omega,by simpa using v,by simp,?_,by rw[h];simp only[jC];omega⟩
    intro r s
    rw[h] at s
    rcases jT.1 s with rfl|s
    .exact⟨by omega,by omega,f⟩
    exact n r s
   rintro⟨p,q,h,e,g,f,n,o⟩
   simp only[gF] at h
   obtain⟨rfl,rfl⟩:=h
   obtain⟨p,q,k⟩:∃p q,sp l=p::q:=by
    cases u:sp l with
    |nil=>exact absurd u (AT l)
    |cons p q=>exact⟨p,q,rfl⟩
   rw[k] at n o
   obtain⟨A,B,z⟩:=n p (jH ..)
   exact⟨p,q,k,by omega,by omega,z,fun r s=>n r (jL _ s),by simp only[jC] at o;omega⟩
  obtain⟨p0,z,k⟩:∃p q,sp l=p::q:=by
   cases u:sp l with
   |nil=>exact absurd u (AT l)
   |cons p q=>exact⟨p,q,rfl⟩
  have t:sp (c::l)=(c::p0)::z:=by simp only[sp,hc,jF,k]
  rw[t]
  simp only[vC,hc,jF]
  by_cases u:aV [1,2,3,4] c=true
  .rw[if_pos u]
   by_cases h24:b+1>24
   .rw[if_pos h24]
    constructor
    .rintro⟨x,y,h,_⟩;cases h
    rintro⟨p,q,h,e,g,_⟩
    simp only[gF] at h
    rw[<-h.1] at g
    simp only[jC] at g
    omega
   rw[if_neg h24,QF l a (b+1) (by omega)]
   constructor
   .rintro⟨p,q,h,e,g,f,n,o⟩
    rw[k] at h
    simp only[gF] at h
    obtain⟨rfl,rfl⟩:=h
    refine⟨_,_,rfl,by simp only[jC];omega,by simp only[jC];omega,?_,n,o⟩
    intro d s
    rcases jT.1 s with rfl|s
    .exact u
    exact f d s
   rintro⟨p,q,h,e,g,f,n,o⟩
   simp only[gF] at h
   obtain⟨rfl,rfl⟩:=h
   simp only[jC] at e g
   exact⟨p0,z,k,by omega,by omega,fun d s=>f d (jL _ s),n,o⟩
  rw[if_neg u]
  constructor
  .rintro⟨x,y,h,_⟩;cases h
  rintro⟨p,q,h,e,g,f,_⟩
  simp only[gF] at h
  rw[<-h.1] at f
  exact absurd (f c (jH ..)) u
theorem inK4{N:Nat}(c:UInt8):((xJ N (c.toNat:Int)).bind fun y1=>if y1=true then(some true) else(some ((c.toNat:Int)==46)))=some (aV [1,2,3,4] c):=by
 have h:=yB (p:=fun c=>(aV [1,2,3] c||decide (c.toNat=46))==aV [1,2,3,4] c) (by kernel_rfl) c
 rw[kJ] at h
 rw[<-h,HT]
 simp only[j0]
 have e:((c.toNat:Int)==46)=decide (c.toNat=46):=by rw[kM,kJ,j9];omega
 rw[e]
 cases aV [1,2,3] c<;>simp
theorem OQ{N:Nat}{s:BA}(c:s.data.toList.length<1000000):∀(d i M a b:Nat),i+d=s.data.toList.length->d<M->a<=i+1->b<=24->
  aJ (CC N s) M ((a:Int),(b:Int),(i:Int))=some (match vC a b (s.data.toList.drop i) with|some z=> .inl ((z.1:Int),(z.2:Int))|none=> .inr false)
 |d,i,0,_,_,_,h,_,_=>by omega
 |0,i,M+1,a,b,e,f,g,k=>by
  have l:=iH s
  simp only[aJ,CC]
  rw[if_neg (by simp only[j9];omega),jZ (by omega)]
  rfl
 |d+1,i,M+1,a,b,e,f,g,k=>by
  have l:=iH s
  have hi:i<s.data.toList.length:=by omega
  simp only[aJ,CC]
  rw[if_pos (by simp only[j9];omega),jR hi,nG hi]
  simp only[j0,inK4,kJ,vC]
  by_cases hc:s.data.toList[i]=47
  .rw[if_pos (show((s.data.toList[i]).toNat:Int)=47 by rw[hc];rfl),if_pos hc]
   by_cases hb:b=0
   .rw[if_pos (show(b:Int)=0 by omega),if_pos hb]
    rfl
   rw[if_neg (show ¬(b:Int)=0 by omega),if_neg hb,bT (x:=(a:Int)+1) (by omega) (by omega)]
   simp only[j0]
   rw[if_neg (by simp),bT (by omega) (by omega)]
   have:=OQ (N:=N) c d (i+1) M (a+1) 0 (by omega) (by omega) (by omega) (by omega)
   exact this
  have hc':¬((s.data.toList[i]).toNat:Int)=47:=fun h=>hc (UInt8.toNat_inj.1 (by show _=47;omega))
  rw[if_neg hc',if_neg hc]
  by_cases hk:aV [1,2,3,4] (s.data.toList[i])=true
  .rw[if_pos hk,if_pos hk,bT (x:=(b:Int)+1) (by omega) (by omega)]
   simp only[j0]
   by_cases h24:b+1>24
   .rw[if_pos (by simp only[j9];omega),if_pos h24]
    rfl
   rw[if_neg (by simp only[j9];omega),if_neg h24,bT (by omega) (by omega)]
   have:=OQ (N:=N) c d (i+1) M a (b+1) (by omega) (by omega) (by omega) (by omega)
   exact this
  rw[if_neg hk,if_neg hk]
  rfl
def mK(l:List UInt8):Bool:=decide (l.length<=80/\(sp l).length<=8/\∀p∈sp l,1<=p.length/\p.length<=24/\∀c∈p,aV [1,2,3,4] c=true)
theorem YT(l:List UInt8):mK l=true↔l.length<=80/\∃x y,vC 1 0 l=some (x,y)/\0<y/\x<=8:=by
 rw[QF l 1 0 (by omega)]
 simp only[mK,j9]
 obtain⟨p,q,hpq⟩:∃p q,sp l=p::q:=by
  cases a:sp l with
  |nil=>exact absurd a (AT l)
  |cons p q=>exact⟨p,q,rfl⟩
 constructor
 .rintro⟨c,d,b⟩
  rw[hpq] at d b
  obtain⟨f,g,e⟩:=b p (jH ..)
  exact⟨c,p,q,hpq,by omega,by omega,e,fun r a=>b r (jL _ a),by simp only[jC] at d;omega⟩
 rintro⟨c,p',q',h,d,b,e,f,g⟩
 refine⟨c,by rw[h];simp only[jC];omega,?_⟩
 intro r a
 rw[h] at a
 rcases jT.1 a with rfl|a
 .exact⟨by omega,by omega,e⟩
 exact f r a
theorem qLp{N:Nat}{s:BA}(c:100<N):GS N s=some (mK s.data.toList):=by
 have d:=iH s
 simp only[GS]
 by_cases h80:s.data.toList.length<=80
 .rw[if_neg (by simp only[j9];omega)]
  have key:=OQ (N:=N) (s:=s) (by omega) s.data.toList.length 0 N 1 0 (by omega) (by omega) (by omega) (by omega)
  rw[show((0:Nat):Int)=0 from rfl,show((1:Nat):Int)=1 from rfl,kI] at key
  rw[key]
  have a:=YT s.data.toList
  cases hR:vC 1 0 s.data.toList with
  |none=>
   simp only[j0]
   refine congrArg some ?_
   rw[kM,a]
   constructor
   .intro h;cases h
   rintro⟨_,x,y,h,_⟩;rw[hR] at h;cases h
  |some z=>
   obtain⟨x,y⟩:=z
   simp only[j0]
   by_cases hy:0<y
   .rw[if_pos (by simp only[j9];omega)]
    simp only[j0]
    refine congrArg some ?_
    rw[kM,a,j9]
    constructor
    .intro h;exact⟨h80,x,y,hR,hy,by omega⟩
    rintro⟨_,x',y',h,_,b⟩;rw[hR] at h;simp only[jM,Prod.mk.injEq] at h;omega
   rw[if_neg (by simp only[j9];omega)]
   simp only[j0]
   refine congrArg some ?_
   rw[kM,a]
   constructor
   .intro h;cases h
   rintro⟨_,x',y',h,b,_⟩;rw[hR] at h;simp only[jM,Prod.mk.injEq] at h;omega
 rw[if_pos (by simp only[j9];omega)]
 refine congrArg some ?_
 rw[kM,YT]
 exact⟨fun h=>(by cases h),fun h=>absurd h.1 h80⟩
theorem qVu{p:UInt8->Bool}{l:List UInt8}{k:Nat}(c:k<l.length)(a:∀j,∀h:j<l.length,j<k->p l[j]=true)(b:p l[k]=false):tw p l 0=k:=by
 have key:∀d j,j+d=k->tw p l j=k:=by
  intro d
  induction d with
  |zero=>
   intro j h
   have:j=k:=by omega
   subst this
   exact xS c b
  |succ d e=>intro j h;rw[<-xW (by omega) (a j (by omega) (by omega))];exact e (j+1) (by omega)
 exact key k 0 (by omega)
theorem qVg(x:BA):rB x 47=if(x.data.toList.takeWhile nC).length=x.data.toList.length then-1 else((x.data.toList.takeWhile nC).length:Int):=by
 have n:=iH x
 have l:tw nC x.data.toList 0=(x.data.toList.takeWhile nC).length:=by simp[tw]
 have a:∀j,∀h:j<x.data.toList.length,x[j]! =x.data.toList[j]:=by
  intro j b
  rw[getElem!_pos x j (by omega)]
  simp[ByteArray.getElem_eq_getElem_data]
 have f:(47:Int).toNat.toUInt8=47:=rfl
 rw[<-l]
 unfold rB
 rw[f,<-n]
 cases hf:(List.range x.data.toList.length).find? (fun j=>x[j]! ==47) with
 |none=>
  rw[List.find?_eq_none] at hf
  simp only
  rw[if_pos]
  refine qDl fun c d=> ?_
  obtain⟨j,b,rfl⟩:=List.getElem_of_mem d
  have:=hf j (fB.2 b)
  rw[a j b] at this
  simpa[nC] using this
 |some k=>
  have d:=List.find?_some hf
  have g:k<x.data.toList.length:=fB.1 (fG hf)
  rw[a k g] at d
  have e:tw nC x.data.toList 0=k:=by
   refine qVu g (fun j h b=> ?_) (by simpa[nC] using d)
   have:=(List.find?_range_eq_some.1 hf).2.2 j b
   rw[a j h] at this
   simpa[nC] using this
  simp only
  rw[e,if_neg (by omega)]
theorem qPp{N:Nat}(x:BA):CY N x (⟨#[47]⟩:BA)=some (rB x 47):=by
 have b:eU (⟨#[47]⟩:BA) 0=some 47:=by kernel_rfl
 simp only[CY,KH,BN,show(⟨#[47]⟩:BA).size=1 from rfl,mF]
 rw[if_neg (by decide)]
 simp only[j0,j9]
 by_cases h:(⟨#[47]⟩:BA)=x
 .have a:rB (⟨#[47]⟩:BA) 47=0:=by kernel_rfl
  rw[if_pos h,<-h,a]
  rfl
 rw[if_neg h,if_pos (by decide),b]
 rfl
theorem qTn(x:BA):BD x 47=((x.data.toList.count 47:Nat):Int):=by
 unfold BD
 rw[Go.Lib.foldl_data]
 have key:∀(l:List UInt8) (n:Int),l.foldl (fun n x=>if x==(47:Int).toNat.toUInt8 then n+1 else n) n=n+((l.count 47:Nat):Int):=by
  intro l
  induction l with
  |nil=>intro n;simp
  |cons c l b=>
   intro n
   rw[List.foldl_cons,b,List.count_cons]
   have a:(47:Int).toNat.toUInt8=47:=rfl
   rw[a]
   by_cases h:(c==47)=true
   .simp only[h,jJ];omega
   simp only[h,jB,jF];omega
 rw[key]
 omega
theorem qQf{α:Type}(l:List α)(k:Nat)(a b:α):(l++List.replicate (k+1) a).set l.length b=(l++[b])++List.replicate k a:=by
 rw[List.set_append_right _ _ (jP _)]
 simp[List.replicate_succ]
theorem WP{N n:Nat}{s:BA}(v:n<1000000000)(l:n<=s.size+1)(A:s.size<1000000000):∀(r M:Nat) (x:BA) (done:List BA),(sp x.data.toList).length=r->done.length+r=n->r<M->x.size<1000000000->
  ∃y D,aJ (GO N s (⟨#[47]⟩:BA) 0 (n:Int)) M (x,(done.length:Int),done++List.replicate r (⟨#[]⟩:BA))=some (y,((n-1:Nat):Int),D++[(⟨#[]⟩:BA)])/\D.length=n-1/\D++[y]=done++(sp x.data.toList).map iL
 |_,0,_,_,_,_,h,_=>by omega
 |0,_,x,_,h,_,_,_=>by exact absurd (kY.1 h) (AT _)
 |r+1,M+1,x,done,c,F,G,H=>by
  have E:=iH x
  have f:(if IntKind.wrap .i64 ((s.size:Int)+1)<(n:Int) then IntKind.wrap .i64 ((s.size:Int)+1) else(n:Int))=(n:Int):=by
   rw[bT (by omega) (by omega)];split<;>omega
  have a:=qCf x.data.toList
  simp only[aJ,GO]
  rw[f,bT (x:=(n:Int)-1) (by omega) (by omega)]
  by_cases hlast:(x.data.toList.takeWhile nC).length=x.data.toList.length
  .rw[if_pos hlast] at a
   rw[a] at c
   simp only[jC,jE] at c
   have b:r=0:=by omega
   subst b
   rw[if_neg (by simp only[j9];omega)]
   refine⟨x,done,?_,by omega,?_⟩
   .simp only[j0]
    rw[show(n-1:Nat)=done.length by omega]
    rfl
   rw[a];simp[iL]
  rw[if_neg hlast] at a
  rw[a] at c
  simp only[jC] at c
  have z:0<(sp (x.data.toList.drop ((x.data.toList.takeWhile nC).length+1))).length:=fE.2 (AT _)
  have B:(x.data.toList.takeWhile nC).length<=x.data.toList.length:=(hZ _).length_le
  have hix:=qVg x
  rw[if_neg hlast] at hix
  rw[if_pos (by simp only[j9];omega),qPp,hix]
  simp only[j0,show(⟨#[47]⟩:BA).size=1 from rfl]
  have u:(x.data.toList.takeWhile nC)=x.data.toList.take (x.data.toList.takeWhile nC).length:=dN.1 (fU _)
  have o:x.extract 0 (x.data.toList.takeWhile nC).length=iL (x.data.toList.takeWhile nC):=by
   apply Go.WideShapes.bytes_inj
   simp only[ByteArray.data_extract,gU,gG,iL,kI,Nat.sub_zero]
   exact u.symm
  have b:(x.extract ((x.data.toList.takeWhile nC).length+1) x.data.toList.length).data.toList=x.data.toList.drop ((x.data.toList.takeWhile nC).length+1):=by
   simp only[ByteArray.data_extract,gU,gG]
   exact gM (by simp only[gQ];omega)
  generalize hk:(x.data.toList.takeWhile nC).length=k at*
  rw[if_neg (by simp only[j9];omega),bT (x:=(k:Int)+0) (by omega) (by omega),Int.add_zero]
  have d:mY x 0 (k:Int)=some (x.extract 0 k):=by
   have:=tO (s:=x) (i:=0) (e:=k) (by omega) (by omega)
   simpa only[Int.natCast_zero] using this
  rw[d]
  simp only[j0]
  rw[iX (by simp),bT (x:=(k:Int)+((1:Nat):Int)) (by omega) (by omega),show((k:Int)+((1:Nat):Int))=((k+1:Nat):Int) by omega,PQ (by omega)]
  simp only[j0,jX]
  rw[qQf,o,bT (by omega) (by omega)]
  have g:=iH (x.extract (k+1) x.data.toList.length)
  rw[b,gQ] at g
  obtain⟨y,D,p,q,t⟩:=WP (N:=N) v l A r M (x.extract (k+1) x.data.toList.length) (done++[iL (x.data.toList.takeWhile nC)]) (by rw[b];omega) (by simp;omega) (by omega) (by omega)
  refine⟨y,D,?_,q,?_⟩
  .rw[<-p];simp
  rw[t,b,a];simp
termination_by r=>r
theorem qPe{N:Nat}{s:BA}(p:s.size<100000000)(l:2*s.size+1000<N):GZ N s (⟨#[47]⟩:BA)=some ((sp s.data.toList).map iL):=by
 have q:=iH s
 have h:=TE s.data.toList
 have o:s.data.toList.count 47<=s.data.toList.length:=List.count_le_length
 have g:eU (⟨#[47]⟩:BA) 0=some 47:=by kernel_rfl
 have a:GY N s (⟨#[47]⟩:BA)=some ((s.data.toList.count 47:Nat):Int):=by
  simp only[GY,show(⟨#[47]⟩:BA).size=1 from rfl]
  rw[if_neg (by decide),if_pos (by decide),g]
  simp only[j0]
  rw[<-qTn];rfl
 simp only[GZ,KS,mF,a,j0]
 rw[if_neg (by decide),if_neg (by decide),if_pos (by decide)]
 simp only[j0]
 rw[bT (x:=((s.data.toList.count 47:Nat):Int)+1) (by omega) (by omega),show((s.data.toList.count 47:Nat):Int)+1=(((sp s.data.toList).length:Nat):Int) by omega]
 generalize hn:(sp s.data.toList).length=n at*
 have c:(if IntKind.wrap .i64 ((s.size:Int)+1)<(n:Int) then IntKind.wrap .i64 ((s.size:Int)+1) else(n:Int))=(n:Int):=by
  rw[bT (by omega) (by omega)];split<;>omega
 rw[c]
 have k:sE 16 (⟨#[]⟩:BA) (n:Int)=some (List.replicate n (⟨#[]⟩:BA)):=by
  unfold sE
  rw[if_pos (by simp only[maxLen];omega),jX]
 rw[k]
 simp only[j0]
 obtain⟨y,D,b,f,e⟩:=WP (N:=N) (n:=n) (s:=s) (by omega) (by omega) (by omega) n N s [] hn (by simp) (by omega) (by omega)
 simp only[jE,jO] at b e
 rw[show((0:Nat):Int)=0 from rfl] at b
 rw[b]
 simp only[j0]
 rw[iX (by simp;omega)]
 simp only[j0,jX]
 have d:(D++[(⟨#[]⟩:BA)]).set (n-1) y=D++[y]:=by
  rw[<-f,List.set_append_right _ _ (jP _)];simp
 rw[d,e,bT (by omega) (by omega),show((n-1:Nat):Int)+1=(n:Int) by omega,QI (by omega) (by omega) (by rw[gC,hn];omega)]
 simp only[j0,jX,Int.toNat_zero,kI]
 rw[gM (by rw[gC,hn];exact jP _)]
theorem qDk{p:UInt8->Bool}{l:List UInt8}:tw p l 0=l.length↔∀c∈l,p c=true:=by
 constructor
 .intro h c a
  have b:(l.takeWhile p).length=l.length:=by simpa[tw] using h
  have d:=(fU p (l:=l)).eq_of_length b
  rw[<-d] at a
  exact NC a
 exact qDl
def AU(x:BA):Bool:=decide (1<=x.data.toList.length/\x.data.toList.length<=24/\∀c∈x.data.toList,aV [1,2,3,4] c=true)
theorem YX(x:BA):AU x=true↔1<=x.data.toList.length/\x.data.toList.length<=24/\∀c∈x.data.toList,aV [1,2,3,4] c=true:=decide_eq_true_iff
theorem qRv{N:Nat}{x:BA}(f:100<N):(if(decide ((x.size:Int)<1))=true then(some true) else(if(decide ((x.size:Int)>24))=true then(some true) else((uP N x 0 (some kdL) ([1,2,3,4])).bind fun e=>some (e !=(x.size:Int)))))=some (!AU x):=by
 have d:=iH x
 have a:∀h:¬(1<=x.data.toList.length/\x.data.toList.length<=24/\∀c∈x.data.toList,aV [1,2,3,4] c=true),AU x=false:=fun h=>jY h
 by_cases h1:1<=x.data.toList.length
 .rw[if_neg (by simp only[j9];omega)]
  by_cases h2:x.data.toList.length<=24
  .rw[if_neg (by simp only[j9];omega)]
   have b:=IB (N:=N) (s:=x) (ks:=[1,2,3,4]) (i:=0) (by omega) (by omega) (by simp) (by omega)
   rw[show((0:Nat):Int)=0 from rfl] at b
   rw[b]
   simp only[j0]
   refine congrArg some ?_
   by_cases h3:tw (aV [1,2,3,4]) x.data.toList 0=x.data.toList.length
   .have:AU x=true:=jV ⟨h1,h2,qDk.1 h3⟩
    rw[this,h3,d]
    simp
   rw[a fun h=>h3 (qDk.2 h.2.2)]
   simp only[kP,fO,ne_eq]
   omega
  rw[if_pos (by simp only[j9];omega),a fun h=>h2 h.2.1]
  rfl
 rw[if_pos (by simp only[j9];omega),a fun h=>h1 h.1]
 rfl
theorem YU{N:Nat}{L:List BA}(f:L.length<1000)(a:100<N):∀(d j M:Nat),j+d=L.length->d<M->aJ (CV N L (some kdL)) M (j:Int)=some (if(L.drop j).all AU=true then .inl () else .inr false)
 |d,j,0,_,h=>by omega
 |0,j,M+1,c,e=>by
  simp only[aJ,CV]
  rw[if_neg (by simp only[j9];omega),jZ (by omega)]
  rfl
 |d+1,j,M+1,c,e=>by
  have b:j<L.length:=by omega
  simp only[aJ,CV]
  rw[if_pos (by simp only[j9];omega),iX b]
  simp only[j0,qRv a]
  rw[jR b,List.all_cons]
  cases hp:AU L[j] with
  |true=>
   rw[if_neg (by simp),bT (by omega) (by omega)]
   simp only[j0,fH]
   exact YU f a d (j+1) M (by omega) (by omega)
  |false=>simp
theorem SP{N:Nat}{s:BA}(e:s.size<100000000)(d:2*s.size+1000<N):vZ N s=some (mK s.data.toList):=by
 have g:=iH s
 have a:∀h:¬(s.data.toList.length<=80/\(sp s.data.toList).length<=8/\∀p∈sp s.data.toList,1<=p.length/\p.length<=24/\∀c∈p,aV [1,2,3,4] c=true),mK s.data.toList=false:=fun h=>jY h
 simp only[vZ,qPe e d,j0,gC]
 by_cases h80:s.data.toList.length<=80
 .rw[if_neg (by simp only[j9];omega)]
  by_cases h8:(sp s.data.toList).length<=8
  .have b:decide (((sp s.data.toList).length:Int)>8)=false:=jY (by omega)
   simp only[j0,b,jB,jF,QK (show 30<N by omega)]
   have key:=YU (N:=N) (L:=(sp s.data.toList).map iL) (by rw[gC];omega) (by omega) _ 0 N (kF _) (by rw[gC];omega)
   rw[show((0:Nat):Int)=0 from rfl,kI] at key
   rw[key]
   simp only[j0]
   by_cases hp:((sp s.data.toList).map iL).all AU=true
   .have:mK s.data.toList=true:=jV ⟨h80,h8,fun p hp'=>by
     have:=(YX _).1 (jU.1 hp (iL p) (gZ hp'))
     simpa[iL] using this⟩
    rw[if_pos hp,this]
   rw[if_neg hp,a fun h=>hp (jU.2 fun x f=>by
    obtain⟨p,hp',rfl⟩:=fV.1 f
    exact(YX _).2 (by simpa[iL] using h.2.2 p hp'))]
  have b:decide (((sp s.data.toList).length:Int)>8)=true:=jV (by omega)
  simp only[j0,b,jJ]
  rw[a fun h=>h8 h.2.1]
 rw[if_pos (by simp only[j9];omega)]
 simp only[j0,jJ]
 rw[a fun h=>h80 h.1]
def run{α τ β:Type}(step:τ->α->τ⊕β)(fin:τ->β):List α->τ->β
 |[],t=>fin t
 |x::l,t=>match step t x with
  | .inl t'=>run step fin l t'
  | .inr b=>b
theorem PR{α τ σ β:Type}{L:List α}(enc:τ->Nat->σ){f:σ->Option (σ⊕β)}(step:τ->α->τ⊕β)(fin:τ->β)(I:Nat->τ->Prop)
  (a:∀t i,∀hi:i<L.length,I i t->f (enc t i)=some (match step t L[i] with| .inl t'=> .inl (enc t' (i+1))| .inr b=> .inr b))
  (e:∀t i,∀hi:i<L.length,∀t',I i t->step t L[i]= .inl t'->I (i+1) t')
  (c:∀t,I L.length t->f (enc t L.length)=some (.inr (fin t))):∀(d i M:Nat) (t:τ),i+d=L.length->d<M->I i t->aJ f M (enc t i)=some (run step fin (L.drop i) t)
 |_,_,0,_,_,h,_=>absurd h (kT _)
 |d,i,M+1,t,l,n,g=>by
  cases d with
  |zero=>
   have hi:i=L.length:=by omega
   subst hi
   simp only[aJ,c t g,j0,hU,run]
  |succ d=>
   have hi:i<L.length:=by omega
   have k:L.drop i=L[i]::L.drop (i+1):=(dP hi).symm
   simp only[aJ,a t i hi g,j0]
   rw[k]
   simp only[run]
   cases hs:step t L[i] with
   |inl t'=>
    simp only
    exact PR enc step fin I a e c d (i+1) M t' (by omega) (by omega) (e t i hi t' g hs)
   |inr b=>rfl
theorem HG{α τ σ β:Type}{L:List α}(enc:τ->Nat->σ){f:σ->Option (σ⊕β)}(step:τ->α->τ⊕β)(fin:τ->β)(I:Nat->τ->Prop)
  (a:∀t i,∀hi:i<L.length,I i t->f (enc t i)=some (match step t L[i] with| .inl t'=> .inl (enc t' (i+1))| .inr b=> .inr b))
  (d:∀t i,∀hi:i<L.length,∀t',I i t->step t L[i]= .inl t'->I (i+1) t')
  (c:∀t,I L.length t->f (enc t L.length)=some (.inr (fin t))) {M:Nat} {t:τ} (g:L.length<M) (e:I 0 t):aJ f M (enc t 0)=some (run step fin L t):=by
 have:=PR enc step fin I a d c L.length 0 M t (by omega) g e
 rw[kI] at this;exact this
theorem ZU{α τ β:Type}{step:τ->α->τ⊕β}{fin:τ->β}(g:τ->α->τ)(h:∀t x,step t x= .inl (g t x)):∀(l:List α) (t:τ),run step fin l t=fin (l.foldl g t)
 |[],_=>rfl
 |x::l,t=>by simp only[run,h,List.foldl_cons];exact ZU g h l _
theorem IA{α β:Type}{step:Unit->α->Unit⊕β}{fin:Unit->β}{b:β}(p:α->Bool)(h:∀x,step () x=if p x=true then .inr b else .inl ()):∀l:List α,run step fin l ()=if l.any p=true then b else fin ()
 |[]=>rfl
 |x::l=>by
  have a:=IA (fin:=fin) p h l
  rw[fX]
  by_cases hp:p x=true
  .have e:step () x= .inr b:=by rw[h,if_pos hp]
   simp only[run,e]
   rw[hp,Bool.true_or,if_pos rfl]
  have e:step () x= .inl ():=by rw[h,if_neg hp]
  simp only[run,e]
  rw[a,show p x=false by simpa using hp,gN]
theorem DG{α:Type}{l:List α}{i:Nat}(h:i<l.length):l.drop i=l[i]::l.drop (i+1):=(dP h).symm
theorem LI{α:Type}{l:List α}{i:Nat}(h:i<l.length):l.take (i+1)=l.take i++[l[i]]:=gO h
instance decMemB(s:BA)(l:List BA):Decidable (s∈l):=@List.instDecidableMemOfLawfulBEq BA instBEqOfDecidableEq inferInstance s l
abbrev Ex:=Int×Int×Int×BA×List Int
abbrev Dl:=Int×BA×List BA×List Ex
abbrev Sr:=BA×List BA×List Dl
abbrev bJ:=Int×Int
abbrev Ps:=Nat×List Ex
abbrev PM(α:Type):=bJ⊕(Ps×α)
def aB(ts:List bB)(i:Nat):bB:=ts.getD i (5,⟨#[]⟩,0,0)
def cV{α:Type}(t:bB)(e:Int):bJ⊕α:= .inl (t.2.2.2,e)
def aW{α β:Type}(x:bJ⊕α)(f:α->bJ⊕β):bJ⊕β:=
 match x with
 | .inl z=> .inl z
 | .inr a=>f a
def bE(ts:List bB)(k:Int)(s:BA)(i:Nat):Bool:=(aB ts i).1==k&&decide ((aB ts i).2.1=s)
def cC(ts:List bB)(s:BA)(i:Nat):bJ⊕Nat:=if bE ts 4 s i then .inr (i+1) else cV (aB ts i) 9
def oL(ts:List bB)(s:BA)(i:Nat):bJ⊕Nat:=if bE ts 1 s i then .inr (i+1) else cV (aB ts i) 9
def lH(ts:List bB)(k:Int)(i:Nat):bJ⊕(Nat×bB):=if(aB ts i).1=k then .inr (i+1,aB ts i) else cV (aB ts i) 9
def sPackage:BA:=⟨#[112,97,99,107,97,103,101]⟩
def uV:BA:=⟨#[105,109,112,111,114,116]⟩
def AV:BA:=⟨#[102,117,110,99]⟩
def AY:BA:=⟨#[116,101,115,116]⟩
def BF:BA:=⟨#[103,101,110]⟩
def pJ:BA:=⟨#[105,102]⟩
def sThen:BA:=⟨#[116,104,101,110]⟩
def sElse:BA:=⟨#[101,108,115,101]⟩
def sRead:BA:=⟨#[114,101,97,100]⟩
def sSize:BA:=⟨#[115,105,122,101]⟩
def sHas:BA:=⟨#[104,97,115]⟩
def sEnv:BA:=⟨#[101,110,118]⟩
def sFlip:BA:=⟨#[102,108,105,112]⟩
def sOpen:BA:=⟨#[40]⟩
def sClose:BA:=⟨#[41]⟩
def sComma:BA:=⟨#[44]⟩
def sSemi:BA:=⟨#[59]⟩
def sEq:BA:=⟨#[61]⟩
def sMinus:BA:=⟨#[45]⟩
def wordsR:List BA:=[sPackage,uV,AV,AY,BF,pJ,sThen,sElse,sRead,sSize,sHas,sEnv,sFlip]
def pF(s:BA):Bool:=decide (s∈wordsR)
def lN(ts:List bB)(i:Nat):bJ⊕(Nat×bB):=aW (lH ts 1 i) fun p=>if pF p.2.2.1 then cV p.2 9 else .inr p
def mC(ts:List bB)(i:Nat):bJ⊕(Nat×bB):=aW (lH ts 3 i) fun p=>if mK p.2.2.1.data.toList then .inr p else cV p.2 9
def rO(ts:List bB)(i:Nat):bJ⊕(Nat×bB):=aW (lH ts 3 i) fun p=>if lW p.2.2.1 then .inr p else cV p.2 9
def iE(t:bB)(x:Ex)(p:Ps):PM Nat:=if p.2.length=256 then cV t 2 else .inr ((p.1,p.2++[x]),p.2.length)
def opsC:List (Int×BA):=[(1,⟨#[43]⟩),(2,⟨#[45]⟩),(3,⟨#[42]⟩),(4,⟨#[47]⟩),(5,⟨#[37]⟩),(6,⟨#[60]⟩),(7,⟨#[61,61]⟩)]
def qF(op:Int):Nat:=if op=6\/op=7 then 1 else if op=1\/op=2 then 2 else 3
def nJ(ts:List bB)(level:Nat)(i:Nat)(o:Int×BA):Bool:=bE ts 4 o.2 i&&decide (qF o.1=level)
def iI(ts:List bB)(level:Nat)(i:Nat):Int:=
 match opsC.find? (nJ ts level i) with
 |some o=>o.1
 |none=>0
section
variable (ts:List bB) (params:List BA) (E:Ps->PM Nat)
def pT:Nat->List Int->Ps->PM (List Int)
 |0,_,p=>cV (aB ts p.1) 9
 |n+1,l,p=>aW (E p) fun q=>
  if bE ts 4 sComma q.1.1 then pT n (l++[(q.2:Int)]) (q.1.1+1,q.1.2)
  else aW (cC ts sClose q.1.1) fun i=> .inr ((i,q.1.2),l++[(q.2:Int)])
def pN(p:Ps):PM (List Int):=
 aW (cC ts sOpen p.1) fun i=>if bE ts 4 sClose i then .inr ((i+1,p.2),[]) else pT ts E (ts.length+1) [] (i,p.2)
def nH(t:bB)(p:Ps):PM Nat:=
 aW (cC ts sOpen p.1) fun i=>
 aW (if t.2.1=sRead then
   aW (mC ts i) fun a=>aW (cC ts sComma a.1) fun i=>aW (E (i,p.2)) fun q=> .inr (q.1,((6,0,0,a.2.2.1,[(q.2:Int)]):Ex))
  else if t.2.1=sSize then aW (mC ts i) fun a=> .inr ((a.1,p.2),((7,0,0,a.2.2.1,[]):Ex))
  else if t.2.1=sHas then aW (mC ts i) fun a=> .inr ((a.1,p.2),((8,0,0,a.2.2.1,[]):Ex))
  else if t.2.1=sEnv then aW (rO ts i) fun a=> .inr ((a.1,p.2),((9,0,0,a.2.2.1,[]):Ex))
  else aW (lH ts 2 i) fun a=>if a.2.2.2.1>=64 then cV a.2 9 else .inr ((a.1,p.2),((10,a.2.2.2.1,0,⟨#[]⟩,[]):Ex))) fun q=>
 aW (cC ts sClose q.1.1) fun i=>iE t q.2 (i,q.1.2)
def lL(p:Ps):PM Nat:=
 let t:=aB ts p.1
 if t.1=2 then iE t (1,t.2.2.1,0,⟨#[]⟩,[]) (p.1+1,p.2)
 else if bE ts 4 sMinus p.1 then aW (lH ts 2 (p.1+1)) fun a=>iE t (1,IntKind.wrap .i64 (0-a.2.2.2.1),0,⟨#[]⟩,[]) (a.1,p.2)
 else if bE ts 4 sOpen p.1 then aW (E (p.1+1,p.2)) fun q=>aW (cC ts sClose q.1.1) fun i=> .inr ((i,q.1.2),q.2)
 else if t.1≠1 then cV t 9
 else if t.2.1∈[sRead,sSize,sHas,sEnv,sFlip] then nH ts E t (p.1+1,p.2)
 else if pF t.2.1 then cV t 9
 else if bE ts 4 sOpen (p.1+1) then aW (pN ts E (p.1+1,p.2)) fun q=>iE t (3,0,0,t.2.1,q.2) q.1
 else match params.findIdx? (fun x=>decide (x=t.2.1)) with
  |some i=>iE t (2,(i:Int),0,⟨#[]⟩,[]) (p.1+1,p.2)
  |none=>cV t 9
def lM(level:Nat)(S:Ps->PM Nat):Nat->Nat->Ps->PM Nat
 |0,_,p=>cV (aB ts p.1) 9
 |n+1,x,p=>
  if iI ts level p.1=0 then .inr (p,x)
  else aW (S (p.1+1,p.2)) fun q=>aW (iE (aB ts p.1) (4,0,iI ts level p.1,⟨#[]⟩,[(x:Int),(q.2:Int)]) q.1) fun r=>
   if level=1 then .inr r else lM level S n r.2 r.1
def nI(level:Nat)(S:Ps->PM Nat)(p:Ps):PM Nat:=aW (S p) fun q=>lM ts level S (ts.length+1) q.2 q.1
def EJ:Ps->PM Nat:=nI ts 3 (lL ts params E)
def uB:Ps->PM Nat:=nI ts 2 (EJ ts params E)
def AH:Ps->PM Nat:=nI ts 1 (uB ts params E)
end
def bZ(ts:List bB)(params:List BA):Nat->Ps->PM Nat
 |0,p=>cV (aB ts p.1) 2
 |k+1,p=>
  if bE ts 1 pJ p.1 then
   aW (bZ ts params k (p.1+1,p.2)) fun a=>aW (oL ts sThen a.1.1) fun i=>
   aW (bZ ts params k (i,a.1.2)) fun b=>aW (oL ts sElse b.1.1) fun j=>
   aW (bZ ts params k (j,b.1.2)) fun c=>iE (aB ts p.1) (5,0,0,⟨#[]⟩,[(a.2:Int),(b.2:Int),(c.2:Int)]) c.1
  else AH ts params (bZ ts params k) p
def qB(ts:List bB):Nat->List BA->Nat->bJ⊕(Nat×List BA)
 |0,_,i=>cV (aB ts i) 9
 |n+1,l,i=>aW (lN ts i) fun a=>
  if l.length=8 then cV a.2 2
  else if a.2.2.1∈l then cV a.2 10
  else if bE ts 4 sComma a.1 then qB ts n (l++[a.2.2.1]) (a.1+1)
  else aW (cC ts sClose a.1) fun j=> .inr (j,l++[a.2.2.1])
def pM(ts:List bB)(i:Nat):bJ⊕(Nat×List BA):=
 aW (cC ts sOpen i) fun j=>if bE ts 4 sClose j then .inr (j+1,[]) else qB ts (ts.length+1) [] j
def lA(s:BA):Int:=if s=AV then 1 else if s=AY then 2 else if s=BF then 3 else 0
def mD(ts:List bB)(before:List Dl)(i:Nat):bJ⊕(Nat×Dl):=
 let t:=aB ts i
 let k:=lA t.2.1
 if t.1≠1\/k=0 then cV t 9
 else if before.length=64 then cV t 2
 else aW (if k=3 then mC ts (i+1) else lN ts (i+1)) fun a=>
  if before.any (fun d=>d.1==k&&decide (d.2.1=a.2.2.1)) then cV a.2 10
  else aW (if k=1 then pM ts a.1 else .inr (a.1,[])) fun b=>
   aW (cC ts sEq b.1) fun j=>aW (bZ ts b.2 32 (j,[])) fun c=>
   aW (cC ts sSemi c.1.1) fun m=> .inr (m,(k,a.2.2.1,b.2,c.1.2))
def nR(ts:List bB)(pkg:BA):Nat->List BA->Nat->bJ⊕(Nat×List BA)
 |0,_,i=>cV (aB ts i) 9
 |n+1,l,i=>
  if bE ts 1 uV i then
   if l.length=8 then cV (aB ts i) 2
   else aW (lN ts (i+1)) fun a=>
    if a.2.2.1=pkg\/a.2.2.1∈l then cV a.2 10
    else aW (cC ts sSemi a.1) fun j=>nR ts pkg n (l++[a.2.2.1]) j
  else .inr (i,l)
def oI(ts:List bB):Nat->List Dl->Nat->bJ⊕List Dl
 |0,_,i=>cV (aB ts i) 9
 |n+1,l,i=>if(aB ts i).1=5 then .inr l else aW (mD ts l i) fun a=>oI ts n (l++[a.2]) a.1
def oN(ts:List bB):bJ⊕Sr:=
 aW (oL ts sPackage 0) fun i=>aW (lN ts i) fun a=>aW (cC ts sSemi a.1) fun j=>
 aW (nR ts a.2.2.1 (ts.length+1) [] j) fun b=>aW (oI ts (ts.length+1) [] b.1) fun l=> .inr (a.2.2.1,b.2,l)
def sF:Sr:=(⟨#[]⟩,[],[])
def nU(s:BA):Sr×Int×Int:=
 if(iP s).2.2≠0 then(sF,(iP s).2.1,(iP s).2.2)
 else match oN (iP s).1 with
  | .inl z=>(sF,z.1,z.2)
  | .inr f=>(f,0,0)
def OkT(ts:List bB):Prop:=ts≠[]/\∀i,i<ts.length->((aB ts i).1=5↔i+1=ts.length)
theorem bP{α β:Type}{x:bJ⊕α}{f:α->bJ⊕β}{b:β}(h:aW x f= .inr b):∃a,x= .inr a/\f a= .inr b:=by
 cases x with
 |inl z=>cases h
 |inr a=>exact⟨a,rfl,h⟩
section
variable {ts:List bB} {params:List BA} {E S:Ps->PM Nat}
theorem OkT.next(h:OkT ts){i:Nat}(hi:i<ts.length)(a:(aB ts i).1≠5):i+1<ts.length:=by
 have b:¬i+1=ts.length:=fun e=>a ((h.2 i hi).2 e)
 omega
theorem LW{k:Int}{s:BA}{i:Nat}(h:bE ts k s i=true):(aB ts i).1=k:=by
 simp only[bE,jI,kJ] at h;exact h.1
theorem mG(h:OkT ts){k:Int}{s:BA}{i:Nat}(hi:i<ts.length)(b:k≠5)(a:bE ts k s i=true):i+1<ts.length:=h.next hi (by rw[LW a];exact b)
theorem lZ(h:OkT ts){s:BA}{i j:Nat}(hi:i<ts.length)(a:cC ts s i= .inr j):j=i+1/\j<ts.length/\bE ts 4 s i=true:=by
 unfold cC at a
 split at a
 .rename_i h2
  obtain rfl:=Sum.inr.inj a
  exact⟨rfl,mG h hi (by decide) h2,h2⟩
 cases a
theorem DM(h:OkT ts){s:BA}{i j:Nat}(hi:i<ts.length)(a:oL ts s i= .inr j):j=i+1/\j<ts.length/\bE ts 1 s i=true:=by
 unfold oL at a
 split at a
 .rename_i h2
  obtain rfl:=Sum.inr.inj a
  exact⟨rfl,mG h hi (by decide) h2,h2⟩
 cases a
theorem wD(h:OkT ts){k:Int}(c:k≠5){i:Nat}{a:Nat×bB}(hi:i<ts.length)(b:lH ts k i= .inr a):a=(i+1,aB ts i)/\i+1<ts.length/\(aB ts i).1=k:=by
 unfold lH at b
 split at b
 .rename_i h2
  obtain rfl:=Sum.inr.inj b
  exact⟨rfl,h.next hi (by rw[h2];exact c),h2⟩
 cases b
theorem sA(h:OkT ts){i:Nat}{a:Nat×bB}(hi:i<ts.length)(f:lN ts i= .inr a):a=(i+1,aB ts i)/\i+1<ts.length/\(aB ts i).1=1/\pF (aB ts i).2.1=false:=by
 obtain⟨b,g,c⟩:=bP f
 obtain⟨rfl,d,e⟩:=wD h (by decide) hi g
 split at c
 .cases c
 rename_i g3
 obtain rfl:=Sum.inr.inj c
 exact⟨rfl,d,e,by simpa using g3⟩
theorem sT(h:OkT ts){i:Nat}{a:Nat×bB}(hi:i<ts.length)(f:mC ts i= .inr a):a=(i+1,aB ts i)/\i+1<ts.length/\(aB ts i).1=3/\mK (aB ts i).2.1.data.toList=true:=by
 obtain⟨b,g,c⟩:=bP f
 obtain⟨rfl,d,e⟩:=wD h (by decide) hi g
 split at c
 .rename_i g3
  obtain rfl:=Sum.inr.inj c
  exact⟨rfl,d,e,g3⟩
 cases c
theorem YL(h:OkT ts){i:Nat}{a:Nat×bB}(hi:i<ts.length)(f:rO ts i= .inr a):a=(i+1,aB ts i)/\i+1<ts.length/\(aB ts i).1=3/\lW (aB ts i).2.1=true:=by
 obtain⟨b,g,c⟩:=bP f
 obtain⟨rfl,d,e⟩:=wD h (by decide) hi g
 split at c
 .rename_i g3
  obtain rfl:=Sum.inr.inj c
  exact⟨rfl,d,e,g3⟩
 cases c
theorem AI{t:bB}{x:Ex}{p q:Ps}{i:Nat}(h:iE t x p= .inr (q,i)):q=(p.1,p.2++[x])/\i=p.2.length/\p.2.length≠256:=by
 unfold iE at h
 split at h
 .cases h
 rename_i h1
 obtain⟨rfl,rfl⟩:=Prod.mk.inj (Sum.inr.inj h)
 exact⟨rfl,rfl,h1⟩
def FF(ts:List bB)(p q:Ps):Prop:=p.1<q.1/\q.1<ts.length/\p.2.length<=q.2.length/\q.2.length<=256
def lT(ts:List bB)(S:Ps->PM Nat):Prop:=∀(p q:Ps) (x:Nat),p.1<ts.length->p.2.length<=256->S p= .inr (q,x)->FF ts p q/\x<q.2.length
theorem wB{t:bB}{x:Ex}{p r q:Ps}{i:Nat}(b:p.1<r.1)(c:r.1<ts.length)(d:p.2.length<=r.2.length)(a:r.2.length<=256)(h:iE t x r= .inr (q,i)):FF ts p q/\i<q.2.length:=by
 obtain⟨rfl,rfl,g⟩:=AI h
 refine⟨⟨b,c,?_,?_⟩,?_⟩<;>simp only[jA,jC,jE]<;>omega
theorem PP(h:OkT ts)(f:lT ts E):∀(n:Nat) (l:List Int) (p q:Ps) (x:List Int),p.1<ts.length->p.2.length<=256->pT ts E n l p= .inr (q,x)->FF ts p q
 |0,_,_,_,_,_,_,b=>by cases b
 |n+1,l,p,q,x,v,t,b=>by
  obtain⟨a,s,c⟩:=bP (show aW (E p) _=_ from b)
  obtain⟨⟨D,d,k,e⟩,F⟩:=f p a.1 a.2 v t s
  split at c
  .rename_i hc
   have g:=mG h d (by decide) hc
   obtain⟨y,z,A,B⟩:=PP h f n _ (a.1.1+1,a.1.2) q x g e c
   exact⟨by simp only at y;omega,z,by simp only at A;omega,B⟩
  obtain⟨j,u,r⟩:=bP c
  obtain⟨rfl,o,-⟩:=lZ h d u
  obtain⟨rfl,-⟩:=Prod.mk.inj (Sum.inr.inj r)
  exact⟨by simp only;omega,o,k,e⟩
theorem VC(h:OkT ts)(e:lT ts E){p q:Ps}{x:List Int}(f:p.1<ts.length)(c:p.2.length<=256)(d:pN ts E p= .inr (q,x)):FF ts p q:=by
 obtain⟨i,hi,a⟩:=bP d
 obtain⟨rfl,b,-⟩:=lZ h f hi
 split at a
 .rename_i hc
  obtain⟨rfl,-⟩:=Prod.mk.inj (Sum.inr.inj a)
  exact⟨by simp only;omega,mG h b (by decide) hc,jP _,c⟩
 obtain⟨g,k,l,n⟩:=PP h e _ _ (p.1+1,p.2) q x b c a
 exact⟨by simp only at g;omega,k,l,n⟩
theorem qIq(h:OkT ts)(K:lT ts E){t:bB}{p q:Ps}{x:Nat}(R:p.1<ts.length)(n:p.2.length<=256)(D:nH ts E t p= .inr (q,x)):FF ts p q/\x<q.2.length:=by
 obtain⟨i,hi,F⟩:=bP D
 obtain⟨rfl,l,-⟩:=lZ h R hi
 obtain⟨a,g,G⟩:=bP F
 obtain⟨j,M,H⟩:=bP G
 have key:FF ts (p.1+1,p.2) a.1:=by
  split at g
  .obtain⟨b,f,e⟩:=bP g
   obtain⟨rfl,k,-⟩:=sT h l f
   obtain⟨c,y,z⟩:=bP e
   obtain⟨rfl,S,-⟩:=lZ h k y
   obtain⟨d,A,B⟩:=bP z
   obtain⟨⟨o,s,u,v⟩,-⟩:=K (p.1+1+1+1,p.2) d.1 d.2 S n A
   obtain rfl:=Sum.inr.inj B
   exact⟨by simp only at o ⊢;omega,s,u,v⟩
  split at g
  .obtain⟨b,f,e⟩:=bP g
   obtain⟨rfl,k,-⟩:=sT h l f
   obtain rfl:=Sum.inr.inj e
   exact⟨by simp only;omega,k,jP _,n⟩
  split at g
  .obtain⟨b,f,e⟩:=bP g
   obtain⟨rfl,k,-⟩:=sT h l f
   obtain rfl:=Sum.inr.inj e
   exact⟨by simp only;omega,k,jP _,n⟩
  split at g
  .obtain⟨b,f,e⟩:=bP g
   obtain⟨rfl,k,-⟩:=YL h l f
   obtain rfl:=Sum.inr.inj e
   exact⟨by simp only;omega,k,jP _,n⟩
  obtain⟨b,f,e⟩:=bP g
  obtain⟨rfl,k,-⟩:=wD h (by decide) l f
  split at e
  .cases e
  obtain rfl:=Sum.inr.inj e
  exact⟨by simp only;omega,k,jP _,n⟩
 obtain⟨o,s,u,v⟩:=key
 obtain⟨rfl,e,-⟩:=lZ h s M
 exact wB (r:=(a.1.1+1,a.1.2)) (by simp only at o ⊢;omega) e u v H
theorem PC(h:OkT ts)(u:lT ts E):lT ts (lL ts params E):=by
 intro p q x o c b
 unfold lL at b
 dsimp only at b
 split at b
 .rename_i hk
  exact wB (r:=(p.1+1,p.2)) (by simp only;omega) (h.next o (by rw[hk];decide)) (jP _) c b
 split at b
 .rename_i hc
  have g:=mG h o (by decide) hc
  obtain⟨a,n,l⟩:=bP b
  obtain⟨rfl,t,-⟩:=wD h (by decide) g n
  exact wB (r:=(p.1+1+1,p.2)) (by simp only;omega) t (jP _) c l
 split at b
 .rename_i hc
  have g:=mG h o (by decide) hc
  obtain⟨a,n,l⟩:=bP b
  obtain⟨⟨d,e,f,k⟩,s⟩:=u (p.1+1,p.2) a.1 a.2 g c n
  obtain⟨j,y,v⟩:=bP l
  obtain⟨rfl,t,-⟩:=lZ h e y
  obtain⟨rfl,rfl⟩:=Prod.mk.inj (Sum.inr.inj v)
  exact⟨⟨by simp only at d ⊢;omega,t,f,k⟩,s⟩
 split at b
 .cases b
 rename_i hk
 have g:=h.next o (show(aB ts p.1).1≠5 by simp only[ne_eq,Decidable.not_not] at hk;rw[hk];decide)
 split at b
 .obtain⟨⟨d,e,f,k⟩,s⟩:=qIq h u (p:=(p.1+1,p.2)) g c b
  exact⟨⟨by simp only at d;omega,e,f,k⟩,s⟩
 split at b
 .cases b
 split at b
 .obtain⟨a,n,l⟩:=bP b
  obtain⟨d,e,f,k⟩:=VC h u (p:=(p.1+1,p.2)) g c n
  exact wB (by simp only at d;omega) e f k l
 split at b
 .exact wB (r:=(p.1+1,p.2)) (by simp only;omega) g (jP _) c b
 cases b
theorem ZH(h:OkT ts){level:Nat}(d:lT ts S):∀(n x:Nat) (p q:Ps) (y:Nat),p.1<ts.length->p.2.length<=256->x<p.2.length->lM ts level S n x p= .inr (q,y)->p.1<=q.1/\q.1<ts.length/\p.2.length<=q.2.length/\q.2.length<=256/\y<q.2.length
 |0,_,_,_,_,_,_,_,b=>by cases b
 |n+1,x,p,q,y,k,e,F,b=>by
  unfold lM at b
  split at b
  .obtain⟨rfl,rfl⟩:=Prod.mk.inj (Sum.inr.inj b)
   exact⟨jP _,k,jP _,e,F⟩
  rename_i hop
  have f:(aB ts p.1).1≠5:=by
   intro f
   apply hop
   unfold iI
   have:opsC.find? (nJ ts level p.1)=none:=by
    rw[List.find?_eq_none]
    intro o _ c
    simp only[nJ,jI] at c
    have:=LW c.1
    omega
   rw[this]
  have g:=h.next k f
  obtain⟨a,D,B⟩:=bP b
  obtain⟨⟨u,v,z,A⟩,R⟩:=d (p.1+1,p.2) a.1 a.2 g e D
  obtain⟨r,E,c⟩:=bP B
  obtain⟨⟨Y,l,M,s⟩,t⟩:=wB (ts:=ts) (p:=p) (by simp only at u;omega) v z A E
  split at c
  .obtain⟨rfl,rfl⟩:=Prod.mk.inj (Sum.inr.inj c)
   exact⟨by omega,l,M,s,t⟩
  obtain⟨U,G,V,H,K⟩:=ZH h d n _ _ q y l s t c
  exact⟨by omega,G,by omega,H,K⟩
theorem zW(h:OkT ts){level:Nat}(b:lT ts S):lT ts (nI ts level S):=by
 intro p q x n l f
 obtain⟨a,k,g⟩:=bP f
 obtain⟨⟨t,c,u,d⟩,e⟩:=b p a.1 a.2 n l k
 obtain⟨v,o,y,r,s⟩:=ZH h b _ _ _ q x c d e g
 exact⟨⟨by omega,o,by omega,r⟩,s⟩
theorem uR(h:OkT ts):∀k,lT ts (bZ ts params k)
 |0=>fun _ _ _ _ _ d=>by cases d
 |k+1=>by
  intro p q x n e d
  unfold bZ at d
  split at d
  .rename_i hc
   have g:=mG h n (by decide) hc
   obtain⟨a,U,H⟩:=bP d
   obtain⟨⟨o,r,s,t⟩,-⟩:=uR h k (p.1+1,p.2) a.1 a.2 g e U
   obtain⟨i,hi,K⟩:=bP H
   obtain⟨rfl,F,-⟩:=DM h r hi
   obtain⟨b,f,M⟩:=bP K
   obtain⟨⟨u,v,y,z⟩,-⟩:=uR h k (a.1.1+1,a.1.2) b.1 b.2 F t f
   obtain⟨j,V,R⟩:=bP M
   obtain⟨rfl,G,-⟩:=DM h v V
   obtain⟨c,l,S⟩:=bP R
   obtain⟨⟨A,B,D,E⟩,-⟩:=uR h k (b.1.1+1,b.1.2) c.1 c.2 G z l
   simp only at o s u y A D
   exact wB (by omega) B (by omega) E S
  exact zW h (zW h (zW h (PC h (uR h k)))) p q x n e d
end
theorem qDx{ts:List bB}{i:Nat}(hi:i<ts.length):idx ts (i:Int)=some (aB ts i):=by
 rw[iX hi]
 simp[aB,jN,hi]
theorem nV{i:Nat}(h:i<1000000):IntKind.wrap .i64 ((i:Int)+1)=((i+1:Nat):Int):=by rw[bT (by omega) (by omega)];omega
section
variable {N:Nat} {ts:List bB} {pr:List BA} {b:List Ex} {i:Nat}
theorem sS(hi:i<ts.length):qT N (ts,(i:Int),pr,b)=some ((ts,(i:Int),pr,b),aB ts i):=by
 simp only[qT,qDx hi,j0]
theorem EL(hi:i<ts.length)(k:Int)(s:BA):uL N (ts,(i:Int),pr,b) k s=some ((ts,(i:Int),pr,b),bE ts k s i):=by
 simp only[uL,sS hi,j0,mF,bE]
 cases h:(aB ts i).1==k<;>simp[h]
theorem SH(hi:i<ts.length)(a:ts.length<1000000)(s:BA):zE N (ts,(i:Int),pr,b) s=some (Sum.map id (fun j:Nat=>(ts,(j:Int),pr,b)) (oL ts s i)):=by
 simp only[zE,EL hi,sS hi,j0,lJ,oL]
 cases h:bE ts 1 s i
 .simp[cV]
 simp[nV (show i<1000000 by omega)]
theorem sW(hi:i<ts.length)(a:ts.length<1000000)(s:BA):oY N (ts,(i:Int),pr,b) s=some (Sum.map id (fun j:Nat=>(ts,(j:Int),pr,b)) (cC ts s i)):=by
 simp only[oY,EL hi,sS hi,j0,lJ,cC]
 cases h:bE ts 4 s i
 .simp[cV]
 simp[nV (show i<1000000 by omega)]
theorem DI(hi:i<ts.length)(a:ts.length<1000000)(s:BA):uK N (ts,(i:Int),pr,b) s=some (if bE ts 4 s i then((ts,((i+1:Nat):Int),pr,b),true) else((ts,(i:Int),pr,b),false)):=by
 simp only[uK,EL hi,j0]
 cases h:bE ts 4 s i
 .simp
 simp[nV (show i<1000000 by omega)]
theorem IE(hi:i<ts.length)(f:ts.length<1000000){k:Int}(e:k≠5):vR N (ts,(i:Int),pr,b) k=some (Sum.map id (fun a:Nat×bB=>((ts,(a.1:Int),pr,b),a.2)) (lH ts k i)):=by
 simp only[vR,sS hi,j0,lJ,lH]
 have d:(k !=5)=true:=by simpa using e
 by_cases h:(aB ts i).1=k
 .have c:((aB ts i).1 !=k)=false:=by simp[h]
  simp only[c,d,jB,jF,jJ,j0,if_pos h,nV (show i<1000000 by omega),kQ]
 have c:((aB ts i).1 !=k)=true:=by simp[h]
 simp only[c,jJ,j0,if_neg h,cV,Sum.map_inl,id]
theorem orS(a b:Bool):(if a=true then some a else some b)=some (a||b):=by
 cases a<;>simp
theorem qVv(b:Bool):(if b=true then some true else some false)=some b:=by cases b<;>simp
theorem OU(s:BA):zI N s=some (pF s):=by
 simp only[zI,mF,pF,wordsR,sPackage,uV,AV,AY,BF,pJ,sThen,sElse,sRead,sSize,sHas,sEnv,sFlip,jT,gB,dE]
 simp only[orS,j0,qVv,jM]
 simp only[Bool.decide_or]
theorem MH(hi:i<ts.length)(c:ts.length<1000000):vU N (ts,(i:Int),pr,b)=some (Sum.map id (fun a:Nat×bB=>((ts,(a.1:Int),pr,b),a.2)) (lN ts i)):=by
 simp only[vU,IE hi c (show(1:Int)≠5 by decide),j0,lJ,lN]
 cases h:lH ts 1 i with
 |inl z=>simp[aW]
 |inr a=>
  simp only[kQ,OU,j0,aW]
  cases h2:pF a.2.2.1<;>simp[cV]
theorem MR(hi:i<ts.length)(d:ts.length<1000000)(g:300000<N)(f:∀j,(aB ts j).2.1.size<100000):vQ N (ts,(i:Int),pr,b)=some (Sum.map id (fun a:Nat×bB=>((ts,(a.1:Int),pr,b),a.2)) (mC ts i)):=by
 simp only[vQ,IE hi d (show(3:Int)≠5 by decide),j0,lJ,mC]
 cases h:lH ts 3 i with
 |inl z=>simp[aW]
 |inr a=>
  have c:a.2=aB ts i:=by
   unfold lH at h
   split at h
   .rw[<-Sum.inr.inj h]
   cases h
  have e:=f i
  rw[<-c] at e
  simp only[kQ,SP (N:=N) (s:=a.2.2.1) (by omega) (by omega),j0,aW]
  cases h2:mK a.2.2.1.data.toList<;>simp[cV]
theorem AM(t:bB)(x:Ex)(d:b.length<=256)(n:Nat):sP N (ts,(n:Int),pr,b) t x=some (Sum.map id (fun q:Ps×Nat=>((ts,(q.1.1:Int),pr,q.1.2),(q.2:Int))) (iE t x (n,b))):=by
 simp only[sP,lJ,j0,iE]
 by_cases h:b.length=256
 .simp[h,cV]
 have a:((b.length:Int)==256)=false:=by simp;omega
 have c:IntKind.wrap .i64 (((b.length+1:Nat):Int)-1)=(b.length:Int):=by rw[bT (by omega) (by omega)];omega
 simp only[a,jB,jF,j0,if_neg h,kQ]
 rw[nQ (by simp only[jC,jE];omega) (by omega)]
 simp only[j0,jA,jC,jE,kF,c]
end
theorem WQ{N:Nat}{s:BA}{l:List BA}(a:l.length<1000000):∀(d i M:Nat),i+d=l.length->d<M->
  aJ (vM N l s) M (i:Int)=some (match(l.drop i).findIdx? (fun x=>decide (x=s)) with|some j=> .inr (((i+j:Nat):Int))|none=> .inl ())
 |d,i,0,_,h=>by omega
 |0,i,M+1,h,_=>by
  have:l.drop i=[]:=jZ (by omega)
  simp only[aJ,vM,this,List.findIdx?_nil]
  rw[if_neg (by simp only[j9];omega)]
  rfl
 |d+1,i,M+1,h,c=>by
  have hi:i<l.length:=by omega
  have b:=WQ (N:=N) (s:=s) a d (i+1) M (by omega) (by omega)
  simp only[aJ,vM]
  rw[if_pos (by simp only[j9];omega),iX hi,jR hi,List.findIdx?_cons]
  simp only[j0,mF,j9]
  by_cases hs:l[i]=s
  .rw[if_pos hs.symm,if_pos hs];simp
  rw[if_neg (fun e=>hs e.symm),if_neg hs]
  simp only[j0,nV (show i<1000000 by omega),b]
  cases(l.drop (i+1)).findIdx? (fun x=>decide (x=s)) with
  |none=>rfl
  |some j=>simp only[kW];congr 2;omega
theorem qAh{N:Nat}{s:BA}{l:List BA}(b:l.length<1000000)(a:l.length<N):
  yS N l s=some (match l.findIdx? (fun x=>decide (x=s)) with|some j=>(j:Int)|none=> -1):=by
 have h:=WQ (N:=N) (s:=s) b l.length 0 N (by omega) a
 simp only[kI,kF] at h
 simp only[yS]
 rw[show(0:Int)=((0:Nat):Int) from rfl,h]
 simp only[j0]
 cases l.findIdx? (fun x=>decide (x=s))<;>rfl
theorem qJu{s:BA}{l:List BA}:(l.findIdx? (fun x=>decide (x=s))).isSome=decide (s∈l):=by
 rw[List.findIdx?_isSome]
 rw[kM]
 simp only[fQ,j9]
 exact⟨fun⟨x,a,b⟩=>b▸a,fun h=>⟨s,h,rfl⟩⟩
theorem WM{N:Nat}{s:BA}{l:List BA}(b:l.length<1000000)(a:l.length<N):
  uF N l s=some (decide (s∈l)):=by
 simp only[uF,qAh b a,j0,<-qJu]
 cases l.findIdx? (fun x=>decide (x=s)) with
 |none=>rfl
 |some j=>simp only[Option.isSome_some];rw[jV (show(j:Int)>=0 by omega)]
theorem qNf{α:Type}{g:α->Bool}{l k:List α}(n:∀a∈l,∀b∈l,g a=true->g b=true->a=b)(d:k.Perm l):k.find? g=l.find? g:=by
 cases h:l.find? g with
 |none=>
  rw[List.find?_eq_none] at h ⊢
  exact fun x c=>h x (d.mem_iff.1 c)
 |some a=>
  have e:=fG h
  have f:=List.find?_some h
  cases c:k.find? g with
  |none=>exact absurd f (by simpa using List.find?_eq_none.1 c a (d.mem_iff.2 e))
  |some b=>rw[n b (d.mem_iff.1 (fG c)) a e (List.find?_some c) f]
theorem qOr:∀a∈opsC,∀b∈opsC,a.2=b.2->a=b:=by
 have h:(opsC.all fun a=>opsC.all fun b=> !(decide (a.2=b.2))||decide (a=b))=true:=by kernel_rfl
 intro a c b d e
 have:=jU.1 (jU.1 h a c) b d
 simpa[e] using this
section
variable {N:Nat} {ts:List bB} {pr:List BA} {b:List Ex} {i:Nat}
theorem qOh(op:Int):zK N op=some ((qF op:Nat):Int):=by
 by_cases h1:op=6
 .subst h1;rfl
 by_cases h2:op=7
 .subst h2;rfl
 by_cases h3:op=1
 .subst h3;rfl
 by_cases h4:op=2
 .subst h4;rfl
 simp[zK,qF,h1,h2,h3,h4]
theorem qCx(level:Nat){t:bB}(a:t=aB ts i):∀k:List (Int×BA),nN (wZ N (level:Int) ((ts,(i:Int),pr,b),t)) k ()=
  some (match k.find? (nJ ts level i) with|some o=> .inr ((ts,(i:Int),pr,b),o.1)|none=> .inl ())
 |[]=>rfl
 |o::k=>by
  have key:wZ N (level:Int) ((ts,(i:Int),pr,b),t) (some o) ()=some (if nJ ts level i o then .inr (.inr ((ts,(i:Int),pr,b),o.1)) else .inl ()):=by
   subst a
   simp only[wZ,qOh,j0,mF,nJ,bE]
   have c:(((qF o.1:Nat):Int)==(level:Int))=decide (qF o.1=level):=by
    rw[kM];simp only[kJ,j9];omega
   rw[c]
   by_cases h1:(aB ts i).1=4<;>by_cases h2:(aB ts i).2.1=o.2<;>by_cases h3:qF o.1=level<;>simp[h1,h2,h3]
  simp only[nN,key,j0,List.find?_cons]
  cases h:nJ ts level i o with
  |true=>rfl
  |false=>exact qCx level a k
theorem qOt:CZ N=some (some opsC):=by kernel_rfl
theorem qKh(hi:i<ts.length)(level:Nat):GF N (ts,(i:Int),pr,b) (level:Int)=some ((ts,(i:Int),pr,b),iI ts level i):=by
 simp only[GF,sS hi,qOt,j0,isQ,kW,Option.getD_some]
 have h:∀a∈opsC,∀b∈opsC,nJ ts level i a=true->nJ ts level i b=true->a=b:=by
  intro a e b g c d
  simp only[nJ,bE,jI,j9] at c d
  exact qOr a e b g (c.1.2.symm.trans d.1.2)
 have key:=YN (f:=wZ N (level:Int) ((ts,(i:Int),pr,b),aB ts i)) (l:=opsC) (s:=()) fun k c=>by
  rw[qCx level rfl k,qNf h c]
 rw[key]
 unfold iI
 cases opsC.find? (nJ ts level i)<;>rfl
end
abbrev mE:=List bB×Int×List BA×List Ex
def eK(ts:List bB)(pr:List BA)(p:Ps):mE:=(ts,(p.1:Int),pr,p.2)
def lD(ts:List bB)(pr:List BA):PM Nat->bJ⊕(mE×Int):=Sum.map id fun q=>(eK ts pr q.1,(q.2:Int))
def EW(ts:List bB)(pr:List BA):PM (List Int)->bJ⊕(mE×List Int):=Sum.map id fun q=>(eK ts pr q.1,q.2)
section
variable {N:Nat} {ts:List bB} {pr:List BA} {E S:Ps->PM Nat} {d:Int}
variable {r1:mE->bB->Int->Option (bJ⊕(mE×Int))} {r2:mE->Int->Option (bJ⊕(mE×List Int))} {r3:mE->Int->Option (bJ⊕(mE×Int))} {r4:mE->Int->Int->Option (bJ⊕(mE×Int))} {r5:mE->Int->Option (bJ⊕(mE×Int))}
theorem XX(k:OkT ts)(r:ts.length<1000000)(t:lT ts E)(u:∀p:Ps,p.1<ts.length->p.2.length<=256->r5 (eK ts pr p) (IntKind.wrap .i64 (d+1))=some (lD ts pr (E p))):
  ∀(n M:Nat) (l:List Int) (p:Ps),p.1<ts.length->p.2.length<=256->l.length<=p.1->ts.length<p.1+n->ts.length<p.1+M->
  ((aJ (FN N r5 d) M (l,ts,(p.1:Int),pr,p.2)).bind fun s=>(match s with| .inl a=>(oY N (a.2.1,a.2.2.1,a.2.2.2.1,a.2.2.2.2) (⟨#[41]⟩:BA)).bind fun A=>(match A with| .inl B=>some (.inl B)| .inr e=>some (.inr ((e.1,e.2.1,e.2.2.1,e.2.2.2),a.1)))| .inr (z)=>some z))=some (EW ts pr (pT ts E n l p))
 |0,M,l,p,c,_,_,h,_=>by omega
 |n+1,0,l,p,c,_,_,_,h=>by omega
 |n+1,M+1,l,p,c,v,D,R,K=>by
  have f:=u p c v
  simp only[eK] at f
  simp only[aJ,FN,pT,f,j0]
  cases hq:E p with
  |inl z=>simp only[lD,Sum.map_inl,id,aW,EW,j0]
  |inr q=>
   obtain⟨⟨F,o,G,x⟩,H⟩:=t p q.1 q.2 c v hq
   simp only[lD,kQ,aW,eK]
   rw[nQ (by simp only[jC,jE];omega) (by omega)]
   simp only[j0,DI o r,sComma]
   rcases eO (bE ts 4 ⟨#[44]⟩ q.1.1) with b|b
   .have g:=mG k o (by decide) b
    have y:=XX k r t u n M (l++[(q.2:Int)]) (q.1.1+1,q.1.2) g x (by simp only[jA,jC,jE];omega) (by simp only;omega) (by simp only;omega)
    simp only[b,jJ,kU,jB,jF,j0]
    exact y
   simp only[b,jB,jF,kP,jJ,j0,sW o r,sClose]
   cases cC ts ⟨#[41]⟩ q.1.1 with
   |inl z=>rfl
   |inr j=>rfl
theorem qJh(a:OkT ts)(c:ts.length<1000000)(n:ts.length<N)(f:lT ts E)(k:∀p:Ps,p.1<ts.length->p.2.length<=256->r5 (eK ts pr p) (IntKind.wrap .i64 (d+1))=some (lD ts pr (E p)))
  (p:Ps) (e:p.1<ts.length) (l:p.2.length<=256):FP N r1 r2 r3 r4 r5 (eK ts pr p) d=some (EW ts pr (pN ts E p)):=by
 simp only[FP,eK,sW e c,j0,pN,sOpen]
 cases h:cC ts ⟨#[40]⟩ p.1 with
 |inl z=>rfl
 |inr i=>
  obtain⟨rfl,g,-⟩:=lZ a e h
  simp only[kQ,aW,DI g c,j0,sClose]
  rcases eO (bE ts 4 ⟨#[41]⟩ (p.1+1)) with b|b
  .simp only[b,jJ];rfl
  simp only[b,jB,jF]
  exact XX a c f k (ts.length+1) N [] (p.1+1,p.2) g l (by simp) (by simp only;omega) (by simp only;omega)
theorem qLx(c:OkT ts)(f:ts.length<1000000)(n:300000<N)(o:∀j,(aB ts j).2.1.size<100000)(A:lT ts E)(B:∀p:Ps,p.1<ts.length->p.2.length<=256->r5 (eK ts pr p) (IntKind.wrap .i64 (d+1))=some (lD ts pr (E p)))
  (t:bB) (p:Ps) (s:p.1<ts.length) (l:p.2.length<=256):FV N r1 r2 r3 r4 r5 (eK ts pr p) t d=some (lD ts pr (nH ts E t p)):=by
 have fin:∀(b:Int×Int×BA×List Int×mE) (q:Ps) (x:Ex),b.2.2.2.2=eK ts pr q->x=(b.1,b.2.1,0,b.2.2.1,b.2.2.2.1)->q.1<ts.length->q.2.length<=256->
   ((oY N (b.2.2.2.2.1,b.2.2.2.2.2.1,b.2.2.2.2.2.2.1,b.2.2.2.2.2.2.2) (⟨#[41]⟩:BA)).bind fun r=>(match r with| .inl v=>some (.inl v)| .inr k=>(sP N (k.1,k.2.1,k.2.2.1,k.2.2.2) (t.1,t.2.1,t.2.2.1,t.2.2.2) (b.1,b.2.1,0,b.2.2.1,b.2.2.2.1)).bind fun u=>(match u with| .inl y=>some (.inl y)| .inr e=>some (.inr ((e.1.1,e.1.2.1,e.1.2.2.1,e.1.2.2.2),e.2)))))=
   some (lD ts pr (aW (cC ts sClose q.1) fun i=>iE t x (i,q.2))):=by
  intro b q x k u r e
  subst u
  rw[k]
  simp only[eK,sW r f,j0,sClose]
  cases hj:cC ts ⟨#[41]⟩ q.1 with
  |inl z=>rfl
  |inr j=>
   simp only[kQ,aW,AM _ _ e,j0]
   cases iE t (b.1,b.2.1,0,b.2.2.1,b.2.2.2.1) (j,q.2)<;>rfl
 simp only[FV,eK,sW s f,j0,nH,sOpen]
 cases h:cC ts ⟨#[40]⟩ p.1 with
 |inl z=>rfl
 |inr i=>
  obtain⟨rfl,g,-⟩:=lZ c s h
  simp only[kQ,aW,mF,j9]
  by_cases k1:t.2.1=sRead
  .rw[if_pos (show t.2.1=(⟨#[114,101,97,100]⟩:BA) from k1),if_pos k1]
   simp only[MR g f n o,j0]
   cases h1:mC ts (p.1+1) with
   |inl z=>rfl
   |inr a=>
    obtain⟨rfl,e,-⟩:=sT c g h1
    simp only[kQ,sW e f,j0,sComma]
    cases h2:cC ts ⟨#[44]⟩ (p.1+1+1) with
    |inl z=>rfl
    |inr j=>
     obtain⟨rfl,r,-⟩:=lZ c e h2
     have k:=B (p.1+1+1+1,p.2) r l
     simp only[eK] at k
     simp only[kQ,k,j0]
     cases h3:E (p.1+1+1+1,p.2) with
     |inl z=>rfl
     |inr q=>
      obtain⟨⟨y,u,D,v⟩,F⟩:=A (p.1+1+1+1,p.2) q.1 q.2 r l h3
      exact fin (6,0,(aB ts (p.1+1)).2.1,[(q.2:Int)],ts,(q.1.1:Int),pr,q.1.2) q.1 _ rfl rfl u v
  rw[if_neg (show ¬t.2.1=(⟨#[114,101,97,100]⟩:BA) from k1),if_neg k1]
  by_cases k2:t.2.1=sSize
  .rw[if_pos (show t.2.1=(⟨#[115,105,122,101]⟩:BA) from k2),if_pos k2]
   simp only[MR g f n o,j0]
   cases h1:mC ts (p.1+1) with
   |inl z=>rfl
   |inr a=>
    obtain⟨rfl,e,-⟩:=sT c g h1
    exact fin (7,0,(aB ts (p.1+1)).2.1,[],ts,((p.1+1+1:Nat):Int),pr,p.2) (p.1+1+1,p.2) _ rfl rfl e l
  rw[if_neg (show ¬t.2.1=(⟨#[115,105,122,101]⟩:BA) from k2),if_neg k2]
  by_cases k3:t.2.1=sHas
  .rw[if_pos (show t.2.1=(⟨#[104,97,115]⟩:BA) from k3),if_pos k3]
   simp only[MR g f n o,j0]
   cases h1:mC ts (p.1+1) with
   |inl z=>rfl
   |inr a=>
    obtain⟨rfl,e,-⟩:=sT c g h1
    exact fin (8,0,(aB ts (p.1+1)).2.1,[],ts,((p.1+1+1:Nat):Int),pr,p.2) (p.1+1+1,p.2) _ rfl rfl e l
  rw[if_neg (show ¬t.2.1=(⟨#[104,97,115]⟩:BA) from k3),if_neg k3]
  by_cases k4:t.2.1=sEnv
  .rw[if_pos (show t.2.1=(⟨#[101,110,118]⟩:BA) from k4),if_pos k4]
   simp only[IE g f (show(3:Int)≠5 by decide),j0,rO]
   cases h1:lH ts 3 (p.1+1) with
   |inl z=>rfl
   |inr a=>
    obtain⟨rfl,e,-⟩:=wD c (by decide) g h1
    simp only[kQ,SO (N:=N) (by omega),j0,aW,lJ]
    cases h2:lW (aB ts (p.1+1)).2.1 with
    |false=>rfl
    |true=>exact fin (9,0,(aB ts (p.1+1)).2.1,[],ts,((p.1+1+1:Nat):Int),pr,p.2) (p.1+1+1,p.2) _ rfl rfl e l
  rw[if_neg (show ¬t.2.1=(⟨#[101,110,118]⟩:BA) from k4),if_neg k4]
  simp only[IE g f (show(2:Int)≠5 by decide),j0]
  cases h1:lH ts 2 (p.1+1) with
  |inl z=>rfl
  |inr a=>
   obtain⟨rfl,e,-⟩:=wD c (by decide) g h1
   simp only[kQ,lJ,j0]
   by_cases h2:(aB ts (p.1+1)).2.2.1>=64
   .simp only[if_pos h2,j0];rfl
   simp only[if_neg h2,j0]
   exact fin (10,(aB ts (p.1+1)).2.2.1,⟨#[]⟩,[],ts,((p.1+1+1:Nat):Int),pr,p.2) (p.1+1+1,p.2) _ rfl rfl e l
end
section
variable {N:Nat} {ts:List bB} {pr:List BA} {E S:Ps->PM Nat} {d:Int}
variable {r1:mE->bB->Int->Option (bJ⊕(mE×Int))} {r2:mE->Int->Option (bJ⊕(mE×List Int))} {r3:mE->Int->Option (bJ⊕(mE×Int))} {r4:mE->Int->Int->Option (bJ⊕(mE×Int))} {r5:mE->Int->Option (bJ⊕(mE×Int))}
theorem qUa(x:BA):(decide (x=(⟨#[114,101,97,100]⟩:BA))||(decide (x=(⟨#[115,105,122,101]⟩:BA))||(decide (x=(⟨#[104,97,115]⟩:BA))||(decide (x=(⟨#[101,110,118]⟩:BA))||decide (x=(⟨#[102,108,105,112]⟩:BA))))))=decide (x∈[sRead,sSize,sHas,sEnv,sFlip]):=by
 simp only[sRead,sSize,sHas,sEnv,sFlip,jT,gB,dE,Bool.decide_or]
theorem qOy(c:OkT ts)(o:ts.length<1000000)(K:pr.length<1000)(M:300000<N)(y:lT ts E)(H:∀p:Ps,p.1<ts.length->p.2.length<=256->r5 (eK ts pr p) (IntKind.wrap .i64 (d+1))=some (lD ts pr (E p)))
  (F:∀(t:bB) (p:Ps),p.1<ts.length->p.2.length<=256->r1 (eK ts pr p) t d=some (lD ts pr (nH ts E t p)))
  (G:∀p:Ps,p.1<ts.length->p.2.length<=256->r2 (eK ts pr p) d=some (EW ts pr (pN ts E p)))
  (p:Ps) (k:p.1<ts.length) (b:p.2.length<=256):GE N r1 r2 r3 r4 r5 (eK ts pr p) d=some (lD ts pr (lL ts pr E p)):=by
 have A:=nV (show p.1<1000000 by omega)
 simp only[GE,eK,sS k,j0,lL]
 by_cases k1:(aB ts p.1).1=2
 .rw[if_pos (show((aB ts p.1).1==2)=true by simpa using k1),if_pos k1,A]
  simp only[AM _ _ b,j0]
  cases iE (aB ts p.1) (1,(aB ts p.1).2.2.1,0,⟨#[]⟩,[]) (p.1+1,p.2)<;>rfl
 rw[if_neg (show ¬((aB ts p.1).1==2)=true by simpa using k1),if_neg k1]
 simp only[DI k o,j0]
 rcases eO (bE ts 4 sMinus p.1) with e|e
 .have c1':bE ts 4 ⟨#[45]⟩ p.1=true:=e
  have g:=mG c k (by decide) e
  simp only[e,c1',jJ,IE g o (show(2:Int)≠5 by decide),j0]
  cases h:lH ts 2 (p.1+1) with
  |inl z=>rfl
  |inr a=>
   simp only[kQ,aW,AM _ _ b,j0]
   cases iE (aB ts p.1) (1,IntKind.wrap .i64 (0-a.2.2.2.1),0,⟨#[]⟩,[]) (a.1,p.2)<;>rfl
 have c1':bE ts 4 ⟨#[45]⟩ p.1=false:=e
 simp only[e,c1',jB,jF,DI k o,j0]
 rcases eO (bE ts 4 sOpen p.1) with f|f
 .have c2':bE ts 4 ⟨#[40]⟩ p.1=true:=f
  have g:=mG c k (by decide) f
  have n:=H (p.1+1,p.2) g b
  simp only[eK] at n
  simp only[f,c2',jJ,n,j0]
  cases h:E (p.1+1,p.2) with
  |inl z=>rfl
  |inr q=>
   obtain⟨⟨B,u,D,v⟩,r⟩:=y (p.1+1,p.2) q.1 q.2 g b h
   simp only[lD,kQ,aW,eK,sW u o,j0,sClose]
   cases cC ts ⟨#[41]⟩ q.1.1<;>rfl
 have c2':bE ts 4 ⟨#[40]⟩ p.1=false:=f
 simp only[f,c2',jB,jF,lJ,j0]
 by_cases k2:(aB ts p.1).1=1
 rotate_left
 .rw[if_pos (show((aB ts p.1).1 !=1)=true by simpa using k2),if_pos k2];rfl
 rw[if_neg (show ¬((aB ts p.1).1 !=1)=true by simpa using k2),if_neg (show ¬(aB ts p.1).1≠1 by simpa using k2)]
 have g:=c.next k (show(aB ts p.1).1≠5 by rw[k2];decide)
 simp only[j0,mF,orS,qUa,A]
 by_cases k3:(aB ts p.1).2.1∈[sRead,sSize,sHas,sEnv,sFlip]
 .rw[if_pos (show decide ((aB ts p.1).2.1∈[sRead,sSize,sHas,sEnv,sFlip])=true from jV k3),if_pos k3]
  have h1p:=F (aB ts p.1) (p.1+1,p.2) g b
  simp only[eK] at h1p
  simp only[h1p,j0]
  cases nH ts E (aB ts p.1) (p.1+1,p.2)<;>rfl
 rw[if_neg (show ¬decide ((aB ts p.1).2.1∈[sRead,sSize,sHas,sEnv,sFlip])=true by simpa using k3),if_neg k3]
 simp only[OU,j0]
 rcases eO (pF (aB ts p.1).2.1) with r|r
 .simp only[r,jJ,j0];rfl
 simp only[r,jB,jF,j0,EL g]
 rcases eO (bE ts 4 sOpen (p.1+1)) with n|n
 .have c4':bE ts 4 ⟨#[40]⟩ (p.1+1)=true:=n
  have h2p:=G (p.1+1,p.2) g b
  simp only[eK] at h2p
  simp only[n,c4',jJ,h2p,j0]
  cases h:pN ts E (p.1+1,p.2) with
  |inl z=>rfl
  |inr q=>
   obtain⟨B,u,D,v⟩:=VC c y (p:=(p.1+1,p.2)) g b h
   simp only[EW,kQ,aW,eK,AM _ _ v,j0]
   cases iE (aB ts p.1) (3,0,0,(aB ts p.1).2.1,q.2) (q.1.1,q.1.2)<;>rfl
 have c4':bE ts 4 ⟨#[40]⟩ (p.1+1)=false:=n
 simp only[n,c4',jB,jF,qAh (N:=N) (l:=pr) (s:=(aB ts p.1).2.1) (by omega) (by omega),j0]
 cases pr.findIdx? (fun x=>decide (x=(aB ts p.1).2.1)) with
 |none=>rfl
 |some j=>
  simp only[j9]
  rw[if_neg (by omega)]
  simp only[j0,AM _ _ b]
  cases iE (aB ts p.1) (2,(j:Int),0,⟨#[]⟩,[]) (p.1+1,p.2)<;>rfl
theorem qOw(a:∀p:Ps,p.1<ts.length->p.2.length<=256->r3 (eK ts pr p) d=some (lD ts pr (S p)))(p:Ps)(c:p.1<ts.length)(b:p.2.length<=256):
  yW N r1 r2 r3 r4 r5 (eK ts pr p) 4 d=some (lD ts pr (S p)):=by
 have h3p:=a p c b
 simp only[eK] at h3p
 simp only[yW,eK,h3p,j0]
 cases S p<;>rfl
theorem YZ(c:OkT ts)(B:ts.length<1000000)(k:lT ts S){L:Nat}(A:L<4)(f:∀p:Ps,p.1<ts.length->p.2.length<=256->r4 (eK ts pr p) ((L:Int)+1) d=some (lD ts pr (S p))):
  ∀(n M x:Nat) (p:Ps),p.1<ts.length->p.2.length<=256->x<p.2.length->ts.length<p.1+n->ts.length<p.1+M->
  aJ (FT N r4 (L:Int) d) M ((x:Int),ts,(p.1:Int),pr,p.2)=some (lD ts pr (lM ts L S n x p))
 |0,M,x,p,b,_,_,h,_=>by omega
 |n+1,0,x,p,b,_,_,_,h=>by omega
 |n+1,M+1,x,p,b,l,U,R,K=>by
  have D:=nV (show p.1<1000000 by omega)
  have t:IntKind.wrap .i64 ((L:Int)+1)=(L:Int)+1:=bT (by omega) (by omega)
  simp only[aJ,FT,lM,qKh b,j0]
  by_cases a:iI ts L p.1=0
  .rw[if_pos (show(iI ts L p.1==0)=true by simpa using a),if_pos a];rfl
  rw[if_neg (show ¬(iI ts L p.1==0)=true by simpa using a),if_neg a]
  have s:(aB ts p.1).1≠5:=by
   intro s
   apply a
   unfold iI
   have:opsC.find? (nJ ts L p.1)=none:=by
    rw[List.find?_eq_none]
    intro o _ e
    simp only[nJ,jI] at e
    have:=LW e.1
    omega
   rw[this]
  have g:=c.next b s
  have h4p:=f (p.1+1,p.2) g l
  simp only[eK] at h4p
  simp only[sS b,j0,D,t,h4p]
  cases h:S (p.1+1,p.2) with
  |inl z=>rfl
  |inr q=>
   obtain⟨⟨u,v,y,e⟩,H⟩:=k (p.1+1,p.2) q.1 q.2 g l h
   simp only[lD,kQ,aW,eK,AM _ _ e,j0]
   cases hn2:iE (aB ts p.1) (4,0,iI ts L p.1,⟨#[]⟩,[(x:Int),(q.2:Int)]) (q.1.1,q.1.2) with
   |inl z=>rfl
   |inr r=>
    obtain⟨⟨a,E,V,F⟩,G⟩:=wB (ts:=ts) (p:=p) (r:=(q.1.1,q.1.2)) (by simp only at u ⊢;omega) v y e hn2
    simp only[kQ]
    by_cases k6:L=1
    .subst k6
     rfl
    rw[if_neg (show ¬((L:Int)==1)=true by simp;omega),if_neg k6]
    simp only[j0]
    exact YZ c B k A f n M r.2 r.1 E F G (by omega) (by omega)
theorem RJ(e:OkT ts)(r:ts.length<1000000)(u:1000001<N)(b:lT ts S){L:Nat}(o:L<4)(a:∀p:Ps,p.1<ts.length->p.2.length<=256->r4 (eK ts pr p) ((L:Int)+1) d=some (lD ts pr (S p)))
  (p:Ps) (f:p.1<ts.length) (c:p.2.length<=256):yW N r1 r2 r3 r4 r5 (eK ts pr p) (L:Int) d=some (lD ts pr (nI ts L S p)):=by
 have g:IntKind.wrap .i64 ((L:Int)+1)=(L:Int)+1:=bT (by omega) (by omega)
 have h4p:=a p f c
 simp only[eK] at h4p
 simp only[yW,eK,nI,g,h4p,j0]
 rw[if_neg (show ¬((L:Int)==4)=true by simp;omega)]
 cases h:S p with
 |inl z=>rfl
 |inr q=>
  obtain⟨⟨s,k,t,l⟩,n⟩:=b p q.1 q.2 f c h
  simp only[lD,kQ,aW,eK]
  rw[YZ e r b o a (ts.length+1) N q.2 q.1 k l n (by omega) (by omega)]
  rfl
theorem qTr{k:Nat}(f:OkT ts)(B:ts.length<1000000)(Z:d+k=32)(hk:k<33)(q:lT ts (bZ ts pr k))(r:∀p:Ps,p.1<ts.length->p.2.length<=256->r5 (eK ts pr p) (IntKind.wrap .i64 (d+1))=some (lD ts pr (bZ ts pr k p)))
  (E:∀p:Ps,p.1<ts.length->p.2.length<=256->r4 (eK ts pr p) 1 d=some (lD ts pr (AH ts pr (bZ ts pr k) p)))
  (p:Ps) (h:p.1<ts.length) (s:p.2.length<=256):zA N r1 r2 r3 r4 r5 (eK ts pr p) d=some (lD ts pr (bZ ts pr (k+1) p)):=by
 have F:=nV (show p.1<1000000 by omega)
 simp only[zA,eK,sS h,j0,bZ]
 rw[if_neg (show ¬decide (d>32)=true by simp only[j9];omega)]
 simp only[j0,EL h]
 rcases eO (bE ts 1 pJ p.1) with e|e
 rotate_left
 .have c1':bE ts 1 ⟨#[105,102]⟩ p.1=false:=e
  have h4p:=E p h s
  simp only[eK] at h4p
  simp only[e,c1',kP,jJ,jB,jF,h4p,j0]
  cases AH ts pr (bZ ts pr k) p<;>rfl
 have c1':bE ts 1 ⟨#[105,102]⟩ p.1=true:=e
 have g:=mG f h (by decide) e
 have l:=r (p.1+1,p.2) g s
 simp only[eK] at l
 simp only[e,c1',kU,jJ,jB,jF,F,l,j0]
 cases ha:bZ ts pr k (p.1+1,p.2) with
 |inl z=>rfl
 |inr a=>
  obtain⟨⟨G,t,H,u⟩,K⟩:=q (p.1+1,p.2) a.1 a.2 g s ha
  simp only[lD,kQ,aW,eK,SH t B,j0,sThen]
  cases hi:oL ts ⟨#[116,104,101,110]⟩ a.1.1 with
  |inl z=>rfl
  |inr i=>
   obtain⟨rfl,y,-⟩:=DM f t hi
   have n:=r (a.1.1+1,a.1.2) y u
   simp only[eK] at n
   simp only[kQ,n,j0]
   cases hb1:bZ ts pr k (a.1.1+1,a.1.2) with
   |inl z=>rfl
   |inr b=>
    obtain⟨⟨M,v,R,x⟩,S⟩:=q (a.1.1+1,a.1.2) b.1 b.2 y u hb1
    simp only[lD,kQ,aW,eK,SH v B,j0,sElse]
    cases hj:oL ts ⟨#[101,108,115,101]⟩ b.1.1 with
    |inl z=>rfl
    |inr j=>
     obtain⟨rfl,A,-⟩:=DM f v hj
     have o:=r (b.1.1+1,b.1.2) A x
     simp only[eK] at o
     simp only[kQ,o,j0]
     cases hc1:bZ ts pr k (b.1.1+1,b.1.2) with
     |inl z=>rfl
     |inr c=>
      obtain⟨⟨e,U,V,D⟩,Y⟩:=q (b.1.1+1,b.1.2) c.1 c.2 A x hc1
      simp only[lD,kQ,aW,eK,AM _ _ D,j0]
      cases iE (aB ts p.1) (5,0,0,⟨#[]⟩,[(a.2:Int),(b.2:Int),(c.2:Int)]) (c.1.1,c.1.2)<;>rfl
theorem qRt(a:d>32)(p:Ps)(b:p.1<ts.length):zA N r1 r2 r3 r4 r5 (eK ts pr p) d=some (lD ts pr (bZ ts pr 0 p)):=by
 simp only[zA,eK,sS b,j0,bZ]
 rw[if_pos (show decide (d>32)=true by simpa using a)]
 rfl
theorem qBl(b:OkT ts)(e:ts.length<1000000)(n:pr.length<1000)(l:1000001<N)(r:∀j,(aB ts j).2.1.size<100000):∀(k D:Nat),k<=32->7*k+1<=D->∀p:Ps,p.1<ts.length->p.2.length<=256->
  (iB N D).2.2.2.2 (eK ts pr p) (33-(k:Int))=some (lD ts pr (bZ ts pr k p))
 |0,0,_,h,_,_,_=>by omega
 |0,D+1,_,_,p,a,_=>by simp only[iB];exact qRt (by omega) p a
 |k+1,D,E,d,p,a,c=>by
  have f:=uR (ts:=ts) (params:=pr) b k
  have o:=PC (params:=pr) b f
  have q:lT ts (EJ ts pr (bZ ts pr k)):=zW b o
  have B:lT ts (uB ts pr (bZ ts pr k)):=zW b q
  have g:∀D,7*k+1<=D->∀p:Ps,p.1<ts.length->p.2.length<=256->(iB N D).2.2.2.2 (eK ts pr p) (IntKind.wrap .i64 (32-(k:Int)+1))=some (lD ts pr (bZ ts pr k p)):=by
   intro D d p a c
   rw[bT (by omega) (by omega),show 32-(k:Int)+1=33-(k:Int) by omega]
   exact qBl b e n l r k D (by omega) d p a c
  have y:∀D,7*k+2<=D->∀(t:bB) (p:Ps),p.1<ts.length->p.2.length<=256->(iB N D).1 (eK ts pr p) t (32-(k:Int))=some (lD ts pr (nH ts (bZ ts pr k) t p)):=by
   intro D d t p a c
   obtain⟨D',rfl⟩:∃D',D=D'+1:=⟨D-1,by omega⟩
   simp only[iB]
   exact qLx b e (by omega) r f (g D' (by omega)) t p a c
  have z:∀D,7*k+2<=D->∀p:Ps,p.1<ts.length->p.2.length<=256->(iB N D).2.1 (eK ts pr p) (32-(k:Int))=some (EW ts pr (pN ts (bZ ts pr k) p)):=by
   intro D d p a c
   obtain⟨D',rfl⟩:∃D',D=D'+1:=⟨D-1,by omega⟩
   simp only[iB]
   exact qJh b e (by omega) f (g D' (by omega)) p a c
  have A:∀D,7*k+3<=D->∀p:Ps,p.1<ts.length->p.2.length<=256->(iB N D).2.2.1 (eK ts pr p) (32-(k:Int))=some (lD ts pr (lL ts pr (bZ ts pr k) p)):=by
   intro D d p a c
   obtain⟨D',rfl⟩:∃D',D=D'+1:=⟨D-1,by omega⟩
   simp only[iB]
   exact qOy b e n (by omega) f (g D' (by omega)) (y D' (by omega)) (z D' (by omega)) p a c
  have x:∀D,7*k+4<=D->∀p:Ps,p.1<ts.length->p.2.length<=256->(iB N D).2.2.2.1 (eK ts pr p) 4 (32-(k:Int))=some (lD ts pr (lL ts pr (bZ ts pr k) p)):=by
   intro D d p a c
   obtain⟨D',rfl⟩:∃D',D=D'+1:=⟨D-1,by omega⟩
   simp only[iB]
   exact qOw (A D' (by omega)) p a c
  have v:∀D,7*k+5<=D->∀p:Ps,p.1<ts.length->p.2.length<=256->(iB N D).2.2.2.1 (eK ts pr p) 3 (32-(k:Int))=some (lD ts pr (EJ ts pr (bZ ts pr k) p)):=by
   intro D d p a c
   obtain⟨D',rfl⟩:∃D',D=D'+1:=⟨D-1,by omega⟩
   simp only[iB]
   exact RJ b e l o (L:=3) (by omega) (x D' (by omega)) p a c
  have u:∀D,7*k+6<=D->∀p:Ps,p.1<ts.length->p.2.length<=256->(iB N D).2.2.2.1 (eK ts pr p) 2 (32-(k:Int))=some (lD ts pr (uB ts pr (bZ ts pr k) p)):=by
   intro D d p a c
   obtain⟨D',rfl⟩:∃D',D=D'+1:=⟨D-1,by omega⟩
   simp only[iB]
   exact RJ b e l q (L:=2) (by omega) (v D' (by omega)) p a c
  have s:∀D,7*k+7<=D->∀p:Ps,p.1<ts.length->p.2.length<=256->(iB N D).2.2.2.1 (eK ts pr p) 1 (32-(k:Int))=some (lD ts pr (AH ts pr (bZ ts pr k) p)):=by
   intro D d p a c
   obtain⟨D',rfl⟩:∃D',D=D'+1:=⟨D-1,by omega⟩
   simp only[iB]
   exact RJ b e l B (L:=1) (by omega) (u D' (by omega)) p a c
  obtain⟨D',rfl⟩:∃D',D=D'+1:=⟨D-1,by omega⟩
  rw[show(33:Int)-((k+1:Nat):Int)=32-(k:Int) by omega]
  simp only[iB]
  exact qTr b e (by omega) (by omega) f (g D' (by omega)) (s D' (by omega)) p a c
theorem qSh(a:OkT ts)(e:ts.length<1000000)(b:pr.length<1000)(c:1000001<N)(g:∀j,(aB ts j).2.1.size<100000)(p:Ps)(f:p.1<ts.length)(d:p.2.length<=256):
  OD N (ts,(p.1:Int),pr,p.2) 1=some (lD ts pr (bZ ts pr 32 p)):=by
 have:=qBl a e b c g 32 N (by omega) (by omega) p f d
 exact this
end
section
variable {N:Nat} {ts:List bB} {pr:List BA} {b:List Ex}
theorem OT(h:OkT ts):∀(n:Nat) (l:List BA) (i:Nat) (a:Nat×List BA),i<ts.length->l.length<=8->qB ts n l i= .inr a->i<a.1/\a.1<ts.length/\a.2.length<=8
 |0,_,_,_,_,_,d=>by cases d
 |n+1,l,i,a,hi,q,d=>by
  obtain⟨x,k,b⟩:=bP (show aW (lN ts i) _=_ from d)
  obtain⟨rfl,e,-⟩:=sA h hi k
  split at b
  .cases b
  rename_i k1
  split at b
  .cases b
  split at b
  .rename_i k3
   have c:=mG h e (by decide) k3
   obtain⟨r,o,p⟩:=OT h n _ _ a c (by simp only[jA,jC,jE];omega) b
   exact⟨by omega,o,p⟩
  obtain⟨j,g,f⟩:=bP b
  obtain⟨rfl,c,-⟩:=lZ h e g
  obtain rfl:=Sum.inr.inj f
  exact⟨by simp only;omega,c,by simp only[jA,jC,jE];omega⟩
theorem OL(h:OkT ts){i:Nat}{a:Nat×List BA}(hi:i<ts.length)(c:pM ts i= .inr a):i<a.1/\a.1<ts.length/\a.2.length<=8:=by
 obtain⟨j,d,b⟩:=bP c
 obtain⟨rfl,g,-⟩:=lZ h hi d
 split at b
 .rename_i k
  obtain rfl:=Sum.inr.inj b
  exact⟨by simp only;omega,mG h g (by decide) k,by simp⟩
 obtain⟨l,e,f⟩:=OT h _ _ _ a g (by simp) b
 exact⟨by omega,e,f⟩
theorem WI(d:OkT ts)(k:ts.length<1000000)(r:1000000<N):∀(n M:Nat) (l:List BA) (i:Nat),i<ts.length->l.length<=8->ts.length<i+n->ts.length<i+M->
  ((aJ (FL N) M (l,ts,(i:Int),pr,b)).bind fun p=>(match p with| .inl e=>(oY N (e.2.1,e.2.2.1,e.2.2.2.1,e.2.2.2.2) (⟨#[41]⟩:BA)).bind fun q=>(match q with| .inl t=>some (.inl t)| .inr c=>some (.inr ((c.1,c.2.1,c.2.2.1,c.2.2.2),e.1)))| .inr (z)=>some z))=some (Sum.map id (fun a:Nat×List BA=>((ts,(a.1:Int),pr,b),a.2)) (qB ts n l i))
 |0,M,l,i,hi,_,h,_=>by omega
 |n+1,0,l,i,hi,_,_,h=>by omega
 |n+1,M+1,l,i,hi,u,y,v=>by
  simp only[aJ,FL,qB,MH hi k,j0]
  cases hx:lN ts i with
  |inl z=>rfl
  |inr x=>
   obtain⟨rfl,o,-⟩:=sA d hi hx
   simp only[kQ,aW,lJ,j0]
   by_cases k1:l.length=8
   .rw[if_pos (show((l.length:Int)==8)=true by simp;omega),if_pos k1];rfl
   rw[if_neg (show ¬((l.length:Int)==8)=true by simp;omega),if_neg k1]
   simp only[j0,WM (N:=N) (l:=l) (s:=(aB ts i).2.1) (by omega) (by omega)]
   by_cases k2:(aB ts i).2.1∈l
   .rw[if_pos (jV k2),if_pos k2];rfl
   rw[if_neg (show ¬decide ((aB ts i).2.1∈l)=true by simpa using k2),if_neg k2]
   simp only[j0]
   rw[nQ (by simp only[jC,jE];omega) (by omega)]
   simp only[j0,DI o k,sComma]
   rcases eO (bE ts 4 ⟨#[44]⟩ (i+1)) with f|f
   .have g:=mG d o (by decide) f
    simp only[f,jJ,kU,jB,jF,j0]
    exact WI d k r n M _ (i+1+1) g (by simp only[jA,jC,jE];omega) (by omega) (by omega)
   simp only[f,jB,jF,kP,jJ,j0,sW o k,sClose]
   cases cC ts ⟨#[41]⟩ (i+1)<;>rfl
theorem qIh(c:OkT ts)(e:ts.length<1000000)(f:1000000<N){i:Nat}(hi:i<ts.length):
  BS N (ts,(i:Int),pr,b)=some (Sum.map id (fun a:Nat×List BA=>((ts,(a.1:Int),pr,b),a.2)) (pM ts i)):=by
 simp only[BS,sW hi e,j0,pM,sOpen]
 cases h:cC ts ⟨#[40]⟩ i with
 |inl z=>rfl
 |inr j=>
  obtain⟨rfl,g,-⟩:=lZ c hi h
  simp only[kQ,aW,DI g e,j0,sClose]
  rcases eO (bE ts 4 ⟨#[41]⟩ (i+1)) with d|d
  .simp only[d,jJ];rfl
  simp only[d,jB,jF]
  exact WI c e f (ts.length+1) N [] (i+1) g (by simp) (by omega) (by omega)
def NB:List (BA×Int):=[(⟨#[102,117,110,99]⟩,1),(⟨#[103,101,110]⟩,3),(⟨#[116,101,115,116]⟩,2)]
theorem qOl:((lG (some []:Option (List (BA×Int))) (⟨#[102,117,110,99]⟩:BA) 1).bind fun a=>(lG a (⟨#[116,101,115,116]⟩:BA) 2).bind fun b=>lG b (⟨#[103,101,110]⟩:BA) 3)=some (some NB):=by kernel_rfl
theorem qBd(s:BA):((cS (some NB) s).getD 0)=lA s:=by
 simp only[cS,NB,j0,eC,lA,AV,AY,BF]
 by_cases h1:s=⟨#[102,117,110,99]⟩
 .simp[h1]
 by_cases h2:s=⟨#[116,101,115,116]⟩
 .subst h2;rfl
 by_cases h3:s=⟨#[103,101,110]⟩
 .subst h3;rfl
 simp[h1,h2,h3]
theorem XR{before:List Dl}{y1:mE×bB}{o4:List bB×Int×List BA×List Ex×Int×BA×Int×Int}(c:before.length<=64):∀(d i M:Nat),i+d=before.length->d<M->
  ((aJ (CB N before (some NB) y1 o4) M (i:Int)).bind fun a=>(match a with| .inl f=>some (-1)| .inr (z)=>some z):Option Int)=some (match(before.drop i).findIdx? (fun d=>d.1==lA y1.2.2.1&&decide (d.2.1=o4.2.2.2.2.2.1)) with|some j=>((i+j:Nat):Int)|none=> -1)
 |d,i,0,_,h=>by omega
 |0,i,M+1,h,_=>by
  have:before.drop i=[]:=jZ (by omega)
  simp only[aJ,CB,this,List.findIdx?_nil]
  rw[if_neg (by simp only[j9];omega)]
  rfl
 |d+1,i,M+1,h,e=>by
  have hi:i<before.length:=by omega
  have b:=XR (y1:=y1) (o4:=o4) c d (i+1) M (by omega) (by omega)
  simp only[aJ,CB]
  rw[if_pos (by simp only[j9];omega),iX hi,jR hi,List.findIdx?_cons]
  simp only[j0,mF,qBd]
  by_cases k1:(before[i].1==lA y1.2.2.1)=true
  .by_cases k2:before[i].2.1=o4.2.2.2.2.2.1
   .simp[k1,k2]
   simp only[k1,k2,jJ,decide_false,j0,jB,jF,nV (show i<1000000 by omega),Bool.and_false]
   rw[b]
   cases(before.drop (i+1)).findIdx? (fun d=>d.1==lA y1.2.2.1&&decide (d.2.1=o4.2.2.2.2.2.1)) with
   |none=>rfl
   |some j=>simp only[kW];rw[show i+1+j=i+(j+1) by omega]
  simp only[k1,jB,jF,j0,nV (show i<1000000 by omega),Bool.false_and]
  rw[b]
  cases(before.drop (i+1)).findIdx? (fun d=>d.1==lA y1.2.2.1&&decide (d.2.1=o4.2.2.2.2.2.1)) with
  |none=>rfl
  |some j=>simp only[kW];rw[show i+1+j=i+(j+1) by omega]
theorem HP(h:OkT ts){before:List Dl}{i:Nat}{a:Nat×Dl}(hi:i<ts.length)(b:mD ts before i= .inr a):i<a.1/\a.1<ts.length/\before.length≠64:=by
 unfold mD at b
 dsimp only at b
 split at b
 .cases b
 rename_i k1
 split at b
 .cases b
 rename_i k2
 have g:=h.next hi (show(aB ts i).1≠5 by intro e;apply k1;left;rw[e];decide)
 obtain⟨x,k,f⟩:=bP b
 have gx:x.1=i+1+1/\x.1<ts.length:=by
  split at k
  .obtain⟨rfl,d,-⟩:=sT h g k;exact⟨rfl,d⟩
  obtain⟨rfl,d,-⟩:=sA h g k;exact⟨rfl,d⟩
 split at f
 .cases f
 obtain⟨y,l,q⟩:=bP f
 have gy:x.1<=y.1/\y.1<ts.length:=by
  split at l
  .obtain⟨d,n,-⟩:=OL h gx.2 l;exact⟨by omega,n⟩
  obtain rfl:=Sum.inr.inj l;exact⟨jP _,gx.2⟩
 obtain⟨j,v,r⟩:=bP q
 obtain⟨rfl,o,-⟩:=lZ h gy.2 v
 obtain⟨c,u,s⟩:=bP r
 obtain⟨⟨d,n,A,B⟩,-⟩:=uR h 32 (y.1+1,[]) c.1 c.2 o (by simp) u
 obtain⟨m,z,t⟩:=bP s
 obtain⟨rfl,p,-⟩:=lZ h n z
 obtain rfl:=Sum.inr.inj t
 exact⟨by simp only at d ⊢;omega,p,k2⟩
theorem qRy{before:List Dl}{f:Dl->Bool}:(decide ((match before.findIdx? f with|some j=>((0+j:Nat):Int)|none=> -1)>=0))=before.any f:=by
 have:=List.findIdx?_isSome (xs:=before) (p:=f)
 rw[<-this]
 cases before.findIdx? f with
 |none=>rfl
 |some j=>simp only[Option.isSome_some];exact jV (by omega)
end
section
variable {N:Nat} {ts:List bB} {pr:List BA} {b:List Ex}
theorem qQm(e:OkT ts)(n:ts.length<1000000)(E:1000001<N)(A:∀j,(aB ts j).2.1.size<100000){before:List Dl}(F:before.length<=64){i:Nat}(hi:i<ts.length):
  GT N (ts,(i:Int),pr,b) before=some (Sum.map id (fun a:Nat×Dl=>((ts,(a.1:Int),a.2.2.2.1,a.2.2.2.2),a.2)) (mD ts before i)):=by
 have K:=nV (show i<1000000 by omega)
 unfold GT
 obtain⟨Z,t,G⟩:=jS.1 qOl
 obtain⟨a1,u,v⟩:=jS.1 G
 rw[t];simp only[j0]
 rw[u];simp only[j0]
 rw[v];simp only[j0,sS hi,qBd,lJ,mD]
 by_cases o:(aB ts i).1≠1\/lA (aB ts i).2.1=0
 .rw[if_pos o]
  have:((if((aB ts i).1 !=1)=true then some true else some (lA (aB ts i).2.1==0)):Option Bool)=some true:=by
   rcases o with h|h
   .simp[h]
   simp[h]
  rw[this];rfl
 rw[if_neg o]
 have k1a:(aB ts i).1=1:=by
  apply Decidable.byContradiction
  intro h;exact o (.inl h)
 have k1b:¬lA (aB ts i).2.1=0:=fun h=>o (.inr h)
 have:((if((aB ts i).1 !=1)=true then some true else some (lA (aB ts i).2.1==0)):Option Bool)=some false:=by simp[k1a,k1b]
 rw[this]
 simp only[j0,jB,jF]
 by_cases k2:before.length=64
 .rw[if_pos (show((before.length:Int)==64)=true by simp;omega),if_pos k2];rfl
 rw[if_neg (show ¬((before.length:Int)==64)=true by simp;omega),if_neg k2]
 have g:=e.next hi (show(aB ts i).1≠5 by rw[k1a];decide)
 simp only[j0,K]
 have M:(if(lA (aB ts i).2.1==3)=true then((vQ N (ts,((i+1:Nat):Int),pr,b)).bind fun R=>(match R with| .inl U=>some (.inr (.inl U))| .inr k=>some (.inl (k.1.1,k.1.2.1,k.1.2.2.1,k.1.2.2.2,k.2.1,k.2.2.1,k.2.2.2.1,k.2.2.2.2)))) else((vU N (ts,((i+1:Nat):Int),pr,b)).bind fun S=>(match S with| .inl V=>some (.inr (.inl V))| .inr l=>some (.inl (l.1.1,l.1.2.1,l.1.2.2.1,l.1.2.2.2,l.2.1,l.2.2.1,l.2.2.2.1,l.2.2.2.2)))):Option ((List bB×Int×List BA×List Ex×Int×BA×Int×Int)⊕(bJ⊕(mE×Dl))))=
   some (match(if lA (aB ts i).2.1=3 then mC ts (i+1) else lN ts (i+1)) with| .inl z=> .inr (.inl z)| .inr a=> .inl (ts,(a.1:Int),pr,b,a.2.1,a.2.2.1,a.2.2.2.1,a.2.2.2.2)):=by
  by_cases k3:lA (aB ts i).2.1=3
  .rw[if_pos (show(lA (aB ts i).2.1==3)=true by simpa using k3),if_pos k3,MR g n (by omega) A]
   cases mC ts (i+1)<;>rfl
  rw[if_neg (show ¬(lA (aB ts i).2.1==3)=true by simpa using k3),if_neg k3,MH g n]
  cases lN ts (i+1)<;>rfl
 refine Eq.trans (congrArg (fun z=>Option.bind z _) M) ?_
 simp only[j0]
 cases hX:(if lA (aB ts i).2.1=3 then mC ts (i+1) else lN ts (i+1)) with
 |inl z=>rfl
 |inr x=>
  have gx:x.1=i+1+1/\x.1<ts.length:=by
   split at hX
   .obtain⟨rfl,p,-⟩:=sT e g hX;exact⟨rfl,p⟩
   obtain⟨rfl,p,-⟩:=sA e g hX;exact⟨rfl,p⟩
  simp only[aW]
  have s:=XR (N:=N) (before:=before) (y1:=((ts,(i:Int),pr,b),aB ts i)) (o4:=(ts,(x.1:Int),pr,b,x.2.1,x.2.2.1,x.2.2.2.1,x.2.2.2.2)) F before.length 0 N (by omega) (by omega)
  simp only[kI] at s
  refine Eq.trans (congrArg (fun z=>Option.bind z _) s) ?_
  simp only[j0,qRy]
  rcases eO (before.any fun d=>d.1==lA (aB ts i).2.1&&decide (d.2.1=x.2.2.1)) with r|r
  .simp only[r,jJ];rfl
  simp only[r,jB,jF,j0]
  have H:(if(lA (aB ts i).2.1==1)=true then((BS N (ts,(x.1:Int),pr,b)).bind fun B=>(match B with| .inl Y=>some (.inr (.inl Y))| .inr f=>some (.inl (f.2,f.1.1,f.1.2.1,f.1.2.2.1,f.1.2.2.2)))) else(some (.inl (([]:List (BA)),ts,(x.1:Int),pr,b))):Option ((List BA×mE)⊕(bJ⊕(mE×Dl))))=
    some (match(if lA (aB ts i).2.1=1 then pM ts x.1 else .inr (x.1,[])) with| .inl z=> .inr (.inl z)| .inr a=> .inl (a.2,ts,(a.1:Int),pr,b)):=by
   by_cases k5:lA (aB ts i).2.1=1
   .rw[if_pos (show(lA (aB ts i).2.1==1)=true by simpa using k5),if_pos k5,qIh e n (by omega) gx.2]
    cases pM ts x.1<;>rfl
   rw[if_neg (show ¬(lA (aB ts i).2.1==1)=true by simpa using k5),if_neg k5]
  refine Eq.trans (congrArg (fun z=>Option.bind z _) H) ?_
  simp only[j0]
  cases hY:(if lA (aB ts i).2.1=1 then pM ts x.1 else .inr (x.1,[]):bJ⊕(Nat×List BA)) with
  |inl z=>rfl
  |inr y=>
   have gy:x.1<=y.1/\y.1<ts.length/\y.2.length<=8:=by
    split at hY
    .obtain⟨p,D,q⟩:=OL e gx.2 hY;exact⟨by omega,D,q⟩
    obtain rfl:=Sum.inr.inj hY;exact⟨jP _,gx.2,by simp⟩
   simp only[sW gy.2.1 n,j0,sEq]
   cases hj:cC ts ⟨#[61]⟩ y.1 with
   |inl z=>rfl
   |inr j=>
    obtain⟨rfl,q,-⟩:=lZ e gy.2.1 hj
    have p:=qSh (N:=N) (pr:=y.2) e n (by omega) E A (y.1+1,[]) q (by simp)
    simp only at p
    simp only[kQ,p,j0]
    cases hc:bZ ts y.2 32 (y.1+1,[]) with
    |inl z=>rfl
    |inr c=>
     obtain⟨⟨f1,D,f3,f4⟩,-⟩:=uR e 32 (y.1+1,[]) c.1 c.2 q (by simp) hc
     simp only[lD,kQ,eK,sW D n,j0,sSemi]
     cases cC ts ⟨#[59]⟩ c.1.1<;>rfl
theorem VM(c:OkT ts)(k:ts.length<1000000)(q:1000000<N){e:mE×bB}:∀(n M:Nat) (l:List BA) (i:Nat),i<ts.length->l.length<=8->ts.length<i+n->ts.length<i+M->
  aJ (GH N e) M (ts,(i:Int),pr,b,l)=some (match nR ts e.2.2.1 n l i with| .inl z=> .inr (.inl z)| .inr a=> .inl (ts,(a.1:Int),pr,b,a.2))
 |0,M,l,i,hi,_,h,_=>by omega
 |n+1,0,l,i,hi,_,_,h=>by omega
 |n+1,M+1,l,i,hi,t,v,u=>by
  have r:=nV (show i<1000000 by omega)
  simp only[aJ,GH,nR,EL hi,j0,uV]
  rcases eO (bE ts 1 ⟨#[105,109,112,111,114,116]⟩ i) with f|f
  rotate_left
  .simp only[f,jB,jF,j0]
  have g:=mG c hi (by decide) f
  simp only[f,jJ]
  by_cases k2:l.length=8
  .rw[if_pos (show((l.length:Int)==8)=true by simp;omega),if_pos k2]
   simp only[sS hi,j0,lJ];rfl
  rw[if_neg (show ¬((l.length:Int)==8)=true by simp;omega),if_neg k2]
  simp only[j0,r,MH g k]
  cases hx:lN ts (i+1) with
  |inl z=>rfl
  |inr x=>
   obtain⟨rfl,o,-⟩:=sA c g hx
   simp only[kQ,aW,lJ,j0,mF,WM (N:=N) (l:=l) (s:=(aB ts (i+1)).2.1) (by omega) (by omega)]
   by_cases d:(aB ts (i+1)).2.1=e.2.2.1\/(aB ts (i+1)).2.1∈l
   .rw[if_pos d]
    have:((if decide ((aB ts (i+1)).2.1=e.2.2.1)=true then some true else some (decide ((aB ts (i+1)).2.1∈l))):Option Bool)=some true:=by
     rcases d with h|h
     .rw[if_pos (jV h)]
     rw[jV h];split<;>rfl
    rw[this];rfl
   rw[if_neg d]
   have:((if decide ((aB ts (i+1)).2.1=e.2.2.1)=true then some true else some (decide ((aB ts (i+1)).2.1∈l))):Option Bool)=some false:=by
    rw[if_neg (by simp only[j9];exact fun h=>d (.inl h)),jY (fun h=>d (.inr h))]
   rw[this]
   simp only[j0,jB,jF]
   rw[nQ (by simp only[jC,jE];omega) (by omega)]
   simp only[j0,sW o k,sSemi]
   cases hj:cC ts ⟨#[59]⟩ (i+1+1) with
   |inl z=>rfl
   |inr j=>
    obtain⟨rfl,p,-⟩:=lZ c o hj
    exact VM c k q n M _ (i+1+1+1) p (by simp only[jA,jC,jE];omega) (by omega) (by omega)
theorem KZ(h:OkT ts){pkg:BA}:∀(n:Nat) (l:List BA) (i:Nat) (a:Nat×List BA),i<ts.length->l.length<=8->nR ts pkg n l i= .inr a->i<=a.1/\a.1<ts.length/\a.2.length<=8
 |0,_,_,_,_,_,b=>by cases b
 |n+1,l,i,a,hi,p,b=>by
  unfold nR at b
  split at b
  .rename_i k
   have g:=mG h hi (by decide) k
   split at b
   .cases b
   rename_i k2
   obtain⟨x,q,c⟩:=bP b
   obtain⟨rfl,d,-⟩:=sA h g q
   split at c
   .cases c
   obtain⟨j,o,f⟩:=bP c
   obtain⟨rfl,e,-⟩:=lZ h d o
   obtain⟨t,r,s⟩:=KZ h n _ _ a e (by simp only[jA,jC,jE];omega) f
   exact⟨by omega,r,s⟩
  obtain rfl:=Sum.inr.inj b
  exact⟨jP _,hi,p⟩
theorem WZ(c:OkT ts)(f:ts.length<1000000)(e:1000001<N)(k:∀j,(aB ts j).2.1.size<100000):∀(n M:Nat) (l:List Dl) (i:Nat) (pr:List BA) (b:List Ex),i<ts.length->l.length<=64->ts.length<i+n->ts.length<i+M->
  match oI ts n l i with
  | .inl z=>aJ (xF N) M (ts,(i:Int),pr,b,l)=some (.inr (.inl z))
  | .inr a=>∃i' pr' b',aJ (xF N) M (ts,(i:Int),pr,b,l)=some (.inl (ts,i',pr',b',a))
 |0,M,l,i,_,_,hi,_,h,_=>by omega
 |n+1,0,l,i,_,_,hi,_,_,h=>by omega
 |n+1,M+1,l,i,pr,b,hi,g,s,r=>by
  have o:aJ (xF N) (M+1) (ts,(i:Int),pr,b,l)=(if(aB ts i).1=5 then some (.inl (ts,(i:Int),pr,b,l)) else
    match mD ts l i with
    | .inl z=>some (.inr (.inl z))
    | .inr a=>aJ (xF N) M (ts,(a.1:Int),a.2.2.2.1,a.2.2.2.2,l++[a.2])):=by
   simp only[aJ,xF,sS hi,j0,qQm c f e k g hi]
   by_cases k1:(aB ts i).1=5
   .rw[if_neg (show ¬((aB ts i).1 !=5)=true by simpa using k1),if_pos k1];rfl
   rw[if_pos (show((aB ts i).1 !=5)=true by simpa using k1),if_neg k1]
   cases hd:mD ts l i with
   |inl z=>rfl
   |inr a=>
    obtain⟨p,d,q⟩:=HP c hi hd
    simp only[kQ]
    rw[nQ (by simp only[jC,jE];omega) (by omega)]
    rfl
  rw[o]
  simp only[oI]
  by_cases k1:(aB ts i).1=5
  .simp only[if_pos k1];exact⟨_,_,_,rfl⟩
  simp only[if_neg k1]
  cases hd:mD ts l i with
  |inl z=>rfl
  |inr a=>
   obtain⟨p,d,q⟩:=HP c hi hd
   exact WZ c f e k n M (l++[a.2]) a.1 _ _ d (by simp only[jA,jC,jE];omega) (by omega) (by omega)
theorem qQl(a:OkT ts)(d:ts.length<1000000)(n:1000001<N)(o:∀j,(aB ts j).2.1.size<100000):
  match oN ts with
  | .inl z=>CH N (ts,0,pr,b)=some (.inl z)
  | .inr f=>∃i' pr' b',CH N (ts,0,pr,b)=some (.inr ((ts,i',pr',b'),f)):=by
 have k:0<ts.length:=fE.2 a.1
 simp only[CH,oN]
 rw[show(0:Int)=((0:Nat):Int) from rfl]
 simp only[SH k d,j0,sPackage]
 cases h1:oL ts ⟨#[112,97,99,107,97,103,101]⟩ 0 with
 |inl z=>rfl
 |inr i=>
  obtain⟨rfl,e,-⟩:=DM a k h1
  simp only[kQ,aW,MH e d,j0]
  cases h2:lN ts (0+1) with
  |inl z=>rfl
  |inr x=>
   obtain⟨rfl,g,-⟩:=sA a e h2
   simp only[kQ,sW g d,j0,sSemi]
   cases h3:cC ts ⟨#[59]⟩ (0+1+1) with
   |inl z=>rfl
   |inr j=>
    obtain⟨rfl,h,-⟩:=lZ a g h3
    simp only[kQ,VM a d (by omega:1000000<N) (ts.length+1) N [] (0+1+1+1) h (by simp) (by omega) (by omega),j0]
    cases h4:nR ts (aB ts (0+1)).2.1 (ts.length+1) [] (0+1+1+1) with
    |inl z=>rfl
    |inr y=>
     obtain⟨q,p,r⟩:=KZ a _ _ _ y h (by simp) h4
     have c:=WZ (N:=N) a d n o (ts.length+1) N [] y.1 pr b p (by simp) (by omega) (by omega)
     simp only[]
     cases h5:oI ts (ts.length+1) [] y.1 with
     |inl z=>
      rw[h5] at c
      simp only[c,j0]
     |inr l=>
      rw[h5] at c
      obtain⟨i',pr',b',c⟩:=c
      refine⟨i',pr',b',?_⟩
      simp only[c,j0]
end
theorem qAm{s:BA}:∀(l:List bB) (e:Int),0<=e->TM s e l->∀i,i<l.length->((aB l i).1=5↔i+1=l.length)/\((aB l i).2.1.size:Int)<=s.size/\0<=(aB l i).2.2.2
 |[],_,_,_,i,hi=>by simp at hi
 |t::r,e,k,h,i,hi=>by
  obtain⟨d,f,b,g,c⟩:=h
  have a:0<=yL t:=by unfold yL;split<;>omega
  cases i with
  |zero=>
   refine⟨?_,?_,?_⟩
   .show t.1=5↔0+1=r.length+1
    rw[b,<-kY];omega
   .show((t.2.1.size:Nat):Int)<=s.size
    omega
   show 0<=t.2.2.2
   omega
  |succ i=>
   have:=qAm r _ a c i (by simpa using hi)
   have e:aB (t::r) (i+1)=aB r i:=by simp[aB]
   rw[e,jC]
   exact⟨⟨fun h=>by have:=this.1.1 h;omega,fun h=>this.1.2 (by omega)⟩,this.2⟩
theorem PG{s:BA}(h:(iP s).2.2=0):OkT (iP s).1/\(iP s).1.length<=16385/\∀j,(aB (iP s).1 j).2.1.size<100000:=by
 unfold iP at h ⊢
 split at h
 .simp at h
 rename_i hs
 rw[if_neg hs]
 cases hG:iT (s.data.toList.length+1) s 0 with
 |inl x=>
  obtain⟨_,_,a⟩:=HW _ 0 x (by omega) (by omega) hG
  rw[hG] at h
  exact absurd h a
 |inr r=>
  obtain⟨c,d,g⟩:=PF _ 0 0 r (by omega) (by omega) (by omega) hG
  simp only[uZ,jO]
  have b:=qAm r 0 (by omega) c
  refine⟨⟨d,fun i hi=>(b i hi).1⟩,by omega,fun j=> ?_⟩
  rcases fR j r.length with a|a
  .have:=(b j a).2.1
   have f:=iH s
   omega
  have e:aB r j=(5,⟨#[]⟩,0,0):=by simp[aB,jN,List.getElem?_eq_none a]
  rw[e];decide
theorem qPc{N:Nat}(s:BA)(e:1000001<N):HC N s=some (nU s):=by
 simp only[HC,qMd (N:=N) (by omega),j0,nU]
 by_cases h:(iP s).2.2=0
 .rw[if_neg (show ¬((iP s).2.2 !=0)=true by simpa using h),if_neg (show ¬(iP s).2.2≠0 by simpa using h)]
  obtain⟨c,g,d⟩:=PG h
  have a:=qQl (N:=N) (pr:=[]) (b:=[]) c (by omega) e d
  cases hF:oN (iP s).1 with
  |inl z=>
   rw[hF] at a
   simp only[a,j0];rfl
  |inr f=>
   rw[hF] at a
   obtain⟨i',pr',b',a⟩:=a
   simp only[a,j0]
 rw[if_pos (show((iP s).2.2 !=0)=true by simpa using h),if_pos h];rfl
abbrev RT:=List bB×Int×Int×Int×List BA×List Ex×List Int
def gR(ts:List bB)(pr:List BA)(p:Ps):RT:=(ts,(p.1:Int),0,0,pr,p.2,[])
def bR(ts:List bB)(z:bJ)(i:Nat)(pr:List BA)(b:List Ex):RT:=(ts,(i:Int),z.1,z.2,pr,b,[])
section
variable {N:Nat} {ts:List bB} {pr:List BA} {b:List Ex} {i:Nat} {z:bJ}
theorem qEq{st:Int×Int×List BA×List Ex×List Int}(hi:i<ts.length):iJ N (ts,(i:Int),st.1,st.2.1,st.2.2.1,st.2.2.2.1,st.2.2.2.2)=some ((ts,(i:Int),st.1,st.2.1,st.2.2.1,st.2.2.2.1,st.2.2.2.2),aB ts i):=by
 simp only[iJ,qDx hi,j0]
theorem mI(p:Ps)(hi:p.1<ts.length):iJ N (gR ts pr p)=some (gR ts pr p,aB ts p.1):=qEq (st:=(0,0,pr,p.2,[])) hi
theorem rN(hi:i<ts.length):iJ N (bR ts z i pr b)=some (bR ts z i pr b,aB ts i):=qEq (st:=(z.1,z.2,pr,b,[])) hi
theorem qX(p:Ps)(hi:p.1<ts.length)(b:ts.length<1000000)(s:BA):oW N (gR ts pr p) s=some (if bE ts 1 s p.1 then(gR ts pr (p.1+1,p.2),true) else(gR ts pr p,false)):=by
 have a:iJ N (ts,(p.1:Int),0,0,pr,p.2,[])=some ((ts,(p.1:Int),0,0,pr,p.2,[]),aB ts p.1):=mI p hi
 simp only[oW,gR,a,j0,mF,bE,gA,jJ]
 by_cases h1:(aB ts p.1).1=1<;>by_cases h2:(aB ts p.1).2.1=s<;>simp[h1,h2,nV (show p.1<1000000 by omega)]
theorem RQ(a:z.2≠0)(s:BA):oW N (bR ts z i pr b) s=some (bR ts z i pr b,false):=by
 simp[oW,bR,a]
theorem pP(p:Ps)(hi:p.1<ts.length)(b:ts.length<1000000)(s:BA):oV N (gR ts pr p) s=some (if bE ts 4 s p.1 then(gR ts pr (p.1+1,p.2),true) else(gR ts pr p,false)):=by
 have a:iJ N (ts,(p.1:Int),0,0,pr,p.2,[])=some ((ts,(p.1:Int),0,0,pr,p.2,[]),aB ts p.1):=mI p hi
 simp only[oV,gR,a,j0,mF,bE,gA,jJ]
 by_cases h1:(aB ts p.1).1=4<;>by_cases h2:(aB ts p.1).2.1=s<;>simp[h1,h2,nV (show p.1<1000000 by omega)]
theorem MO(a:z.2≠0)(s:BA):oV N (bR ts z i pr b) s=some (bR ts z i pr b,false):=by
 simp[oV,bR,a]
theorem pD(p:Ps)(a e:Int):iS N (gR ts pr p) a e=some (bR ts (a,e) p.1 pr p.2):=by
 simp[iS,gR,bR]
theorem sC(c:z.2≠0)(a e:Int):iS N (bR ts z i pr b) a e=some (bR ts z i pr b):=by
 simp[iS,bR,c]
theorem sD(p:Ps)(hi:p.1<ts.length)(d:ts.length<1000000)(s:BA):iG N (gR ts pr p) s=some (match cC ts s p.1 with| .inl z=>bR ts z p.1 pr p.2| .inr j=>gR ts pr (j,p.2)):=by
 have a:=pP (N:=N) (pr:=pr) p hi d s
 have b:=mI (N:=N) (pr:=pr) p hi
 have c:=pD (N:=N) (ts:=ts) (pr:=pr) p (aB ts p.1).2.2.2 9
 simp only[gR] at a b c
 simp only[iG,gR,a,j0,cC]
 rcases eO (bE ts 4 s p.1) with h|h
 .simp only[h,jJ,kU,jB,jF]
 simp only[h,jJ,kP,jB,jF,b,j0,c,cV]
theorem rM(e:z.2≠0)(hi:i<ts.length)(s:BA):iG N (bR ts z i pr b) s=some (bR ts z i pr b):=by
 have a:=MO (N:=N) (ts:=ts) (i:=i) (pr:=pr) (b:=b) e s
 have c:=rN (N:=N) (ts:=ts) (i:=i) (pr:=pr) (b:=b) (z:=z) hi
 have d:=sC (N:=N) (ts:=ts) (i:=i) (pr:=pr) (b:=b) e (aB ts i).2.2.2 9
 simp only[bR] at a c d
 simp only[iG,bR,a,j0,kP,jJ,c,d]
theorem YQ{s:BA}:∀(d k M:Nat),k+d=wordsR.length->d<M->aJ (yU N s) M (k:Int)=some (if s∈wordsR.drop k then .inr true else .inl ())
 |d,k,0,_,h=>by omega
 |0,k,M+1,h,_=>by
  have:wordsR.drop k=[]:=jZ (by omega)
  simp only[aJ,yU,this]
  rw[if_neg (by simp only[j9];have:wordsR.length=13:=rfl;simp only[jC,jE];omega)]
  rfl
 |d+1,k,M+1,h,g=>by
  have a:k<wordsR.length:=by omega
  have c:=YQ (s:=s) d (k+1) M (by omega) (by omega)
  simp only[aJ]
  have e:yU N s (k:Int)=some (if s=wordsR[k] then .inr (.inr true) else .inl (((k+1:Nat):Int))):=by
   have f:wordsR.length=13:=rfl
   have b:idx ([(⟨#[112,97,99,107,97,103,101]⟩:BA),(⟨#[105,109,112,111,114,116]⟩:BA),(⟨#[102,117,110,99]⟩:BA),(⟨#[116,101,115,116]⟩:BA),(⟨#[103,101,110]⟩:BA),(⟨#[105,102]⟩:BA),(⟨#[116,104,101,110]⟩:BA),(⟨#[101,108,115,101]⟩:BA),(⟨#[114,101,97,100]⟩:BA),(⟨#[115,105,122,101]⟩:BA),(⟨#[104,97,115]⟩:BA),(⟨#[101,110,118]⟩:BA),(⟨#[102,108,105,112]⟩:BA)]) (k:Int)=some wordsR[k]:=iX (l:=wordsR) a
   simp only[yU]
   rw[if_pos (by simp only[j9,jC,jE];omega),b]
   simp only[j0,mF,j9,nV (show k<1000000 by omega)]
   split<;>rfl
  rw[e,jR a]
  simp only[j0,jT]
  by_cases hs:s=wordsR[k]
  .rw[if_pos hs,if_pos (.inl hs)]
  rw[if_neg hs]
  simp only[c]
  by_cases h2:s∈wordsR.drop (k+1)
  .rw[if_pos h2,if_pos (.inr h2)]
  rw[if_neg h2,if_neg (fun h=>h.elim hs h2)]
theorem rres(a:100<N)(s:BA):GD N s=some (pF s):=by
 have h:=YQ (N:=N) (s:=s) 13 0 N rfl (by omega)
 simp only[kI] at h
 simp only[GD]
 rw[show(0:Int)=((0:Nat):Int) from rfl,h]
 simp only[pF,j0]
 by_cases h2:s∈wordsR
 .rw[if_pos h2,jV h2]
 rw[if_neg h2,jY h2]
theorem DR(p:Ps)(hi:p.1<ts.length)(f:ts.length<1000000)(e:100<N):nP N (gR ts pr p)=some (match lN ts p.1 with| .inl z=>(bR ts z p.1 pr p.2,⟨#[]⟩)| .inr a=>(gR ts pr (a.1,p.2),a.2.2.1)):=by
 have d:=mI (N:=N) (pr:=pr) p hi
 have b:=pD (N:=N) (ts:=ts) (pr:=pr) p (aB ts p.1).2.2.2 9
 simp only[gR] at d b
 simp only[nP,gR,d,j0,rres e,lN,lH,fK,jB,jF]
 by_cases k1:(aB ts p.1).1=1
 .have k1':((aB ts p.1).1 !=1)=false:=by simp[k1]
  simp only[k1',jB,jF,j0,if_pos k1,aW]
  rcases eO (pF (aB ts p.1).2.1) with c|c
  .simp only[c,jJ,b,j0,cV]
  simp only[c,jB,jF,nV (show p.1<1000000 by omega)]
 have k1':((aB ts p.1).1 !=1)=true:=by simp[k1]
 simp only[k1',jJ,j0,if_neg k1,aW,b,cV]
theorem MS(d:z.2≠0)(hi:i<ts.length):nP N (bR ts z i pr b)=some (bR ts z i pr b,⟨#[]⟩):=by
 have a:=rN (N:=N) (ts:=ts) (i:=i) (pr:=pr) (b:=b) (z:=z) hi
 have c:=sC (N:=N) (ts:=ts) (i:=i) (pr:=pr) (b:=b) d (aB ts i).2.2.2 9
 have hz':(z.2 !=0)=true:=by simpa using d
 simp only[bR] at a c
 simp only[nP,bR,a,j0,hz',jJ,c]
theorem PT(p:Ps)(hi:p.1<ts.length)(d:ts.length<1000000):uG N (gR ts pr p)=some (match lH ts 2 p.1 with| .inl z=>(bR ts z p.1 pr p.2,0)| .inr a=>(gR ts pr (a.1,p.2),a.2.2.2.1)):=by
 have b:=mI (N:=N) (pr:=pr) p hi
 have c:=pD (N:=N) (ts:=ts) (pr:=pr) p (aB ts p.1).2.2.2 9
 simp only[gR] at b c
 simp only[uG,gR,b,j0,lH,fK,jB,jF]
 by_cases k1:(aB ts p.1).1=2
 .have k1':((aB ts p.1).1 !=2)=false:=by simp[k1]
  simp only[k1',jB,jF,if_pos k1,nV (show p.1<1000000 by omega)]
 have k1':((aB ts p.1).1 !=2)=true:=by simp[k1]
 simp only[k1',jJ,if_neg k1,c,j0,cV]
theorem qNc(d:z.2≠0)(hi:i<ts.length):uG N (bR ts z i pr b)=some (bR ts z i pr b,0):=by
 have a:=rN (N:=N) (ts:=ts) (i:=i) (pr:=pr) (b:=b) (z:=z) hi
 have c:=sC (N:=N) (ts:=ts) (i:=i) (pr:=pr) (b:=b) d (aB ts i).2.2.2 9
 have hz':(z.2 !=0)=true:=by simpa using d
 simp only[bR] at a c
 simp only[uG,bR,a,j0,hz',jJ,c]
theorem qBq(t:bB)(x:Ex)(p:Ps)(c:p.2.length<=256):∃v,lF N (gR ts pr p) x t.2.2.2=some (match iE t x p with| .inl z=>(bR ts z p.1 pr p.2,v)| .inr q=>(gR ts pr q.1,(q.2:Int))):=by
 refine⟨IntKind.wrap .i64 ((p.2.length:Int)-1),?_⟩
 have a:=pD (N:=N) (ts:=ts) (pr:=pr) p t.2.2.2 2
 simp only[gR] at a
 simp only[lF,gR,gA,jJ,j0,iE]
 by_cases k1:p.2.length=256
 .have k1':((p.2.length:Int)==256)=true:=by simp;omega
  simp only[k1',jJ,a,j0,bR]
  simp[k1,cV]
 have k1':((p.2.length:Int)==256)=false:=by simp;omega
 have b:IntKind.wrap .i64 (((p.2.length+1:Nat):Int)-1)=(p.2.length:Int):=by rw[bT (by omega) (by omega)];omega
 simp only[k1',jB,jF,j0,if_neg k1,gA,jJ]
 rw[nQ (by simp only[jC,jE];omega) (by omega)]
 simp only[j0,jA,jC,jE,kF,b]
theorem qCj(c:z.2≠0)(x:Ex)(a:Int):∃v,lF N (bR ts z i pr b) x a=some (bR ts z i pr b,v):=by
 refine⟨IntKind.wrap .i64 ((b.length:Int)-1),?_⟩
 have hz':(z.2==0)=false:=by simpa using c
 simp only[lF,bR,hz',jB,jF,j0]
end
section
variable {N:Nat} {ts:List bB} {pr:List BA} {b:List Ex} {i:Nat} {z:bJ}
theorem SJ(p:Ps)(hi:p.1<ts.length)(f:ts.length<1000000)(e:100<N)(pth:Bool):qK N (gR ts pr p) pth=some (match(if pth=true then mC ts p.1 else rO ts p.1) with| .inl z=>(bR ts z p.1 pr p.2,⟨#[]⟩)| .inr a=>(gR ts pr (a.1,p.2),a.2.2.1)):=by
 have d:=mI (N:=N) (pr:=pr) p hi
 have c:=pD (N:=N) (ts:=ts) (pr:=pr) p (aB ts p.1).2.2.2 9
 simp only[gR] at d c
 simp only[qK,gR,d,j0,qLp e,qLd e,mC,rO,lH,fK,jB,jF]
 by_cases k1:(aB ts p.1).1=3
 .have k1':((aB ts p.1).1 !=3)=false:=by simp[k1]
  simp only[k1',jB,jF,j0,if_pos k1,aW]
  cases pth with
  |true=>
   simp only[jJ,kU,jB,jF]
   rcases eO (mK (aB ts p.1).2.1.data.toList) with b|b
   .simp only[b,kU,jB,jF,j0,jJ,nV (show p.1<1000000 by omega)]
   simp only[b,kP,jB,jF,j0,jJ,c,cV]
  |false=>
   simp only[jJ,kP,jB,jF]
   rcases eO (lW (aB ts p.1).2.1) with b|b
   .simp only[b,kU,jB,jF,j0,jJ,nV (show p.1<1000000 by omega)]
   simp only[b,kP,jB,jF,j0,jJ,c,cV]
 have k1':((aB ts p.1).1 !=3)=true:=by simp[k1]
 simp only[k1',jJ,j0,if_neg k1,aW,c,cV]
 cases pth<;>rfl
theorem RV(d:z.2≠0)(hi:i<ts.length)(pth:Bool):qK N (bR ts z i pr b) pth=some (bR ts z i pr b,⟨#[]⟩):=by
 have a:=rN (N:=N) (ts:=ts) (i:=i) (pr:=pr) (b:=b) (z:=z) hi
 have c:=sC (N:=N) (ts:=ts) (i:=i) (pr:=pr) (b:=b) d (aB ts i).2.2.2 9
 have hz':(z.2 !=0)=true:=by simpa using d
 simp only[bR] at a c
 simp only[qK,bR,a,j0,hz',jJ,c]
theorem qBo{i:Nat}(h:i<2000000):IntKind.wrap .i64 ((i:Int)+1)=((i+1:Nat):Int):=by rw[bT (by omega) (by omega)];omega
theorem YV{s:BA}{l:List BA}(a:l.length<2000000):∀(d i M:Nat),i+d=l.length->d<M->
  aJ (CD N l s) M (i:Int)=some (if s∈l.drop i then .inr true else .inl ())
 |d,i,0,_,h=>by omega
 |0,i,M+1,h,_=>by
  have:l.drop i=[]:=jZ (by omega)
  simp only[aJ,CD,this]
  rw[if_neg (by simp only[j9];omega)]
  rfl
 |d+1,i,M+1,h,c=>by
  have hi:i<l.length:=by omega
  have b:=YV (s:=s) a d (i+1) M (by omega) (by omega)
  simp only[aJ,CD]
  rw[if_pos (by simp only[j9];omega),iX hi,jR hi]
  simp only[j0,mF,j9,jT]
  by_cases hs:l[i]=s
  .rw[if_pos hs,if_pos (.inl hs.symm)];rfl
  rw[if_neg hs]
  simp only[j0,qBo (show i<2000000 by omega),b]
  by_cases h2:s∈l.drop (i+1)
  .rw[if_pos h2,if_pos (.inr h2)]
  rw[if_neg h2,if_neg (fun h=>h.elim (fun e=>hs e.symm) h2)]
theorem TX{s:BA}{l:List BA}(b:l.length<2000000)(a:l.length<N):rF N l s=some (decide (s∈l)):=by
 have h:=YV (N:=N) (s:=s) b l.length 0 N (by omega) a
 simp only[kI] at h
 simp only[rF]
 rw[show(0:Int)=((0:Nat):Int) from rfl,h]
 simp only[j0]
 by_cases h2:s∈l
 .rw[if_pos h2,jV h2]
 rw[if_neg h2,jY h2]
theorem andS(a b:Bool):(if a=true then some b else some false)=some (a&&b):=by cases a<;>rfl
theorem WB{s:BA}{k:Int}{f:Sr}(b:f.2.2.length<2000000):∀(d i M:Nat),i+d=f.2.2.length->d<M->
  aJ (BZ N f k s) M (i:Int)=some (if(f.2.2.drop i).any (fun d=>d.1==k&&decide (d.2.1=s))=true then .inr true else .inl ())
 |d,i,0,_,h=>by omega
 |0,i,M+1,h,_=>by
  have:f.2.2.drop i=[]:=jZ (by omega)
  simp only[aJ,BZ,this]
  rw[if_neg (by simp only[j9];omega)]
  rfl
 |d+1,i,M+1,h,e=>by
  have hi:i<f.2.2.length:=by omega
  have c:=WB (s:=s) (k:=k) b d (i+1) M (by omega) (by omega)
  simp only[aJ,BZ]
  rw[if_pos (by simp only[j9];omega),iX hi,jR hi,fX]
  simp only[j0,mF,qBo (show i<2000000 by omega),andS]
  rcases eO (f.2.2[i].1==k&&decide (f.2.2[i].2.1=s)) with a|a
  .simp only[a,jJ,j0,Bool.true_or]
  simp only[a,jB,jF,j0,c,gN]
theorem qTs{s:BA}{k:Int}{f:Sr}(c:f.2.2.length<2000000)(b:f.2.2.length<N):xI N f k s=some (f.2.2.any fun d=>d.1==k&&decide (d.2.1=s)):=by
 have h:=WB (N:=N) (s:=s) (k:=k) c f.2.2.length 0 N (by omega) b
 simp only[kI] at h
 simp only[xI]
 rw[show(0:Int)=((0:Nat):Int) from rfl,h]
 simp only[j0]
 rcases eO (f.2.2.any fun d=>d.1==k&&decide (d.2.1=s)) with a|a
 .rw[if_pos a,a]
 rw[if_neg (by rw[a];decide),a]
theorem op_3:iI ts 3 i=if bE ts 4 ⟨#[42]⟩ i=true then 3 else if bE ts 4 ⟨#[47]⟩ i=true then 4 else if bE ts 4 ⟨#[37]⟩ i=true then 5 else 0:=by
 unfold iI opsC
 simp only[List.find?,nJ,qF]
 rcases eO (bE ts 4 ⟨#[42]⟩ i) with a|a<;>rcases eO (bE ts 4 ⟨#[47]⟩ i) with b|b<;>rcases eO (bE ts 4 ⟨#[37]⟩ i) with c|c<;>simp[a,b,c]
theorem op_2:iI ts 2 i=if bE ts 4 ⟨#[43]⟩ i=true then 1 else if bE ts 4 ⟨#[45]⟩ i=true then 2 else 0:=by
 unfold iI opsC
 simp only[List.find?,nJ,qF]
 rcases eO (bE ts 4 ⟨#[43]⟩ i) with a|a<;>rcases eO (bE ts 4 ⟨#[45]⟩ i) with b|b<;>simp[a,b]
theorem op_1:iI ts 1 i=if bE ts 4 ⟨#[60]⟩ i=true then 6 else if bE ts 4 ⟨#[61,61]⟩ i=true then 7 else 0:=by
 unfold iI opsC
 simp only[List.find?,nJ,qF]
 rcases eO (bE ts 4 ⟨#[60]⟩ i) with a|a<;>rcases eO (bE ts 4 ⟨#[61,61]⟩ i) with b|b<;>simp[a,b]
theorem DS{α:Type}{t:bB}{e:Int}(a:e≠0)(h:(cV t e:bJ⊕α)= .inl z):z.2≠0:=by
 obtain rfl:=Sum.inl.inj h;exact a
theorem qW{s:BA}(h:cC ts s i= .inl z):z.2≠0:=by
 unfold cC at h;split at h
 .cases h
 exact DS (by decide) h
theorem HY{k:Int}(h:lH ts k i= .inl z):z.2≠0:=by
 unfold lH at h;split at h
 .cases h
 exact DS (by decide) h
theorem RW{α β:Type}{x:bJ⊕α}{f:α->bJ⊕β}(h:aW x f= .inl z):x= .inl z\/∃a,x= .inr a/\f a= .inl z:=by
 cases x with
 |inl y=>obtain rfl:=Sum.inl.inj h;exact .inl rfl
 |inr a=>exact .inr ⟨a,rfl,h⟩
theorem MG(h:lN ts i= .inl z):z.2≠0:=by
 rcases RW h with h|⟨a,_,h⟩
 .exact HY h
 split at h
 .exact DS (by decide) h
 cases h
theorem MJ(h:mC ts i= .inl z):z.2≠0:=by
 rcases RW h with h|⟨a,_,h⟩
 .exact HY h
 split at h
 .cases h
 exact DS (by decide) h
theorem qPx(h:rO ts i= .inl z):z.2≠0:=by
 rcases RW h with h|⟨a,_,h⟩
 .exact HY h
 split at h
 .cases h
 exact DS (by decide) h
theorem RU{t:bB}{x:Ex}{p:Ps}(h:iE t x p= .inl z):z.2≠0:=by
 unfold iE at h;split at h
 .exact DS (by decide) h
 cases h
end
def tF(ts:List bB)(z:bJ)(st:RT):Prop:=z.2≠0/\∃(i:Nat) (pr:List BA) (b:List Ex),i<ts.length/\st=bR ts z i pr b
def iU(ts:List bB)(pr:List BA)(r:PM Nat)(o:RT×Int):Prop:=
 match r with
 | .inl z=>tF ts z o.1
 | .inr q=>o=(gR ts pr q.1,(q.2:Int))
section
variable {N:Nat} {ts:List bB} {pr:List BA} {E S:Ps->PM Nat} {d:Int}
variable {r1 r2 r3 r4:RT->Int->Option (RT×Int)}
theorem sB{z:bJ}{i:Nat}{pr':List BA}{b:List Ex}{v:Int}(a:z.2≠0)(hi:i<ts.length):iU ts pr (.inl z) (bR ts z i pr' b,v):=⟨a,i,pr',b,hi,rfl⟩
theorem AD(t:bB)(x:Ex)(p:Ps)(c:p.1<ts.length)(b:p.2.length<=256):∃o,lF N (gR ts pr p) x t.2.2.2=some o/\iU ts pr (iE t x p) o:=by
 obtain⟨v,h⟩:=qBq (N:=N) (ts:=ts) (pr:=pr) t x p b
 cases a:iE t x p with
 |inl z=>rw[a] at h;exact⟨_,h,sB (RU a) c⟩
 |inr q=>rw[a] at h;exact⟨_,h,rfl⟩
theorem DQ{z:bJ}{i:Nat}{pr':List BA}{b:List Ex}(c:z.2≠0)(hi:i<ts.length)(x:Ex)(a:Int):∃o,lF N (bR ts z i pr' b) x a=some o/\iU ts pr (.inl z) o:=by
 obtain⟨v,h⟩:=qCj (N:=N) (ts:=ts) (pr:=pr') (b:=b) (i:=i) c x a
 exact⟨_,h,sB c hi⟩
theorem PN(t:bB)(x:Ex)(p:Ps)(b:OkT ts)(d:ts.length<1000000)(a:p.1<ts.length)(c:p.2.length<=256):∃o,
  ((iG N (gR ts pr p) (⟨#[41]⟩:BA)).bind fun y=>lF N y x t.2.2.2)=some o/\iU ts pr (aW (cC ts sClose p.1) fun i=>iE t x (i,p.2)) o:=by
 have e:=sD (N:=N) (pr:=pr) p a d ⟨#[41]⟩
 simp only[e,j0,sClose]
 cases h:cC ts ⟨#[41]⟩ p.1 with
 |inl z=>exact DQ (qW h) a x _
 |inr j=>
  obtain⟨rfl,g,-⟩:=lZ b a h
  exact AD t x (p.1+1,p.2) g c
theorem zZ{z:bJ}{i:Nat}{pr':List BA}{b:List Ex}(c:z.2≠0)(hi:i<ts.length)(x:Ex)(a:Int):∃o,
  ((iG N (bR ts z i pr' b) (⟨#[41]⟩:BA)).bind fun y=>lF N y x a)=some o/\iU ts pr (.inl z) o:=by
 simp only[rM c hi,j0]
 exact DQ c hi x a
variable (hEg:∀p:Ps,p.1<ts.length->p.2.length<=256->∃o,r4 (gR ts pr p) (IntKind.wrap .i64 (d+1))=some o/\iU ts pr (E p) o)
variable (hEb:∀(z:bJ) (i:Nat) (pr':List BA) (b:List Ex),z.2≠0->i<ts.length->∃v,r4 (bR ts z i pr' b) (IntKind.wrap .i64 (d+1))=some (bR ts z i pr' b,v))
def MW(ts:List bB)(E:Ps->PM Nat)(n:Nat)(l:List Int)(p:Ps):PM (List Int):=
 if bE ts 4 sComma p.1 then pT ts E n l (p.1+1,p.2) else aW (cC ts sClose p.1) fun i=> .inr ((i,p.2),l)
theorem LV(n:Nat)(l:List Int)(p:Ps):pT ts E (n+1) l p=aW (E p) fun q=>MW ts E n (l++[(q.2:Int)]) q.1:=rfl
def qEo(ts:List bB)(pr:List BA)(r:PM (List Int))(o:List Int×RT):Prop:=
 match r with
 | .inl z=>tF ts z o.2
 | .inr q=>o=(q.2,gR ts pr q.1)
theorem QE{z:bJ}{i:Nat}{pr':List BA}{b:List Ex}(a:z.2≠0)(M:Nat)(l:List Int):aJ (vK N r4 d) (M+1) (l,bR ts z i pr' b)=some (l,bR ts z i pr' b):=by
 have hz':(z.2==0)=false:=by simpa using a
 simp only[aJ,vK,bR,hz',jB,jF,j0]
include hEg hEb in
theorem XE(k:OkT ts)(s:ts.length<1000000)(u:lT ts E):∀(n M:Nat) (l:List Int) (p:Ps),l≠[]->p.1<ts.length->p.2.length<=256->l.length<=p.1->ts.length<p.1+n->ts.length+2<p.1+M->
  ∃o,aJ (vK N r4 d) M (l,gR ts pr p)=some o/\qEo ts pr (MW ts E n l p) o
 |0,M,l,p,_,c,_,_,h,_=>by omega
 |n+1,0,l,p,_,c,_,_,_,h=>by omega
 |n+1,M+1,l,p,A,c,x,R,Y,V=>by
  have K:=pP (N:=N) (pr:=pr) p c s ⟨#[41]⟩
  have t:decide ((l.length:Int)>0)=true:=by
   have:=fE.2 A
   exact jV (by omega)
  have G:((gR ts pr p).2.2.2.1==0)=true:=rfl
  simp only[aJ,vK,Prod.eta,G,jJ,K,j0]
  rcases eO (bE ts 4 ⟨#[41]⟩ p.1) with a|a
  .simp only[a,jJ,kU,jB,jF]
   refine⟨_,rfl,?_⟩
   have e:bE ts 4 sComma p.1=false:=by
    simp only[bE,jI,j9] at a
    simp[bE,a.2,sComma]
   have r:cC ts sClose p.1= .inr (p.1+1):=by simp[cC,sClose,a]
   simp only[MW,e,jB,jF,r,aW]
   rfl
  simp only[a,jB,jF,kP,jJ,t,Prod.eta,sD p c s,j0]
  have y:bE ts 4 sComma p.1=bE ts 4 ⟨#[44]⟩ p.1:=rfl
  simp only[MW,y,cC]
  rcases eO (bE ts 4 ⟨#[44]⟩ p.1) with e|e
  .have g:=mG k c (by decide) e
   simp only[e,jJ]
   obtain⟨o,H,f⟩:=hEg (p.1+1,p.2) g x
   simp only[H,j0]
   cases hE:E (p.1+1,p.2) with
   |inl z=>
    rw[hE] at f
    obtain⟨D,i,pr',b,hi,B⟩:=f
    rw[nQ (by simp only[jC,jE];omega) (by omega)]
    simp only[j0,B]
    cases M with
    |zero=>omega
    |succ M=>
     refine⟨_,QE D M _,?_⟩
     rw[LV,hE]
     exact⟨D,i,pr',b,hi,rfl⟩
   |inr q=>
    rw[hE] at f
    obtain⟨⟨B,D,S,F⟩,U⟩:=u (p.1+1,p.2) q.1 q.2 g x hE
    simp only at B
    rw[nQ (by simp only[jC,jE];omega) (by omega)]
    have hr':o=(gR ts pr q.1,(q.2:Int)):=f
    simp only[j0,hr']
    rw[LV,hE]
    exact XE k s u n M (l++[(q.2:Int)]) q.1 (by simp) D F (by simp only[jA,jC,jE];omega) (by omega) (by omega)
  simp only[e,jB,jF]
  have r:bE ts 4 sClose p.1=false:=a
  simp only[r,jB,jF,cV,aW]
  obtain⟨v,f⟩:=hEb ((aB ts p.1).2.2.2,9) p.1 pr p.2 (show(9:Int)≠0 by decide) c
  simp only[f,j0]
  rw[nQ (by simp only[jC,jE];omega) (by omega)]
  simp only[j0]
  cases M with
  |zero=>omega
  |succ M=>exact⟨_,QE (z:=((aB ts p.1).2.2.2,9)) (show(9:Int)≠0 by decide) M _,show(9:Int)≠0 by decide,p.1,pr,p.2,c,rfl⟩
include hEg hEb in
theorem qUu(n:OkT ts)(k:ts.length<1000000)(A:1000002<N)(g:lT ts E)(p:Ps)(f:p.1<ts.length)(h:p.2.length<=256):
  ∃o,aJ (vK N r4 d) N ([],gR ts pr p)=some o/\qEo ts pr (if bE ts 4 sClose p.1 then .inr ((p.1+1,p.2),[]) else pT ts E (ts.length+1) [] p) o:=by
 obtain⟨M,rfl⟩:∃M,N=M+1:=⟨N-1,by omega⟩
 have u:=pP (N:=M+1) (pr:=pr) p f k ⟨#[41]⟩
 have s:((gR ts pr p).2.2.2.1==0)=true:=rfl
 have e:decide ((([]:List Int).length:Int)>0)=false:=rfl
 simp only[aJ,vK,Prod.eta,s,jJ,u,j0,sClose]
 rcases eO (bE ts 4 ⟨#[41]⟩ p.1) with c|c
 .simp only[c,jJ,kU,jB,jF]
  exact⟨_,rfl,rfl⟩
 simp only[c,jB,jF,kP,jJ,e,Prod.eta,j0]
 obtain⟨o,t,a⟩:=hEg p f h
 simp only[t,j0]
 cases hE:E p with
 |inl z=>
  rw[hE] at a
  obtain⟨r,i,pr',b,hi,l⟩:=a
  rw[nQ (by simp) (by omega)]
  simp only[j0,l]
  cases M with
  |zero=>omega
  |succ M=>
   refine⟨_,QE r M _,?_⟩
   rw[LV,hE]
   exact⟨r,i,pr',b,hi,rfl⟩
 |inr q=>
  rw[hE] at a
  obtain⟨⟨v,l,x,r⟩,y⟩:=g p q.1 q.2 f h hE
  rw[nQ (by simp) (by omega)]
  have hr':o=(gR ts pr q.1,(q.2:Int)):=a
  simp only[j0,hr']
  rw[LV,hE]
  exact XE hEg hEb n k g ts.length M ([]++[(q.2:Int)]) q.1 (by simp) l r (by simp only[jA,jC,jE];omega) (by omega) (by omega)
end
end
end Go.Proofs.YthiiggmmmoolbaaGreatDoor
