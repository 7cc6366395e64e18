/- No condition but those of each theorem. -/
import Derived.Test.YtndcdhopdbkikabGreatDoorK1e9
namespace Go.Proofs.YtndcdhopdbkikabGreatDoor
section
open Go Go.Dc
abbrev Ta:=BA
abbrev Tb:=List Ta
abbrev Tc:=Option Tb
abbrev Td:=Option Int
abbrev Te:=List Int
abbrev Tf:=Te×Int
abbrev Tg:=Tf×Int
abbrev Th:=Tf×Ta
abbrev Ti:=Option Th
abbrev Tj:=Option (Int⊕Unit⊕Bool)
abbrev Tk:=Option Bool
abbrev Tl:=Option Ta
abbrev Tm:=Ta×Int×Tf
abbrev Tn:=Ta×Tf
abbrev To:=Ta×Tb×Int×Tf
abbrev Tp:=Ta×Int
abbrev Tq:=Ta×Ta
abbrev Tr:=List Tq
abbrev Ts:=Int×Tr
abbrev Tt:=Bool×Tr
abbrev Tu:=Option Tr
abbrev Tv:=List UInt8×Int×Tf
abbrev Tw:=Tr×Tf
abbrev Tx:=Int×Tw
abbrev Ty:=Tf×Tr
abbrev Tz:=Int⊕Unit⊕Ty
abbrev nT:=List Tp
abbrev JR:=nT×Tf
abbrev OV:=Te×Ts
abbrev T19:=Tf×Tr×nT×Int
abbrev iX:=Int×Int
abbrev yO:=Int×iX
abbrev JP:=Option (Int⊕Unit⊕Int)
abbrev JF:=Ta×Bool
abbrev qS:=Int×Ta×iX
abbrev JE:=qS×iX
abbrev qC:=List qS
abbrev JL:=qC×Int
abbrev JJ:=qC×iX
abbrev dZ:=Int×Int×Int×Ta×Te
abbrev lK:=List dZ
abbrev eT:=qC×Int×Int×Int×Tb×lK×Te
abbrev T1m:=eT×qS
abbrev PI:=eT×Bool
abbrev EO:=Option (Bool×eT)
abbrev tR:=Option eT
abbrev EM:=eT×Ta
abbrev PE:=Int×Ta×Tb×lK
abbrev mI:=List PE
abbrev iE:=Ta×Tb×mI
abbrev rN:=eT×Int
abbrev nG:=Option rN
abbrev OU:=Te×eT
abbrev uT:=Int×eT
abbrev T1y:=uT⊕uT
abbrev T1z:=uT⊕T1y
abbrev wO:=qC×Int×Int×Int×Tb×lK×Te×Tb
abbrev T21:=eT×PE
abbrev T22:=qC×Int×Int×Int×Tb×lK×Tf
abbrev OY:=qC×Int×Int×Int×Tb×lK×Te×mI
abbrev PH:=iE×iX
abbrev OW:=List iE
abbrev pW:=Tb×OW
abbrev EI:=Ta×Ta×iX
abbrev EL:=Int×EI
abbrev mQ:=Ta×Ta×qS
abbrev xN:=List mQ
abbrev EH:=xN×Int
abbrev OO:=Ta×Int×Tb
abbrev EJ:=Int×Ta
abbrev CI:=List iX
abbrev qE:=Option CI
abbrev vR:=List EJ
abbrev eM:=Option Nat
abbrev cI:=qC×Int×Tb×lK
abbrev AG:=cI×qS
abbrev T2k:=iX⊕cI
abbrev T2l:=cI⊕T2k
abbrev T2m:=iX⊕AG
abbrev JO:=Unit⊕T2m
abbrev yQ:=Tb×cI
abbrev T2p:=iX⊕cI×Tb
abbrev T2q:=Unit⊕yQ⊕yQ⊕T2p
abbrev rM:=cI×Int
abbrev xO:=iX⊕rM
abbrev nB:=Option xO
abbrev CD:=Unit⊕xO
abbrev T2v:=cI×Te
abbrev T2w:=iX⊕T2v
abbrev CE:=Option T2w
abbrev EK:=Te×cI
abbrev T2z:=Int×Int×Ta×EK⊕xO
abbrev T30:=Unit⊕T2z
abbrev T31:=qC×Int×Tb×lK×qS
abbrev JN:=iX⊕cI×PE
abbrev JD:=Unit⊕JN
abbrev OZ:=qC×Int×Tb×lK×Tb
abbrev T35:=iX⊕cI×iE
abbrev PQ:=OZ⊕OZ⊕T35
abbrev PP:=qC×Int×Tb×lK×mI
abbrev qW:=Int×Tq
abbrev xH:=Option (List (qW×mQ))
abbrev OP:=Ta×iE
abbrev JW:=Tb×Option (List OP)×xH
abbrev vQ:=Tr×Bool×Option (List OP)×Tb×xH
abbrev wM:=Option (List (qW×Bool))
abbrev dV:=vQ×nT×Int×wM×Int×Int×Bool×Option (List (Int×eM))
abbrev eR:=iE×PE×Te
abbrev AI:=wM×Int×Int×Bool
abbrev oZ:=Int×AI
abbrev pA:=AI×Int
abbrev xL:=oZ⊕pA
abbrev iM:=Option xL
abbrev lY:=List qW
abbrev T3m:=Int×lY
abbrev PC:=Ta×Ta×Int×Ta×Int×T3m
abbrev OS:=lY×Int
abbrev IX:=mQ×OS
abbrev T3q:=Int×IX
abbrev T3r:=Int×Int×Bool×wM
abbrev T3s:=Te×Int×T3r
abbrev AH:=yO×Bool×OS
abbrev T3u:=AI×AH
abbrev JI:=AH×Int
abbrev T3w:=AH×iX
abbrev lL:=Tr×pW×nT×Int×T3w
abbrev sG:=T3w×Int
abbrev nI:=Option sG
abbrev T40:=Int×Int×Int×Bool×lY×yO
abbrev T41:=Te×Int×T40
abbrev C1:=sA aB aB
abbrev C2:=aG .i64
abbrev C3:=sA aB C2
abbrev C4:=sA C2 (sA aB (sA C2 C2))
abbrev C5:=sA C2 (sA C2 (sA C2 (sA aB (CB C2))))
abbrev C6:=sA C2 (sA aB (sA (CB aB) (CB C5)))
abbrev C7:=sA aB (sA (CB aB) (CB C6))
abbrev C8:=sA aB (sA aB C4)
abbrev C9:=sA C2 C1
abbrev vS{α:Type}(a:Option Addr)(l:List α)(c:Nat):Value:= .slice a (List.length l) c
abbrev vP(b o:Nat):Value:= .pointer (some ⟨b,o,none⟩)
abbrev vI(x:Int):Value:= .int .i64 x
abbrev vT(s:BA):Value:= .string s
abbrev vB(b:Bool):Value:= .bool b
abbrev eB:BA:=⟨#[]⟩
abbrev aP(b:Nat):Option Addr:=some ⟨b,0,none⟩
abbrev kB(b:Nat)(c:Array Value)(e:Nat):Piece:= .blk b (.cells c e (0,0))
abbrev kR{α:Type}(a:Option Addr)(l:List α)(c e s:Nat):Piece:= .room a (List.length l) c e s
abbrev V1{α0:Type}(p:List α0×Int)(a0:Option Addr)(c0:Nat):Array Value:= #[vS a0 p.1 c0,vI p.2]
abbrev V2(p:BA×BA):Array Value:= #[vT p.1,vT p.2]
abbrev V3(x0:BA)(x1:BA):Array Value:= #[vT x0,vT x1]
abbrev V4(p:Int×BA×Int×Int):Array Value:= #[vI p.1,vT p.2.1,vI p.2.2.1,vI p.2.2.2]
abbrev V5(x0:Int)(x1:BA)(x2:Int)(x3:Int):Array Value:= #[vI x0,vT x1,vI x2,vI x3]
abbrev V6{α0:Type}{α4:Type}{α5:Type}{α6:Type}(p:List α0×Int×Int×Int×List α4×List α5×List α6)(a0:Option Addr)(c0:Nat)(a4:Option Addr)(c4:Nat)(a5:Option Addr)(c5:Nat)(a6:Option Addr)(c6:Nat):Array Value:= #[vS a0 p.1 c0,vI p.2.1,vI p.2.2.1,vI p.2.2.2.1,vS a4 p.2.2.2.2.1 c4,vS a5 p.2.2.2.2.2.1 c5,vS a6 p.2.2.2.2.2.2 c6]
abbrev V7{α0:Type}{α4:Type}{α5:Type}{α6:Type}(a0:Option Addr)(l0:List α0)(c0:Nat)(x1:Int)(x2:Int)(x3:Int)(a4:Option Addr)(l4:List α4)(c4:Nat)(a5:Option Addr)(l5:List α5)(c5:Nat)(a6:Option Addr)(l6:List α6)(c6:Nat):Array Value:= #[vS a0 l0 c0,vI x1,vI x2,vI x3,vS a4 l4 c4,vS a5 l5 c5,vS a6 l6 c6]
abbrev V8{α1:Type}{α2:Type}(p:BA×List α1×List α2)(a1:Option Addr)(c1:Nat)(a2:Option Addr)(c2:Nat):Array Value:= #[vT p.1,vS a1 p.2.1 c1,vS a2 p.2.2 c2]
abbrev V9{α2:Type}{α3:Type}(p:Int×BA×List α2×List α3)(a2:Option Addr)(c2:Nat)(a3:Option Addr)(c3:Nat):Array Value:= #[vI p.1,vT p.2.1,vS a2 p.2.2.1 c2,vS a3 p.2.2.2 c3]
abbrev Va{α4:Type}(p:Int×Int×Int×BA×List α4)(a4:Option Addr)(c4:Nat):Array Value:= #[vI p.1,vI p.2.1,vI p.2.2.1,vT p.2.2.2.1,vS a4 p.2.2.2.2 c4]
abbrev Vb{α4:Type}(p:Int×Int×Int×BA×List α4)(a4:Option Addr)(c4:Nat):List Value:=[vI p.1,vI p.2.1,vI p.2.2.1,vT p.2.2.2.1,vS a4 p.2.2.2.2 c4]
abbrev Vc{α1:Type}{α2:Type}(p:BA×List α1×List α2)(a1:Option Addr)(c1:Nat)(a2:Option Addr)(c2:Nat):List Value:=[vT p.1,vS a1 p.2.1 c1,vS a2 p.2.2 c2]
abbrev Vd{α0:Type}{α1:Type}(p:List α0×List α1)(a0:Option Addr)(c0:Nat)(a1:Option Addr)(c1:Nat):Array Value:= #[vS a0 p.1 c0,vS a1 p.2 c1]
abbrev Ve(p:BA×BA×Int×BA×Int×Int):Array Value:= #[vT p.1,vT p.2.1,vI p.2.2.1,vT p.2.2.2.1,vI p.2.2.2.2.1,vI p.2.2.2.2.2]
abbrev Vf(x0:BA)(x1:BA)(x2:Int)(x3:BA)(x4:Int)(x5:Int):Array Value:= #[vT x0,vT x1,vI x2,vT x3,vI x4,vI x5]
abbrev Vg(p:BA×BA×Int×BA×Int×Int):List Value:=[vT p.1,vT p.2.1,vI p.2.2.1,vT p.2.2.2.1,vI p.2.2.2.2.1,vI p.2.2.2.2.2]
abbrev Vh{α0:Type}{α2:Type}{α3:Type}(p:List α0×Int×List α2×List α3)(a0:Option Addr)(c0:Nat)(a2:Option Addr)(c2:Nat)(a3:Option Addr)(c3:Nat):Array Value:= #[vS a0 p.1 c0,vI p.2.1,vS a2 p.2.2.1 c2,vS a3 p.2.2.2 c3]
abbrev Vi(p:Int×Int):Array Value:= #[vI p.1,vI p.2]
abbrev Vj(x0:Int)(x1:BA)(x2:BA):Array Value:= #[vI x0,vT x1,vT x2]
abbrev Vk(p:Int×BA×BA):Array Value:= #[vI p.1,vT p.2.1,vT p.2.2]
abbrev Vl(p:BA×Int):Array Value:= #[vT p.1,vI p.2]
abbrev Vm{α1:Type}{α2:Type}{α5:Type}{α6:Type}{α7:Type}(x0:BA)(a1:Option Addr)(l1:List α1)(c1:Nat)(a2:Option Addr)(l2:List α2)(c2:Nat)(x3:Int)(x4:BA)(a5:Option Addr)(l5:List α5)(c5:Nat)(a6:Option Addr)(l6:List α6)(c6:Nat)(a7:Option Addr)(l7:List α7)(c7:Nat):Array Value:= #[vT x0,vS a1 l1 c1,vS a2 l2 c2,vI x3,vT x4,vS a5 l5 c5,vS a6 l6 c6,vS a7 l7 c7]
abbrev Vn(p:Int×Int×Int):Array Value:= #[vI p.1,vI p.2.1,vI p.2.2]
abbrev Vo(x0:Int)(x1:Int)(x2:Int):Array Value:= #[vI x0,vI x1,vI x2]
abbrev Vp(p:Int×BA×BA):List Value:=[vI p.1,vT p.2.1,vT p.2.2]
abbrev Vq{α4:Type}(x0:Int)(x1:Int)(x2:Int)(x3:Bool)(a4:Option Addr)(l4:List α4)(c4:Nat)(x5:Int):Array Value:= #[vI x0,vI x1,vI x2,vB x3,vS a4 l4 c4,vI x5]
abbrev ba:BA:=⟨#[97,46,115,114,99]⟩
abbrev bb:BA:=⟨#[98,46,115,114,99]⟩
abbrev bc:BA:=⟨#[100,47,99,46,115,114,99]⟩
abbrev bd:BA:=⟨#[120,46,115,114,99]⟩
abbrev be:BA:=⟨#[112]⟩
abbrev bf:BA:=⟨#[116]⟩
abbrev bg:BA:=⟨#[97,46,100,97,116]⟩
abbrev bh:BA:=⟨#[100,47,98,46,100,97,116]⟩
abbrev bi:BA:=⟨#[99]⟩
abbrev bj:BA:=⟨#[110]⟩
abbrev bk:BA:=⟨#[109]⟩
abbrev bl:BA:=⟨#[48,49,50,51,52,53,54,55,56,57]⟩
abbrev bm:BA:=⟨#[34,41]⟩
abbrev bn:BA:=⟨#[43]⟩
abbrev bo:BA:=⟨#[45]⟩
abbrev bp:BA:=⟨#[42]⟩
abbrev bq:BA:=⟨#[47]⟩
abbrev br:BA:=⟨#[37]⟩
abbrev bs:BA:=⟨#[60]⟩
abbrev bt:BA:=⟨#[61,61]⟩
abbrev bu:BA:=⟨#[102,117,110,99]⟩
abbrev bv:BA:=⟨#[34]⟩
abbrev bw:BA:=⟨#[112,97,99,107,97,103,101]⟩
abbrev bx:BA:=⟨#[105,109,112,111,114,116]⟩
abbrev bz:BA:=⟨#[116,101,115,116]⟩
abbrev AJ:BA:=⟨#[103,101,110]⟩
abbrev JC:BA:=⟨#[105,102]⟩
abbrev JK:BA:=⟨#[116,104,101,110]⟩
abbrev IZ:BA:=⟨#[101,108,115,101]⟩
abbrev JV:BA:=⟨#[114,101,97,100]⟩
abbrev JM:BA:=⟨#[115,105,122,101]⟩
abbrev JT:BA:=⟨#[104,97,115]⟩
abbrev IY:BA:=⟨#[101,110,118]⟩
abbrev JG:BA:=⟨#[102,108,105,112]⟩
abbrev PT:BA:=⟨#[97,98,99,100,101,102,103,104,105,106,107,108,109,110,111,112,113,114,115,116,117,118,119,120,121,122]⟩
abbrev OX:BA:=⟨#[95]⟩
abbrev OR:BA:=⟨#[46]⟩
abbrev PG:BA:=⟨#[9,10,13,32]⟩
abbrev PN:BA:=⟨#[35]⟩
abbrev PS:BA:=⟨#[59,44,40,41,43,45,42,47,37,60,61]⟩
abbrev OT:BA:=⟨#[112,97,99,107,97,103,101,32,112,59,32,102,117,110,99,32,102,40,120,41,32,61,32,120,32,42,32,120,59,32,116,101,115,116,32,116,32,61,32,102,40,50,41,32,61,61,32,52,59]⟩
abbrev P1{X1:Type}{X2:Type}{X3:Type}(m:Mem)(a0:Option Addr)(c0:Nat)(a1:Option Addr)(c1:Nat)(a2:Option Addr)(c2:Nat)(a3:Option Addr)(c3:Nat)(p:(List ((Int)×((BA)×((Int)×(Int)))))×((X3)×((X2)×((X1)×((List (BA))×((List ((Int)×((Int)×((Int)×((BA)×(List (Int)))))))×(List (Int)))))))):Prop:=RepS C4 m a0 c0 p.1/\RepS aB m a1 c1 p.2.2.2.2.1/\RepS C5 m a2 c2 p.2.2.2.2.2.1/\RepS (aG .i64) m a3 c3 p.2.2.2.2.2.2
abbrev P2{X1:Type}{X2:Type}{X3:Type}{X4:Type}(m:Mem)(a0:Option Addr)(c0:Nat)(a1:Option Addr)(c1:Nat)(a2:Option Addr)(c2:Nat)(a3:Option Addr)(c3:Nat)(p:(List ((Int)×((BA)×((Int)×(Int)))))×((X4)×((X3)×((X2)×((List (BA))×((List ((Int)×((Int)×((Int)×((BA)×(List (Int)))))))×((List (Int))×(X1)))))))):Prop:=RepS C4 m a0 c0 p.1/\RepS aB m a1 c1 p.2.2.2.2.1/\RepS C5 m a2 c2 p.2.2.2.2.2.1/\RepS (aG .i64) m a3 c3 p.2.2.2.2.2.2.1
abbrev P3{X1:Type}{X2:Type}{X3:Type}(m:Mem)(a0:Option Addr)(c0:Nat)(a1:Option Addr)(c1:Nat)(a2:Option Addr)(c2:Nat)(a3:Option Addr)(c3:Nat)(a4:Option Addr)(c4:Nat)(p:(List ((Int)×((BA)×((Int)×(Int)))))×((X3)×((X2)×((X1)×((List (BA))×((List ((Int)×((Int)×((Int)×((BA)×(List (Int)))))))×((List (Int))×(List (BA))))))))):Prop:=RepS C4 m a0 c0 p.1/\RepS aB m a1 c1 p.2.2.2.2.1/\RepS C5 m a2 c2 p.2.2.2.2.2.1/\RepS (aG .i64) m a3 c3 p.2.2.2.2.2.2.1/\RepS aB m a4 c4 p.2.2.2.2.2.2.2
abbrev P4(m:Mem)(a0:Option Addr)(c0:Nat)(a1:Option Addr)(c1:Nat)(p:(List (BA))×(List ((Int)×((BA)×((List (BA))×(List ((Int)×((Int)×((Int)×((BA)×(List (Int)))))))))))):Prop:=RepS aB m a0 c0 p.1/\RepS C6 m a1 c1 p.2
abbrev P5(m:Mem)(a0:Option Addr)(c0:Nat)(a1:Option Addr)(c1:Nat)(p:(List (BA))×(List ((BA)×((List (BA))×(List ((Int)×((BA)×((List (BA))×(List ((Int)×((Int)×((Int)×((BA)×(List (Int))))))))))))))):Prop:=RepS aB m a0 c0 p.1/\RepS C7 m a1 c1 p.2
abbrev P6{X1:Type}(m:Mem)(a0:Option Addr)(c0:Nat)(a1:Option Addr)(c1:Nat)(a2:Option Addr)(c2:Nat)(p:(List ((Int)×((BA)×((Int)×(Int)))))×((X1)×((List (BA))×(List ((Int)×((Int)×((Int)×((BA)×(List (Int)))))))))):Prop:=RepS C4 m a0 c0 p.1/\RepS aB m a1 c1 p.2.2.1/\RepS C5 m a2 c2 p.2.2.2
abbrev P7{X1:Type}(m:Mem)(a0:Option Addr)(c0:Nat)(a1:Option Addr)(c1:Nat)(a2:Option Addr)(c2:Nat)(a3:Option Addr)(c3:Nat)(p:((List ((Int)×((BA)×((Int)×(Int)))))×((X1)×((List (BA))×(List ((Int)×((Int)×((Int)×((BA)×(List (Int))))))))))×(List (Int))):Prop:=RepS C4 m a0 c0 p.1.1/\RepS aB m a1 c1 p.1.2.2.1/\RepS C5 m a2 c2 p.1.2.2.2/\RepS (aG .i64) m a3 c3 p.2
abbrev P8{X1:Type}(m:Mem)(a0:Option Addr)(c0:Nat)(a1:Option Addr)(c1:Nat)(a2:Option Addr)(c2:Nat)(a3:Option Addr)(c3:Nat)(p:(List (Int))×((List ((Int)×((BA)×((Int)×(Int)))))×((X1)×((List (BA))×(List ((Int)×((Int)×((Int)×((BA)×(List (Int))))))))))):Prop:=RepS (aG .i64) m a0 c0 p.1/\RepS C4 m a1 c1 p.2.1/\RepS aB m a2 c2 p.2.2.2.1/\RepS C5 m a3 c3 p.2.2.2.2
abbrev P9{X1:Type}(m:Mem)(a0:Option Addr)(c0:Nat)(a1:Option Addr)(c1:Nat)(a2:Option Addr)(c2:Nat)(a3:Option Addr)(c3:Nat)(p:(List ((BA)×(BA)))×(((List (BA))×(List ((BA)×((List (BA))×(List ((Int)×((BA)×((List (BA))×(List ((Int)×((Int)×((Int)×((BA)×(List (Int)))))))))))))))×((List ((BA)×(Int)))×(X1)))):Prop:=RepS C1 m a0 c0 p.1/\RepS aB m a1 c1 p.2.1.1/\RepS C7 m a2 c2 p.2.1.2/\RepS C3 m a3 c3 p.2.2.1
abbrev _root_.Go.Dc.St.f1:=@Go.Dc.St.front1
abbrev _root_.Go.Dc.St.f10:=@Go.Dc.St.front10
abbrev _root_.Go.Dc.St.f11:=@Go.Dc.St.front11
abbrev _root_.Go.Dc.St.f2:=@Go.Dc.St.front2
abbrev _root_.Go.Dc.St.f3:=@Go.Dc.St.front3
abbrev _root_.Go.Dc.St.f4:=@Go.Dc.St.front4
abbrev _root_.Go.Dc.St.f5:=@Go.Dc.St.front5
abbrev _root_.Go.Dc.St.f6:=@Go.Dc.St.front6
abbrev _root_.Go.Dc.St.f7:=@Go.Dc.St.front7
abbrev _root_.Go.Dc.St.f8:=@Go.Dc.St.front8
abbrev _root_.Go.Dc.St.f9:=@Go.Dc.St.front9
abbrev _root_.Go.Dc.St.h:=@Go.Dc.St.head
abbrev _root_.Go.Dc.St.t:=@Go.Dc.St.tail
abbrev wr(x:Int):Int:=IntKind.wrap .i64 x
abbrev v2:Value:=vS none ([]:Tb) 0
abbrev v6:Value:= .slice none 0 0
abbrev v7:Value:=vS none ([]:Tr) 0
abbrev v8:Value:=vS none ([]:nT) 0
abbrev va:Value:=vS none ([]:qC) 0
abbrev vb:Value:=vS none ([]:Te) 0
abbrev vc:Value:=vS none ([]:lK) 0
abbrev vd:Value:=vS none ([]:mI) 0
abbrev ve:Value:=vS none ([]:OW) 0
abbrev vf:Value:=vS none ([]:lY) 0
abbrev sE(x:mQ):List Value:=Vg x
abbrev eK(x:qW):List Value:=Vp x
abbrev cB{α β γ δ:Type}(o:Nat)(a:Option Addr)(c:Nat)(M:Option Nat)(a':Option Addr)(c':Nat)(V:Option Nat)(x:List α×Bool×γ×List β×δ):Piece:=kB o #[vS a x.1 c,vB x.2.1,.map M,vS a' x.2.2.2.1 c',.map V] 68
abbrev iB{α β γ:Type}(b o:Nat)(a:Option Addr)(c:Nat)(R S:Option Nat)(p:α×List β×Int×γ)(x y:Int)(z:Bool):Piece:=kB b #[vP o 0,vS a p.2.1 c,.int .u64 p.2.2.1,.map R,vI x,vI y,vB z,.map S] 128
abbrev nK{α β γ δ:Type}(b o:Nat)(a:Option Addr)(c:Nat)(R S:Option Nat)(p:α×List β×Int×γ×Int×Int×Bool×δ):Piece:=iB b o a c R S p p.2.2.2.2.1 p.2.2.2.2.2.1 p.2.2.2.2.2.2.1
abbrev vK{α β γ δ ε φ:Type}(b:Nat)(a:Option Addr)(a1:Nat)(c1:Option Addr)(a2:Nat)(c2:Option Addr)(a3:Nat)(c3:Option Addr)(c:Nat)(p:List α×(List β×List γ)×List δ×Int×φ)(x y z:Int)(u:Bool)(a':Option Addr)(l:List ε)(c':Nat)(v e d:Int):Piece:=kB b #[vS a p.1 a1,vS c1 p.2.1.1 a2,vS c2 p.2.1.2 a3,vS c3 p.2.2.1 c,.int .u64 p.2.2.2.1,vI x,vI y,vI z,vB u,vS a' l c',vI v,vI e,vI d] 90
abbrev iW{α β γ δ ε φ:Type}(b:Nat)(a:Option Addr)(a1:Nat)(c1:Option Addr)(a2:Nat)(c2:Option Addr)(a3:Nat)(c3:Option Addr)(c:Nat)(p:List α×(List β×List γ)×List δ×Int×φ)(r:(Int×Int×Int)×Bool×List ε×Int)(a':Option Addr)(c':Nat)(e d:Int):Piece:=vK b a a1 c1 a2 c2 a3 c3 c p r.1.1 r.1.2.1 r.1.2.2 r.2.1 a' r.2.2.1 c' r.2.2.2 e d
abbrev mK{α β γ δ ε:Type}(p:(BA×List α×List β)×(Int×BA×List γ×List δ)×List ε)(a:Option Addr)(c:Nat)(a':Option Addr)(c':Nat)(a'':Option Addr)(c'':Nat)(b:Option Addr)(d:Nat)(b':Option Addr)(d':Nat):Array Value:=Vm p.1.1 a p.1.2.1 c a' p.1.2.2 c' p.2.1.1 p.2.1.2.1 a'' p.2.1.2.2.1 c'' b p.2.1.2.2.2 d b' p.2.2 d'
abbrev iS:Array Value:=V5 0 eB 0 0
abbrev dW:Array Value:=Vf eB eB 0 eB 0 0
end
section
open Go Go.Dc Go.Proofs.Tryz
set_option maxHeartbeats 4000000
set_option maxRecDepth 100000
variable {N bp0 c1 c2:Nat} {m:Mem} {O:List Piece} {w:World} {a1 a2:Option Addr}
def LK(N:Nat):Tc:=
 some ([(⟨#[97,46,115,114,99]⟩:BA),(⟨#[98,46,115,114,99]⟩:BA),(⟨#[100,47,99,46,115,114,99]⟩:BA),(⟨#[120,46,115,114,99]⟩:BA)])
theorem Cf{r}(g:St m (O) w)(hr:LK N=some r):Calls prog 35 #[] w λe w'=>∃a b m',bN m m' e (vS a r b) (kR a r b 9 1::O) w' (RepS aB m' a b r):=by
 obtain rfl:=sI hr;exact bH g func35 rfl ntmps35 λq=>oA (iF 1 9 4 aB [ba,bb,bc,bd] g λc f k d g h=>aW (pK (zA g)))
def SC(N:Nat)(p0:Int)(p1:Int):Td:=
 if(decide (p1<=1))then(some 0) else((wH p0 p1).bind λa=>(if(decide (a<0))then(some (wI (a+p1))) else(some a):Td).bind λa=>some a)
theorem Qr{p0:Int}{p1:Int}{r:Int}(g:St m (O) w)(hr:SC N p0 p1=some r):Calls prog 40 #[vI p0,vI p1] w λe w'=>∃m',iL m m' e (vI r) (O) w':=by
 refine bH g func40 rfl ntmps40 λq=>cG (bV hr ?_ ?_)<;>intro A hr
 .cases hr;exact eD (zA g)
 refine aQ (aR 2 ?_);have⟨f,h,hr⟩:=aM hr;refine bS (ZZ (d:=9) (t:=3) (t2:=3) (x:=(.tmp 7)) (y:=(.tmp 8)) kr rfl (ev (vI p0)) (ev (vI p1)) h (eI (bK (cE .normal hr (λa L' w'=>∃b,L'=[(0,vI a)]/\m.le b/\St b (O) w') ?_ ?_))))
 .rintro a hr _ c ⟨b,rfl,q,g⟩;obtain rfl:=sI hr;exact aV (eD (zA g))
 intro a hr c;refine aO hr ?_ ?_<;>intro A hr
 .exact cP 4 (xE (c hr (zA g)))
 exact iD (c hr (zA g))
def qX(N:Nat)(p0:Tf)(p1:Int):Option Tg:=
 (if(decide (p0.2<(List.length p0.1:Int)))then((bC p0.1 p0.2).bind λa=>some a) else(some (Int.tmod (wI (p0.2*7)) 11)):Td).bind λa=>(SC N a p1).bind λy1=>some ((p0.1,wI (p0.2+1)),y1)
theorem tU{p0:Tf}{p1:Int}{r:Tg}(g:St m (kB bp0 (V1 p0 a1 c1) 25::O) w)(a:RepS (aG .i64) m a1 c1 p0.1)(hr:qX N p0 p1=some r):Calls prog 12 #[vP bp0 0,vI p1] w λe w'=>∃f k m',bN m m' e (vI r.2) (kB bp0 (V1 r.1 f k) 25::O) w' (RepS (aG .i64) m' f k r.1.1):=by
 refine bH g func12 rfl ntmps12 λq=>oA (aS 3 g.h (eI (aJ (cM [(10,λw'=>Inv m w'/\Piece.holds m w' (kB bp0 (V1 p0 a1 c1) 25)/\True)] kr g λB _ g=> ?_))));have l:=m.le_refl;refine⟨aL (aF g l),aU 3 [0,1,2] (bZ 3 cH (aU 3 [4,5,6] (bZ 7 cH (aU 2 [8,9] (bO kr (aV (cE .normal hr (λc L' w'=>∃b,L'=[(0,vP bp0 0),(1,vI p1),(5,vI c)]/\m.le b/\St b (kB bp0 (V1 p0 a1 c1) 25::O) w'/\RepS (aG .i64) b a1 c1 p0.1) ?_ ?_)))))))⟩
 .rintro c hr _ o ⟨b,rfl,q,g,a⟩;refine oN 3 (bD g.h (aX 3 (lA #[vS a1 p0.1 c1,vI (wI (p0.2+1))] g λp g=>aI (bA 2 hr (Qr g) ?_))));rintro y1 hr _ s ⟨n,rfl,d,g⟩;exact iC (zH hr g)
 intro c hr d;refine aO hr ?_ ?_<;>intro A hr
 .refine cM [(11,λw'=>Inv m w'/\Piece.holds m w' (kB bp0 (V1 p0 a1 c1) 25)/\True)] kr g λD _ g=> ?_;have n:=m.le_refl;refine⟨aL (aF g n),aU 3 [0,1,2] (bZ 3 cH (aU 3 [4,5,6] (bZ 7 cH ?_)))⟩;have⟨s,p,hr⟩:=aM hr;refine nP (t:=22) (e:=3) (x:=(.tmp 25)) (y:=(.tmp 29)) 8 30 (aG .i64) kr rfl kr (.head _) (bU lR) (ev (vS a1 p0.1 c1)) (ev (vI p0.2)) kr a p ?_;rintro z u v rfl o;exact cN 9 o (aN 10 (bO kr (xE (d hr (zA g)))))
 exact iD (d hr (zA g))
def uF(N:Nat)(p0:Tf)(p1:Int)(p2:Int):Option (Tf×Bool):=
 (qX N p0 p2).bind λy1=>some (y1.1,decide (y1.2<p1))
theorem yT{p0:Tf}{p1:Int}{p2:Int}{r:Tf×Bool}(g:St m (kB bp0 (V1 p0 a1 c1) 25::O) w)(k:RepS (aG .i64) m a1 c1 p0.1)(hr:uF N p0 p1 p2=some r):Calls prog 36 #[vP bp0 0,vI p1,vI p2] w λe w'=>∃a b m',bN m m' e (vB r.2) (kB bp0 (V1 r.1 a b) 25::O) w' (RepS (aG .i64) m' a b r.1.1):=by
 refine bH g func36 rfl ntmps36 λq=>bK (bA 2 hr (tU (p0:=p0) g k) ?_);rintro y1 hr _ n ⟨c,d,h,rfl,f,g,l⟩;exact iC (zH hr g)
def yX(N:Nat):Tc:=
 some ([(⟨#[112]⟩:BA),(⟨#[113]⟩:BA),(⟨#[115]⟩:BA)])
theorem KI{r}(g:St m (O) w)(hr:yX N=some r):Calls prog 18 #[] w λe w'=>∃a b m',bN m m' e (vS a r b) (kR a r b 9 1::O) w' (RepS aB m' a b r):=by
 obtain rfl:=sI hr;exact bH g func18 rfl ntmps18 λq=>oA (iF 1 9 3 aB [be,(⟨#[113]⟩:BA),(⟨#[115]⟩:BA)] g λc f k d g h=>aW (pK (zA g)))
def oV(N:Nat)(p0:Tf)(p1:Tb):Ti:=
 if((List.length p1:Int)==0)then(some (p0,(⟨#[]⟩:BA))) else((qX N p0 (List.length p1:Int)).bind λy1=>(bC p1 y1.2).bind λa=>some (y1.1,a))
theorem qG{p0:Tf}{p1:Tb}{r:Th}(g:St m (kB bp0 (V1 p0 a1 c1) 25::O) w)(h:RepS (aG .i64) m a1 c1 p0.1)(p:RepS aB m a2 c2 p1)(hr:oV N p0 p1=some r):Calls prog 17 #[vP bp0 0,vS a2 p1 c2] w λe w'=>∃a b m',bN m m' e (vT r.2) (kB bp0 (V1 r.1 a b) 25::O) w' (RepS (aG .i64) m' a b r.1.1):=by
 refine bH g func17 rfl ntmps17 λq=>cG (bV hr ?_ ?_)<;>intro A hr
 .exact eD (zH hr g)
 refine aQ (bA 4 hr (tU (p0:=p0) g h) ?_);rintro y1 hr _ x ⟨k,l,o,rfl,d,g,s⟩;refine iP (p.o d) hr ?_;rintro c hr v n u rfl f;exact dU g f (iC (zH hr g))
def WC(N:Nat)(p0:Tb)(p1:BA)(s1:Int):Tj:=
 if(decide (s1<(List.length p0:Int)))then((bC p0 s1).bind λa=>if(a.toList==p1.toList)then(some (.inr (.inr (true)))) else(some (.inl (wI (s1+1))))) else(some (.inr (.inl ())))
def GS(N:Nat)(p0:Tb)(p1:BA):Tk:=
 (aC (WC N p0 p1) N 0).bind λa=>(match a with| .inl a=>some false| .inr (z)=>some z)
theorem Cq{p0:Tb}{p1:BA}{r:Bool}(g:St m (O) w)(k:RepS aB m a1 c1 p0)(hr:GS N p0 p1=some r):Calls prog 75 #[vS a1 p0 c1,vT p1] w λe w'=>∃m',iL m m' e (vB r) (O) w':=by
 refine bH g func75 rfl ntmps75 λq=>cG (bK (bJ ?_));have⟨c,hr,o⟩:=aM hr;refine eS (.exit 0) (λL' w'=>∃(p:Unit),∃h,(.inl p)=c/\L'=[]/\m.le h/\St h (O) w') ?_ ?_
 .rintro _ a ⟨p,h,rfl,rfl,q,g⟩;have hr:=o;exact eY (eD (zH hr g))
 intro d;refine eF (λf L' w'=>∃(s1:Int),∃a,aC (WC N p0 p1) f s1=some c/\L'=[(0,vS a1 p0 c1),(1,vT p1),(5,vI s1)]/\m.le a/\St a (O) w'/\RepS aB a a1 c1 p0) N ⟨0,m,hr,rfl,q,g,k⟩ ?_;rintro f _ y ⟨s1,a,hL,rfl,q,g,k⟩;obtain⟨f,v,rfl,hr,l,b⟩:=eH hL;refine aJ (bV hr ?_ ?_)<;>intro A hr
 .refine aQ (aJ (bJ (aR 2 (iP k hr ?_))));rintro s hr x t u rfl n;refine dU g n (cV hr ?_ ?_)<;>intro A hr
  .refine bK (aT (cF (bL ?_)));have ho:=b _ (sI hr);subst ho;have hr:=o;exact mH (zH hr g)
  refine lP (cP 3 ?_);exact dX (zL l hr g)
 refine eE ?_;exact dY (d _ _ (zL b hr g))
def LT(N:Nat):Tc:=
 some ([(⟨#[116]⟩:BA),(⟨#[117]⟩:BA),(⟨#[118]⟩:BA)])
theorem Ck{r}(g:St m (O) w)(hr:LT N=some r):Calls prog 19 #[] w λe w'=>∃a b m',bN m m' e (vS a r b) (kR a r b 9 1::O) w' (RepS aB m' a b r):=by
 obtain rfl:=sI hr;exact bH g func19 rfl ntmps19 λq=>oA (iF 1 9 3 aB [bf,(⟨#[117]⟩:BA),(⟨#[118]⟩:BA)] g λc f k d g h=>aW (pK (zA g)))
def AU(N:Nat):Tc:=
 some ([(⟨#[97,46,100,97,116]⟩:BA),(⟨#[100,47,98,46,100,97,116]⟩:BA),(⟨#[99]⟩:BA),(⟨#[97,46,115,114,99]⟩:BA),(⟨#[120,46,115,114,99]⟩:BA)])
theorem RO{r}(g:St m (O) w)(hr:AU N=some r):Calls prog 78 #[] w λe w'=>∃a b m',bN m m' e (vS a r b) (kR a r b 9 1::O) w' (RepS aB m' a b r):=by
 obtain rfl:=sI hr;exact bH g func78 rfl ntmps78 λq=>oA (iF 1 9 5 aB [bg,bh,bi,ba,bd] g λc f k d g h=>aW (pK (zA g)))
def RE(N:Nat):Tc:=
 some ([(⟨#[110]⟩:BA),(⟨#[109]⟩:BA)])
theorem Oz{r}(g:St m (O) w)(hr:RE N=some r):Calls prog 113 #[] w λe w'=>∃a b m',bN m m' e (vS a r b) (kR a r b 9 1::O) w' (RepS aB m' a b r):=by
 obtain rfl:=sI hr;exact bH g func113 rfl ntmps113 λq=>oA (iF 1 9 2 aB [bj,bk] g λc f k d g h=>aW (pK (zA g)))
def xR(N:Nat)(p0:Tf)(p1:Te):Option Tg:=
 if((List.length p1:Int)==0)then(some (p0,0)) else((qX N p0 (List.length p1:Int)).bind λy1=>(bC p1 y1.2).bind λa=>some (y1.1,a))
theorem KG{p0:Tf}{p1:Te}{r:Tg}(g:St m (kB bp0 (V1 p0 a1 c1) 25::O) w)(h:RepS (aG .i64) m a1 c1 p0.1)(p:RepS (aG .i64) m a2 c2 p1)(hr:xR N p0 p1=some r):Calls prog 44 #[vP bp0 0,vS a2 p1 c2] w λe w'=>∃a b m',bN m m' e (vI r.2) (kB bp0 (V1 r.1 a b) 25::O) w' (RepS (aG .i64) m' a b r.1.1):=by
 refine bH g func44 rfl ntmps44 λq=>cG (bV hr ?_ ?_)<;>intro A hr
 .exact eD (zH hr g)
 refine aQ (bA 4 hr (tU (p0:=p0) g h) ?_);rintro y1 hr _ x ⟨k,l,o,rfl,d,g,s⟩;refine iP (p.o d) hr ?_;rintro c hr v n u rfl f;exact dU g f (iC (zH hr g))
def RK(N:Nat)(R3:(Int)->Tl)(p0:Int):Tl:=
 if(decide (p0<10))then((pJ (⟨#[48,49,50,51,52,53,54,55,56,57]⟩:BA) p0 (wI (p0+1))).bind λs1=>some s1) else((R3 (wI (Int.tdiv p0 10))).bind λy1=>(R3 (Int.tmod p0 10)).bind λa=>(eO y1 a).bind λs2=>some s2)
def LD(N:Nat):Nat->((Int)->Tl)
 |0=>(λ_=>none)
 |D+1=>RK N (LD N D)
def wS(N:Nat)(p0:Int):Tl:=(LD N N) p0
abbrev Pv(F:(Int)->Tl):Prop:=∀{m O w} {p0:Int} {r:BA} (g:St m (O) w) (hr:F p0=some r),Calls prog 42 #[vI p0] w λe w'=>∃m',iL m m' e (vT r) (O) w'
theorem Pn{R3}(a:Pv R3){p0:Int}{r:BA}(g:St m (O) w)(hr:RK N R3 p0=some r):Calls prog 42 #[vI p0] w λe w'=>∃m',iL m m' e (vT r) (O) w':=by
 refine bH g func42 rfl ntmps42 λq=>cG (bV hr ?_ ?_)<;>intro A hr
 .refine aR 3 ?_;have⟨s1,b,hr⟩:=aM hr;obtain rfl:=sI hr;exact bS (sL (d:=8) (t:=9) (x:=(.const (vT bl))) (lo:=(some (.tmp 5))) (hi:=(some (.tmp 7))) kr rfl (ev (vT bl)) kr (.inr ⟨_,_,rfl,(ev (vI p0))⟩) (.inr ⟨_,_,rfl,(ev (vI (wI (p0+1))))⟩) b (iC (zA g)))
 refine aQ (bA 2 hr (a g) ?_);rintro y1 hr _ k ⟨h,rfl,b,g⟩;refine iH 2 hr (a g) ?_;rintro n hr _ l ⟨f,rfl,c,g⟩;refine mU hr λs2 hr=>aW ?_;obtain rfl:=sI hr;exact pK (zA g)
theorem Cd(N:Nat):∀D:Nat,(∀{m:Mem} {O:List Piece} {w:World} {p0:Int} {r:BA} (g:St m (O) w) (hr:(LD N D) p0=some r),Calls prog 42 #[vI p0] w λe w'=>∃m',iL m m' e (vT r) (O) w')
 |0=>λ_ hr=>(by cases hr)
 |D+1=>λg hr=>Pn (N:=N) (Cd N D) g hr
theorem RG{p0:Int}{r:BA}(g:St m (O) w)(hr:wS N p0=some r):Calls prog 42 #[vI p0] w λe w'=>∃m',iL m m' e (vT r) (O) w':=
 (Cd N N) g hr
def KU(N:Nat):Tc:=
 some ([(⟨#[102]⟩:BA),(⟨#[103]⟩:BA),(⟨#[104]⟩:BA),(⟨#[107]⟩:BA)])
theorem Cc{r}(g:St m (O) w)(hr:KU N=some r):Calls prog 79 #[] w λe w'=>∃a b m',bN m m' e (vS a r b) (kR a r b 9 1::O) w' (RepS aB m' a b r):=by
 obtain rfl:=sI hr;exact bH g func79 rfl ntmps79 λq=>oA (iF 1 9 4 aB [(⟨#[102]⟩:BA),(⟨#[103]⟩:BA),(⟨#[104]⟩:BA),(⟨#[107]⟩:BA)] g λc f k d g h=>aW (pK (zA g)))
def RQ(N:Nat)(R4:Tf->(Int)->Tb->Ti)(p1:Int)(p2:Tb)(a:Tm):Option (Tm⊕Tn):=
 if(decide (a.2.1>0))then((R4 a.2.2 (wI (p1-1)) p2).bind λb=>(eO (⟨#[44,32]⟩:BA) b.2).bind λc=>(eO a.1 c).bind λc=>some (.inl (c,wI (a.2.1-1),b.1.1,b.1.2))) else(some (.inr (a.1,a.2.2.1,a.2.2.2)))
def GH(N:Nat)(R4:Tf->(Int)->Tb->Ti)(p0:Tf)(p1:Int)(p2:Tb):Ti:=
 (if(decide (p1<=0))then(some (true,p0.1,p0.2)) else((uF N p0 1 4).bind λy1=>some (y1.2,y1.1.1,y1.1.2)):Option (Bool×Tf)).bind λd=>if d.1 then((qX N d.2 9).bind λa=>((if(a.2==0)then(some (a.2==0)) else(some (a.2==1)):Tk).bind λb=>if b then(if(decide ((List.length p2:Int)>0))then((oV N a.1 p2).bind λb=>some (.inr (b.1,b.2))) else(some (.inl a.1))) else(if(a.2==2)then((AU N).bind λb=>(oV N a.1 b).bind λy5=>(eO (⟨#[115,105,122,101,40,34]⟩:BA) y5.2).bind λs1=>(eO s1 (⟨#[34,41]⟩:BA)).bind λs2=>some (.inr (y5.1,s2))) else(if(a.2==3)then((AU N).bind λb=>(oV N a.1 b).bind λb=>(eO (⟨#[104,97,115,40,34]⟩:BA) b.2).bind λc=>(eO c (⟨#[34,41]⟩:BA)).bind λc=>some (.inr (b.1,c))) else(if(a.2==4)then((RE N).bind λb=>(oV N a.1 b).bind λb=>(eO (⟨#[101,110,118,40,34]⟩:BA) b.2).bind λc=>(eO c (⟨#[34,41]⟩:BA)).bind λc=>some (.inr (b.1,c))) else(if(a.2==5)then((uF N a.1 1 5).bind λb=>if b.2 then((xR N b.1 ([(0:Int),1,63])).bind λc=>(wS N c.2).bind λe=>(eO (⟨#[102,108,105,112,40]⟩:BA) e).bind λe=>(eO e (⟨#[41]⟩:BA)).bind λe=>some (.inr (c.1,e))) else(some (.inl b.1))) else(some (.inl a.1)))))):Option (Tf⊕Th)).bind λa=>(match a with| .inl o2=>(xR N o2 ([(0:Int),1,2,3,10,255,9007199254740992,1073741824])).bind λa=>(wS N a.2).bind λb=>some (a.1,b)| .inr z=>some z)) else((qX N d.2 10).bind λa=>(if(a.2==0)then(some (a.2==0)) else(if(a.2==1)then(some (a.2==1)) else(some (a.2==2))):Tk).bind λo4=>if o4 then((KU N).bind λb=>(oV N a.1 b).bind λb=>(eO b.2 (⟨#[40]⟩:BA)).bind λc=>(R4 b.1 (wI (p1-1)) p2).bind λb=>(eO c b.2).bind λc=>(xR N b.1 ([(0:Int),0,0,1])).bind λb=>(aC (RQ N R4 p1 p2) N (c,b.2,b.1.1,b.1.2)).bind λb=>(eO b.1 (⟨#[41]⟩:BA)).bind λc=>some (b.2,c)) else(if(a.2==3)then((R4 a.1 (wI (p1-1)) p2).bind λb=>(eO (⟨#[105,102,32]⟩:BA) b.2).bind λc=>(eO c (⟨#[32,116,104,101,110,32]⟩:BA)).bind λc=>(R4 b.1 (wI (p1-1)) p2).bind λb=>(eO c b.2).bind λc=>(eO c (⟨#[32,101,108,115,101,32,40]⟩:BA)).bind λc=>(R4 b.1 (wI (p1-1)) p2).bind λb=>(eO c b.2).bind λc=>(eO c (⟨#[41]⟩:BA)).bind λc=>some (b.1,c)) else(if(a.2==4)then((AU N).bind λb=>(oV N a.1 b).bind λb=>(eO (⟨#[114,101,97,100,40,34]⟩:BA) b.2).bind λc=>(eO c (⟨#[34,44,32]⟩:BA)).bind λc=>(R4 b.1 (wI (p1-1)) p2).bind λb=>(eO c b.2).bind λc=>(eO c (⟨#[41]⟩:BA)).bind λc=>some (b.1,c)) else(if(a.2==5)then((R4 a.1 (wI (p1-1)) p2).bind λb=>(eO (⟨#[40]⟩:BA) b.2).bind λc=>(eO c (⟨#[41]⟩:BA)).bind λc=>some (b.1,c)) else((R4 a.1 (wI (p1-1)) p2).bind λa=>(eO (⟨#[40]⟩:BA) a.2).bind λb=>(eO b (⟨#[41,32]⟩:BA)).bind λb=>(oV N a.1 ([(⟨#[43]⟩:BA),(⟨#[45]⟩:BA),(⟨#[42]⟩:BA),(⟨#[47]⟩:BA),(⟨#[37]⟩:BA),(⟨#[60]⟩:BA),(⟨#[61,61]⟩:BA)])).bind λa=>(eO b a.2).bind λb=>(eO b (⟨#[32,40]⟩:BA)).bind λb=>(R4 a.1 (wI (p1-1)) p2).bind λa=>(eO b a.2).bind λb=>(eO b (⟨#[41]⟩:BA)).bind λb=>some (a.1,b))))))
def LR(N:Nat):Nat->(Tf->(Int)->Tb->Ti)
 |0=>(λ_ _ _=>none)
 |D+1=>GH N (LR N D)
def CX(N:Nat)(p0:Tf)(p1:Int)(p2:Tb):Ti:=(LR N N) p0 p1 p2
abbrev Qt(F:Tf->(Int)->Tb->Ti):Prop:=∀{m O w} {p0:Tf} {p1:Int} {p2:Tb} {a b d c f} {r:Th} (g:St m (kB a (V1 p0 b d) 25::O) w) (h:RepS (aG .i64) m b d p0.1) (b:RepS aB m c f p2) (hr:F p0 p1 p2=some r),Calls prog 77 #[vP a 0,vI p1,vS c p2 f] w λe w'=>∃b c m',bN m m' e (vT r.2) (kB a (V1 r.1 b c) 25::O) w' (RepS (aG .i64) m' b c r.1.1)
theorem Pw{R4}(a:Qt R4){p0:Tf}{p1:Int}{p2:Tb}{r:Th}(g:St m (kB bp0 (V1 p0 a1 c1) 25::O) w)(r1:RepS (aG .i64) m a1 c1 p0.1)(f:RepS aB m a2 c2 p2)(hr:GH N R4 p0 p1 p2=some r):Calls prog 77 #[vP bp0 0,vI p1,vS a2 p2 c2] w λe w'=>∃d4 d5 m',bN m m' e (vT r.2) (kB bp0 (V1 r.1 d4 d5) 25::O) w' (RepS (aG .i64) m' d4 d5 r.1.1):=by
 refine bH g func77 rfl ntmps77 λq=>aD (bS (sO 3 23 0 (vP bp0 0) g λc w1 g=>bS (sO 4 3 1 (vI p1) g λl w2 g=>bS (sO 5 61 2 (vS a2 p2 c2) g λk w3 g=>eI (aD (iY 6 hr (λD L' w'=>∃a3 c3 Y,L'=[(3,vP c 0),(4,vP l 0),(5,vP k 0),(15,vB D.1)]/\m.le Y/\St Y (kB k #[vS a2 p2 c2] 61::kB l #[vI p1] 3::kB c #[vP bp0 0] 23::kB bp0 (V1 D.2 a3 c3) 25::O) w'/\RepS aB Y a2 c2 p2/\RepS (aG .i64) Y a3 c3 D.2.1) ?_ ?_))))))
 .rintro D hr _ w4 ⟨a3,c3,Y,rfl,q,g,f,r3⟩;refine aI (aO hr ?_ ?_)<;>intro A hr
  .refine aJ (aD (bD g.t.t.h (bW hr (tU (p0:=D.2) g.f3 r3) ?_)));rintro n hr _ w6 ⟨z,B,m6,rfl,E,g,p⟩;refine aI ?_;have⟨d1,hr,s⟩:=aM hr;refine eS .normal (λL' w'=>∃(o2:Tf),∃M R x,(.inl o2:Tf⊕Th)=d1/\L'=[(3,vP c 0)]/\m.le x/\St x (kB bp0 (V1 o2 M R) 25::kB k #[vS a2 p2 c2] 61::kB l #[vI p1] 3::kB c #[vP bp0 0] 23::O) w'/\RepS (aG .i64) x M R o2.1/\RepS aB x a2 c2 p2) ?_ ?_
   .rintro _ w7 ⟨o2,M,R,x,rfl,rfl,q,g,U,f⟩;have hr:=s;refine aV (aD (bD g.t.t.t.h (iF 59 3 8 (aG .i64) [(0:Int),1,2,3,10,255,9007199254740992,1073741824] g λb5 V b0 b g H=>bW hr (KG (p0:=o2) g.f1 (U.o b) H) ?_)));rintro c0 hr _ b8 ⟨v,y,Z,rfl,F,g,S⟩;refine bW hr (RG g) ?_;rintro u hr _ b9 ⟨G,rfl,o,g⟩;refine eJ 1 ?_;have g:=g.f1.t;exact nX (zH hr g.f1.t.f1.t.f1.t)
   intro u;refine bJ (aJ (bK (cE .normal hr (λS L' w'=>∃b,L'=[(3,vP c 0),(5,vP k 0),(17,vI n.2),(18,vB S)]/\m.le b/\St b (kB bp0 (V1 n.1 z B) 25::kB k #[vS a2 p2 c2] 61::kB l #[vI p1] 3::kB c #[vP bp0 0] 23::O) w'/\RepS (aG .i64) b z B n.1.1/\RepS aB b a2 c2 p2) ?_ ?_)))
   .rintro S hr _ w8 ⟨b,rfl,q,g,p,f⟩;refine aV (aO hr ?_ ?_)<;>intro A hr
    .refine aD (bD g.t.h (cV hr ?_ ?_))<;>intro A hr
     .refine aD (bD g.t.t.t.h (bD g.t.h (bW hr (qG (p0:=n.1) g p f) ?_)));rintro o hr _ U ⟨v,y,G,rfl,F,g,H⟩;refine aW (aT (cF ?_));cases hr;have hr:=s;exact mH (zH hr g.f1.t.f1.t.f1.t)
     refine lB (iU ?_);have y:=jE hr;exact xE (u _ _ (zA g.f3.f3.f3.f3))
    refine bV hr ?_ ?_<;>intro A hr
    .refine aJ (cM [(6,λw'=>Inv b w'/\Piece.holds b w' (kB c #[vP bp0 0] 23)/\True)] kr g λb8 _ g=> ?_);have o:=b.le_refl;refine⟨aL (aF g o),bZ 0 cH (aK 1 kr (cY hr (λ_ h=>RO g h) ?_))⟩;rintro y4 hr _ b9 ⟨a8,c8,b0,rfl,v,g,V⟩;refine⟨_,rfl,?_⟩;have o:=o.t v;refine⟨aL (aF g o),aK 2 kr (cY hr (λ_ h=>qG (p0:=n.1) g.f1 (p.o v) V h) ?_)⟩;rintro y5 hr _ c0 ⟨H,U,G,rfl,F,g,Z⟩;refine⟨_,rfl,?_⟩;have o:=o.t F;refine⟨aL (aF g o),nU 9 9 ((.const (vT (⟨#[115,105,122,101,40,34]⟩:BA)))) 31 3 32 hr λs1 hr=>nU 9 9 32 ((.const (vT bm))) 4 33 hr λs2 hr=>aN 5 (bO kr ?_)⟩;have g:=g.f1.t;refine aV (aT (cF ?_));obtain rfl:=sI hr;have hr:=s;exact mH (zH hr g.f1.t.f1.t.f1.t)
    refine bV hr ?_ ?_<;>intro A hr
    .refine aJ (cM [(6,λw'=>Inv b w'/\Piece.holds b w' (kB c #[vP bp0 0] 23)/\True)] kr g λc0 _ g=> ?_);have o:=b.le_refl;refine⟨aL (aF g o),bZ 0 cH (aK 1 kr (cY hr (λ_ h=>RO g h) ?_))⟩;rintro y6 hr _ d2 ⟨b0,b8,b9,rfl,F,g,V⟩;refine⟨_,rfl,?_⟩;have o:=o.t F;refine⟨aL (aF g o),aK 2 kr (cY hr (λ_ h=>qG (p0:=n.1) g.f1 (p.o F) V h) ?_)⟩;rintro y7 hr _ d3 ⟨G,H,U,rfl,v,g,Z⟩;refine⟨_,rfl,?_⟩;have o:=o.t v;refine⟨aL (aF g o),nU 9 9 ((.const (vT (⟨#[104,97,115,40,34]⟩:BA)))) 38 3 39 hr λs3 hr=>nU 9 9 39 ((.const (vT bm))) 4 40 hr λs4 hr=>aN 5 (bO kr ?_)⟩;have g:=g.f1.t;refine aV (aT (cF ?_));obtain rfl:=sI hr;have hr:=s;exact mH (zH hr g.f1.t.f1.t.f1.t)
    refine bV hr ?_ ?_<;>intro A hr
    .refine aJ (cM [(6,λw'=>Inv b w'/\Piece.holds b w' (kB c #[vP bp0 0] 23)/\True)] kr g λc0 _ g=> ?_);have o:=b.le_refl;refine⟨aL (aF g o),bZ 0 cH (aK 1 kr (cY hr (λ_ h=>Oz g h) ?_))⟩;rintro y8 hr _ d2 ⟨b0,b8,b9,rfl,v,g,V⟩;refine⟨_,rfl,?_⟩;have o:=o.t v;refine⟨aL (aF g o),aK 2 kr (cY hr (λ_ h=>qG (p0:=n.1) g.f1 (p.o v) V h) ?_)⟩;rintro y9 hr _ d3 ⟨G,H,U,rfl,F,g,Z⟩;refine⟨_,rfl,?_⟩;have o:=o.t F;refine⟨aL (aF g o),nU 9 9 ((.const (vT (⟨#[101,110,118,40,34]⟩:BA)))) 45 3 46 hr λs5 hr=>nU 9 9 46 ((.const (vT bm))) 4 47 hr λs6 hr=>aN 5 (bO kr ?_)⟩;have g:=g.f1.t;refine aV (aT (cF ?_));obtain rfl:=sI hr;have hr:=s;exact mH (zH hr g.f1.t.f1.t.f1.t)
    refine bV hr ?_ ?_<;>intro A hr
    .refine aD (bD g.t.t.t.h (bW hr (yT (p0:=n.1) g p) ?_));rintro H hr _ d8 ⟨U,Z,b9,rfl,o,g,G⟩;refine aI (aO hr ?_ ?_)<;>intro A hr
     .refine aD (bD g.t.t.t.h (iF 53 3 3 (aG .i64) [(0:Int),1,63] g λb4 d6 d9 v g d2=>bW hr (KG (p0:=H.1) g.f1 (G.o v) d2) ?_));rintro e2 hr _ e0 ⟨V,b0,d7,rfl,b8,g,d3⟩;refine bW hr (RG g) ?_;rintro e3 hr _ e1 ⟨c0,rfl,F,g⟩;refine mU hr λs7 hr=>mU hr λs8 hr=>eJ 1 ?_;have g:=g.f1.t;refine aV (aT (cF ?_));obtain rfl:=sI hr;have hr:=s;obtain rfl:=sI hr;exact mH (zE g.f1.t.f1.t.f1.t ((((q.t o).t v).t b8).t F))
     refine lB (iU ?_);have y:=jE hr;exact xE (u _ _ (zA g.f3.f3.f3.f3))
    refine lB (iU ?_);have y:=jE hr;exact xE (u _ _ (zA g.f3.f3.f3.f3))
   intro S hr o;refine aO hr ?_ ?_<;>intro A hr
   .exact iD (o hr (zA g.f3.f3.f3.f3))
   exact cP 2 (xE (o hr (zA g.f3.f3.f3.f3)))
  refine aQ (cG (aD (bD g.t.t.h (bW hr (tU (p0:=D.2) g.f3 r3) ?_))));rintro n hr _ h3 ⟨b8,b9,V,rfl,c0,g,s⟩;have q:=q.t c0;have f:=f.o c0;refine aI (bJ (aJ (bK (cE .normal hr (λo4 L' w'=>∃o,L'=[(3,vP c 0),(7,.func (.func 114) #[] #[vP c 0,vP l 0,vP k 0]),(64,vI n.2),(65,vB o4)]/\m.le o/\St o (kB bp0 (V1 n.1 b8 b9) 25::kB k #[vS a2 p2 c2] 61::kB l #[vI p1] 3::kB c #[vP bp0 0] 23::O) w'/\RepS (aG .i64) o b8 b9 n.1.1/\RepS aB o a2 c2 p2) ?_ ?_))))
  .rintro o4 hr _ h4 ⟨o,rfl,q,g,s,f⟩;refine aV (aO hr ?_ ?_)<;>intro A hr
   .refine aJ (cM [(8,λw'=>Inv o w'/\Piece.holds o w' (kB c #[vP bp0 0] 23)/\True)] kr g λh5 _ g=> ?_);have p:=o.le_refl;refine⟨aL (aF g p),bZ 0 cH (aN 4 (aK 1 kr (cY hr (λ_ h=>Cc g h) ?_)))⟩;rintro k4 hr _ h6 ⟨g1,g4,g7,rfl,F,g,f4⟩;refine⟨_,rfl,?_⟩;have p:=p.t F;refine⟨aL (aF g p),aK 2 kr (cY hr (λ_ h=>qG (p0:=n.1) g.f1 (s.o F) f4 h) ?_)⟩;rintro g0 hr _ h7 ⟨g2,g5,g8,rfl,R,g,f5⟩;refine⟨_,rfl,?_⟩;have f:=(f.o F).o R;have p:=p.t R;refine⟨aL (aF g p),nU 9 9 71 ((.const (vT (⟨#[40]⟩:BA)))) 3 72 hr λs9 hr=>aK 5 kr (pP 74 114 #[vP c 0,vP l 0,vP k 0] kr rfl (pU func114 rfl ntmps114 (oA (bD g.t.t.t.t.h (bD g.t.t.t.h (aS 1 g.t.t.h (bW hr (a (p0:=g0.1) g f5 f) ?_)))))))⟩;rintro Z hr _ h8 ⟨g3,g6,g9,rfl,S,g,f6⟩;have p:=p.t S;refine aW (aT (lJ [3] [vT Z.2] ⟨_,rfl,⟨aL (aF g p),nU 9 9 72 74 6 75 hr λd6 hr=>aN 7 (bO kr ?_)⟩⟩));have g:=g.f1.t;refine lG (aD (bD g.t.t.t.h (iF 77 3 4 (aG .i64) [(0:Int),0,0,1] g λb6 h0 h9 U g f7=>bW hr (KG (p0:=Z.1) g.f1 (f6.o U) f7) ?_)));rintro G hr _ k0 ⟨e0,e2,f0,rfl,d1,g,f8⟩;refine eJ 1 ?_;have g:=g.f1.t
    refine aV (bJ (cE (.exit 2) hr (λx L' w'=>∃(M:Tn),∃y B u,M=x/\L'=[(8,vT M.1)]/\m.le u/\St u (kB bp0 (V1 M.2 y B) 25::kB k #[vS a2 p2 c2] 61::kB l #[vI p1] 3::kB c #[vP bp0 0] 23::O) w'/\RepS (aG .i64) u y B M.2.1/\RepS aB u a2 c2 p2) ?_ ?_))
    .rintro x hr _ z ⟨M,y,B,u,rfl,rfl,q,g,v,f⟩;refine eY (aR 1 (mU hr λb hr=>aW ?_));exact pK (zH hr g.f1.t.f1.t.f1.t)
    intro x hr b0;refine eF (λk1 L' w'=>∃(b:Tm),∃z E v,aC (RQ N R4 p1 p2) k1 b=some x/\L'=[(7,.func (.func 114) #[] #[vP c 0,vP l 0,vP k 0]),(8,vT b.1),(9,vI b.2.1)]/\m.le v/\St v (kB bp0 (V1 b.d z E) 25::kB k #[vS a2 p2 c2] 61::kB l #[vI p1] 3::kB c #[vP bp0 0] 23::O) w'/\RepS (aG .i64) v z E b.d.1/\RepS aB v a2 c2 p2) N ⟨(d6,G.2,G.1.1,G.1.2),e0,e2,f0,hr,rfl,((((q.t F).t R).t S).t U).t d1,g.f3.f3.f3.f3,f8,((f.o S).o U).o d1⟩ ?_;rintro k1 _ k2 ⟨b,z,E,v,hL,rfl,q,g,d3,f⟩;obtain⟨k1,h1,rfl,hr,d9,d8⟩:=eH hL;refine aJ (bV hr ?_ ?_)<;>intro A hr
    .refine aQ (aJ (bJ (eQ 2 (bS (pP 85 114 #[vP c 0,vP l 0,vP k 0] kr rfl (pU func114 rfl ntmps114 (oA (bD g.t.t.t.h (bD g.t.t.h (aS 1 g.t.h (bW hr (a (p0:=b.d) g d3 f) ?_)))))))))));rintro H hr _ k3 ⟨e1,e3,f2,rfl,d2,g,f9⟩;refine aW (aT (lJ [3] [vT H.2] ⟨_,rfl,mU hr λh2 hr=>mU hr λd7 hr=>eJ 1 (sW (cP 3 ?_))⟩));exact dX (zL d9 hr g.f3.f3.f3.f3)
    refine eE ?_;exact dY (b0 rfl (zL d8 hr g.f3.f3.f3.f3))
   refine bV hr ?_ ?_<;>intro A hr
   .refine aR 1 (bS (pP 93 114 #[vP c 0,vP l 0,vP k 0] kr rfl (pU func114 rfl ntmps114 (oA (bD g.t.t.t.h (bD g.t.t.h (aS 1 g.t.h (bW hr (a (p0:=n.1) g s f) ?_))))))));rintro b hr _ d9 ⟨R,U,b0,rfl,u,g,G⟩;have f:=f.o u;refine aW (aT (lJ [3] [vT b.2] ⟨_,rfl,mU hr λd2 hr=>mU hr λd3 hr=>aX 1 (bS (pP 97 114 #[vP c 0,vP l 0,vP k 0] kr rfl (pU func114 rfl ntmps114 (oA (bD g.t.t.t.h (bD g.t.t.h (aS 1 g.t.h (bW hr (a (p0:=b.1) g G f) ?_))))))))⟩));rintro p hr _ e0 ⟨S,Z,d1,rfl,v,g,H⟩;refine aW (aT (lJ [3] [vT p.2] ⟨_,rfl,mU hr λd6 hr=>mU hr λd7 hr=>aX 1 (bS (pP 101 114 #[vP c 0,vP l 0,vP k 0] kr rfl (pU func114 rfl ntmps114 (oA (bD g.t.t.t.h (bD g.t.t.h (aS 1 g.t.h (bW hr (a (p0:=p.1) g H (f.o v)) ?_))))))))⟩));rintro y hr _ e1 ⟨z,B,F,rfl,E,g,M⟩;refine aW (aT (lJ [3] [vT y.2] ⟨_,rfl,mU hr λd8 hr=>mU hr λx hr=>aW (aT (cF (bL ?_)))⟩));exact xC (zH hr g.f1.t.f1.t.f1.t)
   refine bV hr ?_ ?_<;>intro A hr
   .refine aJ (cM [(10,λw'=>Inv o w'/\Piece.holds o w' (kB c #[vP bp0 0] 23)/\True)] kr g λd7 _ g=> ?_);have b:=o.le_refl;refine⟨aL (aF g b),bZ 0 cH (aN 5 (aK 1 kr (cY hr (λ_ h=>RO g h) ?_)))⟩;rintro e1 hr _ d8 ⟨R,U,b0,rfl,p,g,F⟩;refine⟨_,rfl,?_⟩;have b:=b.t p;refine⟨aL (aF g b),aK 2 kr (cY hr (λ_ h=>qG (p0:=n.1) g.f1 (s.o p) F h) ?_)⟩;rintro M hr _ d9 ⟨S,Z,d1,rfl,u,g,G⟩;refine⟨_,rfl,?_⟩;have b:=b.t u;refine⟨aL (aF g b),nU 9 9 ((.const (vT (⟨#[114,101,97,100,40,34]⟩:BA)))) 108 3 109 hr λd2 hr=>nU 9 9 109 ((.const (vT (⟨#[34,44,32]⟩:BA)))) 4 110 hr λd3 hr=>aK 6 kr (pP 112 114 #[vP c 0,vP l 0,vP k 0] kr rfl (pU func114 rfl ntmps114 (oA (bD g.t.t.t.t.h (bD g.t.t.t.h (aS 1 g.t.t.h (bW hr (a (p0:=M.1) g G ((f.o p).o u)) ?_)))))))⟩;rintro y hr _ e0 ⟨z,B,E,rfl,v,g,H⟩;have b:=b.t v;refine aW (aT (lJ [3] [vT y.2] ⟨_,rfl,⟨aL (aF g b),nU 9 9 110 112 7 113 hr λd6 hr=>nU 9 9 113 ((.const (vT (⟨#[41]⟩:BA)))) 8 114 hr λx hr=>aN 9 (bO kr ?_)⟩⟩));have g:=g.f1.t;exact nX (zH hr g.f1.t.f1.t.f1.t)
   refine bV hr ?_ ?_<;>intro A hr
   .refine aR 1 (bS (pP 118 114 #[vP c 0,vP l 0,vP k 0] kr rfl (pU func114 rfl ntmps114 (oA (bD g.t.t.t.h (bD g.t.t.h (aS 1 g.t.h (bW hr (a (p0:=n.1) g s f) ?_))))))));rintro p hr _ E ⟨u,v,y,rfl,x,g,z⟩;refine aW (aT (lJ [3] [vT p.2] ⟨_,rfl,mU hr λB hr=>mU hr λb hr=>aW (aT (cF (bL ?_)))⟩));exact xC (zH hr g.f1.t.f1.t.f1.t)
   refine lP (aJ (cM [(14,λw'=>Inv o w'/\Piece.holds o w' (kB c #[vP bp0 0] 23)/\True)] kr g λf5 _ g=> ?_));have b:=o.le_refl;refine⟨aL (aF g b),aN 0 (bZ 4 cH (aN 9 (qZ [1,5] kr ae (rW ?_ ?_))))⟩
   .refine pP 122 114 #[vP c 0,vP l 0,vP k 0] kr rfl ?_;refine pU func114 rfl ntmps114 (oA (bD g.t.t.t.h (bD g.t.t.h (aS 1 g.t.h (bW hr (a (p0:=n.1) g s f) ?_)))));rintro x hr _ e3 ⟨Z,d1,d3,rfl,u,g,H⟩;have b:=b.t u;refine aW (aT (lJ [3] [vT x.2] ⟨_,rfl,⟨aL (aF g b),nU 9 9 ((.const (vT (⟨#[40]⟩:BA)))) 122 2 123 hr λd8 hr=>nU 9 9 123 ((.const (vT (⟨#[41,32]⟩:BA)))) 3 124 hr λd9 hr=>aK 5 kr (qH (d:=126) (t:=61) (e:=9) (len:=7) (parts:= #[(0,(.const (vT bn))),(1,(.const (vT bo))),(2,(.const (vT bp))),(3,(.const (vT bq))),(4,(.const (vT br))),(5,(.const (vT bs))),(6,(.const (vT bt)))]) aB (xs:=[bn,bo,bp,bq,br,bs,bt]) [vT bn,vT bo,vT bp,vT bq,vT br,vT bs,vT bt] kr rfl (λ_=>qI kr _) rfl rfl g ⟨[vT bn],_,rfl,rfl,⟨[vT bo],_,rfl,rfl,⟨[vT bp],_,rfl,rfl,⟨[vT bq],_,rfl,rfl,⟨[vT br],_,rfl,rfl,⟨[vT bs],_,rfl,rfl,⟨[vT bt],_,rfl,rfl,rfl⟩⟩⟩⟩⟩⟩⟩ λb7 d6 f0 p g M=> ?_)⟩⟩));have b:=b.t p;refine⟨aL (aF g b),aK 6 kr (cY hr (λ_ h=>qG (p0:=x.1) g.f1 (H.o p) M h) ?_)⟩;rintro U hr _ f2 ⟨b0,d2,d7,rfl,v,g,R⟩;refine⟨_,rfl,?_⟩;have b:=b.t v
    refine⟨aL (aF g b),nU 9 9 124 127 7 128 hr λe0 hr=>nU 9 9 128 ((.const (vT (⟨#[32,40]⟩:BA)))) 8 129 hr λe1 hr=>aK 10 kr (pP 131 114 #[vP c 0,vP l 0,vP k 0] kr rfl (pU func114 rfl ntmps114 (oA (bD g.t.t.t.t.h (bD g.t.t.t.h (aS 1 g.t.t.h (bW hr (a (p0:=U.1) g R (((f.o u).o p).o v)) ?_)))))))⟩;rintro B hr _ f4 ⟨E,F,G,rfl,y,g,S⟩;have b:=b.t y;refine aW (aT (lJ [3] [vT B.2] ⟨_,rfl,⟨aL (aF g b),nU 9 9 129 131 11 132 hr λe2 hr=>nU 9 9 132 ((.const (vT (⟨#[41]⟩:BA)))) 12 133 hr λz hr=>aN 13 (bO kr ?_)⟩⟩));have g:=g.f1.t;exact nX (zH hr g.f1.t.f1.t.f1.t)
   refine qH (d:=126) (t:=61) (e:=9) (len:=7) (parts:= #[(0,(.const (vT bn))),(1,(.const (vT bo))),(2,(.const (vT bp))),(3,(.const (vT bq))),(4,(.const (vT br))),(5,(.const (vT bs))),(6,(.const (vT bt)))]) aB (xs:=[bn,bo,bp,bq,br,bs,bt]) [vT bn,vT bo,vT bp,vT bq,vT br,vT bs,vT bt] kr rfl (λ_=>qI kr _) rfl rfl g ⟨[vT bn],_,rfl,rfl,⟨[vT bo],_,rfl,rfl,⟨[vT bp],_,rfl,rfl,⟨[vT bq],_,rfl,rfl,⟨[vT br],_,rfl,rfl,⟨[vT bs],_,rfl,rfl,⟨[vT bt],_,rfl,rfl,rfl⟩⟩⟩⟩⟩⟩⟩ λb7 d3 e3 u g H=> ?_;have f:=f.o u;have b:=b.t u;refine⟨aL (aF g b),aK 1 kr (pP 122 114 #[vP c 0,vP l 0,vP k 0] kr rfl (pU func114 rfl ntmps114 (oA (bD g.t.t.t.t.h (bD g.t.t.t.h (aS 1 g.t.t.h (bW hr (a (p0:=n.1) g.f1 (s.o u) f) ?_)))))))⟩;rintro x hr _ f0 ⟨Z,d1,d6,rfl,p,g,M⟩;have b:=b.t p;refine aW (aT (lJ [3] [vT x.2] ⟨_,rfl,⟨aL (aF g b),nU 9 9 ((.const (vT (⟨#[40]⟩:BA)))) 122 2 123 hr λd8 hr=>nU 9 9 123 ((.const (vT (⟨#[41,32]⟩:BA)))) 3 124 hr λd9 hr=>aK 6 kr (cY hr (λ_ h=>qG (p0:=x.1) g M (H.o p) h) ?_)⟩⟩));rintro U hr _ f2 ⟨b0,d2,d7,rfl,v,g,R⟩;refine⟨_,rfl,?_⟩;have b:=b.t v
   refine⟨aL (aF g b),nU 9 9 124 127 7 128 hr λe0 hr=>nU 9 9 128 ((.const (vT (⟨#[32,40]⟩:BA)))) 8 129 hr λe1 hr=>aK 10 kr (pP 131 114 #[vP c 0,vP l 0,vP k 0] kr rfl (pU func114 rfl ntmps114 (oA (bD g.t.t.t.t.h (bD g.t.t.t.h (aS 1 g.t.t.h (bW hr (a (p0:=U.1) g R ((f.o p).o v)) ?_)))))))⟩;rintro B hr _ f4 ⟨E,F,G,rfl,y,g,S⟩;have b:=b.t y;refine aW (aT (lJ [3] [vT B.2] ⟨_,rfl,⟨aL (aF g b),nU 9 9 129 131 11 132 hr λe2 hr=>nU 9 9 132 ((.const (vT (⟨#[41]⟩:BA)))) 12 133 hr λz hr=>aN 13 (bO kr ?_)⟩⟩));have g:=g.f1.t;exact nX (zH hr g.f1.t.f1.t.f1.t)
  intro o4 hr b;refine aO hr ?_ ?_<;>intro A hr
  .exact iD (b hr (zA g.f3.f3.f3.f3))
  refine bV hr ?_ ?_<;>intro A hr
  .exact iD (b hr (zA g.f3.f3.f3.f3))
  exact cP 2 (xE (b hr (zA g.f3.f3.f3.f3)))
 intro D hr K;refine bD g.t.h (cW 2 12 hr ?_ ?_)<;>intro A hr
 .exact bG 3 (K hr (zA g.f3.f3.f3.f3))
 refine bD g.t.t.h (bW hr (yT (p0:=p0) g.f3 r1) ?_);rintro y1 hr _ u ⟨n,o,p,rfl,b,g,s⟩;exact bG 1 (K hr ⟨n,o,p,rfl,q.t b,g.f3.f3.f3,f.o b,s⟩)
theorem Ci(N:Nat):∀D:Nat,(∀{m:Mem} {O:List Piece} {w:World} {p0:Tf} {p1:Int} {p2:Tb} {a:Nat} {d:Option Addr} {h:Nat} {f:Option Addr} {k:Nat} {r:Th} (g:St m (kB a (V1 p0 d h) 25::O) w) (l:RepS (aG .i64) m d h p0.1) (n:RepS aB m f k p2) (hr:(LR N D) p0 p1 p2=some r),Calls prog 77 #[vP a 0,vI p1,vS f p2 k] w λe w'=>∃b c m',bN m m' e (vT r.2) (kB a (V1 r.1 b c) 25::O) w' (RepS (aG .i64) m' b c r.1.1))
 |0=>λ_ _ _ hr=>(by cases hr)
 |D+1=>λg l n hr=>Pw (Ci N D) g l n hr
theorem WB{p0:Tf}{p1:Int}{p2:Tb}{r:Th}(g:St m (kB bp0 (V1 p0 a1 c1) 25::O) w)(c:RepS (aG .i64) m a1 c1 p0.1)(d:RepS aB m a2 c2 p2)(hr:CX N p0 p1 p2=some r):Calls prog 77 #[vP bp0 0,vI p1,vS a2 p2 c2] w λe w'=>∃a b m',bN m m' e (vT r.2) (kB bp0 (V1 r.1 a b) 25::O) w' (RepS (aG .i64) m' a b r.1.1):=
 (Ci N N) g c d hr
def GQ(N:Nat)(p0:Tf):Ti:=
 (qX N p0 8).bind λy1=>(if(y1.2==0)then(some (y1.2==0)) else(if(y1.2==1)then(some (y1.2==1)) else(some (y1.2==2))):Tk).bind λa=>if a then((LT N).bind λa=>(oV N y1.1 a).bind λa=>(eO (⟨#[116,101,115,116,32]⟩:BA) a.2).bind λs1=>(eO s1 (⟨#[32,61,32]⟩:BA)).bind λs2=>(CX N a.1 3 ([]:Tb)).bind λa=>(eO s2 a.2).bind λb=>(eO b (⟨#[59,10]⟩:BA)).bind λb=>some (a.1,b)) else(if(y1.2==3)then((AU N).bind λy5=>(oV N y1.1 y5).bind λa=>(eO (⟨#[103,101,110,32,34]⟩:BA) a.2).bind λb=>(eO b (⟨#[34,32,61,32]⟩:BA)).bind λb=>(CX N a.1 2 ([]:Tb)).bind λa=>(eO b a.2).bind λb=>(eO b (⟨#[59,10]⟩:BA)).bind λb=>some (a.1,b)) else((uF N y1.1 1 5).bind λa=>(if a.2 then((iK 16 ([(⟨#[97]⟩:BA)]) ([(⟨#[98]⟩:BA)])).bind λb=>some b) else(some ([(⟨#[97]⟩:BA)])):Tc).bind λo2=>(KU N).bind λb=>(oV N a.1 b).bind λb=>(eO (⟨#[102,117,110,99,32]⟩:BA) b.2).bind λa=>(eO a (⟨#[40,97]⟩:BA)).bind λa=>(if((List.length o2:Int)==2)then((eO a (⟨#[44,32,98]⟩:BA)).bind λc=>some c) else(some a):Tl).bind λa=>(eO a (⟨#[41,32,61,32]⟩:BA)).bind λc=>(CX N b.1 3 o2).bind λa=>(eO c a.2).bind λb=>(eO b (⟨#[59,10]⟩:BA)).bind λb=>some (a.1,b)))
theorem Cn{p0:Tf}{r:Th}(g:St m (kB bp0 (V1 p0 a1 c1) 25::O) w)(r1:RepS (aG .i64) m a1 c1 p0.1)(hr:GQ N p0=some r):Calls prog 43 #[vP bp0 0] w λe w'=>∃D E m',bN m m' e (vT r.2) (kB bp0 (V1 r.1 D E) 25::O) w' (RepS (aG .i64) m' D E r.1.1):=by
 refine bH g func43 rfl ntmps43 λq=>cG (bA 1 hr (tU (p0:=p0) g r1) ?_);rintro y1 hr _ w1 ⟨U,Z,K,rfl,e1,g,h⟩;have q:=q.t e1;refine aI (bJ (aJ (bK (cE .normal hr (λM L' w'=>∃u,L'=[(0,vP bp0 0),(6,vI y1.2),(7,vB M)]/\m.le u/\St u (kB bp0 (V1 y1.1 U Z) 25::O) w'/\RepS (aG .i64) u U Z y1.1.1) ?_ ?_))))
 .rintro M hr _ w2 ⟨u,rfl,q,g,h⟩;refine aV (aO hr ?_ ?_)<;>intro A hr
  .refine bA 1 hr (Ck g) ?_;rintro V hr _ H ⟨v,y,B,rfl,a,g,n⟩;refine bW hr (qG (p0:=y1.1) g.f1 (h.o a) n) ?_;rintro s hr _ R ⟨x,z,F,rfl,f,g,o⟩;refine mU hr λs1 hr=>mU hr λs2 hr=>iH 1 hr (WB (p0:=s.1) g o (RepS.nil _ _)) ?_;rintro Y hr _ S ⟨c,d,l,rfl,k,g,p⟩;refine mU hr λG hr=>mU hr λb hr=>eJ 1 ?_;have g:=g.f1.t;exact nX (zH hr g)
  refine bV hr ?_ ?_<;>intro A hr
  .refine bA 1 hr (RO g) ?_;rintro y5 hr _ S ⟨v,y,B,rfl,a,g,n⟩;refine bW hr (qG (p0:=y1.1) g.f1 (h.o a) n) ?_;rintro s hr _ V ⟨x,z,F,rfl,f,g,o⟩;refine mU hr λG hr=>mU hr λH hr=>iH 1 hr (WB (p0:=s.1) g o (RepS.nil _ _)) ?_;rintro y7 hr _ Y ⟨c,d,l,rfl,k,g,p⟩;refine mU hr λR hr=>mU hr λb hr=>eJ 1 ?_;have g:=g.f1.t;exact nX (zH hr g)
  refine lP (aD (iF 31 9 1 aB [(⟨#[97]⟩:BA)] g λG m9 w9 H g r9=>eI (bA 1 hr (yT (p0:=y1.1) g.f1 (h.o H)) ?_)));rintro R hr _ d2 ⟨V,c9,b3,rfl,s,g,l⟩;refine aI (cE .normal hr (λo2 L' w'=>∃a b d,L'=[(0,vP bp0 0),(3,vS a o2 b)]/\m.le d/\St d (kB bp0 (V1 R.1 V c9) 25::kR a o2 b 9 1::O) w'/\RepS aB d a b o2/\RepS (aG .i64) d V c9 R.1.1) ?_ ?_)
  .rintro o2 hr _ d3 ⟨a,b,d,rfl,q,g,n,l⟩;refine aV (bA 1 hr (Cc g) ?_);rintro y9 hr _ d4 ⟨b7,b8,b9,rfl,c,g,b5⟩;refine bW hr (qG (p0:=R.1) g.f1 (l.o c) b5) ?_;rintro p hr _ d5 ⟨y,z,B,rfl,k,g,o⟩;refine mU hr λs9 hr=>mU hr λF hr=>eJ 1 ?_;have g:=g.f1.t;refine lG (bK (cE .normal hr (λv L' w'=>∃f,L'=[(0,vP bp0 0),(3,vS a o2 b),(4,vT v)]/\m.le f/\St f (kB bp0 (V1 p.1 y z) 25::kR a o2 b 9 1::O) w'/\RepS aB f a b o2/\RepS (aG .i64) f y z p.1.1) ?_ ?_))
   .rintro v hr _ d6 ⟨f,rfl,q,g,n,o⟩;refine oN 1 (mU hr λc0 hr=>iH 2 hr (WB (p0:=p.1) g o n) ?_);rintro d8 hr _ d7 ⟨S,Y,b4,rfl,b0,g,b6⟩;refine mU hr λd1 hr=>mU hr λx hr=>eJ 1 ?_;have g:=g.f1.t;exact nX (zH hr g)
   intro v hr x;refine aO hr ?_ ?_<;>intro A hr
   .exact eQ 1 (mU hr λS hr=>eJ 1 (xE (x hr (zA g.f1.f1))))
   exact iD (x hr (zA g.f1.f1))
  intro o2 hr f;refine aO hr ?_ ?_<;>intro A hr
  .refine eQ 1 (iF 35 9 1 aB [(⟨#[98]⟩:BA)] g λS z B c g v=>oB 36 61 61 9 16 34 35 g.f2 (.inl kr) ((r9.o s).o c) v.src hr λy hr k n p F o g x=>eJ 1 ?_);have g:=g.f1.t;exact xE (f hr (zE g.f1 ((((q.t H).t s).t c).t o)))
  exact iD (f hr ⟨(aP G),1,b3,rfl,(q.t H).t s,g.f1.f1,r9.o s,l⟩)
 intro M hr a;refine aO hr ?_ ?_<;>intro A hr
 .exact iD (a hr (zA g))
 refine bV hr ?_ ?_<;>intro A hr
 .exact iD (a hr (zA g))
 exact cP 2 (xE (a hr (zA g)))
def VV(N:Nat)(p1:BA)(a:To):Option (To⊕Tn):=
 if(decide (a.2.2.1>0))then(((yX N).bind λb=>(oV N a.2.2.2 b).bind λb=>(if(!(b.2.toList==p1.toList))then((GS N a.2.1 b.2).bind λy5=>some (!y5)) else(some false):Tk).bind λo4=>if o4 then((iK 16 a.2.1 ([b.2])).bind λc=>(eO (⟨#[105,109,112,111,114,116,32]⟩:BA) b.2).bind λd=>(eO d (⟨#[59,10]⟩:BA)).bind λd=>(eO a.1 d).bind λd=>some (d,c,b.1.1,b.1.2)) else(some (a.1,a.2.1,b.1.1,b.1.2)):Option (Ta×Tb×Tf)).bind λb=>some (.inl (b.1,b.2.1,wI (a.2.2.1-1),b.2.2.1,b.2.2.2))) else(some (.inr (a.1,a.2.2.2.1,a.2.2.2.2)))
def RH(N:Nat)(b:Th)(a:Tp):Option (Tp⊕Ta):=
 if(decide (a.2<(ByteArray.size b.2:Int)))then(((lH b.2 a.2).bind λc=>if((c.toNat:Int)==40)then(some true) else((lH b.2 a.2).bind λc=>some ((c.toNat:Int)==61)):Tk).bind λc=>if c then((pJ b.2 0 a.2).bind λb=>some (.inr b)) else(some (.inl (a.1,wI (a.2+1))))) else(some (.inr a.1))
def VT(N:Nat)(a:To):Option (To⊕Tn):=
 if(decide (a.2.2.1>0))then(((GQ N a.2.2.2).bind λb=>(aC (RH N b) N (b.2,0)).bind λd=>((GS N a.2.1 d).bind λc=>if(!c)then(some (true,b.1.1,b.1.2)) else((uF N b.1 1 40).bind λc=>some (c.2,c.1.1,c.1.2)):Option (Bool×Tf)).bind λc=>if c.1 then((iK 16 a.2.1 ([d])).bind λd=>(eO a.1 b.2).bind λb=>some (b,d,c.2.1,c.2.2)) else(some (a.1,a.2.1,c.2.1,c.2.2)):Option (Ta×Tb×Tf)).bind λb=>some (.inl (b.1,b.2.1,wI (a.2.2.1-1),b.2.2.1,b.2.2.2))) else(some (.inr (a.1,a.2.2.2.1,a.2.2.2.2)))
def CS(N:Nat)(p0:Tf)(p1:BA):Ti:=
 (eO (⟨#[112,97,99,107,97,103,101,32]⟩:BA) p1).bind λs1=>(eO s1 (⟨#[59,10]⟩:BA)).bind λs2=>(uF N p0 1 8).bind λy1=>(if y1.2 then((eO (⟨#[35,32,97,32,99,111,109,109,101,110,116,10]⟩:BA) s2).bind λa=>some a) else(some s2):Tl).bind λb=>(qX N y1.1 3).bind λa=>(aC (VV N p1) N (b,([]:Tb),a.2,a.1.1,a.1.2)).bind λo2=>(qX N o2.2 5).bind λa=>(aC (VT N) N (o2.1,([]:Tb),wI (1+a.2),a.1.1,a.1.2)).bind λc=>(uF N c.2 1 30).bind λa=>(if a.2 then((oV N a.1 ([(⟨#[102,117,110,99]⟩:BA),(⟨#[125]⟩:BA),(⟨#[34]⟩:BA),(⟨#[116,101,115,116,32,116,32,61,32,49,59]⟩:BA),(⟨#[120]⟩:BA)])).bind λb=>(eO c.1 b.2).bind λd=>some (d,b.1.1,b.1.2)) else(some (c.1,a.1.1,a.1.2)):Option Tn).bind λa=>some (a.2,a.1)
theorem VQ{p0:Tf}{p1:BA}{r:Th}(g:St m (kB bp0 (V1 p0 a1 c1) 25::O) w)(r1:RepS (aG .i64) m a1 c1 p0.1)(hr:CS N p0 p1=some r):Calls prog 38 #[vP bp0 0,vT p1] w λe w'=>∃d3 d4 m',bN m m' e (vT r.2) (kB bp0 (V1 r.1 d3 d4) 25::O) w' (RepS (aG .i64) m' d3 d4 r.1.1):=by
 refine bH g func38 rfl ntmps38 λq=>bK (aR 1 (mU hr λs1 hr=>mU hr λs2 hr=>eI (bA 1 hr (yT (p0:=p0) g r1) ?_)));rintro y1 hr _ w1 ⟨a2,c2,m1,rfl,e1,g,r2⟩;refine aI (cE .normal hr (λo1 L' w'=>∃m2,L'=[(0,vP bp0 0),(1,vT p1),(5,vT o1)]/\m.le m2/\St m2 (kB bp0 (V1 y1.1 a2 c2) 25::O) w'/\RepS (aG .i64) m2 a2 c2 y1.1.1) ?_ ?_)
 .rintro o1 hr _ w2 ⟨m2,rfl,q,g,r2⟩;refine aV (cG (bA 1 hr (tU (p0:=y1.1) g r2) ?_));rintro y2 hr _ w3 ⟨a3,c3,m3,rfl,e2,g,r3⟩;refine mA (cE (.exit 0) hr (λB L' w'=>∃(o2:Tn),∃a4 c4 m4,o2=B/\L'=[(0,vP bp0 0),(5,vT o2.1)]/\m.le m4/\St m4 (kB bp0 (V1 o2.2 a4 c4) 25::O) w'/\RepS (aG .i64) m4 a4 c4 o2.2.1) ?_ ?_)
  .rintro B hr _ w4 ⟨o2,a4,c4,m4,rfl,rfl,q,g,r4⟩;refine eY (cG (bA 1 hr (tU (p0:=o2.2) g r4) ?_));rintro y6 hr _ f9 ⟨d7,d8,d9,rfl,e8,g,f3⟩;refine mA (cE (.exit 2) hr (λD L' w'=>∃(R:Tn),∃b4 b5 b0,R=D/\L'=[(0,vP bp0 0),(5,vT R.1)]/\m.le b0/\St b0 (kB bp0 (V1 R.2 b4 b5) 25::O) w'/\RepS (aG .i64) b0 b4 b5 R.2.1) ?_ ?_)
   .rintro D hr _ V ⟨R,b4,b5,b0,rfl,rfl,q,g,F⟩;refine eY (aJ (bA 1 hr (yT (p0:=R.2) g F) ?_));rintro S hr _ Y ⟨p,u,z,rfl,l,g,o⟩;refine aI (cE .normal hr (λa L' w'=>∃c h b,L'=[(5,vT a.1)]/\m.le b/\St b (kB bp0 (V1 a.2 c h) 25::O) w'/\RepS (aG .i64) b c h a.2.1) ?_ ?_)
    .rintro a hr _ n ⟨c,h,b,rfl,q,g,k⟩;exact aV (eD (zH hr g))
    intro a hr k;refine aO hr ?_ ?_<;>intro A hr
    .refine eQ 2 (iF 96 9 5 aB [bu,(⟨#[125]⟩:BA),bv,(⟨#[116,101,115,116,32,116,32,61,32,49,59]⟩:BA),(⟨#[120]⟩:BA)] g λb3 U Z n g G=>bW hr (qG (p0:=S.1) g.f1 (o.o n) G) ?_);rintro b7 hr _ b6 ⟨s,v,E,rfl,y,g,H⟩;refine mU hr λM hr=>eJ 1 ?_;exact xE (k hr (zA g.f1.t))
    exact iD (k hr (zA g))
   intro D hr b7;have g:=(g.nilroom 9 1).front1;refine eF (λk2 L' w'=>∃(a:To),∃b c U Y y,aC (VT N) k2 a=some D/\L'=[(0,vP bp0 0),(5,vT a.1),(9,vS b a.2.1 c),(10,vI a.d.1)]/\m.le y/\St y (kB bp0 (V1 a.e U Y) 25::kR b a.2.1 c 9 1::O) w'/\RepS aB y b c a.2.1/\RepS (aG .i64) y U Y a.e.1) N ⟨(o2.1,([]:Tb),wI (1+y6.2),y6.1.1,y6.1.2),none,0,d7,d8,d9,hr,rfl,q.t e8,g,(RepS.nil _ _),f3⟩ ?_;rintro k2 _ g0 ⟨a,b,c,U,Y,y,hL,rfl,q,g,h,d1⟩;obtain⟨k2,f8,rfl,hr,d6,d5⟩:=eH hL;refine aJ (bV hr ?_ ?_)<;>intro A hr
   .refine aQ (aJ (cE .normal hr (λp L' w'=>∃F G V Z z,L'=[(0,vP bp0 0),(5,vT p.1),(9,vS F p.2.1 G),(10,vI a.d.1)]/\m.le z/\St z (kB bp0 (V1 p.d V Z) 25::kR F p.2.1 G 9 1::O) w'/\RepS aB z F G p.2.1/\RepS (aG .i64) z V Z p.d.1) ?_ ?_))
    .rintro p hr _ n ⟨F,G,V,Z,z,rfl,q,g,k,l⟩;exact aV (cP 3 (dX (zL d6 hr g.f1.f1)))
    intro p hr b8;refine bJ (bA 1 hr (Cn (p0:=a.e) g d1) ?_);rintro k hr _ g1 ⟨s,u,e0,rfl,e9,g,l⟩;refine aW (cG (bK (bJ (cE (.exit 4) hr (λE L' w'=>∃(S:BA),∃M,S=E/\L'=[(0,vP bp0 0),(5,vT a.1),(9,vS b a.2.1 c),(10,vI a.d.1),(11,vT k.2),(12,vT S)]/\m.le M/\St M (kB bp0 (V1 k.1 s u) 25::kR b a.2.1 c 9 1::O) w'/\RepS aB M b c a.2.1/\RepS (aG .i64) M s u k.1.1) ?_ ?_))))
    .rintro E hr _ g2 ⟨S,M,rfl,rfl,q,g,h,l⟩;refine eY (aD (iY 8 hr (λo9 L' w'=>∃v H o,L'=[(0,vP bp0 0),(5,vT a.1),(9,vS b a.2.1 c),(10,vI a.d.1),(11,vT k.2),(12,vT S),(84,vB o9.1)]/\m.le o/\St o (kB bp0 (V1 o9.2 v H) 25::kR b a.2.1 c 9 1::O) w'/\RepS aB o b c a.2.1/\RepS (aG .i64) o v H o9.2.1) ?_ ?_))
     .rintro o9 hr _ g3 ⟨v,H,o,rfl,q,g,h,d2⟩;refine aI (aO hr ?_ ?_)<;>intro A hr
      .refine aR 2 (iF 87 9 1 aB [S] g λb2 f7 g4 n g f4=>oB 88 61 61 9 16 85 87 g.f2 (.inl kr) (h.o n) f4.src hr λl2 hr b6 b9 f0 g5 c0 g f5=>eJ 1 ?_);exact aV (eQ 2 (mU hr λf6 hr=>eJ 1 (oK (b8 hr (zA g.f1.t.f1)))))
      exact lB (oK (b8 hr (zA g.f1.f1)))
     intro o9 hr K;refine iH 2 hr (Cq g h) ?_;rintro y8 hr _ f5 ⟨d2,rfl,n,g⟩;refine cW 2 81 hr ?_ ?_<;>intro A hr
     .exact bG 3 (K hr (zA g.f1.f1))
     refine iH 1 hr (yT (p0:=k.1) g (l.o n)) ?_;rintro y9 hr _ f6 ⟨b9,c0,f0,rfl,b6,g,f4⟩;exact bG 1 (K hr (zA g.f1.f1))
    intro E hr H;refine eF (λk3 L' w'=>∃(n:Tp),∃o,aC (RH N k) k3 n=some E/\L'=[(0,vP bp0 0),(5,vT a.1),(9,vS b a.2.1 c),(10,vI a.d.1),(11,vT k.2),(12,vT n.1),(13,vI n.2)]/\m.le o/\St o (kB bp0 (V1 k.1 s u) 25::kR b a.2.1 c 9 1::O) w'/\RepS aB o b c a.2.1/\RepS (aG .i64) o s u k.1.1) N ⟨(k.2,0),e0,hr,rfl,q.t e9,g.f1.f1,h.o e9,l⟩ ?_;rintro k3 _ f4 ⟨n,o,hL,rfl,q,g,h,l⟩;obtain⟨k3,f0,rfl,hr,c0,b6⟩:=eH hL;refine aJ (bV hr ?_ ?_)<;>intro A hr
    .refine aQ (aJ (bJ (aD (iY 10 hr (λo8 L' w'=>∃v,L'=[(0,vP bp0 0),(5,vT a.1),(9,vS b a.2.1 c),(10,vI a.d.1),(11,vT k.2),(12,vT n.1),(13,vI n.2),(73,vB o8)]/\m.le v/\St v (kB bp0 (V1 k.1 s u) 25::kR b a.2.1 c 9 1::O) w'/\RepS aB v b c a.2.1/\RepS (aG .i64) v s u k.1.1) ?_ ?_))))
     .rintro o8 hr _ f5 ⟨v,rfl,q,g,h,l⟩;refine aI (aO hr ?_ ?_)<;>intro A hr
      .refine aR 2 ?_;have⟨b9,d2,hr⟩:=aM hr;exact bS (sL (d:=76) (t:=9) (x:=(.tmp 74)) (lo:=none) (hi:=(some (.tmp 75))) kr rfl (ev (vT k.2)) kr (.inl ⟨rfl,rfl⟩) (.inr ⟨_,_,rfl,(ev (vI n.2))⟩) d2 (aW (xZ (xU rfl (HD (dY (H rfl (zL b6 hr g.f1.f1))))))))
      refine lP (cP 3 ?_);exact dX (zL c0 hr g.f1.f1)
     intro o8 hr K;refine aX 2 (mP 66 hr λx1 hr=>cW 2 68 hr ?_ ?_)<;>intro A hr
     .exact bG 5 (K hr (zA g.f1.f1))
     exact aX 2 (mP 71 hr λx2 hr=>bG 2 (K hr (zA g.f1.f1)))
    refine eE ?_;exact dY (H rfl (zL b6 hr g.f1.f1))
   refine eE ?_;exact dY (b7 rfl (zL d5 hr g.f1.t))
  intro B hr D;have g:=(g.nilroom 9 1).front1;refine eF (λR L' w'=>∃(a:To),∃c h E G s,aC (VV N p1) R a=some B/\L'=[(0,vP bp0 0),(1,vT p1),(5,vT a.1),(6,vS c a.2.1 h),(7,vI a.d.1)]/\m.le s/\St s (kB bp0 (V1 a.e E G) 25::kR c a.2.1 h 9 1::O) w'/\RepS aB s c h a.2.1/\RepS (aG .i64) s E G a.e.1) N ⟨(o1,([]:Tb),y2.2,y2.1.1,y2.1.2),none,0,a3,c3,m3,hr,rfl,q.t e2,g,(RepS.nil _ _),r3⟩ ?_;rintro R _ w5 ⟨a,c,h,E,G,s,hL,rfl,q,g,n,r6⟩;obtain⟨R,b9,rfl,hr,b4,b0⟩:=eH hL;refine aJ (bV hr ?_ ?_)<;>intro A hr
  .refine aQ (aJ (cE .normal hr (λb L' w'=>∃y z F H u,L'=[(0,vP bp0 0),(1,vT p1),(5,vT b.1),(6,vS y b.2.1 z),(7,vI a.d.1)]/\m.le u/\St u (kB bp0 (V1 b.d F H) 25::kR y b.2.1 z 9 1::O) w'/\RepS aB u y z b.2.1/\RepS (aG .i64) u F H b.d.1) ?_ ?_))
   .rintro b hr _ o ⟨y,z,F,H,u,rfl,q,g,k,l⟩;exact aV (cP 3 (dX (zL b4 hr g.f1.f1)))
   intro b hr S;refine bJ (bA 1 hr (KI g) ?_);rintro y3 hr _ w7 ⟨a9,c9,m7,rfl,M,g,r9⟩;refine bW hr (qG (p0:=a.e) g.f1 (r6.o M) r9) ?_;rintro k hr _ w8 ⟨o,p,m8,rfl,Y,g,l⟩;have n:=(n.o M).o Y;refine eJ 1 ?_;have g:=g.f1.t;refine aV (aD (iY 9 hr (λo4 L' w'=>∃v,L'=[(0,vP bp0 0),(1,vT p1),(5,vT a.1),(6,vS c a.2.1 h),(7,vI a.d.1),(8,vT k.2),(38,vB o4)]/\m.le v/\St v (kB bp0 (V1 k.1 o p) 25::kR c a.2.1 h 9 1::O) w'/\RepS aB v c h a.2.1/\RepS (aG .i64) v o p k.1.1) ?_ ?_))
   .rintro o4 hr _ w9 ⟨v,rfl,q,g,n,l⟩;refine aI (aO hr ?_ ?_)<;>intro A hr
    .refine aR 2 (iF 41 9 1 aB [k.2] g λb1 b8 c0 Z g b6=>oB 42 61 61 9 16 39 41 g.f2 (.inl kr) (n.o Z) b6.src hr λl1 hr U V b5 d1 e7 g b7=>eJ 1 ?_);exact aV (eQ 2 (mU hr λs5 hr=>mU hr λs6 hr=>mU hr λs7 hr=>eJ 1 (oK (S hr (zA g.f1.t.f1)))))
    exact lB (oK (S hr (zA g.f1.f1)))
   intro o4 hr K;refine cW 4 33 hr ?_ ?_<;>intro A hr
   .refine iH 2 hr (Cq g n) ?_;rintro y5 hr _ Z ⟨V,rfl,U,g⟩;exact bG 2 (K hr (zA g.f1.f1))
   exact bG 5 (K hr (zA g.f1.f1))
  refine eE ?_;exact dY (D rfl (zL b0 hr g.f1.t))
 intro o1 hr a;refine aO hr ?_ ?_<;>intro A hr
 .exact eQ 1 (mU hr λb hr=>eJ 1 (xE (a hr (zA g))))
 exact iD (a hr (zA g))
def KY(N:Nat)(p0:Tr)(p1:Tq)(s1:Bool×Ts):Option (Bool×Ts⊕Tt):=
 if(decide (s1.2.1<(List.length p0:Int)))then(((bC p0 s1.2.1).bind λa=>(if(!s1.1)then(some (Op.bytesLess p1.1.toList a.1.toList||(p1.1.toList==a.1.toList))) else(some false):Tk).bind λb=>(if b then((iK 32 s1.2.2 ([p1])).bind λb=>some (true,b)) else(some (s1.1,s1.2.2)):Option Tt).bind λo4=>if(!(a.1.toList==p1.1.toList))then((iK 32 o4.2 ([a])).bind λa=>some (o4.1,a)) else(some o4):Option Tt).bind λo2=>some (.inl (o2.1,wI (s1.2.1+1),o2.2))) else(some (.inr (s1.1,s1.2.2)))
def uG(N:Nat)(p0:Tr)(p1:Tq):Tu:=
 (aC (KY N p0 p1) N (false,0,([]:Tr))).bind λa=>(if(!a.1)then((iK 32 a.2 ([p1])).bind λb=>some b) else(some a.2):Tu).bind λa=>some a
theorem yV{p0:Tr}{p1:Tq}{r}(g:St m (O) w)(c:RepS C1 m a1 c1 p0)(hr:uG N p0 p1=some r):Calls prog 37 #[.agg #[vS a1 p0 c1],.agg (V2 p1)] w λe w'=>∃R S m',bN m m' e (.agg #[vS R r S]) (kR R r S 95 2::O) w' (RepS C1 m' R S r):=by
 refine bH g func37 rfl ntmps37 λq=>aD (eC 2 28 (.agg #[vS a1 p0 c1]) g λb1 m1 w1 e1 g d3=>eC 3 95 (.agg (V2 p1)) g λf m2 w2 e2 g a=>bX 4 28 (.agg #[v6]) g λk w3 g=>aI (aD (bX 5 28 (.agg #[v6]) g λb w4 g=>aI (cG (iG 1 g (d3.o e2) (mA (cE (.exit 0) hr (λs L' w'=>∃(u:Tt),∃z D F,u=s/\L'=[(3,vP f 0),(4,vP k 0),(5,vP b 0),(6,vB u.1)]/\m.le F/\St F (kB b #[vS z u.2 D] 28::kB k #[v7] 28::kR z u.2 D 95 2::O) w'/\MRow F f 0 [vT p1.1,vT p1.2]/\RepS C1 F z D u.2) ?_ ?_)))))))
 .rintro s hr _ w5 ⟨u,z,D,F,rfl,rfl,q,g,a,M⟩;refine eY (aJ (bK (cE .normal hr (λp L' w'=>∃n o l,L'=[(4,vP k 0),(5,vP b 0)]/\m.le l/\St l (kB b #[vS n p o] 28::kB k #[v7] 28::kR n p o 95 2::O) w'/\RepS C1 l n o p) ?_ ?_)))
  .rintro p hr _ x ⟨n,o,l,rfl,q,g,v⟩;obtain rfl:=sI hr;exact aV (aD (bD g.h (aZ (.agg #[vS n p o]) g.f1 λy g=>aI (aT (lE g.h (zA g.t.t))))))
  intro p hr v;refine aO hr ?_ ?_<;>intro A hr
  .refine nO (aS 1 g.h (dU g a (iF 48 95 1 C1 [p1] g λb9 Y Z B g G=>oB 49 26 26 95 32 46 48 g.f3 (.inl kr) (M.o B) G.src hr λV hr x y E b0 U g H=>aX 1 (aZ (vS x V y) g.f2 λc0 g=>cX ?_))));exact xE (v hr (zA g.f2.t.f1.f2.f2))
  exact iD (v hr (zA g.f2.f2.f2))
 intro s hr U;have g:=(g.nilroom 95 2).front2.front2;refine eF (λZ L' w'=>∃(s1:Bool×Ts),∃n o p,aC (KY N p0 p1) Z s1=some s/\L'=[(3,vP f 0),(4,vP k 0),(5,vP b 0),(6,vB s1.1),(10,vS a1 p0 c1),(11,vI (p0.length:Int)),(12,vI s1.2.1)]/\m.le p/\St p (kB b #[vS n s1.d o] 28::kB k #[v7] 28::kR n s1.d o 95 2::O) w'/\MRow p f 0 [vT p1.1,vT p1.2]/\RepS C1 p a1 c1 p0/\RepS C1 p n o s1.d) N ⟨(false,0,([]:Tr)),none,0,m2,hr,rfl,(q.t e1).t e2,g,a,(c.o e1).o e2,(RepS.nil _ _)⟩ ?_;rintro Z _ w6 ⟨s1,n,o,p,hL,rfl,q,g,a,c,G⟩;obtain⟨Z,d7,rfl,hr,d2,d1⟩:=eH hL;refine cG (aO hr ?_ ?_)<;>intro A hr
 .refine aQ (aJ (cE .normal hr (λo2 L' w'=>∃H M v,L'=[(3,vP f 0),(4,vP k 0),(5,vP b 0),(6,vB o2.1),(10,vS a1 p0 c1),(11,vI (p0.length:Int)),(12,vI s1.2.1)]/\m.le v/\St v (kB b #[vS H o2.2 M] 28::kB k #[v7] 28::kR H o2.2 M 95 2::O) w'/\MRow v f 0 [vT p1.1,vT p1.2]/\RepS C1 v a1 c1 p0/\RepS C1 v H M o2.2) ?_ ?_))
  .rintro o2 hr _ x ⟨H,M,v,rfl,q,g,a,c,l⟩;exact aV (cP 2 (dX (zL d2 hr g.f2.f2.f2)))
  intro o2 hr b0;refine bJ (aD (iP c hr ?_));rintro l hr b5 f1 d5 ⟨_,_,rfl,rfl,rfl⟩ d4;refine dU g d4 (bX 8 95 (.agg (V3 eB eB)) g λV w8 g=>aZ (.agg (V2 l)) g λw9 g=>aI (aJ (aD (iY 9 hr (λo3 L' w'=>∃x,L'=[(3,vP f 0),(4,vP k 0),(5,vP b 0),(6,vB s1.1),(8,vP V 0),(10,vS a1 p0 c1),(11,vI (p0.length:Int)),(12,vI s1.2.1),(24,vB o3)]/\m.le x/\St x (kB V (V2 l) 95::kB b #[vS n s1.d o] 28::kB k #[v7] 28::kR n s1.d o 95 2::O) w'/\MRow x f 0 [vT p1.1,vT p1.2]/\RepS C1 x a1 c1 p0/\RepS C1 x n o s1.d) ?_ ?_))))
  .rintro o3 hr _ d8 ⟨x,rfl,q,g,a,c,G⟩;refine aI (cE .normal hr (λo4 L' w'=>∃B E y,L'=[(3,vP f 0),(4,vP k 0),(5,vP b 0),(6,vB o4.1),(8,vP V 0),(10,vS a1 p0 c1),(11,vI (p0.length:Int)),(12,vI s1.2.1)]/\m.le y/\St y (kB V (V2 l) 95::kB b #[vS B o4.2 E] 28::kB k #[v7] 28::kR B o4.2 E 95 2::O) w'/\MRow y f 0 [vT p1.1,vT p1.2]/\RepS C1 y a1 c1 p0/\RepS C1 y B E o4.2) ?_ ?_)
   .rintro o4 hr _ d9 ⟨B,E,y,rfl,q,g,a,c,r5⟩;refine aV (aD (aS 1 g.h (mB 1 g a (cV hr ?_ ?_))))<;>intro A hr
    .refine nO (aS 1 g.t.h (bD g.h (iF 39 95 1 C1 [l] g λb8 d6 e0 Y g r8=>oB 40 26 26 95 32 37 39 g.f4 (.inl kr) (r5.o Y) r8.src hr λl2 hr a7 c7 c0 e9 e6 g r9=>aX 1 (aZ (vS a7 l2 c7) g.f3 λf0 g=>cX ?_))));have g:=g.f2.t;exact oK (b0 hr ⟨a7,c7,c0,rfl,(q.t Y).t e6,g.f2.t.f1.f2.f2,(a.o Y).o e6,(c.o Y).o e6,r9⟩)
    exact lB (oK (b0 hr (zA g.t.f2.f2.f2)))
   intro o4 hr c0;refine aO hr ?_ ?_<;>intro A hr
   .refine aD (aS 1 g.t.h (dU g a (iF 28 95 1 C1 [p1] g λb7 m8 d6 Y g r6=>oB 29 26 26 95 32 26 28 g.f4 (.inl kr) (G.o Y) r6.src hr λl1 hr a6 c6 m9 d9 e4 g r7=>aX 1 (aZ (vS a6 l1 c6) g.f3 λe0 g=>cX ?_))));have g:=g.f2.t;exact aV (cP 1 (xE (c0 hr ⟨a6,c6,m9,rfl,(q.t Y).t e4,g.f1.f3.f2.f3,(a.o Y).o e4,(c.o Y).o e4,r7⟩)))
   exact iD (c0 hr (zA g.f3.f3.f3.f3))
  intro o3 hr K;refine cW 3 18 hr ?_ ?_<;>intro A hr
  .exact mB 1 g a (aS 1 g.h (bG 2 (K hr (zA g.f3.f3.f3.f3))))
  exact bG 6 (K hr (zA g.f3.f3.f3.f3))
 refine eE ?_;exact dY (U rfl (zL d1 hr g.f2.f2.f2))
def VK(N:Nat)(p1:Int)(p2:BA)(s1:Tv):Option (Tv⊕List UInt8×Tf):=
 if(decide (s1.2.1<p1))then((qX N s1.2.2 (ByteArray.size p2:Int)).bind λy1=>(lH p2 y1.2).bind λa=>(iK 1 s1.1 ([a])).bind λa=>some (.inl (a,wI (s1.2.1+1),y1.1.1,y1.1.2))) else(some (.inr (s1.1,s1.2.2.1,s1.2.2.2)))
def VO(N:Nat)(p0:Tf)(p1:Int)(p2:BA):Ti:=
 (aC (VK N p1 p2) N (([]:List UInt8),0,p0.1,p0.2)).bind λa=>some (a.2,sS a.1)
theorem Pb{p0:Tf}{p1:Int}{p2:BA}{r:Th}(g:St m (kB bp0 (V1 p0 a1 c1) 25::O) w)(r1:RepS (aG .i64) m a1 c1 p0.1)(hr:VO N p0 p1 p2=some r):Calls prog 76 #[vP bp0 0,vI p1,vT p2] w λe w'=>∃z B m',bN m m' e (vT r.2) (kB bp0 (V1 r.1 z B) 25::O) w' (RepS (aG .i64) m' z B r.1.1):=by
 refine bH g func76 rfl ntmps76 λq=>bK (cG (bK (bJ (cE (.exit 0) hr (λb L' w'=>∃(a:List UInt8×Tf),∃c h p u l,a=b/\L'=[(7,vS c a.1 h)]/\m.le l/\St l (kB bp0 (V1 a.2 p u) 25::kR c a.1 h 5 1::O) w'/\RepS cU8 l c h a.1/\RepS (aG .i64) l p u a.2.1) ?_ ?_))))
 .rintro b hr _ n ⟨a,c,h,p,u,l,rfl,rfl,q,g,f,k⟩;refine eY (aR 1 (bS (Sv (d:=24) (t1:=185) (t2:=9) (e:=5) (x:=(.tmp 23)) kr rfl (ev (vS c a.1 h)) kr kr g f (eJ 1 ?_))));have g:=g.f1.t;exact nX (zH hr g)
 intro b hr o;have g:=(g.nilroom 5 1).front1;refine eF (λy L' w'=>∃(s1:Tv),∃f k s v n,aC (VK N p1 p2) y s1=some b/\L'=[(0,vP bp0 0),(1,vI p1),(2,vT p2),(7,vS f s1.1 k),(8,vI s1.2.1)]/\m.le n/\St n (kB bp0 (V1 s1.2.2 s v) 25::kR f s1.1 k 5 1::O) w'/\RepS cU8 n f k s1.1/\RepS (aG .i64) n s v s1.2.2.1) N ⟨(([]:List UInt8),0,p0.1,p0.2),none,0,a1,c1,m,hr,rfl,q,g,(RepS.nil _ _),r1⟩ ?_;rintro y _ w2 ⟨s1,f,k,s,v,n,hL,rfl,q,g,U,V⟩;obtain⟨y,a8,rfl,hr,F,E⟩:=eH hL;refine aJ (bV hr ?_ ?_)<;>intro A hr
 .refine aQ (aJ (bJ (eQ 5 (bW hr (tU (p0:=s1.2.2) g V) ?_))));rintro y1 hr _ w3 ⟨Y,Z,m3,rfl,M,g,r6⟩;refine mP 20 hr λG hr=>bS (qH (d:=21) (t:=185) (e:=5) (len:=1) (parts:= #[(0,(.tmp 20))]) cU8 (xs:=[G]) [.int .u8 (G.toNat:Int)] kr rfl (λ_=>qI kr _) rfl rfl g ⟨[.int .u8 (G.toNat:Int)],_,rfl,rfl,rfl⟩ λb1 m4 w4 D g r7=>oB 22 185 185 5 1 14 21 g.f2 (.inl kr) ((U.o M).o D) r7.src hr λS hr H K m5 w5 R g r8=>eJ 1 ?_);have g:=g.f1.t;refine sW (cP 3 ?_);exact dX (zL F hr g.f1)
 refine eE ?_;exact dY (o rfl (zL E hr g.f1.f1))
def GP(N:Nat)(p0:Tf):Ti:=
 (qX N p0 4).bind λy1=>(VO N y1.1 y1.2 (⟨#[97,98,0,255,48]⟩:BA)).bind λa=>some (a.1,a.2)
theorem Co{p0:Tf}{r:Th}(g:St m (kB bp0 (V1 p0 a1 c1) 25::O) w)(n:RepS (aG .i64) m a1 c1 p0.1)(hr:GP N p0=some r):Calls prog 39 #[vP bp0 0] w λe w'=>∃a b m',bN m m' e (vT r.2) (kB bp0 (V1 r.1 a b) 25::O) w' (RepS (aG .i64) m' a b r.1.1):=by
 refine bH g func39 rfl ntmps39 λq=>bK (bA 2 hr (tU (p0:=p0) g n) ?_);rintro y1 hr _ x ⟨s,u,v,rfl,h,g,o⟩;refine bW hr (Pb (p0:=y1.1) g o) ?_;rintro c hr _ y ⟨d,f,l,rfl,k,g,p⟩;exact iC (zH hr g)
def QM(N:Nat)(y1:Tb)(s1:Tx):Option (Tx⊕Tw):=
 if(decide (s1.1<(List.length y1:Int)))then(((bC y1 s1.1).bind λc=>(uF N s1.2.2 3 4).bind λa=>if a.2 then((yX N).bind λb=>(oV N a.1 b).bind λb=>(CS N b.1 b.2).bind λy5=>(uG N s1.2.1 (c,y5.2)).bind λb=>some (b,y5.1.1,y5.1.2)) else(some (s1.2.1,a.1.1,a.1.2)):Option Tw).bind λo2=>some (.inl (wI (s1.1+1),o2.1,o2.2.1,o2.2.2))) else(some (.inr s1.2))
def VM(N:Nat)(s2:Tx):Option (Tx⊕Tw):=
 if(decide (s2.1<(List.length ([(⟨#[97,46,100,97,116]⟩:BA),(⟨#[100,47,98,46,100,97,116]⟩:BA),(⟨#[99]⟩:BA)]):Int)))then(((bC ([(⟨#[97,46,100,97,116]⟩:BA),(⟨#[100,47,98,46,100,97,116]⟩:BA),(⟨#[99]⟩:BA)]) s2.1).bind λc=>(uF N s2.2.2 1 3).bind λa=>if a.2 then((GP N a.1).bind λb=>(uG N s2.2.1 (c,b.2)).bind λc=>some (c,b.1.1,b.1.2)) else(some (s2.2.1,a.1.1,a.1.2)):Option Tw).bind λo4=>some (.inl (wI (s2.1+1),o4.1,o4.2.1,o4.2.2))) else(some (.inr s2.2))
def RM(N:Nat)(p0:Tf):Option Ty:=
 (LK N).bind λy1=>(aC (QM N y1) N (0,([]:Tr),p0.1,p0.2)).bind λa=>(aC (VM N) N (0,a.1,a.2.1,a.2.2)).bind λa=>some (a.2,a.1)
theorem Pj{p0:Tf}{r:Ty}(g:St m (kB bp0 (V1 p0 a1 c1) 25::O) w)(r1:RepS (aG .i64) m a1 c1 p0.1)(hr:RM N p0=some r):Calls prog 11 #[vP bp0 0] w λe w'=>∃d4 d5 b6 b7 m',bN m m' e (.agg #[vS b6 r.2 b7]) (kR b6 r.2 b7 95 2::kB bp0 (V1 r.1 d4 d5) 25::O) w' (RepS (aG .i64) m' d4 d5 r.1.1/\RepS C1 m' b6 b7 r.2):=by
 refine bH g func11 rfl ntmps11 λq=>aD (bX 2 28 (.agg #[v6]) g λk w1 g=>aI (aD (bX 3 28 (.agg #[v6]) g λb w2 g=>aI (aJ (aD (bW hr (Cf g) ?_))))));rintro y1 hr _ w3 ⟨F,H,m1,rfl,e1,g,K⟩;refine mA (cE (.exit 0) hr (λy L' w'=>∃(u:Tw),∃a3 c3 a4 c4 m2,u=y/\L'=[(0,vP bp0 0),(2,vP k 0),(3,vP b 0)]/\m.le m2/\St m2 (kB b #[vS a3 u.1 c3] 28::kB k #[v7] 28::kB bp0 (V1 u.2 a4 c4) 25::kR F y1 H 9 1::kR a3 u.1 c3 95 2::O) w'/\RepS C1 m2 a3 c3 u.1/\RepS (aG .i64) m2 a4 c4 u.2.1) ?_ ?_)
 .rintro y hr _ w4 ⟨u,a3,c3,a4,c4,m2,rfl,rfl,q,g,r3,r4⟩;refine eY (aJ (aD (iF 26 9 3 aB [bg,bh,bi] g λG f7 g4 e7 g s=>eJ 2 ?_)));have g:=g.f4.t;refine aV (bJ (cE (.exit 2) hr (λz L' w'=>∃(x:Tw),∃l n M U v,x=z/\L'=[(2,vP k 0),(3,vP b 0)]/\m.le v/\St v (kB b #[vS l x.1 n] 28::kB k #[v7] 28::kB bp0 (V1 x.2 M U) 25:: .room (aP G) (List.length ([bg,bh,bi])) 3 9 1::kR l x.1 n 95 2::O) w'/\RepS C1 v l n x.1/\RepS (aG .i64) v M U x.2.1) ?_ ?_))
  .rintro z hr _ f ⟨x,l,n,M,U,v,rfl,rfl,q,g,a,c⟩;refine eY (aD (bD g.h (aZ (.agg #[vS l x.1 n]) g.f1 λo g=>cX ?_)));have g:=g.f3.t;exact aV (aT (lE g.h (zH hr g.t.t.f1)))
  intro z hr b8;refine eF (λk2 L' w'=>∃(s2:Tx),∃c f R V o,aC (VM N) k2 s2=some z/\L'=[(0,vP bp0 0),(2,vP k 0),(3,vP b 0),(26,.slice (aP G) (List.length ([bg,bh,bi])) 3),(27,vI (List.length ([bg,bh,bi]):Int)),(28,vI s2.1)]/\m.le o/\St o (kB b #[vS c s2.2.1 f] 28::kB k #[v7] 28::kB bp0 (V1 s2.d R V) 25:: .room (aP G) (List.length ([bg,bh,bi])) 3 9 1::kR c s2.2.1 f 95 2::O) w'/\RepS aB o (aP G) 3 ([bg,bh,bi])/\RepS C1 o c f s2.2.1/\RepS (aG .i64) o R V s2.d.1) N ⟨(0,u.1,u.2.1,u.d),a3,c3,a4,c4,f7,hr,rfl,q.t e7,g.f4.f1.f4.f4.f4,s,r3.o e7,r4.o e7⟩ ?_;rintro k2 _ g5 ⟨s2,c,f,R,V,o,hL,rfl,q,g,s,b0,d2⟩;obtain⟨k2,g3,rfl,hr,d7,d6⟩:=eH hL;refine cG (aO hr ?_ ?_)<;>intro A hr
  .refine aQ (aJ (cE .normal hr (λo4 L' w'=>∃B D S Y p,L'=[(0,vP bp0 0),(2,vP k 0),(3,vP b 0),(26,.slice (aP G) (List.length ([bg,bh,bi])) 3),(27,vI (List.length ([bg,bh,bi]):Int)),(28,vI s2.1)]/\m.le p/\St p (kB b #[vS B o4.1 D] 28::kB k #[v7] 28::kB bp0 (V1 o4.2 S Y) 25:: .room (aP G) (List.length ([bg,bh,bi])) 3 9 1::kR B o4.1 D 95 2::O) w'/\RepS aB p (aP G) 3 ([bg,bh,bi])/\RepS C1 p B D o4.1/\RepS (aG .i64) p S Y o4.2.1) ?_ ?_))
   .rintro o4 hr _ Z ⟨B,D,S,Y,p,rfl,q,g,s,a,E⟩;exact aV (cP 2 (dX (zL d7 hr g.f4.f4.f4.f4.f4)))
   intro o4 hr b9;refine bJ (aD (iP s hr ?_));rintro x2 hr b5 f2 g1 rfl f6;refine dU g f6 (aW (bA 1 hr (yT (p0:=s2.d) g.f2 d2) ?_));rintro y7 hr _ g6 ⟨d8,e0,E,rfl,e8,g,d3⟩;refine aI (aO hr ?_ ?_)<;>intro A hr
   .refine cM [(7,λw'=>Inv E w'/\True),(6,λw'=>Inv E w'/\Piece.holds E w' (kB b #[vS c s2.2.1 f] 28)/\True)] kr g λg7 _ g=> ?_;have a:=E.le_refl;refine⟨lI (aF g a) (aF g a),rF 28 3 0 34 0 (.agg #[vS c s2.2.1 f]) (.tail _ (.head _)) cH (aU 2 [1,2] (aK 3 kr (cY hr (λ_ h=>Co (p0:=y7.1) g d3 h) ?_)))⟩;rintro y8 hr _ g8 ⟨d9,f0,g2,rfl,e9,g,f9⟩;refine⟨_,rfl,?_⟩;have a:=a.t e9;refine⟨lI (aF g a) (aF g a),aN 4 (aK 5 kr (cY hr (λ_ h=>yV (p1:=(x2,y8.2)) g ((b0.o e8).o e9) h) ?_))⟩;rintro y9 hr _ g9 ⟨c0,d1,f8,rfl,Z,g,g0⟩;refine⟨_,rfl,?_⟩;have a:=a.t Z;refine⟨lI (aF g a) (aF g a),aK 6 kr (iV 28 3 39 (.agg #[vS c0 y9 d1]) g.f2 λh0 g=>⟨rJ (aF g a),bO kr ?_⟩)⟩;have g:=g.f5.t;exact oK (b9 hr ⟨c0,d1,d9,f0,f8,rfl,((q.t e8).t e9).t Z,g.f1.f4.f3.f4.f4,((s.o e8).o e9).o Z,g0,f9.o Z⟩)
   exact lB (oK (b9 hr (zA g.f4.f4.f2.f4.f4)))
  refine eE ?_;exact dY (b8 rfl (zL d6 hr g.f4.f4.f4.f4.f4))
 intro y hr B;have g:=(g.nilroom 95 2).front1.front4.front4.front4;refine eF (λV L' w'=>∃(s1:Tx),∃c f D G l,aC (QM N y1) V s1=some y/\L'=[(0,vP bp0 0),(2,vP k 0),(3,vP b 0),(8,vS F y1 H),(9,vI (y1.length:Int)),(10,vI s1.1)]/\m.le l/\St l (kB b #[vS c s1.2.1 f] 28::kB k #[v7] 28::kB bp0 (V1 s1.d D G) 25::kR F y1 H 9 1::kR c s1.2.1 f 95 2::O) w'/\RepS aB l F H y1/\RepS C1 l c f s1.2.1/\RepS (aG .i64) l D G s1.d.1) N ⟨(0,([]:Tr),p0.1,p0.2),none,0,a1,c1,m1,hr,rfl,q.t e1,g,K,(RepS.nil _ _),r1.o e1⟩ ?_;rintro V _ w5 ⟨s1,c,f,D,G,l,hL,rfl,q,g,K,r5,r6⟩;obtain⟨V,f8,rfl,hr,b9,b8⟩:=eH hL;refine cG (aO hr ?_ ?_)<;>intro A hr
 .refine aQ (aJ (cE .normal hr (λo2 L' w'=>∃p s E M n,L'=[(0,vP bp0 0),(2,vP k 0),(3,vP b 0),(8,vS F y1 H),(9,vI (y1.length:Int)),(10,vI s1.1)]/\m.le n/\St n (kB b #[vS p o2.1 s] 28::kB k #[v7] 28::kB bp0 (V1 o2.2 E M) 25::kR F y1 H 9 1::kR p o2.1 s 95 2::O) w'/\RepS aB n F H y1/\RepS C1 n p s o2.1/\RepS (aG .i64) n E M o2.2.1) ?_ ?_))
  .rintro o2 hr _ v ⟨p,s,E,M,n,rfl,q,g,K,a,o⟩;exact aV (cP 2 (dX (zL b9 hr g.f4.f4.f4.f4.f4)))
  intro o2 hr Y;refine bJ (aD (iP K hr ?_));rintro z hr b3 f1 f7 rfl d2;refine dU g d2 (aW (bA 1 hr (yT (p0:=s1.d) g.f2 r6) ?_));rintro y2 hr _ w7 ⟨a9,c9,x,rfl,o,g,r9⟩;refine aI (aO hr ?_ ?_)<;>intro A hr
  .refine cM [(10,λw'=>Inv x w'/\True),(9,λw'=>Inv x w'/\Piece.holds x w' (kB b #[vS c s1.2.1 f] 28)/\True)] kr g λw8 _ g=> ?_;have a:=x.le_refl;refine⟨lI (aF g a) (aF g a),rF 28 3 0 16 0 (.agg #[vS c s1.2.1 f]) (.tail _ (.head _)) cH (aU 3 [1,2,3] (aK 4 kr (cY hr (λ_ h=>KI g h) ?_)))⟩;rintro y3 hr _ w9 ⟨d9,f0,m6,rfl,v,g,d3⟩;refine⟨_,rfl,?_⟩;have a:=a.t v;refine⟨lI (aF g a) (aF g a),aK 5 kr (cY hr (λ_ h=>qG (p0:=y2.1) g.f1 (r9.o v) d3 h) ?_)⟩;rintro y4 hr _ f9 ⟨e0,f6,m7,rfl,R,g,d6⟩;refine⟨_,rfl,?_⟩;have a:=a.t R;refine⟨lI (aF g a) (aF g a),aK 6 kr (cY hr (λ_ h=>VQ (p0:=y4.1) g d6 h) ?_)⟩;rintro y5 hr _ g0 ⟨c0,d1,m8,rfl,S,g,d7⟩;refine⟨_,rfl,?_⟩;have a:=a.t S;refine⟨lI (aF g a) (aF g a),aN 7 (aK 8 kr (cY hr (λ_ h=>yV (p1:=(z,y5.2)) g ((((r5.o o).o v).o R).o S) h) ?_))⟩;rintro y6 hr _ g1 ⟨Z,b0,m9,rfl,U,g,d8⟩;refine⟨_,rfl,?_⟩;have a:=a.t U;refine⟨lI (aF g a) (aF g a),aK 9 kr (iV 28 3 24 (.agg #[vS Z y6 b0]) g.f3 λg2 g=>⟨rJ (aF g a),bO kr ?_⟩)⟩;have g:=g.f3.t.f5.t;exact oK (Y hr ⟨Z,b0,c0,d1,m9,rfl,((((q.t o).t v).t R).t S).t U,g.f1.f4.f3.f4.f4,((((K.o o).o v).o R).o S).o U,d8,d7.o U⟩)
  exact lB (oK (Y hr (zA g.f4.f4.f2.f4.f4)))
 refine eE ?_;exact dY (B rfl (zL b8 hr g.f4.f4.f4.f4.f4))
def KS(N:Nat)(p0:Tr)(p1:BA)(s1:Ts):Option (Ts⊕Tr):=
 if(decide (s1.1<(List.length p0:Int)))then(((bC p0 s1.1).bind λa=>if(!(a.1.toList==p1.toList))then((iK 32 s1.2 ([a])).bind λa=>some a) else(some s1.2):Tu).bind λo2=>some (.inl (wI (s1.1+1),o2))) else(some (.inr s1.2))
def LQ(N:Nat)(p0:Tr)(p1:BA):Tu:=
 (aC (KS N p0 p1) N (0,([]:Tr))).bind λa=>some a
theorem Cj{p0:Tr}{p1:BA}{r}(g:St m (O) w)(o:RepS C1 m a1 c1 p0)(hr:LQ N p0 p1=some r):Calls prog 41 #[.agg #[vS a1 p0 c1],vT p1] w λe w'=>∃z B m',bN m m' e (.agg #[vS z r B]) (kR z r B 95 2::O) w' (RepS C1 m' z B r):=by
 refine bH g func41 rfl ntmps41 λq=>aD (eC 2 28 (.agg #[vS a1 p0 c1]) g λb1 m1 w1 U g Y=>bX 4 28 (.agg #[v6]) g λp w2 g=>aI (aD (bX 5 28 (.agg #[v6]) g λd w3 g=>aI (aJ (iG 1 g Y (mA (cE (.exit 0) hr (λa L' w'=>∃(n:Tr),∃b f y,n=a/\L'=[(4,vP p 0),(5,vP d 0)]/\m.le y/\St y (kB d #[vS b n f] 28::kB p #[v7] 28::kR b n f 95 2::O) w'/\RepS C1 y b f n) ?_ ?_)))))))
 .rintro a hr _ l ⟨n,b,f,y,rfl,rfl,q,g,c⟩;obtain rfl:=sI hr;exact eY (aD (bD g.h (aZ (.agg #[vS b n f]) g.f1 λk g=>aI (aT (lE g.h (zA g.t.t))))))
 intro a hr D;have g:=(g.nilroom 95 2).front2.front2;refine eF (λE L' w'=>∃(s1:Ts),∃c k l,aC (KS N p0 p1) E s1=some a/\L'=[(1,vT p1),(4,vP p 0),(5,vP d 0),(9,vS a1 p0 c1),(10,vI (p0.length:Int)),(11,vI s1.1)]/\m.le l/\St l (kB d #[vS c s1.2 k] 28::kB p #[v7] 28::kR c s1.2 k 95 2::O) w'/\RepS C1 l a1 c1 p0/\RepS C1 l c k s1.2) N ⟨(0,([]:Tr)),none,0,m1,hr,rfl,q.t U,g,o.o U,(RepS.nil _ _)⟩ ?_;rintro E _ w5 ⟨s1,c,k,l,hL,rfl,q,g,o,M⟩;obtain⟨E,a7,rfl,hr,K,H⟩:=eH hL;refine cG (aO hr ?_ ?_)<;>intro A hr
 .refine aQ (aJ (cE .normal hr (λo2 L' w'=>∃v x s,L'=[(1,vT p1),(4,vP p 0),(5,vP d 0),(9,vS a1 p0 c1),(10,vI (p0.length:Int)),(11,vI s1.1)]/\m.le s/\St s (kB d #[vS v o2 x] 28::kB p #[v7] 28::kR v o2 x 95 2::O) w'/\RepS C1 s a1 c1 p0/\RepS C1 s v x o2) ?_ ?_))
  .rintro o2 hr _ F ⟨v,x,s,rfl,q,g,o,u⟩;exact aV (cP 2 (dX (zL K hr g.f2.f2.f2)))
  intro o2 hr F;refine bJ (aD (iP o hr ?_));rintro u hr b4 f1 a6 ⟨_,_,rfl,rfl,rfl⟩ Z;refine dU g Z (bX 7 95 (.agg (V3 eB eB)) g λb5 w7 g=>aZ (.agg (V2 u)) g λw8 g=>aI (aD (aS 1 g.h (cV hr ?_ ?_))))<;>intro A hr
  .refine nO (aS 1 g.t.h (bD g.h (iF 22 95 1 C1 [u] g λb6 m5 w9 G g r5=>oB 23 26 26 95 32 20 22 g.f4 (.inl kr) (M.o G) r5.src hr λl1 hr R S m6 a8 V g r6=>aX 1 (aZ (vS R l1 S) g.f3 λa9 g=>cX ?_))));have g:=g.f2.t;exact oK (F hr ⟨R,S,m6,rfl,(q.t G).t V,g.f2.t.f1.f2.f2,(o.o G).o V,r6⟩)
  exact lB (oK (F hr (zA g.t.f2.f2.f2)))
 refine eE ?_;exact dY (D rfl (zL H hr g.f2.f2.f2))
def LG(N:Nat)(p1:Tr)(a:Th)(d:Tg)(s1:Int):Option Tz:=
 if(decide (s1<(List.length p1:Int)))then((bC p1 s1).bind λb=>if(b.1.toList==a.2.toList)then((LQ N p1 a.2).bind λc=>(qX N d.1 3).bind λa=>(wS N a.2).bind λd=>(eO (⟨#[122]⟩:BA) d).bind λs2=>(eO s2 (⟨#[46,115,114,99]⟩:BA)).bind λd=>(uG N c (d,b.2)).bind λb=>some (.inr (.inr ((a.1,b))))) else(some (.inl (wI (s1+1))))) else(some (.inr (.inl ())))
def LJ(N:Nat)(p1:Tr)(e:Th)(a:Tg)(b:Int):Option Tz:=
 if(decide (b<(List.length p1:Int)))then((bC p1 b).bind λc=>if(c.1.toList==e.2.toList)then((qX N a.1 100).bind λa=>(wS N a.2).bind λd=>(eO (⟨#[35,32]⟩:BA) d).bind λd=>(eO d (⟨#[10,32,32]⟩:BA)).bind λd=>(eO d c.2).bind λc=>(uG N p1 (e.2,c)).bind λc=>some (.inr (.inr ((a.1,c))))) else(some (.inl (wI (b+1))))) else(some (.inr (.inl ())))
def LI(N:Nat)(p1:Tr)(c:Th)(d:Tg)(a:Int):Option Tz:=
 if(decide (a<(List.length p1:Int)))then((bC p1 a).bind λb=>if(b.1.toList==c.2.toList)then((eO b.2 (⟨#[102,117,110,99]⟩:BA)).bind λb=>(uG N p1 (c.2,b)).bind λb=>some (.inr (.inr ((d.1,b))))) else(some (.inl (wI (a+1))))) else(some (.inr (.inl ())))
def LM(N:Nat)(p1:Tr)(d:Th)(b:Tg)(a:Int):Option Tz:=
 if(decide (a<(List.length p1:Int)))then((bC p1 a).bind λc=>if(c.1.toList==d.2.toList)then((GQ N b.1).bind λb=>(eO c.2 b.2).bind λc=>(uG N p1 (d.2,c)).bind λc=>some (.inr (.inr ((b.1,c))))) else(some (.inl (wI (a+1))))) else(some (.inr (.inl ())))
def SE(N:Nat)(p0:Tf)(p1:Tr):Option Ty:=
 (LK N).bind λy1=>(oV N p0 y1).bind λb=>(qX N b.1 9).bind λa=>(if(a.2==0)then((oV N a.1 ([(⟨#[97,46,100,97,116]⟩:BA),(⟨#[100,47,98,46,100,97,116]⟩:BA),(⟨#[99]⟩:BA)])).bind λc=>(GP N c.1).bind λy5=>(uG N p1 (c.2,y5.2)).bind λc=>some (.inr (y5.1,c))) else(if(a.2==1)then((oV N a.1 ([(⟨#[97,46,100,97,116]⟩:BA),(⟨#[100,47,98,46,100,97,116]⟩:BA),(⟨#[99]⟩:BA),(⟨#[97,46,115,114,99]⟩:BA),(⟨#[98,46,115,114,99]⟩:BA)])).bind λc=>(LQ N p1 c.2).bind λd=>some (.inr (c.1,d))) else(if(a.2==2)then((yX N).bind λc=>(oV N a.1 c).bind λc=>(CS N c.1 c.2).bind λc=>(uG N p1 (b.2,c.2)).bind λd=>some (.inr (c.1,d))) else(if(a.2==3)then((aC (LG N p1 b a) N 0).bind λc=>(match c with| .inl o2=>some (.inl ())| .inr (z)=>some (.inr z))) else(if(a.2==4)then((aC (LJ N p1 b a) N 0).bind λc=>(match c with| .inl c=>some (.inl ())| .inr (z)=>some (.inr z))) else(if(a.2==5)then((aC (LI N p1 b a) N 0).bind λc=>(match c with| .inl o4=>some (.inl ())| .inr (z)=>some (.inr z))) else(some (.inl ()))))))):Option (Unit⊕Ty)).bind λc=>(match c with| .inl c=>(aC (LM N p1 b a) N 0).bind λc=>(match c with| .inl c=>(yX N).bind λc=>(oV N a.1 c).bind λa=>(CS N a.1 a.2).bind λa=>(uG N p1 (b.2,a.2)).bind λb=>some (a.1,b)| .inr (z)=>some z)| .inr z=>some z)
theorem Qm{p0:Tf}{p1:Tr}{r:Ty}(g:St m (kB bp0 (V1 p0 a1 c1) 25::O) w)(r1:RepS (aG .i64) m a1 c1 p0.1)(b:RepS C1 m a2 c2 p1)(hr:SE N p0 p1=some r):Calls prog 13 #[vP bp0 0,.agg #[vS a2 p1 c2]] w λe w'=>∃d1 d2 S U m',bN m m' e (.agg #[vS S r.2 U]) (kR S r.2 U 95 2::kB bp0 (V1 r.1 d1 d2) 25::O) w' (RepS (aG .i64) m' d1 d2 r.1.1/\RepS C1 m' S U r.2):=by
 refine bH g func13 rfl ntmps13 λq=>aD (eC 3 28 (.agg #[vS a2 p1 c2]) g λn m1 w1 e1 g a=>bX 4 28 (.agg #[v6]) g λs w2 g=>aI (bA 1 hr (Cf g) ?_));rintro y1 hr _ w3 ⟨a3,c3,m2,rfl,Y,g,r3⟩;refine bW hr (qG (p0:=p0) g.f2 ((r1.o e1).o Y) r3) ?_;rintro c hr _ w4 ⟨a4,c4,m3,rfl,e3,g,r4⟩;refine eJ 1 ?_;have g:=g.f1.t;refine lG (bA 1 hr (tU (p0:=c.1) g r4) ?_);rintro f hr _ w5 ⟨o,p,x,rfl,e4,g,k⟩;have q:=(((q.t e1).t Y).t e3).t e4;have a:=((a.o Y).o e3).o e4;have b:=(((b.o e1).o Y).o e3).o e4;refine aI ?_;have⟨d8,hr,z⟩:=aM hr;refine eS .normal (λL' w'=>∃(o1:Unit),∃B,(.inl o1:Unit⊕Ty)=d8/\L'=[(0,vP bp0 0),(3,vP n 0),(4,vP s 0),(5,vT c.2)]/\m.le B/\St B (kB bp0 (V1 f.1 o p) 25::kB s #[v7] 28::O) w'/\MRow B n 0 [vS a2 p1 c2]/\RepS C1 B a2 c2 p1/\RepS (aG .i64) B o p f.1.1) ?_ ?_
 .rintro _ w6 ⟨o1,B,rfl,rfl,q,g,a,b,k⟩;have hr:=z;refine lG (iG 1 g a (mA ?_));have⟨H,hr,j5⟩:=aM hr;refine eS (.exit 7) (λL' w'=>∃(o5:Unit),∃v,(.inl o5)=H/\L'=[(0,vP bp0 0),(3,vP n 0),(4,vP s 0),(5,vT c.2)]/\m.le v/\St v (kB bp0 (V1 f.1 o p) 25::kB s #[v7] 28::O) w'/\MRow v n 0 [vS a2 p1 c2]/\RepS C1 v a2 c2 p1/\RepS (aG .i64) v o p f.1.1) ?_ ?_
  .rintro _ f7 ⟨o5,v,rfl,rfl,q,g,a,b,k⟩;have hr:=j5;refine eY (aJ (cM [(10,λw'=>Inv v w'/\True)] kr g λf8 _ g=> ?_));have l:=v.le_refl;refine tA g l (cN 0 a (aU 3 [1,2,3] (aK 4 kr (cY hr (λ_ h=>KI g h) ?_))));rintro g4 hr _ f9 ⟨d6,d9,f0,rfl,u,g,Z⟩;refine⟨_,rfl,?_⟩;have l:=l.t u;refine tA g l (aK 5 kr (cY hr (λ_ h=>qG (p0:=f.1) g.f1 (k.o u) Z h) ?_));rintro d4 hr _ g0 ⟨d7,e0,f5,rfl,y,g,b0⟩;refine⟨_,rfl,?_⟩;have l:=l.t y;refine tA g l (aK 6 kr (cY hr (λ_ h=>VQ (p0:=d4.1) g b0 h) ?_));rintro K hr _ g1 ⟨M,R,f6,rfl,D,g,c0⟩;refine⟨_,rfl,?_⟩;have l:=l.t D;refine tA g l (aN 7 (aK 8 kr (cY hr (λ_ h=>yV (p1:=(c.2,K.2)) g (((b.o u).o y).o D) h) ?_)));rintro d5 hr _ g2 ⟨F,G,V,rfl,E,g,d3⟩;refine⟨_,rfl,?_⟩;have l:=l.t E;refine tA g l (aK 9 kr (iV 28 4 149 (.agg #[vS F d5 G]) g.f3 λg3 g=>tA g l (bO kr ?_)));have g:=g.f3.t;exact aV (aT (lE g.h (zH hr g.t.f1.f1)))
  intro K;refine eF (λM L' w'=>∃(y:Int),∃u,aC (LM N p1 c f) M y=some H/\L'=[(0,vP bp0 0),(3,vP n 0),(4,vP s 0),(5,vT c.2),(121,vS a2 p1 c2),(122,vI (p1.length:Int)),(123,vI y)]/\m.le u/\St u (kB bp0 (V1 f.1 o p) 25::kB s #[v7] 28::O) w'/\MRow u n 0 [vS a2 p1 c2]/\RepS C1 u a2 c2 p1/\RepS (aG .i64) u o p f.1.1) N ⟨0,B,hr,rfl,q,g.f1.f1,a,b,k⟩ ?_;rintro M _ f8 ⟨y,u,hL,rfl,q,g,a,b,k⟩;obtain⟨M,f7,rfl,hr,c0,G⟩:=eH hL;refine cG (aO hr ?_ ?_)<;>intro A hr
  .refine aQ (aJ (bJ (aD (iP b hr ?_))));rintro D hr f0 f4 f5 ⟨_,_,rfl,rfl,rfl⟩ d5;refine dU g d5 (bX 13 95 (.agg (V3 eB eB)) g λV f9 g=>aZ (.agg (V2 D)) g λg0 g=>aI (aD (aS 1 g.h (cV hr ?_ ?_))))<;>intro A hr
   .refine aJ (cM [(10,λw'=>Inv u w'/\Piece.holds u w' (kB V (V2 D) 95)/\True)] kr g λg1 _ g=> ?_);have l:=u.le_refl;refine⟨aL (aF g l),cN 0 a (aU 2 [1,2] (bZ 3 cH (aN 4 (aK 5 kr (cY hr (λ_ h=>Cn (p0:=f.1) g.f1 k h) ?_)))))⟩;rintro g5 hr _ g2 ⟨d3,d4,f6,rfl,E,g,d7⟩;refine⟨_,rfl,?_⟩;have l:=l.t E;refine⟨aL (aF g l),nU 9 9 134 136 6 137 hr λb0 hr=>aN 7 (aK 8 kr (cY hr (λ_ h=>yV (p1:=(c.2,b0)) g (b.o E) h) ?_))⟩;rintro e0 hr _ g3 ⟨R,Z,d6,rfl,F,g,d9⟩;refine⟨_,rfl,?_⟩;have l:=l.t F;refine⟨aL (aF g l),aK 9 kr (iV 28 4 139 (.agg #[vS R e0 Z]) g.f3 λg4 g=>⟨aL (aF g l),bO kr (aV (aT (cF (bL ?_))))⟩)⟩;have ho:=G _ (sI hr);subst ho;have hr:=j5;exact bL (cF (bL (lE g.h (zH hr g.t.f2.t.f1.f1))))
   refine lP (cP 2 ?_);exact dX (zL c0 hr g.t.f1.f1)
  refine eE ?_;exact dY (K _ _ (zL G hr g.f1.f1))
 intro E;refine bJ (bV hr ?_ ?_)<;>intro A hr
 .refine aJ (cM [(9,λw'=>Inv x w'/\True)] kr g λw7 _ g=> ?_);have l:=x.le_refl;refine tA g l (cN 0 a (aU 2 [1,4] (aK 2 kr (qH (d:=23) (t:=61) (e:=9) (len:=3) (parts:= #[(0,(.const (vT bg))),(1,(.const (vT bh))),(2,(.const (vT bi)))]) aB (xs:=[bg,bh,bi]) [vT bg,vT bh,vT bi] kr rfl (λ_=>qI kr _) rfl rfl g ⟨[vT bg],_,rfl,rfl,⟨[vT bh],_,rfl,rfl,⟨[vT bi],_,rfl,rfl,rfl⟩⟩⟩ λb3 m6 w8 u g V=> ?_))));have l:=l.t u;refine tA g l (aK 3 kr (cY hr (λ_ h=>qG (p0:=f.1) g.f1 (k.o u) V h) ?_));rintro F hr _ w9 ⟨a6,c6,m7,rfl,v,g,Z⟩;refine⟨_,rfl,?_⟩;have l:=l.t v;refine tA g l (aK 5 kr (cY hr (λ_ h=>Co (p0:=F.1) g Z h) ?_));rintro y5 hr _ b0 ⟨K,M,m8,rfl,y,g,r8⟩;refine⟨_,rfl,?_⟩;have l:=l.t y;refine tA g l (aN 6 (aK 7 kr (cY hr (λ_ h=>yV (p1:=(F.2,y5.2)) g (((b.o u).o v).o y) h) ?_)));rintro y6 hr _ c0 ⟨G,H,R,rfl,D,g,r9⟩;refine⟨_,rfl,?_⟩;have l:=l.t D;refine tA g l (aK 8 kr (iV 28 4 28 (.agg #[vS G y6 H]) g.f3 λd3 g=>tA g l (bO kr ?_)));have g:=g.f3.t;refine aV (aT (cF ?_));obtain rfl:=sI hr;have hr:=z;exact bL (lE g.h (zH hr g.t.f1.f1))
 refine bV hr ?_ ?_<;>intro A hr
 .refine aJ (cM [(6,λw'=>Inv x w'/\True)] kr g λd3 _ g=> ?_);have l:=x.le_refl;refine tA g l (cN 0 a (aN 1 (aK 2 kr (qH (d:=33) (t:=61) (e:=9) (len:=5) (parts:= #[(0,(.const (vT bg))),(1,(.const (vT bh))),(2,(.const (vT bi))),(3,(.const (vT ba))),(4,(.const (vT bb)))]) aB (xs:=[bg,bh,bi,ba,bb]) [vT bg,vT bh,vT bi,vT ba,vT bb] kr rfl (λ_=>qI kr _) rfl rfl g ⟨[vT bg],_,rfl,rfl,⟨[vT bh],_,rfl,rfl,⟨[vT bi],_,rfl,rfl,⟨[vT ba],_,rfl,rfl,⟨[vT bb],_,rfl,rfl,rfl⟩⟩⟩⟩⟩ λb4 b0 d4 y g H=> ?_))));have l:=l.t y;refine tA g l (aK 3 kr (cY hr (λ_ h=>qG (p0:=f.1) g.f1 (k.o y) H h) ?_));rintro y7 hr _ d5 ⟨R,V,c0,rfl,u,g,K⟩;refine⟨_,rfl,?_⟩;have l:=l.t u;refine tA g l (aK 4 kr (cY hr (λ_ h=>Cj g ((b.o y).o u) h) ?_));rintro Z hr _ d6 ⟨D,F,G,rfl,v,g,M⟩;refine⟨_,rfl,?_⟩;have l:=l.t v;refine tA g l (aK 5 kr (iV 28 4 35 (.agg #[vS D Z F]) g.f3 λd7 g=>tA g l (bO kr ?_)));have g:=g.f3.t;refine aV (aT (cF ?_));obtain rfl:=sI hr;have hr:=z;exact bL (lE g.h (zH hr g.t.f1.f1))
 refine bV hr ?_ ?_<;>intro A hr
 .refine aJ (cM [(10,λw'=>Inv x w'/\True)] kr g λf6 _ g=> ?_);have l:=x.le_refl;refine tA g l (cN 0 a (aU 3 [1,2,3] (aK 4 kr (cY hr (λ_ h=>KI g h) ?_))));rintro y9 hr _ f7 ⟨d5,d7,e0,rfl,u,g,V⟩;refine⟨_,rfl,?_⟩;have l:=l.t u;refine tA g l (aK 5 kr (cY hr (λ_ h=>qG (p0:=f.1) g.f1 (k.o u) V h) ?_));rintro d3 hr _ f8 ⟨d6,d9,f0,rfl,v,g,Z⟩;refine⟨_,rfl,?_⟩;have l:=l.t v;refine tA g l (aK 6 kr (cY hr (λ_ h=>VQ (p0:=d3.1) g Z h) ?_));rintro H hr _ f9 ⟨K,M,f5,rfl,y,g,b0⟩;refine⟨_,rfl,?_⟩;have l:=l.t y;refine tA g l (aN 7 (aK 8 kr (cY hr (λ_ h=>yV (p1:=(c.2,H.2)) g (((b.o u).o v).o y) h) ?_)));rintro d4 hr _ g0 ⟨F,G,R,rfl,D,g,c0⟩;refine⟨_,rfl,?_⟩;have l:=l.t D;refine tA g l (aK 9 kr (iV 28 4 46 (.agg #[vS F d4 G]) g.f3 λg1 g=>tA g l (bO kr ?_)));have g:=g.f3.t;refine aV (aT (cF ?_));obtain rfl:=sI hr;have hr:=z;exact bL (lE g.h (zH hr g.t.f1.f1))
 refine bV hr ?_ ?_<;>intro A hr
 .refine iG 1 g a (mA ?_);have⟨R,hr,j2⟩:=aM hr;refine eS (.exit 1) (λL' w'=>∃(o2:Unit),∃v,(.inl o2)=R/\L'=[(0,vP bp0 0),(3,vP n 0),(4,vP s 0),(5,vT c.2)]/\m.le v/\St v (kB bp0 (V1 f.1 o p) 25::kB s #[v7] 28::O) w'/\MRow v n 0 [vS a2 p1 c2]/\RepS C1 v a2 c2 p1/\RepS (aG .i64) v o p f.1.1) ?_ ?_
  .rintro _ l ⟨o2,v,rfl,rfl,q,g,a,b,k⟩;have hr:=j2;refine rV (iU ?_);have D:=jE hr;exact xE (E _ _ (zA g.f1.f1))
  intro V;refine eF (λZ L' w'=>∃(s1:Int),∃u,aC (LG N p1 c f) Z s1=some R/\L'=[(0,vP bp0 0),(3,vP n 0),(4,vP s 0),(5,vT c.2),(50,vS a2 p1 c2),(51,vI (p1.length:Int)),(52,vI s1)]/\m.le u/\St u (kB bp0 (V1 f.1 o p) 25::kB s #[v7] 28::O) w'/\MRow u n 0 [vS a2 p1 c2]/\RepS C1 u a2 c2 p1/\RepS (aG .i64) u o p f.1.1) N ⟨0,x,hr,rfl,q,g.f1.f1,a,b,k⟩ ?_;rintro Z _ g3 ⟨s1,u,hL,rfl,q,g,a,b,k⟩;obtain⟨Z,g2,rfl,hr,d3,M⟩:=eH hL;refine cG (aO hr ?_ ?_)<;>intro A hr
  .refine aQ (aJ (bJ (aD (iP b hr ?_))));rintro y hr b5 f1 f8 ⟨_,_,rfl,rfl,rfl⟩ d6;refine dU g d6 (bX 7 95 (.agg (V3 eB eB)) g λb6 g4 g=>aZ (.agg (V2 y)) g λg5 g=>aI (aD (aS 1 g.h (cV hr ?_ ?_))))<;>intro A hr
   .refine aJ (cM [(13,λw'=>Inv u w'/\Piece.holds u w' (kB b6 (V2 y) 95)/\True)] kr g λg6 _ g=> ?_);have l:=u.le_refl;refine⟨aL (aF g l),cN 0 a (aU 3 [1,3,8] (bZ 9 cH (aK 2 kr (cY hr (λ_ h=>Cj g b h) ?_))))⟩;rintro h2 hr _ g7 ⟨f6,f7,f9,rfl,G,g,d9⟩;refine⟨_,rfl,?_⟩;have l:=l.t G;refine⟨aL (aF g l),aK 4 kr (cY hr (λ_ h=>tU (p0:=f.1) g.f2 (k.o G) h) ?_)⟩;rintro h3 hr _ g8 ⟨d4,d5,g0,rfl,H,g,e0⟩;refine⟨_,rfl,?_⟩;have l:=l.t H;refine⟨aL (aF g l),aK 5 kr (cY hr (λ_ h=>RG g h) ?_)⟩;rintro h4 hr _ g9 ⟨g1,rfl,F,g⟩;refine⟨_,rfl,?_⟩;have l:=l.t F;refine⟨aL (aF g l),nU 9 9 ((.const (vT (⟨#[122]⟩:BA)))) 65 6 66 hr λs2 hr=>nU 9 9 66 ((.const (vT (⟨#[46,115,114,99]⟩:BA)))) 7 67 hr λs3 hr=>aN 10 (aK 11 kr (cY hr (λ_ h=>yV (p1:=(s3,y.2)) g ((d9.o H).o F) h) ?_))⟩;rintro f5 hr _ h0 ⟨b0,c0,d7,rfl,K,g,f0⟩;refine⟨_,rfl,?_⟩;have l:=l.t K;refine⟨aL (aF g l),aK 12 kr (iV 28 4 71 (.agg #[vS b0 f5 c0]) g.f4 λh1 g=>⟨aL (aF g l),bO kr ?_⟩)⟩;have g:=g.f3.t;refine aV (aT (cF (bL ?_)));have ho:=M _ (sI hr);subst ho;have hr:=j2;refine bL (cF (cF ?_));obtain rfl:=sI hr;have hr:=z;exact bL (lE g.h (zH hr g.t.f2.t.f1.f1))
   refine lP (cP 2 ?_);exact dX (zL d3 hr g.t.f1.f1)
  refine eE ?_;exact dY (V _ _ (zL M hr g.f1.f1))
 refine bV hr ?_ ?_<;>intro A hr
 .refine iG 1 g a (mA ?_);have⟨R,hr,j3⟩:=aM hr;refine eS (.exit 3) (λL' w'=>∃(o3:Unit),∃v,(.inl o3)=R/\L'=[(0,vP bp0 0),(3,vP n 0),(4,vP s 0),(5,vT c.2)]/\m.le v/\St v (kB bp0 (V1 f.1 o p) 25::kB s #[v7] 28::O) w'/\MRow v n 0 [vS a2 p1 c2]/\RepS C1 v a2 c2 p1/\RepS (aG .i64) v o p f.1.1) ?_ ?_
  .rintro _ l ⟨o3,v,rfl,rfl,q,g,a,b,k⟩;have hr:=j3;refine rV (iU ?_);have D:=jE hr;exact xE (E _ _ (zA g.f1.f1))
  intro V;refine eF (λZ L' w'=>∃(F:Int),∃u,aC (LJ N p1 c f) Z F=some R/\L'=[(0,vP bp0 0),(3,vP n 0),(4,vP s 0),(5,vT c.2),(76,vS a2 p1 c2),(77,vI (p1.length:Int)),(78,vI F)]/\m.le u/\St u (kB bp0 (V1 f.1 o p) 25::kB s #[v7] 28::O) w'/\MRow u n 0 [vS a2 p1 c2]/\RepS C1 u a2 c2 p1/\RepS (aG .i64) u o p f.1.1) N ⟨0,x,hr,rfl,q,g.f1.f1,a,b,k⟩ ?_;rintro Z _ f9 ⟨F,u,hL,rfl,q,g,a,b,k⟩;obtain⟨Z,f8,rfl,hr,d3,M⟩:=eH hL;refine cG (aO hr ?_ ?_)<;>intro A hr
  .refine aQ (aJ (bJ (aD (iP b hr ?_))));rintro G hr b7 f2 f5 ⟨_,_,rfl,rfl,rfl⟩ d6;refine dU g d6 (bX 9 95 (.agg (V3 eB eB)) g λb8 g0 g=>aZ (.agg (V2 G)) g λg1 g=>aI (aD (aS 1 g.h (cV hr ?_ ?_))))<;>intro A hr
   .refine aJ (cM [(13,λw'=>Inv u w'/\Piece.holds u w' (kB b8 (V2 G) 95)/\True)] kr g λg2 _ g=> ?_);have l:=u.le_refl;refine⟨aL (aF g l),cN 0 a (aU 3 [1,2,7] (bZ 8 cH (aK 3 kr (cY hr (λ_ h=>tU (p0:=f.1) g.f1 k h) ?_))))⟩;rintro g7 hr _ g3 ⟨d4,d5,f6,rfl,H,g,d9⟩;refine⟨_,rfl,?_⟩;have l:=l.t H;refine⟨aL (aF g l),aK 4 kr (cY hr (λ_ h=>RG g h) ?_)⟩;rintro g8 hr _ g4 ⟨f7,rfl,y,g⟩;refine⟨_,rfl,?_⟩;have l:=l.t y;refine⟨aL (aF g l),nU 9 9 ((.const (vT (⟨#[35,32]⟩:BA)))) 90 5 91 hr λs5 hr=>nU 9 9 91 ((.const (vT (⟨#[10,32,32]⟩:BA)))) 6 92 hr λs6 hr=>nU 9 9 92 94 9 95 hr λs7 hr=>aN 10 (aK 11 kr (cY hr (λ_ h=>yV (p1:=(c.2,s7)) g ((b.o H).o y) h) ?_))⟩;rintro f0 hr _ g5 ⟨b0,c0,d7,rfl,K,g,e0⟩;refine⟨_,rfl,?_⟩;have l:=l.t K;refine⟨aL (aF g l),aK 12 kr (iV 28 4 97 (.agg #[vS b0 f0 c0]) g.f3 λg6 g=>⟨aL (aF g l),bO kr (aV (aT (cF (bL ?_))))⟩)⟩;have ho:=M _ (sI hr);subst ho;have hr:=j3;refine bL (cF (cF ?_));obtain rfl:=sI hr;have hr:=z;exact bL (lE g.h (zH hr g.t.f2.t.f1.f1))
   refine lP (cP 2 ?_);exact dX (zL d3 hr g.t.f1.f1)
  refine eE ?_;exact dY (V _ _ (zL M hr g.f1.f1))
 refine bV hr ?_ ?_<;>intro A hr
 .refine iG 1 g a (mA ?_);have⟨F,hr,j4⟩:=aM hr;refine eS (.exit 5) (λL' w'=>∃(o4:Unit),∃u,(.inl o4)=F/\L'=[(0,vP bp0 0),(3,vP n 0),(4,vP s 0),(5,vT c.2)]/\m.le u/\St u (kB bp0 (V1 f.1 o p) 25::kB s #[v7] 28::O) w'/\MRow u n 0 [vS a2 p1 c2]/\RepS C1 u a2 c2 p1/\RepS (aG .i64) u o p f.1.1) ?_ ?_
  .rintro _ l ⟨o4,u,rfl,rfl,q,g,a,b,k⟩;have hr:=j4;refine rV (iU ?_);have D:=jE hr;exact xE (E _ _ (zA g.f1.f1))
  intro H;refine eF (λK L' w'=>∃(v:Int),∃l,aC (LI N p1 c f) K v=some F/\L'=[(0,vP bp0 0),(3,vP n 0),(4,vP s 0),(5,vT c.2),(102,vS a2 p1 c2),(103,vI (p1.length:Int)),(104,vI v)]/\m.le l/\St l (kB bp0 (V1 f.1 o p) 25::kB s #[v7] 28::O) w'/\MRow l n 0 [vS a2 p1 c2]/\RepS C1 l a2 c2 p1/\RepS (aG .i64) l o p f.1.1) N ⟨0,x,hr,rfl,q,g.f1.f1,a,b,k⟩ ?_;rintro K _ d9 ⟨v,l,hL,rfl,q,g,a,b,k⟩;obtain⟨K,d7,rfl,hr,Z,y⟩:=eH hL;refine cG (aO hr ?_ ?_)<;>intro A hr
  .refine aQ (aJ (bJ (aD (iP b hr ?_))));rintro G hr b9 f3 d6 ⟨_,_,rfl,rfl,rfl⟩ c0;refine dU g c0 (bX 11 95 (.agg (V3 eB eB)) g λb0 e0 g=>aZ (.agg (V2 G)) g λf0 g=>aI (aD (aS 1 g.h (cV hr ?_ ?_))))<;>intro A hr
   .refine aD (dU g a (aS 2 g.h (mU hr λs9 hr=>iH 1 hr (yV (p1:=(c.2,s9)) g b) ?_)));rintro d5 hr _ f5 ⟨M,R,d3,rfl,V,g,d4⟩;refine aZ (.agg #[vS M d5 R]) g.f3 λf6 g=>aI (aT (cF (bL ?_)));have ho:=y _ (sI hr);subst ho;have hr:=j4;refine bL (cF (cF ?_));obtain rfl:=sI hr;have hr:=z;exact bL (lE g.h (zH hr g.t.f1.t.f1.f1))
   refine lP (cP 2 ?_);exact dX (zL Z hr g.t.f1.f1)
  refine eE ?_;exact dY (H _ _ (zL y hr g.f1.f1))
 refine lB (iU ?_);have D:=jE hr;exact xE (E _ _ ⟨(),x,D,rfl,q,g.f1.f1,a,b,k⟩)
def VI(N:Nat)(s1:Int×JR):Option (Int×JR⊕JR):=
 if(decide (s1.1<(List.length ([(⟨#[109]⟩:BA),(⟨#[110]⟩:BA)]):Int)))then(((bC ([(⟨#[109]⟩:BA),(⟨#[110]⟩:BA)]) s1.1).bind λb=>(uF N s1.2.2 2 3).bind λy1=>if y1.2 then((xR N y1.1 ([0,1,(-1),5,9007199254740992,(-9007199254740992)])).bind λa=>(iK 24 s1.2.1 ([(b,a.2)])).bind λb=>some (b,a.1.1,a.1.2)) else(some (s1.2.1,y1.1.1,y1.1.2)):Option JR).bind λo2=>some (.inl (wI (s1.1+1),o2.1,o2.2.1,o2.2.2))) else(some (.inr s1.2))
def QN(N:Nat)(p0:Tf):Option (Tf×nT):=
 (aC (VI N) N (0,([]:nT),p0.1,p0.2)).bind λa=>some (a.2,a.1)
theorem Om{p0:Tf}{r:Tf×nT}(g:St m (kB bp0 (V1 p0 a1 c1) 25::O) w)(r1:RepS (aG .i64) m a1 c1 p0.1)(hr:QN N p0=some r):Calls prog 14 #[vP bp0 0] w λe w'=>∃b9 c0 K M m',bN m m' e (.agg #[vS K r.2 M]) (kR K r.2 M 107 2::kB bp0 (V1 r.1 b9 c0) 25::O) w' (RepS (aG .i64) m' b9 c0 r.1.1/\RepS C3 m' K M r.2):=by
 refine bH g func14 rfl ntmps14 λq=>aD (bX 2 31 (.agg #[v6]) g λy w1 g=>aI (aD (bX 3 31 (.agg #[v6]) g λb w2 g=>aI (aJ (aD (iF 6 9 2 aB [bk,bj] g λo m1 w3 e1 g v=>mA (cE (.exit 0) hr (λf L' w'=>∃(c:JR),∃n p S Y B,c=f/\L'=[(2,vP y 0),(3,vP b 0)]/\m.le B/\St B (kB b #[vS n c.1 p] 31::kB y #[v8] 31::kB bp0 (V1 c.2 S Y) 25:: .room (aP o) (List.length ([bk,bj])) 2 9 1::kR n c.1 p 107 2::O) w'/\RepS C3 B n p c.1/\RepS (aG .i64) B S Y c.2.1) ?_ ?_)))))))
 .rintro f hr _ s ⟨c,n,p,S,Y,B,rfl,rfl,q,g,a,k⟩;refine eY (aD (bD g.h (aZ (.agg #[vS n c.1 p]) g.f1 λl g=>cX ?_)));have g:=g.f3.t;exact aV (aT (lE g.h (zH hr g.t.t.f1)))
 intro f hr R;have g:=(g.nilroom 107 2).front1.front4.front4.front4;refine eF (λk1 L' w'=>∃(s1:Int×JR),∃k l U Z s,aC (VI N) k1 s1=some f/\L'=[(0,vP bp0 0),(2,vP y 0),(3,vP b 0),(6,.slice (aP o) (List.length ([bk,bj])) 2),(7,vI (List.length ([bk,bj]):Int)),(8,vI s1.1)]/\m.le s/\St s (kB b #[vS k s1.2.1 l] 31::kB y #[v8] 31::kB bp0 (V1 s1.d U Z) 25:: .room (aP o) (List.length ([bk,bj])) 2 9 1::kR k s1.2.1 l 107 2::O) w'/\RepS aB s (aP o) 2 ([bk,bj])/\RepS C3 s k l s1.2.1/\RepS (aG .i64) s U Z s1.d.1) N ⟨(0,([]:nT),p0.1,p0.2),none,0,a1,c1,m1,hr,rfl,q.t e1,g,v,(RepS.nil _ _),r1.o e1⟩ ?_;rintro k1 _ w5 ⟨s1,k,l,U,Z,s,hL,rfl,q,g,v,r5,r6⟩;obtain⟨k1,d9,rfl,hr,d2,d1⟩:=eH hL;refine cG (aO hr ?_ ?_)<;>intro A hr
 .refine aQ (aJ (cE .normal hr (λo2 L' w'=>∃D E V c7 u,L'=[(0,vP bp0 0),(2,vP y 0),(3,vP b 0),(6,.slice (aP o) (List.length ([bk,bj])) 2),(7,vI (List.length ([bk,bj]):Int)),(8,vI s1.1)]/\m.le u/\St u (kB b #[vS D o2.1 E] 31::kB y #[v8] 31::kB bp0 (V1 o2.2 V c7) 25:: .room (aP o) (List.length ([bk,bj])) 2 9 1::kR D o2.1 E 107 2::O) w'/\RepS aB u (aP o) 2 ([bk,bj])/\RepS C3 u D E o2.1/\RepS (aG .i64) u V c7 o2.2.1) ?_ ?_))
  .rintro o2 hr _ z ⟨D,E,V,c7,u,rfl,q,g,v,a,x⟩;exact aV (cP 2 (dX (zL d2 hr g.f4.f4.f4.f4.f4)))
  intro o2 hr b0;refine bJ (aD (iP v hr ?_));rintro x hr b4 f1 d8 rfl d3;refine dU g d3 (aW (bA 1 hr (yT (p0:=s1.d) g.f2 r6) ?_));rintro y1 hr _ w7 ⟨a8,c8,H,rfl,z,g,r9⟩;refine aI (aO hr ?_ ?_)<;>intro A hr
  .refine cM [(11,λw'=>Inv H w'/\True),(10,λw'=>Inv H w'/\Piece.holds H w' (kB b #[vS k s1.2.1 l] 31)/\True)] kr g λw8 _ g=> ?_;have a:=H.le_refl;refine⟨lI (aF g a) (aF g a),aN 0 (rF 29 14 1 15 0 (vS k s1.2.1 l) (.tail _ (.head _)) cH (aU 2 [2,3] (aK 4 kr (qH (d:=18) (t:=22) (e:=3) (len:=6) (parts:= #[(0,(.const (vI 0))),(1,(.const (vI 1))),(2,(.const (vI (-1)))),(3,(.const (vI 5))),(4,(.const (vI 9007199254740992))),(5,(.const (vI (-9007199254740992))))]) (aG .i64) (xs:=[0,1,(-1),5,9007199254740992,(-9007199254740992)]) [vI 0,vI 1,vI (-1),vI 5,vI 9007199254740992,vI (-9007199254740992)] kr rfl (λ_=>qI kr _) rfl rfl g ⟨[vI 0],_,rfl,rfl,⟨[vI 1],_,rfl,rfl,⟨[vI (-1)],_,rfl,rfl,⟨[vI 5],_,rfl,rfl,⟨[vI 9007199254740992],_,rfl,rfl,⟨[vI (-9007199254740992)],_,rfl,rfl,rfl⟩⟩⟩⟩⟩⟩ λb5 m6 w9 F g d4=> ?_))))⟩;have a:=a.t F;refine⟨lI (aF g a) (aF g a),aK 5 kr (cY hr (λ_ h=>KG (p0:=y1.1) g.f1 (r9.o F) d4 h) ?_)⟩;rintro y2 hr _ e0 ⟨a9,c9,m7,rfl,e4,g,d5⟩;refine⟨_,rfl,?_⟩;have a:=a.t e4;refine⟨lI (aF g a) (aF g a),aN 6 (aK 7 kr (qH (d:=21) (t:=29) (e:=107) (len:=1) (parts:= #[(0,(.tmp 20))]) C3 (xs:=[(x,y2.2)]) [vT x,vI y2.2] kr rfl (λ_=>qI kr _) rfl rfl g ⟨[vT x,vI y2.2],_,rfl,⟨_,_,rfl,rfl,rfl⟩,rfl⟩ λb6 m8 e7 G g d6=> ?_))⟩
   have a:=a.t G;refine⟨lI (aF g a) (aF g a),aK 8 kr (uK 22 29 29 107 24 15 21 g.f6 (.inl kr) ((((r5.o z).o F).o e4).o G) d6.src hr λl1 hr b7 b8 m9 e8 e6 g d7=> ?_)⟩;have a:=a.t e6;refine⟨lI (aF g a) (aF g a),aN 9 (aK 10 kr (iV 29 23 22 (vS b7 l1 b8) g.f4 λe9 g=>⟨rJ (aF g a),bO kr ?_⟩))⟩;have g:=g.f2.t.f3.t;exact oK (b0 hr ⟨b7,b8,a9,c9,m9,rfl,((((q.t z).t F).t e4).t G).t e6,g.f1.f4.f3.f4.f4,((((v.o z).o F).o e4).o G).o e6,d7,(d5.o G).o e6⟩)
  exact lB (oK (b0 hr (zA g.f4.f4.f2.f4.f4)))
 refine eE ?_;exact dY (R rfl (zL d1 hr g.f4.f4.f4.f4.f4))
def WH(N:Nat)(p0:Tf):Option Tg:=
 (xR N p0 ([0,1,2,3,4611686018427387904,(-1)])).bind λy1=>(qX N y1.1 1073741824).bind λa=>some (a.1,iXor .u64 (IntKind.wrap .u64 y1.2) (IntKind.wrap .u64 ((IntKind.wrap .u64 a.2)*2^7)))
theorem Qp{p0:Tf}{r:Tg}(g:St m (kB bp0 (V1 p0 a1 c1) 25::O) w)(o:RepS (aG .i64) m a1 c1 p0.1)(hr:WH N p0=some r):Calls prog 15 #[vP bp0 0] w λe w'=>∃a b m',bN m m' e (.int .u64 r.2) (kB bp0 (V1 r.1 a b) 25::O) w' (RepS (aG .i64) m' a b r.1.1):=by
 refine bH g func15 rfl ntmps15 λq=>bK (aR 1 (iF 4 3 6 (aG .i64) [0,1,2,3,4611686018427387904,(-1)] g λx z B c g p=>bW hr (KG (p0:=p0) g.f1 (o.o c) p) ?_));rintro y1 hr _ D ⟨v,y,A,rfl,k,g,s⟩;refine iH 2 hr (tU (p0:=y1.1) g s) ?_;rintro d hr _ E ⟨f,h,n,rfl,l,g,u⟩;refine eJ 4 ?_;have g:=g.f1.t;exact nX (zH hr g)
def VP(N:Nat)(s1:Int×OV):Option (Int×OV⊕OV):=
 if(decide (s1.1>0))then((SE N (s1.2.1,s1.2.2.1) s1.2.2.2).bind λa=>some (.inl (wI (s1.1-1),a.1.1,a.1.2,a.2))) else(some (.inr s1.2))
def RX(N:Nat)(p0:Tf):Option T19:=
 (RM N p0).bind λy1=>(qX N y1.1 3).bind λa=>(aC (VP N) N (a.2,a.1.1,a.1.2,y1.2)).bind λa=>(QN N (a.1,a.2.1)).bind λb=>(WH N b.1).bind λy5=>some (y5.1,a.2.2,b.2,y5.2)
theorem Qa{p0:Tf}{r:T19}(g:St m (kB bp0 (V1 p0 a1 c1) 25::O) w)(r1:RepS (aG .i64) m a1 c1 p0.1)(hr:RX N p0=some r):Calls prog 4 #[vP bp0 0] w λe w'=>∃U V u y x z m',bN m m' e (.tuple #[.agg #[vS u r.2.1 y],.agg #[vS x r.d.1 z],.int .u64 r.e]) (kR u r.2.1 y 95 2::kR x r.d.1 z 107 2::kB bp0 (V1 r.1 U V) 25::O) w' (RepS (aG .i64) m' U V r.1.1/\RepS C1 m' u y r.2.1/\RepS C3 m' x z r.d.1):=by
 refine bH g func4 rfl ntmps4 λq=>aD (bX 2 28 (.agg #[v6]) g λE w1 g=>bX 3 31 (.agg #[v6]) g λF w2 g=>aW (bA 1 hr (Pj (p0:=p0) g.f2 r1) ?_));rintro y1 hr _ w3 ⟨a2,c2,a3,c3,m1,rfl,e1,g,r2,r3⟩;refine bX 5 28 (.agg #[v6]) g λs w4 g=>aZ (.agg #[vS a3 y1.2 c3]) g λw5 g=>aI (aJ (bA 1 hr (tU (p0:=y1.1) g.f2 r2) ?_));rintro K hr _ w6 ⟨a4,c4,m2,rfl,e2,g,r4⟩;refine mA (cE (.exit 0) hr (λk L' w'=>∃(b:OV),∃Y Z c f l,b=k/\L'=[(0,vP bp0 0),(2,vP E 0),(3,vP F 0),(5,vP s 0)]/\m.le l/\St l (kB bp0 #[vS Y b.1 Z,vI b.2.1] 25::kB s #[vS c b.d f] 28::kB F #[v8] 31::kB E #[v7] 28::kR c b.d f 95 2::O) w'/\RepS (aG .i64) l Y Z b.1/\RepS C1 l c f b.d) ?_ ?_)
 .rintro k hr _ w7 ⟨b,Y,Z,c,f,l,rfl,rfl,q,g,r5,r6⟩;refine eY (aJ (cM [(8,λw'=>Inv l w'/\Piece.holds l w' (kB s #[vS c b.d f] 28)/\True)] kr g λb6 _ g=> ?_));have a:=l.le_refl;refine⟨aL (aF g a),bZ 0 cH (aU 2 [1,3] (aK 2 kr (cY hr (λ_ h=>Om (p0:=(b.1,b.2.1)) g r5 h) ?_)))⟩;rintro D hr _ b7 ⟨b4,b5,n,p,m6,rfl,G,g,R,S⟩;refine⟨_,rfl,?_⟩;have a:=a.t G;refine⟨aL (aF g a),aK 4 kr (cY hr (λ_ h=>Qp (p0:=D.1) g.f1 R h) ?_)⟩;rintro y5 hr _ b8 ⟨H,M,m7,rfl,B,g,b0⟩;refine⟨_,rfl,?_⟩;have a:=a.t B;refine⟨aL (aF g a),aK 5 kr (iV 28 2 18 (.agg #[vS c b.d f]) g.f4 λb9 g=>⟨aL (aF g a),aK 6 kr (iV 31 3 20 (.agg #[vS n D.2 p]) g.f4 λc0 g=>⟨aL (aF g a),aN 7 (bO kr (aV (aT ?_)))⟩)⟩)⟩;cases hr;refine pG [.cell 2 28,.cell 3 31,.tmp 4] [.agg #[vS c b.d f],.agg #[vS n D.2 p],.int .u64 y5.2] rfl (ResAll.cons (ResAt.blk (v:= .agg #[vS c b.d f]) (o:=0) kr g.t.h kr) (ResAll.cons (ResAt.blk (v:= .agg #[vS n D.2 p]) (o:=0) kr g.h kr) (ResAll.cons (ResAt.tmp kr) ResAll.nil))) ?_;exact(zA g.t.t.f2.t.f1.f2)
 intro k hr B;refine eF (λH L' w'=>∃(s1:Int×OV),∃D G a n p,aC (VP N) H s1=some k/\L'=[(0,vP bp0 0),(2,vP E 0),(3,vP F 0),(5,vP s 0),(6,vI s1.1)]/\m.le p/\St p (kB bp0 #[vS D s1.2.1 G,vI s1.d.1] 25::kB s #[vS a s1.e n] 28::kB F #[v8] 31::kB E #[v7] 28::kR a s1.e n 95 2::O) w'/\RepS (aG .i64) p D G s1.2.1/\RepS C1 p a n s1.e) N ⟨(K.2,K.1.1,K.1.2,y1.2),a4,c4,a3,c3,m2,hr,rfl,(q.t e1).t e2,g.f2.f4.f4.f4.f4,r4,r3.o e2⟩ ?_;rintro H _ w8 ⟨s1,D,G,a,n,p,hL,rfl,q,g,r7,r8⟩;obtain⟨H,b6,rfl,hr,b4,b0⟩:=eH hL;refine aJ (bV hr ?_ ?_)<;>intro A hr
 .refine aQ (aJ (bJ (eQ 1 (bD g.t.h (bW hr (Qm (p0:=(s1.2.1,s1.d.1)) g r7 r8) ?_)))));rintro M hr _ w9 ⟨a9,c9,R,S,m5,rfl,e3,g,r9,b5⟩;refine aZ (.agg #[vS R M.2 S]) g.f2 λb7 g=>cX ?_;have g:=g.f5.t;refine sW (cP 3 ?_);exact dX (zL b4 hr g.f1.f4.f4.f3.f4)
 refine eE ?_;exact dY (B rfl (zL b0 hr g.f4.f4.f4.f4.f4))
def GA(N:Nat)(p0:Int):Tk:=
 (if(decide (p0>=97))then(some (decide (p0<=122))) else(some false):Tk).bind λa=>some a
theorem VN{p0:Int}{r:Bool}(g:St m (O) w)(hr:GA N p0=some r):Calls prog 102 #[.int .u8 p0] w λe w'=>∃m',iL m m' e (vB r) (O) w':=by
 refine bH g func102 rfl ntmps102 λq=>oA (iY 7 hr (λb L' w'=>∃a,L'=[(2,vB b)]/\m.le a/\St a (O) w') ?_ ?_)
 .rintro b hr _ c ⟨a,rfl,q,g⟩;obtain rfl:=sI hr;exact aI (pK (zA g))
 intro b hr K;refine cW 3 5 hr ?_ ?_<;>intro A hr
 .exact bG 4 (K hr (zA g))
 exact bG 4 (K hr (zA g))
def CU(N:Nat)(p0:Int):Tk:=
 ((GA N p0).bind λy1=>if y1 then(some true) else(if(decide (p0>=48))then(if(decide (p0<=57))then(some true) else(some (p0==95))) else(some (p0==95))):Tk).bind λa=>some a
theorem VU{p0:Int}{r:Bool}(g:St m (O) w)(hr:CU N p0=some r):Calls prog 101 #[.int .u8 p0] w λe w'=>∃m',iL m m' e (vB r) (O) w':=by
 refine bH g func101 rfl ntmps101 λq=>oA (iY 15 hr (λc L' w'=>∃a,L'=[(2,vB c)]/\m.le a/\St a (O) w') ?_ ?_)
 .rintro c hr _ b ⟨a,rfl,q,g⟩;obtain rfl:=sI hr;exact aI (pK (zA g))
 intro c hr K;refine iH 1 hr (VN g) ?_;rintro y1 hr _ f ⟨b,rfl,d,g⟩;have q:=q.t d;refine cW 1 5 hr ?_ ?_<;>intro A hr
 .exact bG 12 (K hr (zA g))
 refine cW 3 8 hr ?_ ?_<;>intro A hr
 .refine cW 5 13 hr ?_ ?_<;>intro A hr
  .exact bG 4 (K hr (zA g))
  exact bG 4 (K hr (zA g))
 exact bG 9 (K hr (zA g))
def LE(N:Nat)(p0:BA)(s1:yO):Option (yO⊕iX⊕Bool):=
 if(decide (s1.2.2<(ByteArray.size p0:Int)))then(((lH p0 s1.2.2).bind λa=>if((a.toNat:Int)==47)then(if(s1.2.1==0)then(some (.inr (.inr (.inr (false))))) else(some (.inl (wI (s1.1+1),0)))) else(((lH p0 s1.2.2).bind λa=>(CU N (a.toNat:Int)).bind λy1=>if y1 then(some true) else((lH p0 s1.2.2).bind λa=>some ((a.toNat:Int)==46)):Tk).bind λa=>if a then(some (.inl (s1.1,wI (s1.2.1+1)))) else(some (.inr (.inr (.inr (false)))))):Option (iX⊕yO⊕iX⊕Bool)).bind λa=>(match a with| .inl o2=>if(decide (o2.2>24))then(some (.inr (.inr (false)))) else(some (.inl (o2.1,o2.2,wI (s1.2.2+1))))| .inr z=>some z)) else(some (.inr (.inl (s1.1,s1.2.1))))
def CW(N:Nat)(p0:BA):Tk:=
 if(decide ((ByteArray.size p0:Int)>80))then(some false) else((aC (LE N p0) N (1,0,0)).bind λa=>(match a with| .inl a=>(if(decide (a.2>0))then(some (decide (a.1<=8))) else(some false):Tk).bind λo4=>some o4| .inr (z)=>some z))
theorem VY{p0:BA}{r:Bool}(g:St m (O) w)(hr:CW N p0=some r):Calls prog 67 #[vT p0] w λe w'=>∃m',iL m m' e (vB r) (O) w':=by
 refine bH g func67 rfl ntmps67 λq=>bK (cG (bV hr ?_ ?_))<;>intro A hr
 .cases hr;exact eD (zA g)
 refine aQ (aJ (bK (bJ ?_)));have⟨l,hr,o⟩:=aM hr;refine eS (.exit 0) (λL' w'=>∃(c:iX),∃f,(.inl c)=l/\L'=[(3,vI c.1),(4,vI c.2)]/\m.le f/\St f (O) w') ?_ ?_
 .rintro _ b ⟨c,f,rfl,rfl,q,g⟩;have hr:=o;refine eY (aD (iY 7 hr (λo4 L' w'=>∃a,L'=[(2,vB o4)]/\m.le a/\St a (O) w') ?_ ?_))
  .rintro o4 hr _ h ⟨a,rfl,q,g⟩;obtain rfl:=sI hr;exact aI (pK (zA g))
  intro o4 hr K;refine cW 3 41 hr ?_ ?_<;>intro A hr
  .exact bG 4 (K hr (zA g))
  exact bG 4 (K hr (zA g))
 intro n;refine eF (λp L' w'=>∃(s1:yO),∃b,aC (LE N p0) p s1=some l/\L'=[(0,vT p0),(3,vI s1.1),(4,vI s1.2.1),(5,vI s1.d)]/\m.le b/\St b (O) w') N ⟨(1,0,0),m,hr,rfl,q,g⟩ ?_;rintro p _ G ⟨s1,b,hL,rfl,q,g⟩;obtain⟨p,F,rfl,hr,u,a⟩:=eH hL;refine aJ (bV hr ?_ ?_)<;>intro A hr
 .refine aQ (aJ (bJ (aJ ?_)));have⟨B,hr,v⟩:=aM hr;refine eS .normal (λL' w'=>∃(o2:iX),∃h,(.inl o2:iX⊕yO⊕iX⊕Bool)=B/\L'=[(0,vT p0),(3,vI o2.1),(4,vI o2.2),(5,vI s1.d)]/\m.le h/\St h (O) w') ?_ ?_
  .rintro _ k ⟨o2,h,rfl,rfl,q,g⟩;have hr:=v;refine aV (bV hr ?_ ?_)<;>intro A hr
   .refine bK (aT (cF (bL ?_)));have ho:=a _ (sI hr);subst ho;have hr:=o;cases hr;exact mH (zA g)
   refine lP (cP 3 ?_);exact dX (zL u hr g)
  intro s;refine bJ (aR 2 (mP 18 hr λD hr=>(cV hr ?_ ?_)))<;>intro A hr
  .refine aJ (bV hr ?_ ?_)<;>intro A hr
   .refine bK (aT (bL (cF ?_)));cases hr;have hr:=v;refine bL (cF (bL ?_));have ho:=a _ (sI hr);subst ho;have hr:=o;cases hr;exact mH (zA g)
   refine aQ (cP 4 (iU ?_));have x:=jE hr;exact xE (s _ _ (zA g))
  refine aD (iY 11 hr (λy L' w'=>∃k,L'=[(0,vT p0),(3,vI s1.1),(4,vI s1.2.1),(5,vI s1.d),(24,vB y)]/\m.le k/\St k (O) w') ?_ ?_)
  .rintro y hr _ z ⟨k,rfl,q,g⟩;refine aI (aO hr ?_ ?_)<;>intro A hr
   .refine cP 3 (iU ?_);have x:=jE hr;exact xE (s _ _ (zA g))
   refine bK (aT (cF ?_));cases hr;have hr:=v;refine bL (cF (bL ?_));have ho:=a _ (sI hr);subst ho;have hr:=o;cases hr;exact mH (zA g)
  intro y hr K;refine aX 2 (mP 27 hr λM hr=>bW hr (VU g) ?_);rintro y1 hr _ H ⟨z,rfl,x,g⟩;refine cW 1 29 hr ?_ ?_<;>intro A hr
  .exact bG 6 (K hr (zA g))
  exact aX 2 (mP 32 hr λE hr=>bG 3 (K hr (zA g)))
 refine eE ?_;exact dY (n _ _ (zL a hr g))
def VS(N:Nat)(p0:Tr)(s1:Int):JP:=
 if(decide (s1<(List.length p0:Int)))then((bC p0 s1).bind λa=>(CW N a.1).bind λy1=>if(!y1)then(some (.inr (.inr (6)))) else((if(decide (s1>0))then((bC p0 (wI (s1-1))).bind λb=>some (a.1.toList==b.1.toList)) else(some false):Tk).bind λo2=>if o2 then(some (.inr (.inr (10)))) else((if(decide (s1>0))then((bC p0 (wI (s1-1))).bind λb=>some (Op.bytesLess a.1.toList b.1.toList)) else(some false):Tk).bind λb=>if b then(some (.inr (.inr (6)))) else(if(decide ((ByteArray.size a.2:Int)>16384))then(some (.inr (.inr (2)))) else(some (.inl (wI (s1+1)))))))) else(some (.inr (.inl ())))
def CV(N:Nat)(p0:Tr):Td:=
 if(decide ((List.length p0:Int)>64))then(some 2) else((aC (VS N p0) N 0).bind λa=>(match a with| .inl a=>some 0| .inr (z)=>some z))
theorem KT{p0:Tr}{r:Int}(g:St m (O) w)(d:RepS C1 m a1 c1 p0)(hr:CV N p0=some r):Calls prog 26 #[.agg #[vS a1 p0 c1]] w λe w'=>∃m',iL m m' e (vI r) (O) w':=by
 refine bH g func26 rfl ntmps26 λq=>aD (eC 1 28 (.agg #[vS a1 p0 c1]) g λl Z w1 E g a=>eI (iG 1 g a (cV hr ?_ ?_)))<;>intro A hr
 .exact eD (zH hr g)
 refine aQ (aJ (iG 1 g a (mA ?_)));have⟨v,hr,u⟩:=aM hr;refine eS (.exit 0) (λL' w'=>∃(o1:Unit),∃D,(.inl o1)=v/\L'=[]/\m.le D/\St D (O) w') ?_ ?_
 .rintro _ c ⟨o1,D,rfl,rfl,q,g⟩;have hr:=u;exact eY (eD (zH hr g))
 intro z;refine eF (λB L' w'=>∃(s1:Int),∃p,aC (VS N p0) B s1=some v/\L'=[(1,vP l 0),(10,vS a1 p0 c1),(11,vI (p0.length:Int)),(12,vI s1)]/\m.le p/\St p (O) w'/\MRow p l 0 [vS a1 p0 c1]/\RepS C1 p a1 c1 p0) N ⟨0,Z,hr,rfl,q.t E,g,a,d.o E⟩ ?_;rintro B _ w3 ⟨s1,p,hL,rfl,q,g,a,d⟩;obtain⟨B,a5,rfl,hr,G,f⟩:=eH hL;refine cG (aO hr ?_ ?_)<;>intro A hr
 .refine aQ (aJ (bJ (aR 1 (iP d hr ?_))));rintro c hr b2 f1 a3 ⟨_,_,rfl,rfl,rfl⟩ U;refine dU g U (bX 4 95 (.agg (V3 eB eB)) g λn w4 g=>aX 1 (aZ (.agg (V2 c)) g λw5 g=>aI (aJ (aD (aS 1 g.h (bW hr (VY g) ?_))))));rintro y1 hr _ w6 ⟨s,rfl,F,g⟩;have q:=q.t F;have a:=a.o F;have d:=d.o F;refine cV hr ?_ ?_<;>intro A hr
  .refine bK (aT (bL (cF (bL ?_))));have ho:=f _ (sI hr);subst ho;have hr:=u;exact mH (zH hr g.t)
  refine aQ (aJ (aJ ?_));have⟨o2,hr,J⟩:=aM hr;refine eS .normal (λL' w'=>∃k,L'=[(1,vP l 0),(3,vI s1),(4,vP n 0),(10,vS a1 p0 c1),(11,vI (p0.length:Int)),(12,vI s1),(34,vB o2)]/\m.le k/\St k (kB n (V2 c) 95::O) w'/\MRow k l 0 [vS a1 p0 c1]/\RepS C1 k a1 c1 p0) ?_ ?_
  .have hr:=J;rintro _ w7 ⟨k,rfl,q,g,a,d⟩;refine aV (aO hr ?_ ?_)<;>intro A hr
   .refine bK (aT (bL (cF (bL ?_))));have ho:=f _ (sI hr);subst ho;have hr:=u;exact mH (zH hr g.t)
   refine aQ (aJ (aJ (cE .normal hr (λM L' w'=>∃o,L'=[(1,vP l 0),(4,vP n 0),(10,vS a1 p0 c1),(11,vI (p0.length:Int)),(12,vI s1),(48,vB M)]/\m.le o/\St o (kB n (V2 c) 95::O) w'/\MRow o l 0 [vS a1 p0 c1]/\RepS C1 o a1 c1 p0) ?_ ?_)))
   .rintro M hr _ H ⟨o,rfl,q,g,a,d⟩;refine aV (aO hr ?_ ?_)<;>intro A hr
    .refine bK (aT (bL (cF (bL ?_))));have ho:=f _ (sI hr);subst ho;have hr:=u;exact mH (zH hr g.t)
    refine aQ (aD (aS 1 g.h (cV hr ?_ ?_)))<;>intro A hr
    .refine bK (aT (cF (bL ?_)));have ho:=f _ (sI hr);subst ho;have hr:=u;exact mH (zH hr g.t)
    refine lP (cP 2 ?_);exact dX (zL G hr g.t)
   intro M hr K;refine cM [(14,λw'=>Inv k w'/\Piece.holds k w' (kB n (V2 c) 95)/\True)] kr g λa6 _ g=> ?_;have H:=k.le_refl;refine⟨aL (aF g H),aU 3 [0,1,2] ?_⟩;rcases eX (decide (s1>0)) with A|A
   .rw[jB A] at hr;refine mO (t:=37) (b:=true) (decide (s1>0)) kr A (aN 3 (bZ 4 cH (aN 5 (cN 6 a (aU 2 [7,8] ?_)))));have⟨R,Y,hr⟩:=aM hr;refine nP (t:=26) (e:=95) (x:=(.tmp 41)) (y:=(.tmp 43)) 9 44 C1 kr rfl kr (.head _) (bU (bU (iQ (bU (bU (iQ (bU lR))))))) (ev (vS a1 p0 c1)) (ev (vI (wI (s1-1)))) kr d Y ?_;rintro b5 S a4 ⟨_,_,rfl,rfl,rfl⟩ V;exact aN 10 (cN 11 V (aU 2 [12,13] (bO kr (xE (K hr (zA g))))))
   rw[jA (not_true A)] at hr;exact mO (t:=37) (b:=false) (decide (s1>0)) kr A (aU 11 [3,4,5,6,7,8,9,10,11,12,13] (bO kr (xE (K hr (zA g)))))
  intro K;refine cM [(14,λw'=>Inv s w'/\Piece.holds s w' (kB n (V2 c) 95)/\True)] kr g λw8 _ g=> ?_;have o:=s.le_refl;refine⟨aL (aF g o),aU 3 [0,1,2] ?_⟩;rcases eX (decide (s1>0)) with A|A
  .rw[jB A] at hr;refine mO (t:=23) (b:=true) (decide (s1>0)) kr A (aN 3 (bZ 4 cH (aN 5 (cN 6 a (aU 2 [7,8] ?_)))));have⟨H,S,hr⟩:=aM hr;refine nP (t:=26) (e:=95) (x:=(.tmp 27)) (y:=(.tmp 29)) 9 30 C1 kr rfl kr (.head _) (bU (bU (iQ (bU (bU (iQ (bU lR))))))) (ev (vS a1 p0 c1)) (ev (vI (wI (s1-1)))) kr d S ?_;rintro V M Y ⟨_,_,rfl,rfl,rfl⟩ R;exact aN 10 (cN 11 R (aU 2 [12,13] (bO kr (xE (K _ _ (zH hr g))))))
  rw[jA (not_true A)] at hr;exact mO (t:=23) (b:=false) (decide (s1>0)) kr A (aU 11 [3,4,5,6,7,8,9,10,11,12,13] (bO kr (xE (K _ _ (zH hr g)))))
 refine eE ?_;exact dY (z _ _ (zL f hr g))
def KZ(N:Nat)(p0:Tr)(p1:BA)(s1:Int):Option (Int⊕Unit⊕JF):=
 if(decide (s1<(List.length p0:Int)))then((bC p0 s1).bind λa=>if(a.1.toList==p1.toList)then(some (.inr (.inr ((a.2,true))))) else(some (.inl (wI (s1+1))))) else(some (.inr (.inl ())))
def vW(N:Nat)(p0:Tr)(p1:BA):Option JF:=
 (CV N p0).bind λy1=>if(y1 !=0)then(some ((⟨#[]⟩:BA),false)) else((aC (KZ N p0 p1) N 0).bind λa=>(match a with| .inl a=>some ((⟨#[]⟩:BA),false)| .inr (z)=>some z))
theorem FW{p0:Tr}{p1:BA}{r:JF}(g:St m (O) w)(f:RepS C1 m a1 c1 p0)(hr:vW N p0 p1=some r):Calls prog 103 #[.agg #[vS a1 p0 c1],vT p1] w λe w'=>∃m',iL m m' e (.tuple #[vT r.1,vB r.2]) (O) w':=by
 refine bH g func103 rfl ntmps103 λq=>aD (eC 2 28 (.agg #[vS a1 p0 c1]) g λB K M l g s=>eI (aD (dU g s (bW hr (KT g (f.o l)) ?_))));rintro y1 hr _ R ⟨y,rfl,n,g⟩;refine cV hr ?_ ?_<;>intro A hr
 .exact eD (zH hr g)
 refine aQ (aJ (iG 1 g (s.o n) (mA ?_)));have⟨d,hr,x⟩:=aM hr;refine eS (.exit 0) (λL' w'=>∃(z:Unit),∃p,(.inl z)=d/\L'=[]/\m.le p/\St p (O) w') ?_ ?_
 .rintro _ a ⟨z,p,rfl,rfl,q,g⟩;have hr:=x;exact eY (eD (zH hr g))
 intro k;refine eF (λo L' w'=>∃(s1:Int),∃a,aC (KZ N p0 p1) o s1=some d/\L'=[(1,vT p1),(12,vS a1 p0 c1),(13,vI (p0.length:Int)),(14,vI s1)]/\m.le a/\St a (O) w'/\RepS C1 a a1 c1 p0) N ⟨0,y,hr,rfl,(q.t l).t n,g,(f.o l).o n⟩ ?_;rintro o _ S ⟨s1,a,hL,rfl,q,g,f⟩;obtain⟨o,F,rfl,hr,u,c⟩:=eH hL;refine cG (aO hr ?_ ?_)<;>intro A hr
 .refine aQ (aJ (bJ (aD (iP f hr ?_))));rintro b hr G D E ⟨_,_,rfl,rfl,rfl⟩ v;refine dU g v (bX 7 95 (.agg (V3 eB eB)) g λH U g=>aZ (.agg (V2 b)) g λV g=>aI (aD (aS 1 g.h (cV hr ?_ ?_))))<;>intro A hr
  .refine aD (aS 1 g.h (aW (aT (cF (bL ?_)))));have ho:=c _ (sI hr);subst ho;have hr:=x;exact mH (zH hr g.t)
  refine lP (cP 2 ?_);exact dX (zL u hr g.t)
 refine eE ?_;exact dY (k _ _ (zL c hr g))
def QY(N:Nat)(p0:BA):Tk:=
 ((CW N p0).bind λy1=>if y1 then(if(decide ((ByteArray.size p0:Int)>4))then((pJ p0 (wI ((ByteArray.size p0:Int)-4)) (ByteArray.size p0:Int)).bind λs1=>some (s1.toList==(⟨#[46,115,114,99]⟩:BA).toList)) else(some false)) else(some false):Tk).bind λa=>some a
theorem Ox{p0:BA}{r:Bool}(g:St m (O) w)(hr:QY N p0=some r):Calls prog 104 #[vT p0] w λe w'=>∃m',iL m m' e (vB r) (O) w':=by
 refine bH g func104 rfl ntmps104 λq=>oA (iY 16 hr (λb L' w'=>∃a,L'=[(2,vB b)]/\m.le a/\St a (O) w') ?_ ?_)
 .rintro b hr _ c ⟨a,rfl,q,g⟩;obtain rfl:=sI hr;exact aI (pK (zA g))
 intro b hr K;refine iH 1 hr (VY g) ?_;rintro y1 hr _ k ⟨c,rfl,h,g⟩;have q:=q.t h;refine cW 1 5 hr ?_ ?_<;>intro A hr
 .refine cW 5 10 hr ?_ ?_<;>intro A hr
  .refine aX 4 ?_;have⟨s1,f,hr⟩:=aM hr;exact bS (sL (d:=15) (t:=9) (x:=(.tmp 11)) (lo:=(some (.tmp 14))) (hi:=none) kr rfl (ev (vT p0)) kr (.inr ⟨_,_,rfl,(ev (vI (wI ((p0.size:Int)-4))))⟩) (.inl ⟨rfl,rfl⟩) f (bG 3 (K hr (zA g))))
  exact bG 8 (K hr (zA g))
 exact bG 13 (K hr (zA g))
def CO(N:Nat)(p0:BA)(s2:Int):Option (Int⊕Int):=
 (if(decide (s2<(ByteArray.size p0:Int)))then((lH p0 s2).bind λa=>some ((a.toNat:Int) !=10)) else(some false):Tk).bind λo4=>if o4 then(some (.inl (wI (s2+1)))) else(some (.inr s2))
def FV(N:Nat)(p0:BA)(s1:Int):Option (Int⊕Int⊕Int):=
 if(decide (s1<(ByteArray.size p0:Int)))then(((lH p0 s1).bind λa=>if((a.toNat:Int)==32)then(some true) else((lH p0 s1).bind λa=>if((a.toNat:Int)==9)then(some true) else((lH p0 s1).bind λa=>if((a.toNat:Int)==10)then(some true) else((lH p0 s1).bind λa=>some ((a.toNat:Int)==13)))):Tk).bind λo2=>if o2 then(some (.inl (wI (s1+1)))) else((lH p0 s1).bind λa=>if((a.toNat:Int)==35)then((aC (CO N p0) N s1).bind λa=>some (.inl a)) else(some (.inr (.inr (s1)))))) else(some (.inr (.inl s1)))
def LS(N:Nat)(p0:BA)(p1:Int):Td:=
 (aC (FV N p0) N p1).bind λa=>(match a with| .inl a=>some a| .inr (z)=>some z)
theorem Cl{p0:BA}{p1:Int}{r:Int}(g:St m (O) w)(hr:LS N p0 p1=some r):Calls prog 172 #[vT p0,vI p1] w λe w'=>∃m',iL m m' e (vI r) (O) w':=by
 refine bH g func172 rfl ntmps172 λq=>cG (bJ ?_);have⟨n,hr,B⟩:=aM hr;refine eS (.exit 0) (λL' w'=>∃(l:Int),∃u,(.inl l)=n/\L'=[(1,vI l)]/\m.le u/\St u (O) w') ?_ ?_
 .rintro _ a ⟨l,u,rfl,rfl,q,g⟩;have hr:=B;obtain rfl:=sI hr;exact eY (eD (zA g))
 intro o;refine eF (λs L' w'=>∃(s1:Int),∃b,aC (FV N p0) s s1=some n/\L'=[(0,vT p0),(1,vI s1)]/\m.le b/\St b (O) w') N ⟨p1,m,hr,rfl,q,g⟩ ?_;rintro s _ H ⟨s1,b,hL,rfl,q,g⟩;obtain⟨s,F,rfl,hr,f,d⟩:=eH hL;refine aJ (bV hr ?_ ?_)<;>intro A hr
 .refine aQ (bJ (bJ (aD ?_)));have⟨o2,hr,J⟩:=aM hr;refine DS (j:=23) (λL' w'=>∃c,L'=[(0,vT p0),(1,vI s1),(10,vB o2)]/\m.le c/\St c (O) w') ?_ ?_
  .have hr:=J;rintro _ M ⟨c,rfl,q,g⟩;refine aI (aO hr ?_ ?_)<;>intro A hr
   .refine cP 3 (iU (iU ?_));exact dX (zL f hr g)
   refine aR 2 (mP 38 hr λD hr=>(cV hr ?_ ?_))<;>intro A hr
   .refine bJ (cE (.exit 3) hr (λa L' w'=>∃(x:Int),∃v,x=a/\L'=[(0,vT p0),(1,vI x)]/\m.le v/\St v (O) w') ?_ ?_)
    .rintro a hr _ h ⟨x,v,rfl,rfl,q,g⟩;exact rV (iU (iU (dX (zL f hr g))))
    intro a hr p;refine eF (λt L' w'=>∃(s2:Int),∃h,aC (CO N p0) t s2=some a/\L'=[(0,vT p0),(1,vI s2)]/\m.le h/\St h (O) w') N ⟨s1,c,hr,rfl,q,g⟩ ?_;rintro t _ R ⟨s2,h,hL,rfl,q,g⟩;obtain⟨t,G,rfl,hr,z,y⟩:=eH hL;refine aJ (aD (iY 10 hr (λo4 L' w'=>∃k,L'=[(0,vT p0),(1,vI s2),(49,vB o4)]/\m.le k/\St k (O) w') ?_ ?_))
    .rintro o4 hr _ E ⟨k,rfl,q,g⟩;refine aI (aO hr ?_ ?_)<;>intro A hr
     .refine aQ (bJ (cP 3 (iU ?_)));exact dX (zL z hr g)
     refine eE ?_;exact dY (p rfl (zL y hr g))
    intro o4 hr K;refine cW 5 44 hr ?_ ?_<;>intro A hr
    .exact aX 2 (mP 47 hr λE hr=>bG 2 (K hr (zA g)))
    exact bG 5 (K hr (zA g))
   refine bK (aT (cF (cF ?_)));have ho:=d _ (sI hr);subst ho;have hr:=B;obtain rfl:=sI hr;exact mH (zA g)
  intro K;refine aX 2 (mP 13 hr λa hr=>cW 2 15 hr ?_ ?_)<;>intro A hr
  .cases hr;exact bG 18 (K _ _ (zA g))
  refine aX 2 (mP 18 hr λh hr=>cW 3 21 hr ?_ ?_)<;>intro A hr
  .cases hr;exact bG 12 (K _ _ (zA g))
  refine aX 2 (mP 24 hr λk hr=>cW 3 27 hr ?_ ?_)<;>intro A hr
  .cases hr;exact bG 6 (K _ _ (zA g))
  refine aX 2 (mP 30 hr λp hr=>aX 3 ?_);cases hr;exact Mu (K _ _ (zA g))
 refine eE ?_;exact dY (o _ _ (zL d hr g))
variable {c3 c4 c5:Nat} {a3 a4 a5:Option Addr}
def FT(N:Nat)(p0:BA)(s1:Int):Option (Int⊕Int):=
 (if(decide (s1<(ByteArray.size p0:Int)))then((lH p0 s1).bind λa=>(CU N (a.toNat:Int)).bind λa=>some a) else(some false):Tk).bind λo2=>if o2 then(some (.inl (wI (s1+1)))) else(some (.inr s1))
def KX(N:Nat)(p0:BA)(a:iX):Option (iX⊕iX):=
 (if(decide (a.1<(ByteArray.size p0:Int)))then((lH p0 a.1).bind λb=>if(decide ((b.toNat:Int)>=48))then((lH p0 a.1).bind λb=>some (decide ((b.toNat:Int)<=57))) else(some false)) else(some false):Tk).bind λb=>if b then((if(decide (a.2<=9007199254740992))then((lH p0 a.1).bind λb=>some (wI ((wI (a.2*10))+(wI (IntKind.wrap .u8 ((b.toNat:Int)-48)))))) else(some a.2):Td).bind λb=>some (.inl (wI (a.1+1),b))) else(some (.inr a))
def CM(N:Nat)(p0:BA)(a:Int):Option (Int⊕Int):=
 (if(decide (a<(ByteArray.size p0:Int)))then((lH p0 a).bind λb=>if(decide ((b.toNat:Int)>=32))then((lH p0 a).bind λb=>if(decide ((b.toNat:Int)<=126))then((lH p0 a).bind λb=>some ((b.toNat:Int) !=34)) else(some false)) else(some false)) else(some false):Tk).bind λb=>if b then(some (.inl (wI (a+1)))) else(some (.inr a))
def RA(N:Nat)(p0:BA)(p1:Int)(a:Int):Option (Int⊕Unit⊕JE):=
 if(decide (a<(List.length ([(59:UInt8),(44:UInt8),(40:UInt8),(41:UInt8),(43:UInt8),(45:UInt8),(42:UInt8),(47:UInt8),(37:UInt8),(60:UInt8),(61:UInt8)]):Int)))then((bC ([(59:UInt8),(44:UInt8),(40:UInt8),(41:UInt8),(43:UInt8),(45:UInt8),(42:UInt8),(47:UInt8),(37:UInt8),(60:UInt8),(61:UInt8)]) a).bind λb=>(lH p0 p1).bind λc=>if((c.toNat:Int)==(b.toNat:Int))then((pJ p0 p1 (wI (p1+1))).bind λb=>some (.inr (.inr (((4,b,0,p1),wI (p1+1),0))))) else(some (.inl (wI (a+1))))) else(some (.inr (.inl ())))
def RY(N:Nat)(p0:BA)(p1:Int):Option JE:=
 (lH p0 p1).bind λa=>(GA N (a.toNat:Int)).bind λy1=>if y1 then((aC (FT N p0) N p1).bind λb=>if(decide ((wI (b-p1))>24))then(some ((0,(⟨#[]⟩:BA),0,0),0,2)) else((pJ p0 p1 b).bind λs2=>some ((1,s2,0,p1),b,0))) else((if(decide ((a.toNat:Int)>=48))then(some (decide ((a.toNat:Int)<=57))) else(some false):Tk).bind λb=>if b then((aC (KX N p0) N (p1,0)).bind λo4=>if(decide (o4.2>9007199254740992))then(some ((0,(⟨#[]⟩:BA),0,0),0,3)) else(some ((2,(⟨#[]⟩:BA),o4.2,p1),o4.1,0))) else(if((a.toNat:Int)==34)then((aC (CM N p0) N (wI (p1+1))).bind λa=>(if(a==(ByteArray.size p0:Int))then(some true) else((lH p0 a).bind λb=>some ((b.toNat:Int) !=34)):Tk).bind λb=>if b then(some ((0,(⟨#[]⟩:BA),0,0),0,9)) else((pJ p0 (wI (p1+1)) a).bind λb=>some ((3,b,0,p1),wI (a+1),0))) else(((lH p0 p1).bind λa=>if((a.toNat:Int)==61)then(if(decide ((wI (p1+1))<(ByteArray.size p0:Int)))then((lH p0 (wI (p1+1))).bind λa=>some ((a.toNat:Int)==61)) else(some false)) else(some false):Tk).bind λa=>if a then(some ((4,(⟨#[61,61]⟩:BA),0,p1),wI (p1+2),0)) else((aC (RA N p0 p1) N 0).bind λa=>(match a with| .inl a=>some ((0,(⟨#[]⟩:BA),0,0),0,9)| .inr (z)=>some z)))))
theorem Px{p0:BA}{p1:Int}{r:JE}(g:St m (O) w)(hr:RY N p0 p1=some r):Calls prog 173 #[vT p0,vI p1] w λe w'=>∃m',iL m m' e (.tuple #[.agg (V4 r.1),vI r.2.1,vI r.d]) (O) w':=by
 refine bH g func173 rfl ntmps173 λq=>aD (bX 4 189 (.agg iS) g λa w1 g=>aW (cG (aR 2 (mP 14 hr λp hr=>mA (bA 1 hr (VN g) ?_)))));rintro y1 hr _ w2 ⟨G,rfl,V,g⟩;have q:=q.t V;refine cV hr ?_ ?_<;>intro A hr
 .refine aJ (bJ (cE (.exit 1) hr (λc L' w'=>∃(b:Int),∃f,b=c/\L'=[(0,vT p0),(1,vI p1),(4,vP a 0),(5,vI b)]/\m.le f/\St f (kB a iS 189::O) w') ?_ ?_))
  .rintro c hr _ l ⟨b,f,rfl,rfl,q,g⟩;refine eY (aJ (bV hr ?_ ?_))<;>intro A hr
   .exact aD (bD g.h (aZ (.agg iS) g λk g=>aW (aT (bL (cF (bL (lE g.h (zH hr g.t))))))))
   refine aQ (aR 3 ?_);have⟨s2,k,hr⟩:=aM hr;exact bS (sL (d:=38) (t:=9) (x:=(.tmp 35)) (lo:=(some (.tmp 36))) (hi:=(some (.tmp 37))) kr rfl (ev (vT p0)) kr (.inr ⟨_,_,rfl,(ev (vI p1))⟩) (.inr ⟨_,_,rfl,(ev (vI b))⟩) k (aX 3 (aZ (.agg (V5 1 s2 0 p1)) g λn g=>aW (aT (cF (bL (lE g.h (zH hr g.t))))))))
  intro c hr l;refine eF (λn L' w'=>∃(s1:Int),∃o,aC (FT N p0) n s1=some c/\L'=[(0,vT p0),(1,vI p1),(4,vP a 0),(5,vI s1)]/\m.le o/\St o (kB a iS 189::O) w') N ⟨p1,G,hr,rfl,q,g⟩ ?_;rintro n _ D ⟨s1,o,hL,rfl,q,g⟩;obtain⟨n,B,rfl,hr,u,s⟩:=eH hL;refine aJ (aD (iY 10 hr (λo2 L' w'=>∃k,L'=[(0,vT p0),(1,vI p1),(4,vP a 0),(5,vI s1),(27,vB o2)]/\m.le k/\St k (kB a iS 189::O) w') ?_ ?_))
  .rintro o2 hr _ v ⟨k,rfl,q,g⟩;refine aI (aO hr ?_ ?_)<;>intro A hr
   .refine aQ (bJ (cP 3 (iU ?_)));exact dX (zL u hr g)
   refine eE ?_;exact dY (l rfl (zL s hr g))
  intro o2 hr K;refine cW 5 22 hr ?_ ?_<;>intro A hr
  .refine aX 2 (mP 25 hr λF hr=>bW hr (VU g) ?_);rintro z hr _ E ⟨y,rfl,v,g⟩;exact bG 1 (K hr (zA g))
  exact bG 5 (K hr (zA g))
 refine aD ?_;have⟨o3,hr,J⟩:=aM hr;refine DS (j:=7) (λL' w'=>∃o,L'=[(0,vT p0),(1,vI p1),(4,vP a 0),(5,vI p1),(7,.int .u8 (p.toNat:Int)),(42,vB o3)]/\m.le o/\St o (kB a iS 189::O) w') ?_ ?_
 .have hr:=J;rintro _ w9 ⟨o,rfl,q,g⟩;refine aI (aO hr ?_ ?_)<;>intro A hr
  .refine cG (bJ (cE (.exit 3) hr (λc L' w'=>∃(o4:iX),∃n,o4=c/\L'=[(1,vI p1),(4,vP a 0),(5,vI o4.1),(8,vI o4.2)]/\m.le n/\St n (kB a iS 189::O) w') ?_ ?_))
   .rintro c hr _ b ⟨o4,n,rfl,rfl,q,g⟩;refine eY (aJ (bV hr ?_ ?_))<;>intro A hr
    .exact aD (bD g.h (aZ (.agg iS) g λf g=>aW (aT (bL (cF (bL (lE g.h (zH hr g.t))))))))
    exact aQ (aR 4 (aZ (.agg (V5 2 eB o4.2 p1)) g λf g=>aW (aT (cF (bL (lE g.h (zH hr g.t)))))))
   intro c hr s;refine eF (λu L' w'=>∃(b:iX),∃k,aC (KX N p0) u b=some c/\L'=[(0,vT p0),(1,vI p1),(4,vP a 0),(5,vI b.1),(8,vI b.2)]/\m.le k/\St k (kB a iS 189::O) w') N ⟨(p1,0),o,hr,rfl,q,g⟩ ?_;rintro u _ H ⟨b,k,hL,rfl,q,g⟩;obtain⟨u,F,rfl,hr,B,z⟩:=eH hL;refine aJ (aD (iY 16 hr (λD L' w'=>∃l,L'=[(0,vT p0),(1,vI p1),(4,vP a 0),(5,vI b.1),(8,vI b.2),(64,vB D)]/\m.le l/\St l (kB a iS 189::O) w') ?_ ?_))
   .rintro D hr _ M ⟨l,rfl,q,g⟩;refine aI (aO hr ?_ ?_)<;>intro A hr
    .refine aQ (bJ (aJ (bK (cE .normal hr (λv L' w'=>∃f,L'=[(0,vT p0),(1,vI p1),(4,vP a 0),(5,vI b.1),(8,vI v)]/\m.le f/\St f (kB a iS 189::O) w') ?_ ?_))))
     .rintro v hr _ y ⟨f,rfl,q,g⟩;exact aV (cP 3 (iU (dX (zL B hr g))))
     intro v hr y;refine aO hr ?_ ?_<;>intro A hr
     .exact eQ 4 (mP 71 hr λE hr=>eJ 4 (xE (y hr (zA g))))
     exact iD (y hr (zA g))
    refine eE ?_;exact dY (s rfl (zL z hr g))
   intro D hr K;refine cW 5 53 hr ?_ ?_<;>intro A hr
   .refine aX 2 (mP 56 hr λf hr=>cW 3 59 hr ?_ ?_)<;>intro A hr
    .exact aX 2 (mP 62 hr λv hr=>bG 2 (K hr (zA g)))
    exact bG 5 (K hr (zA g))
   exact bG 11 (K hr (zA g))
  refine bV hr ?_ ?_<;>intro A hr
  .refine cG (bJ (cE (.exit 5) hr (λk L' w'=>∃(c:Int),∃l,c=k/\L'=[(0,vT p0),(1,vI p1),(4,vP a 0),(5,vI c)]/\m.le l/\St l (kB a iS 189::O) w') ?_ ?_))
   .rintro k hr _ u ⟨c,l,rfl,rfl,q,g⟩;refine eY (aJ (aD (iY 10 hr (λn L' w'=>∃b,L'=[(0,vT p0),(1,vI p1),(4,vP a 0),(5,vI c),(122,vB n)]/\m.le b/\St b (kB a iS 189::O) w') ?_ ?_)))
    .rintro n hr _ v ⟨b,rfl,q,g⟩;refine aI (aO hr ?_ ?_)<;>intro A hr
     .exact aD (bD g.h (aZ (.agg iS) g λf g=>aW (aT (bL (cF (bL (lE g.h (zH hr g.t))))))))
     refine aQ (aR 4 ?_);have⟨s,f,hr⟩:=aM hr;exact bS (sL (d:=128) (t:=9) (x:=(.tmp 124)) (lo:=(some (.tmp 126))) (hi:=(some (.tmp 127))) kr rfl (ev (vT p0)) kr (.inr ⟨_,_,rfl,(ev (vI (wI (p1+1))))⟩) (.inr ⟨_,_,rfl,(ev (vI c))⟩) f (aX 4 (aZ (.agg (V5 3 s 0 p1)) g λy g=>aW (aT (cF (bL (lE g.h (zH hr g.t))))))))
    intro n hr K;refine cW 5 117 hr ?_ ?_<;>intro A hr
    .exact bG 5 (K hr (zA g))
    exact aX 2 (mP 120 hr λf hr=>bG 2 (K hr (zA g)))
   intro k hr s;refine eF (λu L' w'=>∃(f:Int),∃b,aC (CM N p0) u f=some k/\L'=[(0,vT p0),(1,vI p1),(4,vP a 0),(5,vI f)]/\m.le b/\St b (kB a iS 189::O) w') N ⟨wI (p1+1),o,hr,rfl,q,g⟩ ?_;rintro u _ H ⟨f,b,hL,rfl,q,g⟩;obtain⟨u,F,rfl,hr,y,v⟩:=eH hL;refine aJ (aD (iY 22 hr (λz L' w'=>∃n,L'=[(0,vT p0),(1,vI p1),(4,vP a 0),(5,vI f),(110,vB z)]/\m.le n/\St n (kB a iS 189::O) w') ?_ ?_))
   .rintro z hr _ B ⟨n,rfl,q,g⟩;refine aI (aO hr ?_ ?_)<;>intro A hr
    .refine aQ (bJ (cP 3 (iU ?_)));exact dX (zL y hr g)
    refine eE ?_;exact dY (s rfl (zL v hr g))
   intro z hr K;refine cW 5 93 hr ?_ ?_<;>intro A hr
   .refine aX 2 (mP 96 hr λB hr=>cW 3 99 hr ?_ ?_)<;>intro A hr
    .refine aX 2 (mP 102 hr λD hr=>cW 3 105 hr ?_ ?_)<;>intro A hr
     .exact aX 2 (mP 108 hr λE hr=>bG 2 (K hr (zA g)))
     exact bG 5 (K hr (zA g))
    exact bG 11 (K hr (zA g))
   exact bG 17 (K hr (zA g))
  refine lP (aJ (aD (iY 18 hr (λn L' w'=>∃c,L'=[(0,vT p0),(1,vI p1),(4,vP a 0),(150,vB n)]/\m.le c/\St c (kB a iS 189::O) w') ?_ ?_)))
  .rintro n hr _ a8 ⟨c,rfl,q,g⟩;refine aI (aO hr ?_ ?_)<;>intro A hr
   .exact aR 4 (aZ (.agg (V5 4 bt 0 p1)) g λb g=>aW (aT (bL (lE g.h (zH hr g.t)))))
   refine aQ (aJ (aD (bS (qH (d:=155) (t:=185) (e:=5) (len:=11) (parts:= #[(0,(.const (.int .u8 59))),(1,(.const (.int .u8 44))),(2,(.const (.int .u8 40))),(3,(.const (.int .u8 41))),(4,(.const (.int .u8 43))),(5,(.const (.int .u8 45))),(6,(.const (.int .u8 42))),(7,(.const (.int .u8 47))),(8,(.const (.int .u8 37))),(9,(.const (.int .u8 60))),(10,(.const (.int .u8 61)))]) cU8 (xs:=[(59:UInt8),(44:UInt8),(40:UInt8),(41:UInt8),(43:UInt8),(45:UInt8),(42:UInt8),(47:UInt8),(37:UInt8),(60:UInt8),(61:UInt8)]) [.int .u8 59,.int .u8 44,.int .u8 40,.int .u8 41,.int .u8 43,.int .u8 45,.int .u8 42,.int .u8 47,.int .u8 37,.int .u8 60,.int .u8 61] kr rfl (λ_=>qI kr _) rfl rfl g ⟨[.int .u8 59],_,rfl,rfl,⟨[.int .u8 44],_,rfl,rfl,⟨[.int .u8 40],_,rfl,rfl,⟨[.int .u8 41],_,rfl,rfl,⟨[.int .u8 43],_,rfl,rfl,⟨[.int .u8 45],_,rfl,rfl,⟨[.int .u8 42],_,rfl,rfl,⟨[.int .u8 47],_,rfl,rfl,⟨[.int .u8 37],_,rfl,rfl,⟨[.int .u8 60],_,rfl,rfl,⟨[.int .u8 61],_,rfl,rfl,rfl⟩⟩⟩⟩⟩⟩⟩⟩⟩⟩⟩ λD R a9 Y g z=>bS (Sf (d:=156) (t:=185) (e:=5) (x:=(.tmp 155)) kr rfl (ev (vS (aP D) ([(59:UInt8),(44:UInt8),(40:UInt8),(41:UInt8),(43:UInt8),(45:UInt8),(42:UInt8),(47:UInt8),(37:UInt8),(60:UInt8),(61:UInt8)]) 11)) kr g λb0 g=>mA ?_)))));have⟨s,hr,M⟩:=aM hr
   refine eS (.exit 7) (λL' w'=>∃(B:Unit),∃f,(.inl B)=s/\L'=[(4,vP a 0)]/\m.le f/\St f (kB a iS 189::O) w') ?_ ?_
   .rintro _ b ⟨B,f,rfl,rfl,q,g⟩;have hr:=M;exact eY (aD (bD g.h (aZ (.agg iS) g λk g=>aW (aT (lE g.h (zH hr g.t))))))
   intro v;refine eF (λy L' w'=>∃(k:Int),∃b,aC (RA N p0 p1) y k=some s/\L'=[(0,vT p0),(1,vI p1),(4,vP a 0),(156,vS (aP D) ([(59:UInt8),(44:UInt8),(40:UInt8),(41:UInt8),(43:UInt8),(45:UInt8),(42:UInt8),(47:UInt8),(37:UInt8),(60:UInt8),(61:UInt8)]) 11),(157,vI (List.length ([(59:UInt8),(44:UInt8),(40:UInt8),(41:UInt8),(43:UInt8),(45:UInt8),(42:UInt8),(47:UInt8),(37:UInt8),(60:UInt8),(61:UInt8)]):Int)),(158,vI k)]/\m.le b/\St b (kB a iS 189::O) w'/\RepS cU8 b (aP D) 11 ([(59:UInt8),(44:UInt8),(40:UInt8),(41:UInt8),(43:UInt8),(45:UInt8),(42:UInt8),(47:UInt8),(37:UInt8),(60:UInt8),(61:UInt8)])) N ⟨0,R,hr,rfl,q.t Y,g,z⟩ ?_;rintro y _ b4 ⟨k,b,hL,rfl,q,g,z⟩;obtain⟨y,a7,rfl,hr,E,l⟩:=eH hL;refine cG (aO hr ?_ ?_)<;>intro A hr
   .refine aQ (aJ (bJ (aD (iP z hr ?_))));rintro u hr b3 Z a6 rfl H;refine dU g H (aW (aR 2 (mP 164 hr λU hr=>(cV hr ?_ ?_))))<;>intro A hr
    .refine aR 4 ?_;have⟨S,F,hr⟩:=aM hr;refine bS (sL (d:=171) (t:=9) (x:=(.tmp 167)) (lo:=(some (.tmp 168))) (hi:=(some (.tmp 170))) kr rfl (ev (vT p0)) kr (.inr ⟨_,_,rfl,(ev (vI p1))⟩) (.inr ⟨_,_,rfl,(ev (vI (wI (p1+1))))⟩) F (aX 4 (aZ (.agg (V5 4 S 0 p1)) g λb5 g=>aW (aT (cF (bL ?_))))));have ho:=l _ (sI hr);subst ho;have hr:=M;exact bL (cF (bL (lE g.h (zH hr g.t))))
    refine lP (cP 2 ?_);exact dX (zL E hr g)
   refine eE ?_;exact dY (v _ _ (zL l hr g))
  intro n hr K;refine aX 2 (mP 135 hr λb hr=>cW 2 137 hr ?_ ?_)<;>intro A hr
  .refine cW 7 144 hr ?_ ?_<;>intro A hr
   .exact aX 3 (mP 148 hr λf hr=>bG 2 (K hr (zA g)))
   exact bG 6 (K hr (zA g))
  exact bG 13 (K hr (zA g))
 intro K;refine cW 3 45 hr ?_ ?_<;>intro A hr
 .exact bG 4 (K _ _ (zH hr g))
 exact bG 4 (K _ _ (zH hr g))
def QT(N:Nat)(p0:BA)(s1:JL):Option (JL⊕qC⊕JJ):=
 if(decide (s1.2<(ByteArray.size p0:Int)))then((RY N p0 s1.2).bind λa=>if(a.2.2 !=0)then(some (.inr (.inr ((([]:qC),s1.2,a.2.2))))) else((iK 40 s1.1 ([a.1])).bind λb=>(LS N p0 a.2.1).bind λa=>some (.inl (b,a)))) else(some (.inr (.inl s1.1)))
def RS(N:Nat)(p0:BA):Option JJ:=
 if(decide ((ByteArray.size p0:Int)>16384))then(some (([]:qC),0,2)) else((LS N p0 0).bind λy1=>(aC (QT N p0) N (([]:qC),y1)).bind λa=>(match a with| .inl a=>(iK 40 a ([(5,(⟨#[]⟩:BA),0,(ByteArray.size p0:Int))])).bind λa=>some (a,0,0)| .inr (z)=>some z))
theorem Pt{p0:BA}{r:JJ}(g:St m (O) w)(hr:RS N p0=some r):Calls prog 142 #[vT p0] w λe w'=>∃p s m',bN m m' e (.tuple #[vS p r.1 s,vI r.2.1,vI r.2.2]) (kR p r.1 s 189 4::O) w' (RepS C4 m' p s r.1):=by
 refine bH g func142 rfl ntmps142 λq=>cG (bV hr ?_ ?_)<;>intro A hr
 .cases hr;exact eD ⟨none,0,m,rfl,q,(g.nilroom 189 4),(RepS.nil _ _)⟩
 refine aQ (bA 1 hr (Cl g) ?_);rintro y1 hr _ w1 ⟨U,rfl,R,g⟩;refine eI (bJ ?_);have⟨o,hr,G⟩:=aM hr;refine eS (.exit 0) (λL' w'=>∃(d:qC),∃f k x,(.inl d)=o/\L'=[(0,vT p0),(2,vS f d k)]/\m.le x/\St x (kR f d k 189 4::O) w'/\RepS C4 x f k d) ?_ ?_
 .rintro _ H ⟨d,f,k,x,rfl,rfl,q,g,v⟩;have hr:=G;refine eY (aR 4 (iF 39 189 1 C4 [(5,eB,0,(p0.size:Int))] g λE F B c g y=>oB 40 142 142 189 40 35 39 g.f1 (.inl kr) (v.o c) y.src hr λl hr a b u D n g z=>eJ 3 ?_));have g:=g.f1.t;exact nX (zH hr g)
 intro u;refine eF (λv L' w'=>∃(s1:JL),∃b c n,aC (QT N p0) v s1=some o/\L'=[(0,vT p0),(2,vS b s1.1 c),(3,vI s1.2)]/\m.le n/\St n (kR b s1.1 c 189 4::O) w'/\RepS C4 n b c s1.1) N ⟨(([]:qC),y1),none,0,U,hr,rfl,q.t R,(g.nilroom 189 4),(RepS.nil _ _)⟩ ?_;rintro v _ w3 ⟨s1,b,c,n,hL,rfl,q,g,K⟩;obtain⟨v,a6,rfl,hr,z,l⟩:=eH hL;refine aJ (bV hr ?_ ?_)<;>intro A hr
 .refine aQ (bJ (bA 2 hr (Px g) ?_));rintro a hr _ w4 ⟨V,rfl,y,g⟩;refine aX 4 (bX 5 189 (.agg iS) g λb1 w5 g=>aZ (.agg (V4 a.1)) g λw6 g=>eI (bV hr ?_ ?_))<;>intro A hr
  .refine aR 5 (cX ?_);have g:=g.f1.t;refine aV (aT (bL (cF ?_)));have ho:=l _ (sI hr);subst ho;have hr:=G;refine bL (cF (bL ?_));cases hr;refine lJ [2,3,4] [va,vI s1.2,vI a.2.2] ?_;have g:=(g.nilroom 189 4).front1;exact⟨none,0,V,rfl,q.t y,g.t,(RepS.nil _ _)⟩
  refine aQ (aR 1 (bD g.h (iF 30 189 1 C4 [a.1] g λb2 m5 w7 E g Z=>oB 31 142 142 189 40 28 30 g.f2 (.inl kr) ((K.o y).o E) Z.src hr λH hr B D m6 w8 S g r4=>eJ 1 ?_)));have g:=g.f1.t;refine aV (eQ 2 (bW hr (Cl g) ?_));rintro M hr _ w9 ⟨Y,rfl,F,g⟩;refine eJ 1 (iU ?_);have hL:=z _ (sI hr);exact dX ⟨(H,M),B,D,Y,hL,rfl,(((q.t y).t E).t S).t F,g.f1.t,r4.o F⟩
 refine eE ?_;exact dY (u _ _ (zL l hr g))
def mC(N:Nat)(p0:eT):Option T1m:=
 (bC p0.1 p0.2.1).bind λa=>some (p0,a)
theorem pC{p0:eT}{r:T1m}(g:St m (kB bp0 (V6 p0 a1 c1 a2 c2 a3 c3 a4 c4) 215::kR a3 p0.h.1 c3 158 5::O) w)(v:RepS C4 m a1 c1 p0.1)(B:RepS aB m a2 c2 p0.f.1)(D:RepS C5 m a3 c3 p0.h.1)(E:RepS (aG .i64) m a4 c4 p0.j)(hr:mC N p0=some r):Calls prog 145 #[vP bp0 0] w λe w'=>∃d n k o b c l p m',bN m m' e (.agg (V4 r.2)) (kB bp0 (V6 r.1 d n k o b c l p) 215::kR b r.1.h.1 c 158 5::O) w' (P1 m' d n k o b c l p r.1):=by
 refine bH g func145 rfl ntmps145 λq=>aD (bX 2 189 (.agg iS) g λG K g=>aI (aJ (cM [(11,λw'=>Inv m w'/\Piece.holds m w' (kB bp0 (V6 p0 a1 c1 a2 c2 a3 c3 a4 c4) 215)/\True)] kr g λM _ g=> ?_)));have a:=m.le_refl;refine⟨aL (aF g a),aU 3 [0,1,2] (bZ 3 cH (aU 3 [4,5,6] (bZ 7 cH ?_)))⟩;have⟨z,u,hr⟩:=aM hr;refine nP (t:=142) (e:=189) (x:=(.tmp 6)) (y:=(.tmp 10)) 8 11 C4 kr rfl kr (.head _) (bU lR) (ev (vS a1 p0.1 c1)) (ev (vI p0.2.1)) kr v u ?_;rintro H A F ⟨_,_,rfl,rfl,⟨_,_,rfl,rfl,⟨_,_,rfl,rfl,rfl⟩⟩⟩ s;refine cN 9 s (aK 10 kr (iV 189 2 12 (.agg (V4 z)) g λR g=>⟨aL (aF g a),bO kr (aV (aT ?_))⟩));exact lE g.h (zH hr g.t.f1.f1)
def rR(N:Nat)(p0:eT)(p1:BA):Option PI:=
 (if(p0.2.2.2.1==0)then((mC N p0).bind λy1=>if(y1.2.1==1)then((mC N y1.1).bind λa=>some ((a.2.2.1.toList==p1.toList),a.1.1,a.1.2.1,a.1.2.2.1,a.1.2.2.2.1,a.1.2.2.2.2.1,a.1.2.2.2.2.2.1,a.1.2.2.2.2.2.2)) else(some (false,y1.1.1,y1.1.2.1,y1.1.2.2.1,y1.1.2.2.2.1,y1.1.2.2.2.2.1,y1.1.2.2.2.2.2.1,y1.1.2.2.2.2.2.2))) else(some (false,p0.1,p0.2.1,p0.2.2.1,p0.2.2.2.1,p0.2.2.2.2.1,p0.2.2.2.2.2.1,p0.2.2.2.2.2.2)):EO).bind λa=>if a.1 then(some ((a.2.1,wI (a.2.2.1+1),a.2.2.2.1,a.2.2.2.2.1,a.2.2.2.2.2.1,a.2.2.2.2.2.2.1,a.2.2.2.2.2.2.2),true)) else(some (a.2,false))
theorem vU{p0:eT}{p1:BA}{r:PI}(g:St m (kB bp0 (V6 p0 a1 c1 a2 c2 a3 c3 a4 c4) 215::kR a3 p0.h.1 c3 158 5::O) w)(r1:RepS C4 m a1 c1 p0.1)(r2:RepS aB m a2 c2 p0.f.1)(r3:RepS C5 m a3 c3 p0.h.1)(r4:RepS (aG .i64) m a4 c4 p0.j)(hr:rR N p0 p1=some r):Calls prog 143 #[vP bp0 0,vT p1] w λe w'=>∃E H F M x y G R m',bN m m' e (vB r.2) (kB bp0 (V6 r.1 E H F M x y G R) 215::kR x r.1.h.1 y 158 5::O) w' (P1 m' E H F M x y G R r.1):=by
 refine bH g func143 rfl ntmps143 λq=>cG (aD (iY 18 hr (λa L' w'=>∃l p n s b c o u v,L'=[(0,vP bp0 0),(22,vB a.1)]/\m.le v/\St v (kB bp0 (V6 a.2 l p n s b c o u) 215::kR b a.j.1 c 158 5::O) w'/\P1 v l p n s b c o u a.2) ?_ ?_))
 .rintro a hr _ U ⟨l,p,n,s,b,c,o,u,v,rfl,q,g,z,B,D,S⟩;refine aI (aO hr ?_ ?_)<;>intro A hr
  .exact aR 3 (bD g.h (aX 3 (lA (V7 l a.2.1 p (wI (a.d.1+1)) a.e.1 a.f.1 n a.h.1 s b a.j.1 c o a.k u) g λV g=>aI (aD (iC (zH hr g.f1.f1))))))
  exact aQ (eD (zH hr g.f1.f1))
 intro a hr K;refine aS 3 g.h (cW 2 10 hr ?_ ?_)<;>intro A hr
 .refine iH 1 hr (pC (p0:=p0) g.f1.f1 r1 r2 r3 r4) ?_;rintro y1 hr _ w2 ⟨a9,c9,S,b2,U,b3,V,b4,m2,rfl,e1,g,r9,z,B,D⟩;refine cW 4 16 hr ?_ ?_<;>intro A hr
  .refine iH 1 hr (pC (p0:=y1.1) g.f1.f1 r9 z B D) ?_;rintro y2 hr _ w3 ⟨Y,b5,Z,b6,b0,b7,b1,b8,m3,rfl,e2,g,b9,c0,d1,d2⟩;exact bG 4 (K hr (zA g.f1.f1))
  exact bG 6 (K hr (zA g.f1.f1))
 exact bG 12 (K hr (zA g.f1.f1))
def mM(N:Nat)(p0:eT)(p1:Int)(p2:Int):tR:=
 if(p0.2.2.2.1==0)then(some (p0.1,p0.2.1,p1,p2,p0.2.2.2.2.1,p0.2.2.2.2.2.1,p0.2.2.2.2.2.2)) else(some p0)
theorem rP{p0:eT}{p1:Int}{p2:Int}{r:eT}(g:St m (kB bp0 (V6 p0 a1 c1 a2 c2 a3 c3 a4 c4) 215::kR a3 p0.h.1 c3 158 5::O) w)(p:RepS C4 m a1 c1 p0.1)(s:RepS aB m a2 c2 p0.f.1)(t:RepS C5 m a3 c3 p0.h.1)(u:RepS (aG .i64) m a4 c4 p0.j)(hr:mM N p0 p1 p2=some r):Calls prog 144 #[vP bp0 0,vI p1,vI p2] w λe w'=>∃c l d n a b k o m',bN m m' e (.tuple #[]) (kB bp0 (V6 r c l d n a b k o) 215::kR a r.h.1 b 158 5::O) w' (P1 m' c l d n a b k o r):=by
 refine bH g func144 rfl ntmps144 λq=>aD (aS 3 g.h (cV hr ?_ ?_))<;>intro A hr
 .exact eQ 6 (lA (V7 a1 p0.1 c1 p0.2.1 p1 p0.e.1 a2 p0.f.1 c2 a3 p0.h.1 c3 a4 p0.j c4) g λv g=>aX 2 (lA (V7 a1 p0.1 c1 p0.2.1 p1 p2 a2 p0.f.1 c2 a3 p0.h.1 c3 a4 p0.j c4) g λx g=>cX (rY [] [] rfl ResAll.nil (zH hr g.f1.f1))))
 exact lB (rY [] [] rfl ResAll.nil (zH hr g.f1.f1))
def FC(N:Nat)(p0:BA)(s1:Int):Tj:=
 if(decide (s1<(List.length ([(⟨#[112,97,99,107,97,103,101]⟩:BA),(⟨#[105,109,112,111,114,116]⟩:BA),(⟨#[102,117,110,99]⟩:BA),(⟨#[116,101,115,116]⟩:BA),(⟨#[103,101,110]⟩:BA),(⟨#[105,102]⟩:BA),(⟨#[116,104,101,110]⟩:BA),(⟨#[101,108,115,101]⟩:BA),(⟨#[114,101,97,100]⟩:BA),(⟨#[115,105,122,101]⟩:BA),(⟨#[104,97,115]⟩:BA),(⟨#[101,110,118]⟩:BA),(⟨#[102,108,105,112]⟩:BA)]):Int)))then((bC ([(⟨#[112,97,99,107,97,103,101]⟩:BA),(⟨#[105,109,112,111,114,116]⟩:BA),(⟨#[102,117,110,99]⟩:BA),(⟨#[116,101,115,116]⟩:BA),(⟨#[103,101,110]⟩:BA),(⟨#[105,102]⟩:BA),(⟨#[116,104,101,110]⟩:BA),(⟨#[101,108,115,101]⟩:BA),(⟨#[114,101,97,100]⟩:BA),(⟨#[115,105,122,101]⟩:BA),(⟨#[104,97,115]⟩:BA),(⟨#[101,110,118]⟩:BA),(⟨#[102,108,105,112]⟩:BA)]) s1).bind λa=>if(p0.toList==a.toList)then(some (.inr (.inr (true)))) else(some (.inl (wI (s1+1))))) else(some (.inr (.inl ())))
def RB(N:Nat)(p0:BA):Tk:=
 (aC (FC N p0) N 0).bind λa=>(match a with| .inl a=>some false| .inr (z)=>some z)
theorem Ow{p0:BA}{r:Bool}(g:St m (O) w)(hr:RB N p0=some r):Calls prog 174 #[vT p0] w λe w'=>∃m',iL m m' e (vB r) (O) w':=by
 refine bH g func174 rfl ntmps174 λq=>cG (aD (iF 5 9 13 aB [bw,bx,bu,bz,AJ,JC,JK,IZ,JV,JM,JT,IY,JG] g λf y E v g l=>mA ?_));have⟨c,hr,s⟩:=aM hr;refine eS (.exit 0) (λL' w'=>∃(u:Unit),∃k,(.inl u)=c/\L'=[]/\m.le k/\St k (.room (aP f) (List.length ([bw,bx,bu,bz,AJ,JC,JK,IZ,JV,JM,JT,IY,JG])) 13 9 1::O) w') ?_ ?_
 .rintro _ a ⟨u,k,rfl,rfl,q,g⟩;have hr:=s;refine eY (aR 1 (cX ?_));have g:=g.t;exact nX (zH hr g)
 intro d;refine eF (λh L' w'=>∃(s1:Int),∃a,aC (FC N p0) h s1=some c/\L'=[(0,vT p0),(5,.slice (aP f) (List.length ([bw,bx,bu,bz,AJ,JC,JK,IZ,JV,JM,JT,IY,JG])) 13),(6,vI (List.length ([bw,bx,bu,bz,AJ,JC,JK,IZ,JV,JM,JT,IY,JG]):Int)),(7,vI s1)]/\m.le a/\St a (.room (aP f) (List.length ([bw,bx,bu,bz,AJ,JC,JK,IZ,JV,JM,JT,IY,JG])) 13 9 1::O) w'/\RepS aB a (aP f) 13 ([bw,bx,bu,bz,AJ,JC,JK,IZ,JV,JM,JT,IY,JG])) N ⟨0,y,hr,rfl,q.t v,g,l⟩ ?_;rintro h _ F ⟨s1,a,hL,rfl,q,g,l⟩;obtain⟨h,B,rfl,hr,n,b⟩:=eH hL;refine cG (aO hr ?_ ?_)<;>intro A hr
 .refine aQ (aJ (bJ (aD (iP l hr ?_))));rintro o hr D x z rfl p;refine dU g p (aW (bV hr ?_ ?_))<;>intro A hr
  .refine aR 1 (cX ?_);have g:=g.t;refine aV (aT (cF (bL ?_)));have ho:=b _ (sI hr);subst ho;have hr:=s;exact mH (zH hr g)
  refine lP (cP 2 ?_);exact dX (zL n hr g)
 refine eE ?_;exact dY (d _ _ (zL b hr g))
def qF(N:Nat)(p0:eT):Option EM:=
 (mC N p0).bind λy1=>(if(y1.1.2.2.2.1 !=0)then(some true) else(if(y1.2.1 !=1)then(some true) else((RB N y1.2.2.1).bind λa=>some a)):Tk).bind λa=>if a then((mM N y1.1 y1.2.2.2.2 9).bind λa=>some (a,(⟨#[]⟩:BA))) else(some ((y1.1.1,wI (y1.1.2.1+1),y1.1.2.2.1,y1.1.2.2.2.1,y1.1.2.2.2.2.1,y1.1.2.2.2.2.2.1,y1.1.2.2.2.2.2.2),y1.2.2.1))
theorem KB{p0:eT}{r:EM}(g:St m (kB bp0 (V6 p0 a1 c1 a2 c2 a3 c3 a4 c4) 215::kR a3 p0.h.1 c3 158 5::O) w)(r1:RepS C4 m a1 c1 p0.1)(r2:RepS aB m a2 c2 p0.f.1)(r3:RepS C5 m a3 c3 p0.h.1)(r4:RepS (aG .i64) m a4 c4 p0.j)(hr:qF N p0=some r):Calls prog 146 #[vP bp0 0] w λe w'=>∃E H F M s u G R m',bN m m' e (vT r.2) (kB bp0 (V6 r.1 E H F M s u G R) 215::kR s r.1.h.1 u 158 5::O) w' (P1 m' E H F M s u G R r.1):=by
 refine bH g func146 rfl ntmps146 λq=>bK (bA 1 hr (pC (p0:=p0) g.f1.f1 r1 r2 r3 r4) ?_);rintro y1 hr _ w1 ⟨v,z,x,B,l,n,y,D,m1,rfl,e1,g,a,b,c,k⟩;have q:=q.t e1;refine bX 3 189 (.agg iS) g λS w2 g=>aZ (.agg (V4 y1.2)) g λw3 g=>aI (aJ (aD (iY 15 hr (λU L' w'=>∃p,L'=[(0,vP bp0 0),(3,vP S 0),(20,vB U)]/\m.le p/\St p (kB S (V4 y1.2) 189::kB bp0 (V6 y1.1 v z x B l n y D) 215::kR l y1.1.h.1 n 158 5::O) w'/\P1 p v z x B l n y D y1.1) ?_ ?_)))
 .rintro U hr _ w4 ⟨p,rfl,q,g,a,b,c,k⟩;refine aI (aO hr ?_ ?_)<;>intro A hr
  .refine aR 2 (bD g.h (bW hr (rP (p0:=y1.1) g.f2.f2 a b c k) ?_));rintro y3 hr _ w6 ⟨a9,c9,o,Z,V,b0,Y,b2,m4,rfl,e3,g,r9,b3,b4,b5⟩;exact aI (aD (iC (zH hr g.f2.t.f1.f1)))
  exact aQ (aR 3 (bD g.t.h (aX 3 (lA (V7 v y1.1.1 z (wI (y1.1.2.1+1)) y1.1.d.1 y1.1.e.1 x y1.1.f.1 B l y1.1.h.1 n y y1.1.j D) g.f1 λo g=>aI (aD (aS 1 g.t.h (iC (zH hr g.f1.t.f1.f1))))))))
 intro U hr K;refine aS 3 g.t.h (cW 2 11 hr ?_ ?_)<;>intro A hr
 .exact bG 9 (K hr (zA g.f2.f2.f2))
 refine aS 1 g.h (cW 3 16 hr ?_ ?_)<;>intro A hr
 .exact bG 4 (K hr (zA g.f2.f2.f2))
 refine aS 1 g.h (bW hr (Ow g) ?_);rintro Y hr _ Z ⟨V,rfl,o,g⟩;exact bG 1 (K hr ⟨V,rfl,q.t o,g.f2.f2.f2,a.o o,b.o o,c.o o,k.o o⟩)
def rQ(N:Nat)(p0:eT)(p1:BA):Option PI:=
 (if(p0.2.2.2.1==0)then((mC N p0).bind λy1=>if(y1.2.1==4)then((mC N y1.1).bind λa=>some ((a.2.2.1.toList==p1.toList),a.1.1,a.1.2.1,a.1.2.2.1,a.1.2.2.2.1,a.1.2.2.2.2.1,a.1.2.2.2.2.2.1,a.1.2.2.2.2.2.2)) else(some (false,y1.1.1,y1.1.2.1,y1.1.2.2.1,y1.1.2.2.2.1,y1.1.2.2.2.2.1,y1.1.2.2.2.2.2.1,y1.1.2.2.2.2.2.2))) else(some (false,p0.1,p0.2.1,p0.2.2.1,p0.2.2.2.1,p0.2.2.2.2.1,p0.2.2.2.2.2.1,p0.2.2.2.2.2.2)):EO).bind λa=>if a.1 then(some ((a.2.1,wI (a.2.2.1+1),a.2.2.2.1,a.2.2.2.2.1,a.2.2.2.2.2.1,a.2.2.2.2.2.2.1,a.2.2.2.2.2.2.2),true)) else(some (a.2,false))
theorem uU{p0:eT}{p1:BA}{r:PI}(g:St m (kB bp0 (V6 p0 a1 c1 a2 c2 a3 c3 a4 c4) 215::kR a3 p0.h.1 c3 158 5::O) w)(r1:RepS C4 m a1 c1 p0.1)(r2:RepS aB m a2 c2 p0.f.1)(r3:RepS C5 m a3 c3 p0.h.1)(r4:RepS (aG .i64) m a4 c4 p0.j)(hr:rQ N p0 p1=some r):Calls prog 175 #[vP bp0 0,vT p1] w λe w'=>∃E H F M x y G R m',bN m m' e (vB r.2) (kB bp0 (V6 r.1 E H F M x y G R) 215::kR x r.1.h.1 y 158 5::O) w' (P1 m' E H F M x y G R r.1):=by
 refine bH g func175 rfl ntmps175 λq=>cG (aD (iY 18 hr (λa L' w'=>∃l p n s b c o u v,L'=[(0,vP bp0 0),(22,vB a.1)]/\m.le v/\St v (kB bp0 (V6 a.2 l p n s b c o u) 215::kR b a.j.1 c 158 5::O) w'/\P1 v l p n s b c o u a.2) ?_ ?_))
 .rintro a hr _ U ⟨l,p,n,s,b,c,o,u,v,rfl,q,g,z,B,D,S⟩;refine aI (aO hr ?_ ?_)<;>intro A hr
  .exact aR 3 (bD g.h (aX 3 (lA (V7 l a.2.1 p (wI (a.d.1+1)) a.e.1 a.f.1 n a.h.1 s b a.j.1 c o a.k u) g λV g=>aI (aD (iC (zH hr g.f1.f1))))))
  exact aQ (eD (zH hr g.f1.f1))
 intro a hr K;refine aS 3 g.h (cW 2 10 hr ?_ ?_)<;>intro A hr
 .refine iH 1 hr (pC (p0:=p0) g.f1.f1 r1 r2 r3 r4) ?_;rintro y1 hr _ w2 ⟨a9,c9,S,b2,U,b3,V,b4,m2,rfl,e1,g,r9,z,B,D⟩;refine cW 4 16 hr ?_ ?_<;>intro A hr
  .refine iH 1 hr (pC (p0:=y1.1) g.f1.f1 r9 z B D) ?_;rintro y2 hr _ w3 ⟨Y,b5,Z,b6,b0,b7,b1,b8,m3,rfl,e2,g,b9,c0,d1,d2⟩;exact bG 4 (K hr (zA g.f1.f1))
  exact bG 6 (K hr (zA g.f1.f1))
 exact bG 12 (K hr (zA g.f1.f1))
def lZ(N:Nat)(p0:eT)(p1:BA):tR:=
 (rQ N p0 p1).bind λy1=>if(!y1.2)then((mC N y1.1).bind λa=>(mM N a.1 a.2.2.2.2 9).bind λa=>some a) else(some y1.1)
theorem tT{p0:eT}{p1:BA}{r:eT}(g:St m (kB bp0 (V6 p0 a1 c1 a2 c2 a3 c3 a4 c4) 215::kR a3 p0.h.1 c3 158 5::O) w)(r1:RepS C4 m a1 c1 p0.1)(r2:RepS aB m a2 c2 p0.f.1)(r3:RepS C5 m a3 c3 p0.h.1)(r4:RepS (aG .i64) m a4 c4 p0.j)(hr:lZ N p0 p1=some r):Calls prog 147 #[vP bp0 0,vT p1] w λe w'=>∃c l d n a b k o m',bN m m' e (.tuple #[]) (kB bp0 (V6 r c l d n a b k o) 215::kR a r.h.1 b 158 5::O) w' (P1 m' c l d n a b k o r):=by
 refine bH g func147 rfl ntmps147 λq=>bA 2 hr (uU (p0:=p0) g.f1.f1 r1 r2 r3 r4) ?_;rintro y1 hr _ w1 ⟨a5,c5,a6,c6,a7,c7,a8,c8,m1,rfl,D,g,S,U,V,Y⟩;refine cV hr ?_ ?_<;>intro A hr
 .refine eQ 2 (bW hr (pC (p0:=y1.1) g.f1.f1 S U V Y) ?_);rintro Z hr _ w2 ⟨a9,c9,b0,b3,b1,b4,b2,b5,m2,rfl,e2,g,r9,E,F,G⟩;refine iH 1 hr (rP (p0:=Z.1) g.f1.f1 r9 E F G) ?_;rintro y3 hr _ w3 ⟨p,x,s,y,u,z,v,B,m3,rfl,e3,g,H,K,M,R⟩;exact cX (rY [] [] rfl ResAll.nil (zH hr g.f1.f1))
 exact lB (rY [] [] rfl ResAll.nil (zH hr g.f1.f1))
def LN(N:Nat)(p0:Tb)(p1:BA)(s1:Int):Tj:=
 if(decide (s1<(List.length p0:Int)))then((bC p0 s1).bind λa=>if(a.toList==p1.toList)then(some (.inr (.inr (true)))) else(some (.inl (wI (s1+1))))) else(some (.inr (.inl ())))
def uW(N:Nat)(p0:Tb)(p1:BA):Tk:=
 (aC (LN N p0 p1) N 0).bind λa=>(match a with| .inl a=>some false| .inr (z)=>some z)
theorem Cm{p0:Tb}{p1:BA}{r:Bool}(g:St m (O) w)(k:RepS aB m a1 c1 p0)(hr:uW N p0 p1=some r):Calls prog 148 #[vS a1 p0 c1,vT p1] w λe w'=>∃m',iL m m' e (vB r) (O) w':=by
 refine bH g func148 rfl ntmps148 λq=>cG (bK (bJ ?_));have⟨c,hr,p⟩:=aM hr;refine eS (.exit 0) (λL' w'=>∃(s:Unit),∃h,(.inl s)=c/\L'=[]/\m.le h/\St h (O) w') ?_ ?_
 .rintro _ a ⟨s,h,rfl,rfl,q,g⟩;have hr:=p;exact eY (eD (zH hr g))
 intro d;refine eF (λf L' w'=>∃(s1:Int),∃a,aC (LN N p0 p1) f s1=some c/\L'=[(1,vT p1),(7,vS a1 p0 c1),(8,vI (p0.length:Int)),(9,vI s1)]/\m.le a/\St a (O) w'/\RepS aB a a1 c1 p0) N ⟨0,m,hr,rfl,q,g,k⟩ ?_;rintro f _ y ⟨s1,a,hL,rfl,q,g,k⟩;obtain⟨f,v,rfl,hr,l,b⟩:=eH hL;refine cG (aO hr ?_ ?_)<;>intro A hr
 .refine aQ (aJ (bJ (aD (iP k hr ?_))));rintro n hr x t u rfl o;refine dU g o (aW (bV hr ?_ ?_))<;>intro A hr
  .refine bK (aT (cF (bL ?_)));have ho:=b _ (sI hr);subst ho;have hr:=p;exact mH (zH hr g)
  refine lP (cP 2 ?_);exact dX (zL l hr g)
 refine eE ?_;exact dY (d _ _ (zL b hr g))
def FY(N:Nat)(p0:BA)(s1:Int):Tj:=
 if(decide (s1<(ByteArray.size p0:Int)))then((lH p0 s1).bind λa=>(CU N (a.toNat:Int)).bind λa=>if(!a)then(some (.inr (.inr (false)))) else(some (.inl (wI (s1+1))))) else(some (.inr (.inl ())))
def GK(N:Nat)(p0:BA):Tk:=
 (if(decide ((ByteArray.size p0:Int)<1))then(some true) else(if(decide ((ByteArray.size p0:Int)>24))then(some true) else((lH p0 0).bind λa=>(GA N (a.toNat:Int)).bind λy1=>some (!y1))):Tk).bind λa=>if a then(some false) else((aC (FY N p0) N 0).bind λa=>(match a with| .inl o2=>some true| .inr (z)=>some z))
theorem VX{p0:BA}{r:Bool}(g:St m (O) w)(hr:GK N p0=some r):Calls prog 68 #[vT p0] w λe w'=>∃m',iL m m' e (vB r) (O) w':=by
 refine bH g func68 rfl ntmps68 λq=>cG (aD (iY 14 hr (λn L' w'=>∃b,L'=[(0,vT p0),(17,vB n)]/\m.le b/\St b (O) w') ?_ ?_))
 .rintro n hr _ x ⟨b,rfl,q,g⟩;refine aI (aO hr ?_ ?_)<;>intro A hr
  .exact eD (zH hr g)
  refine aQ (aJ (bK (bJ ?_)));have⟨c,hr,p⟩:=aM hr;refine eS (.exit 0) (λL' w'=>∃(o2:Unit),∃h,(.inl o2)=c/\L'=[]/\m.le h/\St h (O) w') ?_ ?_
  .rintro _ a ⟨o2,h,rfl,rfl,q,g⟩;have hr:=p;exact eY (eD (zH hr g))
  intro d;refine eF (λf L' w'=>∃(s1:Int),∃k,aC (FY N p0) f s1=some c/\L'=[(0,vT p0),(3,vI s1)]/\m.le k/\St k (O) w') N ⟨0,b,hr,rfl,q,g⟩ ?_;rintro f _ y ⟨s1,k,hL,rfl,q,g⟩;obtain⟨f,v,rfl,hr,l,a⟩:=eH hL;refine aJ (bV hr ?_ ?_)<;>intro A hr
  .refine aQ (aJ (bJ (aR 2 (mP 26 hr λB hr=>bW hr (VU g) ?_))));rintro u hr _ z ⟨s,rfl,o,g⟩;refine cV hr ?_ ?_<;>intro A hr
   .refine bK (aT (cF (bL ?_)));have ho:=a _ (sI hr);subst ho;have hr:=p;exact mH (zH hr g)
   refine lP (cP 3 ?_);exact dX (zL l hr g)
  refine eE ?_;exact dY (d _ _ (zL a hr g))
 intro n hr K;refine cW 4 7 hr ?_ ?_<;>intro A hr
 .exact bG 10 (K hr (zA g))
 refine cW 5 12 hr ?_ ?_<;>intro A hr
 .exact bG 5 (K hr (zA g))
 refine aX 1 (mP 14 hr λf hr=>bW hr (VN g) ?_);rintro y1 hr _ d ⟨c,rfl,a,g⟩;exact bG 2 (K hr (zA g))
def tV(N:Nat)(p0:eT)(p1:Bool):Option EM:=
 (mC N p0).bind λy1=>(if(y1.1.2.2.2.1 !=0)then(some true) else(if(y1.2.1 !=3)then(some true) else(if p1 then((CW N y1.2.2.1).bind λa=>if(!a)then(some true) else(if(!p1)then((GK N y1.2.2.1).bind λa=>some (!a)) else(some false))) else(if(!p1)then((GK N y1.2.2.1).bind λa=>some (!a)) else(some false)))):Tk).bind λa=>if a then((mM N y1.1 y1.2.2.2.2 9).bind λy5=>some (y5,(⟨#[]⟩:BA))) else(some ((y1.1.1,wI (y1.1.2.1+1),y1.1.2.2.1,y1.1.2.2.2.1,y1.1.2.2.2.2.1,y1.1.2.2.2.2.2.1,y1.1.2.2.2.2.2.2),y1.2.2.1))
theorem VH{p0:eT}{p1:Bool}{r:EM}(g:St m (kB bp0 (V6 p0 a1 c1 a2 c2 a3 c3 a4 c4) 215::kR a3 p0.h.1 c3 158 5::O) w)(r1:RepS C4 m a1 c1 p0.1)(r2:RepS aB m a2 c2 p0.f.1)(r3:RepS C5 m a3 c3 p0.h.1)(r4:RepS (aG .i64) m a4 c4 p0.j)(hr:tV N p0 p1=some r):Calls prog 176 #[vP bp0 0,vB p1] w λe w'=>∃F M G R u v H S m',bN m m' e (vT r.2) (kB bp0 (V6 r.1 F M G R u v H S) 215::kR u r.1.h.1 v 158 5::O) w' (P1 m' F M G R u v H S r.1):=by
 refine bH g func176 rfl ntmps176 λq=>bK (bA 1 hr (pC (p0:=p0) g.f1.f1 r1 r2 r3 r4) ?_);rintro y1 hr _ w1 ⟨x,B,y,D,l,n,z,E,V,rfl,e1,g,a,b,c,k⟩;have q:=q.t e1;refine bX 5 189 (.agg iS) g λU w2 g=>aZ (.agg (V4 y1.2)) g λw3 g=>aI (aJ (aD (iY 29 hr (λY L' w'=>∃s,L'=[(0,vP bp0 0),(5,vP U 0),(36,vB Y)]/\m.le s/\St s (kB U (V4 y1.2) 189::kB bp0 (V6 y1.1 x B y D l n z E) 215::kR l y1.1.h.1 n 158 5::O) w'/\P1 s x B y D l n z E y1.1) ?_ ?_)))
 .rintro Y hr _ w4 ⟨s,rfl,q,g,a,b,c,k⟩;refine aI (aO hr ?_ ?_)<;>intro A hr
  .refine aR 2 (bD g.h (bW hr (rP (p0:=y1.1) g.f2.f2 a b c k) ?_));rintro y5 hr _ w8 ⟨a9,c9,o,b0,p,b2,Z,b3,m6,rfl,e5,g,r9,b4,b5,b6⟩;exact aI (aD (iC (zH hr g.f2.t.f1.f1)))
  exact aQ (aR 3 (bD g.t.h (aX 3 (lA (V7 x y1.1.1 B (wI (y1.1.2.1+1)) y1.1.d.1 y1.1.e.1 y y1.1.f.1 D l y1.1.h.1 n z y1.1.j E) g.f1 λo g=>aI (aD (aS 1 g.t.h (iC (zH hr g.f1.t.f1.f1))))))))
 intro Y hr K;refine aS 3 g.t.h (cW 2 13 hr ?_ ?_)<;>intro A hr
 .exact bG 23 (K hr (zA g.f2.f2.f2))
 refine aS 1 g.h (cW 3 18 hr ?_ ?_)<;>intro A hr
 .exact bG 18 (K hr (zA g.f2.f2.f2))
 refine cW 2 20 hr ?_ ?_<;>intro A hr
 .refine aS 1 g.h (bW hr (VY g) ?_);rintro y2 hr _ w5 ⟨Z,rfl,o,g⟩;have q:=q.t o;have a:=a.o o;have b:=b.o o;have c:=c.o o;have k:=k.o o;refine cW 4 27 hr ?_ ?_<;>intro A hr
  .exact bG 9 (K hr (zA g.f2.f2.f2))
  refine cW 3 30 hr ?_ ?_<;>intro A hr
  .refine aS 1 g.h (bW hr (VX g) ?_);rintro y3 hr _ w6 ⟨m4,rfl,p,g⟩;exact bG 3 (K hr ⟨m4,rfl,q.t p,g.f2.f2.f2,a.o p,b.o p,c.o p,k.o p⟩)
  exact bG 6 (K hr (zA g.f2.f2.f2))
 refine cW 10 30 hr ?_ ?_<;>intro A hr
 .refine aS 1 g.h (bW hr (VX g) ?_);rintro Z hr _ w7 ⟨p,rfl,o,g⟩;exact bG 3 (K hr ⟨p,rfl,q.t o,g.f2.f2.f2,a.o o,b.o o,c.o o,k.o o⟩)
 exact bG 6 (K hr (zA g.f2.f2.f2))
def KW(N:Nat)(p0:iE)(p1:Int)(p2:BA)(s1:Int):Tj:=
 if(decide (s1<(List.length p0.2.2:Int)))then((bC p0.2.2 s1).bind λa=>(if(a.1==p1)then(some (a.2.1.toList==p2.toList)) else(some false):Tk).bind λo2=>if o2 then(some (.inr (.inr (true)))) else(some (.inl (wI (s1+1))))) else(some (.inr (.inl ())))
def CT(N:Nat)(p0:iE)(p1:Int)(p2:BA):Tk:=
 (aC (KW N p0 p1 p2) N 0).bind λa=>(match a with| .inl a=>some false| .inr (z)=>some z)
theorem Pu{p0:iE}{p1:Int}{p2:BA}{r:Bool}(g:St m (O) w)(r1:RepS aB m a1 c1 p0.2.1)(f:RepS C6 m a2 c2 p0.d)(hr:CT N p0 p1 p2=some r):Calls prog 177 #[.agg (V8 p0 a1 c1 a2 c2),vI p1,vT p2] w λe w'=>∃m',iL m m' e (vB r) (O) w':=by
 refine bH g func177 rfl ntmps177 λq=>aD (eC 3 81 (.agg (V8 p0 a1 c1 a2 c2)) g λM U w1 D g E=>eI (iG 1 g (E.drop 2) (mA ?_)));have⟨l,hr,G⟩:=aM hr;refine eS (.exit 0) (λL' w'=>∃(H:Unit),∃x,(.inl H)=l/\L'=[]/\m.le x/\St x (O) w') ?_ ?_
 .rintro _ a ⟨H,x,rfl,rfl,q,g⟩;have hr:=G;exact eY (eD (zH hr g))
 intro n;refine eF (λv L' w'=>∃(s1:Int),∃c,aC (KW N p0 p1 p2) v s1=some l/\L'=[(1,vI p1),(2,vT p2),(10,vS a2 p0.d c2),(11,vI (p0.2.2.length:Int)),(12,vI s1)]/\m.le c/\St c (O) w'/\RepS C6 c a2 c2 p0.d) N ⟨0,U,hr,rfl,q.t D,g,f.o D⟩ ?_;rintro v _ w3 ⟨s1,c,hL,rfl,q,g,f⟩;obtain⟨v,Y,rfl,hr,y,k⟩:=eH hL;refine cG (aO hr ?_ ?_)<;>intro A hr
 .refine aQ (aJ (bJ (aD (iP f hr ?_))));rintro a hr Z S V ⟨_,_,rfl,rfl,⟨_,_,rfl,rfl,⟨_,_,rfl,⟨o,s,rfl,z⟩,⟨p,u,rfl,B⟩⟩⟩⟩ F;refine dU g F (bX 8 111 (.agg #[vI 0,vT eB,v6,v6]) g λR w4 g=>aZ (.agg (V9 a o s p u)) g λw5 g=>aI (aD (iY 10 hr (λo2 L' w'=>∃b,L'=[(1,vI p1),(2,vT p2),(10,vS a2 p0.d c2),(11,vI (p0.2.2.length:Int)),(12,vI s1),(25,vB o2)]/\m.le b/\St b (kB R (V9 a o s p u) 111::O) w'/\RepS C6 b a2 c2 p0.d/\RepS aB b o s a.d.1/\RepS C5 b p u a.e) ?_ ?_)))
  .rintro o2 hr _ w6 ⟨b,rfl,q,g,f,z,B⟩;refine aI (aO hr ?_ ?_)<;>intro A hr
   .refine bK (aT (cF (bL ?_)));have ho:=k _ (sI hr);subst ho;have hr:=G;exact mH (zH hr g.t)
   refine lP (cP 2 ?_);exact dX (zL y hr g.t)
  intro o2 hr K;refine aS 1 g.h (cW 3 20 hr ?_ ?_)<;>intro A hr
  .exact aS 1 g.h (bG 3 (K hr (zA g)))
  exact bG 5 (K hr (zA g))
 refine eE ?_;exact dY (n _ _ (zL k hr g))
def nD(N:Nat)(p0:eT)(p1:dZ)(p2:Int):nG:=
 (if(p0.2.2.2.1==0)then(some ((List.length p0.2.2.2.2.2.1:Int)==256)) else(some false):Tk).bind λa=>(if a then((mM N p0 p2 2).bind λy1=>some y1) else(some p0):tR).bind λo2=>(if(o2.2.2.2.1==0)then((iK 64 o2.2.2.2.2.2.1 ([p1])).bind λa=>some a) else(some o2.2.2.2.2.2.1):Option lK).bind λa=>some ((o2.1,o2.2.1,o2.2.2.1,o2.2.2.2.1,o2.2.2.2.2.1,a,o2.2.2.2.2.2.2),wI ((List.length a:Int)-1))
theorem wP{p0:eT}{p1:dZ}{p2:Int}{r:rN}(g:St m (kB bp0 (V6 p0 a1 c1 a2 c2 a3 c3 a4 c4) 215::kR a3 p0.h.1 c3 158 5::O) w)(S:RepS C4 m a1 c1 p0.1)(U:RepS aB m a2 c2 p0.f.1)(V:RepS C5 m a3 c3 p0.h.1)(Y:RepS (aG .i64) m a4 c4 p0.j)(F:RepS (aG .i64) m a5 c5 p1.f)(hr:nD N p0 p1 p2=some r):Calls prog 189 #[vP bp0 0,.agg (Va p1 a5 c5),vI p2] w λe w'=>∃b4 b7 b5 b8 Z b0 b6 b9 m',bN m m' e (vI r.2) (kB bp0 (V6 r.1 b4 b7 b5 b8 Z b0 b6 b9) 215::kR Z r.1.h.1 b0 158 5::O) w' (P1 m' b4 b7 b5 b8 Z b0 b6 b9 r.1):=by
 refine bH g func189 rfl ntmps189 λq=>aD (eC 4 158 (.agg (Va p1 a5 c5)) g λb1 m1 w1 b g c=>eI (aD (iY 13 hr (λo1 L' w'=>∃E,L'=[(0,vP bp0 0),(2,vI p2),(4,vP b1 0),(19,vB o1)]/\m.le E/\St E (kB bp0 (V6 p0 a1 c1 a2 c2 a3 c3 a4 c4) 215::kR a3 p0.h.1 c3 158 5::O) w'/\MRow E b1 0 (Vb p1 a5 c5)/\RepS (aG .i64) E a5 c5 p1.f/\P1 E a1 c1 a2 c2 a3 c3 a4 c4 p0) ?_ ?_)))
 .rintro o1 hr _ w2 ⟨E,rfl,q,g,c,F,S,U,V,Y⟩;refine aI (cE .normal hr (λo2 L' w'=>∃o u p v B D s x k,L'=[(0,vP bp0 0),(4,vP b1 0)]/\m.le k/\St k (kB bp0 (V6 o2 o u p v B D s x) 215::kR B o2.h.1 D 158 5::O) w'/\MRow k b1 0 (Vb p1 a5 c5)/\RepS (aG .i64) k a5 c5 p1.f/\P1 k o u p v B D s x o2) ?_ ?_)
  .rintro o2 hr _ w3 ⟨o,u,p,v,B,D,s,x,k,rfl,q,g,c,F,r6,r7,r8,r9⟩;refine lG (aD (aS 3 g.h (aW (cE .normal hr (λz L' w'=>∃l n y,L'=[(0,vP bp0 0)]/\m.le y/\St y (kB bp0 (V7 o o2.1 u o2.2.1 o2.d.1 o2.e.1 p o2.f.1 v l z n s o2.j x) 215::kR l z n 158 5::O) w'/\RepS C4 y o u o2.1/\RepS aB y p v o2.f.1/\RepS C5 y l n z/\RepS (aG .i64) y s x o2.j) ?_ ?_))))
   .rintro z hr _ G ⟨l,n,y,rfl,q,g,r6,r7,a,r9⟩;exact aV (aD (aS 3 g.h (iC (zH hr g.f1.f1))))
   intro z hr b3;refine aO hr ?_ ?_<;>intro A hr
   .refine cM [(11,λw'=>Inv k w'/\True),(10,λw'=>Inv k w'/\Piece.holds k w' (kB bp0 (V6 o2 o u p v B D s x) 215)/\True)] kr g λw6 _ g=> ?_;have a:=k.le_refl;refine⟨lI (aF g a) (aF g a),aU 4 [0,1,2,3] (rF 109 31 4 32 5 (vS B o2.h.1 D) (.tail _ (.head _)) cH (cN 5 c (aK 6 kr (qH (d:=34) (t:=109) (e:=158) (len:=1) (parts:= #[(0,(.tmp 33))]) C5 (xs:=[p1]) (Vb p1 a5 c5) kr rfl (λ_=>qI kr _) rfl rfl g ⟨(Vb p1 a5 c5),_,rfl,⟨_,_,rfl,rfl,⟨_,_,rfl,rfl,⟨_,_,rfl,rfl,⟨_,_,rfl,rfl,(pO F)⟩⟩⟩⟩,rfl⟩ λb2 m6 w7 G g c0=> ?_))))⟩;have a:=a.t G;refine⟨lI (aF g a) (aF g a),aK 7 kr (uK 35 109 109 158 64 32 34 g.f2 (.inl kr) (r8.o G) c0.src hr λl1 hr H M m7 w8 R g d1=> ?_)⟩;have a:=a.t R;refine⟨lI (aF g a) (aF g a),aU 2 [8,9] (aK 10 kr (tI 109 37 35 5 (vS H l1 M) (V7 o o2.1 u o2.2.1 o2.d.1 o2.e.1 p o2.f.1 v H l1 M s o2.j x) g.f2 λw9 g=>⟨rJ (aF g a),bO kr ?_⟩))⟩;have g:=g.f2.t;exact xE (b3 hr ⟨H,M,m7,rfl,(q.t G).t R,g.f1.f1,(r6.o G).o R,(r7.o G).o R,d1,(r9.o G).o R⟩)
   exact iD (b3 hr (zA g.f1.f1))
  intro o2 hr a;refine aO hr ?_ ?_<;>intro A hr
  .refine eQ 2 (bW hr (rP (p0:=p0) g.f1.f1 S U V Y) ?_);rintro y1 hr _ w4 ⟨n,H,y,M,z,R,G,b3,m4,rfl,l,g,c0,d1,d2,d3⟩;exact qM (a hr (zA g.f1.f1))
  exact iD (a hr (zA g.f1.f1))
 intro o1 hr K;refine aS 3 g.h (cW 2 12 hr ?_ ?_)<;>intro A hr
 .exact aS 3 g.h (bG 3 (K hr ⟨m1,rfl,q.t b,g.f1.f1,c,F.o b,S.o b,U.o b,V.o b,Y.o b⟩))
 exact bG 7 (K hr ⟨m1,rfl,q.t b,g.f1.f1,c,F.o b,S.o b,U.o b,V.o b,Y.o b⟩)
def yS(N:Nat)(p0:eT):nG:=
 (mC N p0).bind λy1=>(if(y1.1.2.2.2.1 !=0)then(some true) else(some (y1.2.1 !=2)):Tk).bind λa=>if a then((mM N y1.1 y1.2.2.2.2 9).bind λa=>some (a,0)) else(some ((y1.1.1,wI (y1.1.2.1+1),y1.1.2.2.1,y1.1.2.2.2.1,y1.1.2.2.2.2.1,y1.1.2.2.2.2.2.1,y1.1.2.2.2.2.2.2),y1.2.2.2.1))
theorem VF{p0:eT}{r:rN}(g:St m (kB bp0 (V6 p0 a1 c1 a2 c2 a3 c3 a4 c4) 215::kR a3 p0.h.1 c3 158 5::O) w)(r1:RepS C4 m a1 c1 p0.1)(r2:RepS aB m a2 c2 p0.f.1)(r3:RepS C5 m a3 c3 p0.h.1)(r4:RepS (aG .i64) m a4 c4 p0.j)(hr:yS N p0=some r):Calls prog 208 #[vP bp0 0] w λe w'=>∃D G E H p s F M m',bN m m' e (vI r.2) (kB bp0 (V6 r.1 D G E H p s F M) 215::kR p r.1.h.1 s 158 5::O) w' (P1 m' D G E H p s F M r.1):=by
 refine bH g func208 rfl ntmps208 λq=>bK (bA 1 hr (pC (p0:=p0) g.f1.f1 r1 r2 r3 r4) ?_);rintro y1 hr _ w1 ⟨u,y,v,z,a,b,x,B,m1,rfl,e1,g,k,l,n,o⟩;refine bX 3 189 (.agg iS) g λR w2 g=>aZ (.agg (V4 y1.2)) g λw3 g=>aI (aJ (aD (iY 10 hr (λS L' w'=>∃c,L'=[(0,vP bp0 0),(3,vP R 0),(15,vB S)]/\m.le c/\St c (kB R (V4 y1.2) 189::kB bp0 (V6 y1.1 u y v z a b x B) 215::kR a y1.1.h.1 b 158 5::O) w'/\P1 c u y v z a b x B y1.1) ?_ ?_)))
 .rintro S hr _ w4 ⟨c,rfl,q,g,k,l,n,o⟩;refine aI (aO hr ?_ ?_)<;>intro A hr
  .refine aR 2 (bD g.h (bW hr (rP (p0:=y1.1) g.f2.f2 k l n o) ?_));rintro y2 hr _ w5 ⟨a9,c9,U,Z,V,b0,Y,b2,m3,rfl,e2,g,r9,b3,b4,b5⟩;exact aI (aD (iC (zH hr g.f2.t.f1.f1)))
  exact aQ (aR 3 (bD g.t.h (aX 3 (lA (V7 u y1.1.1 y (wI (y1.1.2.1+1)) y1.1.d.1 y1.1.e.1 v y1.1.f.1 z a y1.1.h.1 b x y1.1.j B) g.f1 λU g=>aI (aD (aS 1 g.t.h (iC (zH hr g.f1.t.f1.f1))))))))
 intro S hr K;refine aS 3 g.t.h (cW 2 11 hr ?_ ?_)<;>intro A hr
 .exact bG 4 (K hr (zA g.f2.f2.f2))
 exact aS 1 g.h (bG 2 (K hr (zA g.f2.f2.f2)))
def AN(N:Nat)(y1:T1m)(y31:EM)(a:PI)(s1:Int):Option (Int⊕Unit⊕rN):=
 if(decide (s1<(List.length a.1.2.2.2.2.1:Int)))then((bC a.1.2.2.2.2.1 s1).bind λb=>(if(b.toList==y31.2.toList)then(some (a.1.2.2.2.1==0)) else(some false):Tk).bind λb=>if b then((nD N a.1 (2,s1,0,(⟨#[]⟩:BA),([]:Te)) y1.2.2.2.2).bind λa=>some (.inr (.inr ((a.1,a.2))))) else(some (.inl (wI (s1+1))))) else(some (.inr (.inl ())))
def AM(N:Nat)(R5:eT->(Int)->nG)(p1:Int)(s2:OU):Option (OU⊕OU):=
 (if(s2.2.2.2.2.1==0)then((rQ N s2.2 (⟨#[41]⟩:BA)).bind λa=>some (!a.2,a.1.1,a.1.2.1,a.1.2.2.1,a.1.2.2.2.1,a.1.2.2.2.2.1,a.1.2.2.2.2.2.1,a.1.2.2.2.2.2.2)) else(some (false,s2.2.1,s2.2.2.1,s2.2.2.2.1,s2.2.2.2.2.1,s2.2.2.2.2.2.1,s2.2.2.2.2.2.2.1,s2.2.2.2.2.2.2.2)):EO).bind λb=>if b.1 then((if(decide ((List.length s2.1:Int)>0))then((lZ N b.2 (⟨#[44]⟩:BA)).bind λa=>some a) else(some b.2):tR).bind λa=>(R5 a (wI (p1+1))).bind λa=>(iK 8 s2.1 ([a.2])).bind λc=>some (.inl (c,a.1.1,a.1.2.1,a.1.2.2.1,a.1.2.2.2.1,a.1.2.2.2.2.1,a.1.2.2.2.2.2.1,a.1.2.2.2.2.2.2))) else(some (.inr (s2.1,b.2.1,b.2.2.1,b.2.2.2.1,b.2.2.2.2.1,b.2.2.2.2.2.1,b.2.2.2.2.2.2.1,b.2.2.2.2.2.2.2)))
def ER(N:Nat)(R6:eT->(Int)->nG)(R7:eT->(Int)->nG)(R8:eT->(Int)->nG)(R5:eT->(Int)->nG)(p0:eT)(p1:Int):nG:=
 (mC N p0).bind λy1=>if(y1.1.2.2.2.1 !=0)then(some (y1.1,0)) else(if(y1.2.1==2)then((yS N y1.1).bind λa=>(nD N a.1 (1,a.2,0,(⟨#[]⟩:BA),([]:Te)) y1.2.2.2.2).bind λa=>some (a.1,a.2)) else((rQ N y1.1 (⟨#[45]⟩:BA)).bind λa=>if a.2 then((yS N a.1).bind λy5=>(nD N y5.1 (1,wI (0-y5.2),0,(⟨#[]⟩:BA),([]:Te)) y1.2.2.2.2).bind λb=>some (b.1,b.2)) else((rQ N a.1 (⟨#[40]⟩:BA)).bind λa=>if a.2 then((R5 a.1 (wI (p1+1))).bind λb=>(lZ N b.1 (⟨#[41]⟩:BA)).bind λc=>some (c,b.2)) else((rR N a.1 (⟨#[114,101,97,100]⟩:BA)).bind λa=>if a.2 then((lZ N a.1 (⟨#[40]⟩:BA)).bind λb=>(tV N b true).bind λb=>(lZ N b.1 (⟨#[44]⟩:BA)).bind λc=>(R5 c (wI (p1+1))).bind λc=>(lZ N c.1 (⟨#[41]⟩:BA)).bind λd=>(nD N d (6,0,0,b.2,[c.2]) y1.2.2.2.2).bind λb=>some (b.1,b.2)) else((rR N a.1 (⟨#[115,105,122,101]⟩:BA)).bind λa=>(if a.2 then(some (a.2,a.1.1,a.1.2.1,a.1.2.2.1,a.1.2.2.2.1,a.1.2.2.2.2.1,a.1.2.2.2.2.2.1,a.1.2.2.2.2.2.2)) else((rR N a.1 (⟨#[104,97,115]⟩:BA)).bind λa=>if a.2 then(some (a.2,a.1.1,a.1.2.1,a.1.2.2.1,a.1.2.2.2.1,a.1.2.2.2.2.1,a.1.2.2.2.2.2.1,a.1.2.2.2.2.2.2)) else((rR N a.1 (⟨#[101,110,118]⟩:BA)).bind λa=>some (a.2,a.1.1,a.1.2.1,a.1.2.2.1,a.1.2.2.2.1,a.1.2.2.2.2.1,a.1.2.2.2.2.2.1,a.1.2.2.2.2.2.2))):EO).bind λb=>if b.1 then((if(y1.2.2.1.toList==(⟨#[104,97,115]⟩:BA).toList)then(some 8) else(if(y1.2.2.1.toList==(⟨#[101,110,118]⟩:BA).toList)then(some 9) else(some 7)):Td).bind λo2=>(lZ N b.2 (⟨#[40]⟩:BA)).bind λa=>(tV N a (o2 !=9)).bind λa=>(lZ N a.1 (⟨#[41]⟩:BA)).bind λc=>(nD N c (o2,0,0,a.2,([]:Te)) y1.2.2.2.2).bind λa=>some (a.1,a.2)) else((rR N b.2 (⟨#[102,108,105,112]⟩:BA)).bind λb=>if b.2 then((lZ N b.1 (⟨#[40]⟩:BA)).bind λa=>(mC N a).bind λc=>(yS N c.1).bind λa=>(if(decide (a.2>=64))then((mM N a.1 c.2.2.2.2 9).bind λc=>some c) else(some a.1):tR).bind λc=>(lZ N c (⟨#[41]⟩:BA)).bind λc=>(nD N c (10,a.2,0,(⟨#[]⟩:BA),([]:Te)) y1.2.2.2.2).bind λa=>some (a.1,a.2)) else((qF N b.1).bind λy31=>(rQ N y31.1 (⟨#[40]⟩:BA)).bind λa=>if(!a.2)then((aC (AN N y1 y31 a) N 0).bind λb=>(match b with| .inl o4=>(mM N a.1 y1.2.2.2.2 9).bind λb=>some (b,0)| .inr (z)=>some z)) else((aC (AM N R5 p1) N (([]:Te),a.1.1,a.1.2.1,a.1.2.2.1,a.1.2.2.2.1,a.1.2.2.2.2.1,a.1.2.2.2.2.2.1,a.1.2.2.2.2.2.2)).bind λa=>(nD N a.2 (3,0,0,y31.2,a.1) y1.2.2.2.2).bind λa=>some (a.1,a.2)))))))))
def xP(N:Nat)(R6:eT->(Int)->nG)(p1:Int)(s1:uT):Option T1y:=
 if(s1.2.2.2.2.1==0)then((mC N s1.2).bind λb=>(rQ N b.1 (⟨#[42]⟩:BA)).bind λa=>(if a.2 then(some (.inl (3,a.1.1,a.1.2.1,a.1.2.2.1,a.1.2.2.2.1,a.1.2.2.2.2.1,a.1.2.2.2.2.2.1,a.1.2.2.2.2.2.2))) else((rQ N a.1 (⟨#[47]⟩:BA)).bind λa=>if a.2 then(some (.inl (4,a.1.1,a.1.2.1,a.1.2.2.1,a.1.2.2.2.1,a.1.2.2.2.2.1,a.1.2.2.2.2.2.1,a.1.2.2.2.2.2.2))) else((rQ N a.1 (⟨#[37]⟩:BA)).bind λy5=>if y5.2 then(some (.inl (5,y5.1.1,y5.1.2.1,y5.1.2.2.1,y5.1.2.2.2.1,y5.1.2.2.2.2.1,y5.1.2.2.2.2.2.1,y5.1.2.2.2.2.2.2))) else(some (.inr (.inr (s1.1,y5.1.1,y5.1.2.1,y5.1.2.2.1,y5.1.2.2.2.1,y5.1.2.2.2.2.1,y5.1.2.2.2.2.2.1,y5.1.2.2.2.2.2.2)))))):Option T1z).bind λa=>(match a with| .inl o2=>(R6 o2.2 p1).bind λa=>(nD N a.1 (4,0,o2.1,(⟨#[]⟩:BA),[s1.1,a.2]) b.2.2.2.2).bind λa=>some (.inl (a.2,a.1.1,a.1.2.1,a.1.2.2.1,a.1.2.2.2.1,a.1.2.2.2.2.1,a.1.2.2.2.2.2.1,a.1.2.2.2.2.2.2))| .inr z=>some z)) else(some (.inr s1))
def EV(N:Nat)(R6:eT->(Int)->nG)(R7:eT->(Int)->nG)(R8:eT->(Int)->nG)(R5:eT->(Int)->nG)(p0:eT)(p1:Int):nG:=
 (R6 p0 p1).bind λy1=>(aC (xP N R6 p1) N (y1.2,y1.1.1,y1.1.2.1,y1.1.2.2.1,y1.1.2.2.2.1,y1.1.2.2.2.2.1,y1.1.2.2.2.2.2.1,y1.1.2.2.2.2.2.2)).bind λa=>some (a.2,a.1)
def yU(N:Nat)(R7:eT->(Int)->nG)(p1:Int)(s1:uT):Option T1y:=
 if(s1.2.2.2.2.1==0)then((mC N s1.2).bind λb=>(rQ N b.1 (⟨#[43]⟩:BA)).bind λa=>(if a.2 then(some (.inl (1,a.1.1,a.1.2.1,a.1.2.2.1,a.1.2.2.2.1,a.1.2.2.2.2.1,a.1.2.2.2.2.2.1,a.1.2.2.2.2.2.2))) else((rQ N a.1 (⟨#[45]⟩:BA)).bind λa=>if a.2 then(some (.inl (2,a.1.1,a.1.2.1,a.1.2.2.1,a.1.2.2.2.1,a.1.2.2.2.2.1,a.1.2.2.2.2.2.1,a.1.2.2.2.2.2.2))) else(some (.inr (.inr (s1.1,a.1.1,a.1.2.1,a.1.2.2.1,a.1.2.2.2.1,a.1.2.2.2.2.1,a.1.2.2.2.2.2.1,a.1.2.2.2.2.2.2))))):Option T1z).bind λa=>(match a with| .inl o2=>(R7 o2.2 p1).bind λy5=>(nD N y5.1 (4,0,o2.1,(⟨#[]⟩:BA),[s1.1,y5.2]) b.2.2.2.2).bind λa=>some (.inl (a.2,a.1.1,a.1.2.1,a.1.2.2.1,a.1.2.2.2.1,a.1.2.2.2.2.1,a.1.2.2.2.2.2.1,a.1.2.2.2.2.2.2))| .inr z=>some z)) else(some (.inr s1))
def EY(N:Nat)(R6:eT->(Int)->nG)(R7:eT->(Int)->nG)(R8:eT->(Int)->nG)(R5:eT->(Int)->nG)(p0:eT)(p1:Int):nG:=
 (R7 p0 p1).bind λy1=>(aC (yU N R7 p1) N (y1.2,y1.1.1,y1.1.2.1,y1.1.2.2.1,y1.1.2.2.2.1,y1.1.2.2.2.2.1,y1.1.2.2.2.2.2.1,y1.1.2.2.2.2.2.2)).bind λa=>some (a.2,a.1)
def AO(N:Nat)(R6:eT->(Int)->nG)(R7:eT->(Int)->nG)(R8:eT->(Int)->nG)(R5:eT->(Int)->nG)(p0:eT)(p1:Int):nG:=
 (mC N p0).bind λy1=>(if(decide (p1>32))then((mM N y1.1 y1.2.2.2.2 2).bind λa=>some a) else(some y1.1):tR).bind λa=>if(a.2.2.2.1 !=0)then(some (a,0)) else((rR N a (⟨#[105,102]⟩:BA)).bind λb=>if b.2 then((R5 b.1 (wI (p1+1))).bind λd=>(rR N d.1 (⟨#[116,104,101,110]⟩:BA)).bind λy5=>(if(!y5.2)then((mC N y5.1).bind λa=>(mM N a.1 a.2.2.2.2 9).bind λa=>some a) else(some y5.1):tR).bind λo2=>(R5 o2 (wI (p1+1))).bind λe=>(rR N e.1 (⟨#[101,108,115,101]⟩:BA)).bind λc=>(if(!c.2)then((mC N c.1).bind λa=>(mM N a.1 a.2.2.2.2 9).bind λa=>some a) else(some c.1):tR).bind λa=>(R5 a (wI (p1+1))).bind λa=>(nD N a.1 (5,0,0,(⟨#[]⟩:BA),[d.2,e.2,a.2]) y1.2.2.2.2).bind λa=>some (a.1,a.2)) else((R8 b.1 p1).bind λb=>(mC N b.1).bind λc=>(rQ N c.1 (⟨#[60]⟩:BA)).bind λa=>(if a.2 then(some (.inl (6,a.1.1,a.1.2.1,a.1.2.2.1,a.1.2.2.2.1,a.1.2.2.2.2.1,a.1.2.2.2.2.2.1,a.1.2.2.2.2.2.2))) else((rQ N a.1 (⟨#[61,61]⟩:BA)).bind λa=>if a.2 then(some (.inl (7,a.1.1,a.1.2.1,a.1.2.2.1,a.1.2.2.2.1,a.1.2.2.2.2.1,a.1.2.2.2.2.2.1,a.1.2.2.2.2.2.2))) else(some (.inr (a.1,b.2)))):Option (uT⊕rN)).bind λa=>(match a with| .inl o4=>(R8 o4.2 p1).bind λa=>(nD N a.1 (4,0,o4.1,(⟨#[]⟩:BA),[b.2,a.2]) c.2.2.2.2).bind λa=>some (a.1,a.2)| .inr z=>some z)))
def mJ(N:Nat):Nat->(eT->(Int)->nG)×(((List (Int×BA×Int×Int))×Int×Int×Int×List BA×(List (Int×Int×Int×BA×List Int))×List Int)->(Int)->nG)×(((List (Int×BA×Int×Int))×Int×Int×Int×List BA×(List (Int×Int×Int×BA×List Int))×List Int)->(Int)->nG)×(((List (Int×BA×Int×Int))×Int×Int×Int×List BA×(List (Int×Int×Int×BA×List Int))×List Int)->(Int)->nG)
 |0=>((λ_ _=>none),(λ_ _=>none),(λ_ _=>none),(λ_ _=>none))
 |D+1=>(ER N (mJ N D).1 (mJ N D).2.1 (mJ N D).2.2.1 (mJ N D).2.2.2,EV N (mJ N D).1 (mJ N D).2.1 (mJ N D).2.2.1 (mJ N D).2.2.2,EY N (mJ N D).1 (mJ N D).2.1 (mJ N D).2.2.1 (mJ N D).2.2.2,AO N (mJ N D).1 (mJ N D).2.1 (mJ N D).2.2.1 (mJ N D).2.2.2)
def AQ(N:Nat)(p0:eT)(p1:Int):nG:=(mJ N N).2.2.2 p0 p1
abbrev PU(F:eT->(Int)->nG):Prop:=∀{m O w} {p0:eT} {p1:Int} {a d k f l b c h n} {r:rN} (g:St m (kB a (V6 p0 d k f l b c h n) 215::kR b p0.2.2.2.2.2.1 c 158 5::O) w) (o:RepS C4 m d k p0.1) (d:RepS aB m f l p0.2.2.2.2.1) (d:RepS C5 m b c p0.2.2.2.2.2.1) (b:RepS (aG .i64) m h n p0.2.2.2.2.2.2) (hr:F p0 p1=some r),Calls prog 206 #[vP a 0,vI p1] w λe w'=>∃d k f l b c h n m',bN m m' e (vI r.2) (kB a (V6 r.1 d k f l b c h n) 215::kR b r.1.2.2.2.2.2.1 c 158 5::O) w' (P1 m' d k f l b c h n r.1)
abbrev QB(F:eT->(Int)->nG):Prop:=∀{m O w} {p0:eT} {p1:Int} {a d k f l b c h n} {r:rN} (g:St m (kB a (V6 p0 d k f l b c h n) 215::kR b p0.2.2.2.2.2.1 c 158 5::O) w) (o:RepS C4 m d k p0.1) (d:RepS aB m f l p0.2.2.2.2.1) (d:RepS C5 m b c p0.2.2.2.2.2.1) (b:RepS (aG .i64) m h n p0.2.2.2.2.2.2) (hr:F p0 p1=some r),Calls prog 197 #[vP a 0,vI p1] w λe w'=>∃d k f l b c h n m',bN m m' e (vI r.2) (kB a (V6 r.1 d k f l b c h n) 215::kR b r.1.2.2.2.2.2.1 c 158 5::O) w' (P1 m' d k f l b c h n r.1)
abbrev QH(F:eT->(Int)->nG):Prop:=∀{m O w} {p0:eT} {p1:Int} {a d k f l b c h n} {r:rN} (g:St m (kB a (V6 p0 d k f l b c h n) 215::kR b p0.2.2.2.2.2.1 c 158 5::O) w) (o:RepS C4 m d k p0.1) (d:RepS aB m f l p0.2.2.2.2.1) (d:RepS C5 m b c p0.2.2.2.2.2.1) (b:RepS (aG .i64) m h n p0.2.2.2.2.2.2) (hr:F p0 p1=some r),Calls prog 190 #[vP a 0,vI p1] w λe w'=>∃d k f l b c h n m',bN m m' e (vI r.2) (kB a (V6 r.1 d k f l b c h n) 215::kR b r.1.2.2.2.2.2.1 c 158 5::O) w' (P1 m' d k f l b c h n r.1)
abbrev QD(F:eT->(Int)->nG):Prop:=∀{m O w} {p0:eT} {p1:Int} {a d k f l b c h n} {r:rN} (g:St m (kB a (V6 p0 d k f l b c h n) 215::kR b p0.2.2.2.2.2.1 c 158 5::O) w) (o:RepS C4 m d k p0.1) (d:RepS aB m f l p0.2.2.2.2.1) (d:RepS C5 m b c p0.2.2.2.2.2.1) (b:RepS (aG .i64) m h n p0.2.2.2.2.2.2) (hr:F p0 p1=some r),Calls prog 178 #[vP a 0,vI p1] w λe w'=>∃d k f l b c h n m',bN m m' e (vI r.2) (kB a (V6 r.1 d k f l b c h n) 215::kR b r.1.2.2.2.2.2.1 c 158 5::O) w' (P1 m' d k f l b c h n r.1)
theorem Nr{R6 R7 R8 R5}(M:PU R6)(b0:QB R7)(b6:QH R8)(a:QD R5){p0:eT}{p1:Int}{r:rN}(g:St m (kB bp0 (V6 p0 a1 c1 a2 c2 a3 c3 a4 c4) 215::kR a3 p0.h.1 c3 158 5::O) w)(r1:RepS C4 m a1 c1 p0.1)(r2:RepS aB m a2 c2 p0.f.1)(r3:RepS C5 m a3 c3 p0.h.1)(r4:RepS (aG .i64) m a4 c4 p0.j)(hr:ER N R6 R7 R8 R5 p0 p1=some r):Calls prog 206 #[vP bp0 0,vI p1] w λe w'=>∃t7 u0 t8 u1 n9 o0 t9 u2 m',bN m m' e (vI r.2) (kB bp0 (V6 r.1 t7 u0 t8 u1 n9 o0 t9 u2) 215::kR n9 r.1.h.1 o0 158 5::O) w' (P1 m' t7 u0 t8 u1 n9 o0 t9 u2 r.1):=by
 refine bH g func206 rfl ntmps206 λq=>bK (bA 1 hr (pC (p0:=p0) g.f1.f1 r1 r2 r3 r4) ?_);rintro y1 hr _ w1 ⟨a5,c5,a6,c6,a7,c7,a8,c8,m1,rfl,e1,g,r5,r6,r7,r8⟩;have q:=q.t e1;refine bX 5 189 (.agg iS) g λb1 w2 g=>aZ (.agg (V4 y1.2)) g λw3 g=>aI (aD (aS 1 g.h (eI (bJ (aD (aS 3 g.t.h (cV hr ?_ ?_)))))))<;>intro A hr
 .exact eD (zH hr g.t.f1.f1)
 refine aD (aS 1 g.h (cV hr ?_ ?_))<;>intro A hr
 .refine bA 2 hr (VF (p0:=y1.1) g.f2.f2 r5 r6 r7 r8) ?_;rintro b hr _ w4 ⟨a9,c9,V,b7,Y,b8,Z,b9,m2,rfl,H,g,U,x,y,z⟩;refine iH 2 hr (wP (p0:=b.1) (p1:=(1,b.2,0,eB,([]:Te))) g.f1.f1 U x y z (RepS.nil _ _)) ?_;rintro G hr _ w5 ⟨c,p,l,s,n,u,o,v,S,rfl,R,g,B,D,E,F⟩;exact iC (zH hr g.f2.t.f1.f1)
 refine bA 1 hr (uU (p0:=y1.1) g.f2.f2 r5 r6 r7 r8) ?_;rintro y4 hr _ w6 ⟨D1,E3,D2,E4,D3,E5,D4,E6,m4,rfl,e4,g,q6,q7,q8,q9⟩;refine cV hr ?_ ?_<;>intro A hr
 .refine bA 2 hr (VF (p0:=y4.1) g.f1.f1 q6 q7 q8 q9) ?_;rintro y5 hr _ w7 ⟨U,b7,V,b8,Y,b9,Z,c0,m5,rfl,H,g,v,x,y,z⟩;refine iH 3 hr (wP (p0:=y5.1) (p1:=(1,wI (0-y5.2),0,eB,([]:Te))) g.f1.f1 v x y z (RepS.nil _ _)) ?_;rintro G hr _ w8 ⟨b,o,c,p,l,s,n,u,S,rfl,R,g,B,D,E,F⟩;exact iC (zH hr g.f2.t.f1.f1)
 refine bA 1 hr (uU (p0:=y4.1) g.f1.f1 q6 q7 q8 q9) ?_;rintro y7 hr _ w9 ⟨D5,E7,D6,E8,D7,E9,D8,F0,m7,rfl,e7,g,r0,s3,s4,s5⟩;have q:=(q.t e4).t e7;refine cV hr ?_ ?_<;>intro A hr
 .refine bA 3 hr (a (p0:=y7.1) g.f1.f1 r0 s3 s4 s5) ?_;rintro b hr _ d1 ⟨U,b7,V,b8,Y,b9,Z,c0,m8,rfl,H,g,x,y,z,B⟩;refine aW (bA 1 hr (tT (p0:=b.1) g.f1.f1 x y z B) ?_);rintro y9 hr _ d2 ⟨c,p,l,s,n,u,o,v,S,rfl,R,g,D,E,F,G⟩;exact aI (aD (iC (zH hr g.f2.t.f1.f1)))
 refine bA 1 hr (vU (p0:=y7.1) g.f1.f1 r0 s3 s4 s5) ?_;rintro o9 hr _ G2 ⟨D9,F2,E0,F3,E1,F4,E2,F5,F6,rfl,q2,g,s6,s7,s8,s9⟩;refine cV hr ?_ ?_<;>intro A hr
 .refine bA 1 hr (tT (p0:=o9.1) g.f1.f1 s6 s7 s8 s9) ?_;rintro g1 hr _ q5 ⟨g4,k6,g5,k7,g6,k8,g7,k9,n7,rfl,B,g,S,U,V,Y⟩;refine aI (bA 1 hr (VH (p0:=g1) g.f1.f1 S U V Y) ?_);rintro l hr _ t3 ⟨g8,l0,g9,l2,h0,l3,h1,l4,n8,rfl,D,g,Z,b7,b8,b9⟩;refine aW (bA 1 hr (tT (p0:=l.1) g.f1.f1 Z b7 b8 b9) ?_);rintro g2 hr _ t4 ⟨h2,l5,h3,l6,h4,l7,h5,l8,q0,rfl,E,g,c0,d1,d2,d3⟩;refine aI (bA 3 hr (a (p0:=g2) g.f1.f1 c0 d1 d2 d3) ?_);rintro b hr _ t5 ⟨h6,l9,h7,n0,h8,n1,h9,n2,q1,rfl,F,g,d4,d5,d6,d7⟩;refine aW (bA 1 hr (tT (p0:=b.1) g.f1.f1 d4 d5 d6 d7) ?_);rintro g3 hr _ t6 ⟨k0,n3,k3,n4,k4,n5,k5,n6,q3,rfl,G,g,d8,d9,e0,f0⟩;refine aI (aR 3 (iF 76 3 1 (aG .i64) [b.2] g λb2 q4 u3 c g f6=>iH 2 hr (wP (p0:=g3) (p1:=(6,0,0,l.2,[b.2])) g.f2.f2 (d8.o c) (d9.o c) (e0.o c) (f0.o c) f6) ?_));rintro n hr _ u4 ⟨o,v,p,x,s,y,u,z,R,rfl,H,g,f7,f8,f9,g0⟩;refine eJ 1 ?_;have g:=g.f2.t;cases hr;exact nX (zE g.f2.t.f1.f1 ((((((((q.t q2).t B).t D).t E).t F).t G).t c).t H))
 refine aJ (bA 1 hr (vU (p0:=o9.1) g.f1.f1 s6 s7 s8 s9) ?_);rintro u3 hr _ G3 ⟨z3,z7,z4,z8,z5,z9,z6,A0,A3,rfl,A1,g,t3,t4,t5,t6⟩;have q:=(q.t q2).t A1;refine aW (cE .normal hr (λo1 L' w'=>∃h3 h6 h4 h7 d3 d9 h5 h8 f0,L'=[(0,vP bp0 0),(1,vI p1),(5,vP b1 0),(6,vI y1.f),(80,vB o1.1)]/\m.le f0/\St f0 (kB bp0 (V6 o1.2 h3 h6 h4 h7 d3 d9 h5 h8) 215::kB b1 (V4 y1.2) 189::kR d3 o1.j.1 d9 158 5::O) w'/\P1 f0 h3 h6 h4 h7 d3 d9 h5 h8 o1.2) ?_ ?_)
 .rintro o1 hr _ G4 ⟨h3,h6,h4,h7,d3,d9,h5,h8,f0,rfl,q,g,f8,f9,g0,g1⟩;refine aV (aO hr ?_ ?_)<;>intro A hr
  .refine cG (aD (aS 1 g.t.h (aW (cE .normal hr (λo2 L' w'=>∃b,L'=[(0,vP bp0 0),(6,vI y1.f),(10,vI o2)]/\m.le b/\St b (kB bp0 (V6 o1.2 h3 h6 h4 h7 d3 d9 h5 h8) 215::kB b1 (V4 y1.2) 189::kR d3 o1.j.1 d9 158 5::O) w'/\P1 b h3 h6 h4 h7 d3 d9 h5 h8 o1.2) ?_ ?_))))
   .rintro o2 hr _ l4 ⟨b,rfl,q,g,f8,f9,g0,g1⟩;refine aV (bA 1 hr (tT (p0:=o1.2) g.f2.f1 f8 f9 g0 g1) ?_);rintro d6 hr _ l5 ⟨d8,h0,e0,h1,f6,h2,f7,h9,l0,rfl,D,g,R,S,U,V⟩;refine aI (bA 3 hr (VH (p0:=d6) g.f1.f1 R S U V) ?_);rintro c hr _ l6 ⟨g2,k0,g3,k3,g4,k4,g5,k5,l2,rfl,E,g,Y,Z,b7,b8⟩;refine aW (bA 1 hr (tT (p0:=c.1) g.f1.f1 Y Z b7 b8) ?_);rintro d7 hr _ l7 ⟨g6,k6,g7,k7,g8,k8,g9,k9,l3,rfl,F,g,b9,c0,d1,d2⟩;refine aI (bA 5 hr (wP (p0:=d7) (p1:=(o2,0,0,c.2,([]:Te))) g.f1.f1 b9 c0 d1 d2 (RepS.nil _ _)) ?_);rintro l hr _ l8 ⟨u,y,v,z,x,B,n,o,H,rfl,G,g,d4,d5,p,s⟩;cases hr;exact iC (zE g.f2.t.f1.f1 ((((q.t D).t E).t F).t G))
   intro o2 hr c;refine aO hr ?_ ?_<;>intro A hr
   .exact cP 1 (xE (c hr (zA g.f2.f2.f2)))
   refine aD (aS 1 g.t.h (cV hr ?_ ?_))<;>intro A hr
   .exact cP 1 (xE (c hr (zA g.f2.f2.f2)))
   exact iD (c hr (zA g.f2.f2.f2))
  refine bA 1 hr (vU (p0:=o1.2) g.f2.f1 f8 f9 g0 g1) ?_;rintro q0 hr _ G5 ⟨A5,B3,A6,B4,A7,B5,A8,B6,F7,rfl,A2,g,n1,n2,n3,n4⟩;have q:=q.t A2;refine cV hr ?_ ?_<;>intro A hr
  .refine bA 1 hr (tT (p0:=q0.1) g.f1.f1 n1 n2 n3 n4) ?_;rintro l3 hr _ x3 ⟨l5,q4,l6,q5,l7,u4,l8,u5,v9,rfl,H,g,f6,f7,g2,g3⟩;refine aI (bA 1 hr (pC (p0:=l3) g.f1.f1 f6 f7 g2 g3) ?_);rintro F hr _ x4 ⟨l9,u6,n0,u7,n5,u9,n6,v0,x0,rfl,R,g,g4,g5,g6,g7⟩;refine aW (bA 1 hr (VF (p0:=F.1) g.f1.f1 g4 g5 g6 g7) ?_);rintro b hr _ x5 ⟨U,d1,V,d2,Y,d4,Z,d5,l0,rfl,S,g,z,B,D,E⟩;refine eI (bK (cE .normal hr (λy L' w'=>∃n s o u c l p v x,L'=[(0,vP bp0 0),(6,vI y1.f),(13,vI b.2)]/\m.le x/\St x (kB bp0 (V6 y n s o u c l p v) 215::kB b1 (V4 y1.2) 189::kR c y.h.1 l 158 5::O) w'/\P1 x n s o u c l p v y) ?_ ?_))
   .rintro y hr _ x6 ⟨n,s,o,u,c,l,p,v,x,rfl,q,g,g8,g9,h0,h1⟩;refine aV (bA 1 hr (tT (p0:=y) g.f2.f1 g8 g9 h0 h1) ?_);rintro l4 hr _ x7 ⟨n7,v1,n8,v3,q1,v4,q3,v5,x2,rfl,k8,g,h2,h9,k0,k3⟩;refine aI (bA 4 hr (wP (p0:=l4) (p1:=(10,b.2,0,eB,([]:Te))) g.f1.f1 h2 h9 k0 k3 (RepS.nil _ _)) ?_);rintro G hr _ x8 ⟨b7,d6,b8,d7,b9,d8,c0,e0,l2,rfl,k9,g,k4,k5,k6,k7⟩;exact iC (zH hr g.f2.t.f1.f1)
   intro y hr G;refine aO hr ?_ ?_<;>intro A hr
   .refine eQ 2 (bW hr (rP (p0:=b.1) g.f1.f1 z B D E) ?_);rintro k3 hr _ k0 ⟨b7,d6,b8,d7,b9,d8,c0,e0,h9,rfl,h2,g,g8,g9,h0,h1⟩;exact qM (G hr (zE g.f1.f2.f2 ((((q.t H).t R).t S).t h2)))
   exact iD (G hr (zA g.f1.f2.f2))
  refine lP (bA 1 hr (KB (p0:=q0.1) g.f1.f1 n1 n2 n3 n4) ?_);rintro y31 hr _ G6 ⟨A9,B7,B0,B8,B1,B9,B2,D0,F8,rfl,q3,g,v9,x0,x2,x3⟩;refine eI (bA 1 hr (uU (p0:=y31.1) g.f1.f1 v9 x0 x2 x3) ?_);rintro b hr _ G7 ⟨E,G,v,y,x,z,F,H,q5,rfl,q4,g,p,o,s,u⟩;refine cV hr ?_ ?_<;>intro A hr
  .refine aJ (aD (aS 3 g.h (mA ?_)));have⟨D,hr,j4⟩:=aM hr;refine eS (.exit 1) (λL' w'=>∃(o4:Unit),∃n,(.inl o4)=D/\L'=[(0,vP bp0 0),(6,vI y1.f)]/\m.le n/\St n (kB bp0 (V6 b.1 E G v y x z F H) 215::kB b1 (V4 y1.2) 189::kR x b.1.h.1 z 158 5::O) w'/\P1 n E G v y x z F H b.1) ?_ ?_
   .rintro _ d2 ⟨o4,n,rfl,rfl,q,g,p,o,s,u⟩;have hr:=j4;refine eY (bA 2 hr (rP (p0:=b.1) g.f2.f1 p o s u) ?_);rintro d5 hr _ d4 ⟨c,S,l,U,B,V,R,Y,d1,rfl,c0,g,Z,b7,b8,b9⟩;exact aI (aD (iC (zH hr g.f2.t.f1.f1)))
   intro R;refine eF (λS L' w'=>∃(s1:Int),∃c,aC (AN N y1 y31 b) S s1=some D/\L'=[(0,vP bp0 0),(6,vI y1.f),(14,vT y31.2),(137,vS v b.1.f.1 y),(138,vI (b.1.2.2.2.2.1.length:Int)),(139,vI s1)]/\m.le c/\St c (kB bp0 (V6 b.1 E G v y x z F H) 215::kB b1 (V4 y1.2) 189::kR x b.1.h.1 z 158 5::O) w'/\RepS aB c v y b.1.f.1/\RepS C4 c E G b.1.1/\RepS C5 c x z b.1.h.1/\RepS (aG .i64) c F H b.1.j) N ⟨0,q5,hr,rfl,(q.t q3).t q4,g.f1.f2.f2,o,p,s,u⟩ ?_;rintro S _ g3 ⟨s1,c,hL,rfl,q,g,o,p,s,u⟩;obtain⟨S,g2,rfl,hr,d2,B⟩:=eH hL;refine cG (aO hr ?_ ?_)<;>intro A hr
   .refine aQ (aJ (bJ (aR 1 (iP o hr ?_))));rintro x1 hr b3 f1 f7 rfl e0;refine dU g e0 (tH (iY 10 hr (λo5 L' w'=>∃l,L'=[(0,vP bp0 0),(6,vI y1.f),(14,vT y31.2),(15,vI s1),(137,vS v b.1.f.1 y),(138,vI (b.1.2.2.2.2.1.length:Int)),(139,vI s1),(153,vB o5)]/\m.le l/\St l (kB bp0 (V6 b.1 E G v y x z F H) 215::kB b1 (V4 y1.2) 189::kR x b.1.h.1 z 158 5::O) w'/\RepS aB l v y b.1.f.1/\RepS C4 l E G b.1.1/\RepS C5 l x z b.1.h.1/\RepS (aG .i64) l F H b.1.j) ?_ ?_))
    .rintro o5 hr _ g4 ⟨l,rfl,q,g,o,p,s,u⟩;refine aI (aO hr ?_ ?_)<;>intro A hr
     .refine bA 4 hr (wP (p0:=b.1) (p1:=(2,s1,0,eB,([]:Te))) g.f2.f1 p o s u (RepS.nil _ _)) ?_;rintro U hr _ g5 ⟨V,b8,Y,b9,Z,c0,b7,d1,f6,rfl,d8,g,d4,d5,d6,d7⟩;refine aW (aT (cF (bL ?_)));have ho:=B _ (sI hr);subst ho;have hr:=j4;exact mH (zH hr g.f2.t.f1.f1)
     refine lP (cP 2 ?_);exact dX (zL d2 hr g.f2.f2.f2)
    intro o5 hr K;refine cW 4 147 hr ?_ ?_<;>intro A hr
    .exact aS 3 g.h (bG 2 (K hr (zA g.f2.f2.f2)))
    exact bG 6 (K hr (zA g.f2.f2.f2))
   refine eE ?_;exact dY (R _ _ (zL B hr g.f2.f2.f2))
  refine aQ (aR 2 (bX 17 158 (.agg #[vI 0,vI 0,vI 0,vT eB,v6]) g λb4 G8 g=>aZ (.agg #[vI 3,vI 0,vI 0,vT y31.2,vb]) g λG9 g=>aI (aJ (bJ (cE (.exit 3) hr (λh2 L' w'=>∃(U:OU),∃b8 d4 h9 k8 k0 k9 g2 g7 k3 l0 b7,U=h2/\L'=[(0,vP bp0 0),(6,vI y1.f),(17,vP b4 0)]/\m.le b7/\St b7 (kB b4 #[vI 3,vI 0,vI 0,vT y31.2,vS b8 U.1 d4] 158::kB bp0 (V6 U.2 h9 k8 k0 k9 g2 g7 k3 l0) 215::kB b1 (V4 y1.2) 189::kR b8 U.1 d4 3 1::kR g2 U.j.1 g7 158 5::O) w'/\RepS (aG .i64) b7 b8 d4 U.1/\RepS C4 b7 h9 k8 U.2.1/\RepS aB b7 k0 k9 U.h.1/\RepS C5 b7 g2 g7 U.j.1/\RepS (aG .i64) b7 k3 l0 U.k) ?_ ?_)))))
  .rintro h2 hr _ f7 ⟨U,b8,d4,h9,k8,k0,k9,g2,g7,k3,l0,b7,rfl,rfl,q,g,Z,b9,c0,d1,d2⟩;refine eY (aR 1 (bD g.h (iH 1 hr (wP (p0:=U.2) (p1:=(3,0,0,y31.2,U.1)) g.f4.f2 b9 c0 d1 d2 Z) ?_)));rintro c hr _ g3 ⟨l,R,n,S,B,V,D,Y,f6,rfl,e0,g,d5,d6,d7,d8⟩;exact iC (zH hr g.f2.t.f2.t.f2.t.f1.f1)
  intro h2 hr q1;have g:=(g.nilroom 3 1).front3.front1.front4.front4.front4;refine eF (λk2 L' w'=>∃(s2:OU),∃l n g3 g8 g4 g9 b9 d5 g5 h0 R,aC (AM N R5 p1) k2 s2=some h2/\L'=[(0,vP bp0 0),(1,vI p1),(6,vI y1.f),(17,vP b4 0)]/\m.le R/\St R (kB b4 #[vI 3,vI 0,vI 0,vT y31.2,vS l s2.1 n] 158::kB bp0 (V6 s2.2 g3 g8 g4 g9 b9 d5 g5 h0) 215::kB b1 (V4 y1.2) 189::kR l s2.1 n 3 1::kR b9 s2.j.1 d5 158 5::O) w'/\RepS (aG .i64) R l n s2.1/\RepS C4 R g3 g8 s2.2.1/\RepS aB R g4 g9 s2.h.1/\RepS C5 R b9 d5 s2.j.1/\RepS (aG .i64) R g5 h0 s2.k) N ⟨(([]:Te),b.1.1,b.1.2.1,b.1.d.1,b.1.e.1,b.1.f.1,b.1.h.1,b.1.j),none,0,E,G,v,y,x,z,F,H,q5,hr,rfl,(q.t q3).t q4,g,(RepS.nil _ _),p,o,s,u⟩ ?_;rintro k2 _ H0 ⟨s2,l,n,g3,g8,g4,g9,b9,d5,g5,h0,R,hL,rfl,q,g,B,n5,n6,n7,n8⟩;obtain⟨k2,G1,rfl,hr,v5,v4⟩:=eH hL;refine aJ (aD (iY 10 hr (λV L' w'=>∃c0 d6 d1 d7 Y Z d2 d8 f6,L'=[(0,vP bp0 0),(1,vI p1),(6,vI y1.f),(17,vP b4 0),(174,vB V.1)]/\m.le f6/\St f6 (kB b4 #[vI 3,vI 0,vI 0,vT y31.2,vS l s2.1 n] 158::kB bp0 (V6 V.2 c0 d6 d1 d7 Y Z d2 d8) 215::kB b1 (V4 y1.2) 189::kR l s2.1 n 3 1::kR Y V.j.1 Z 158 5::O) w'/\RepS (aG .i64) f6 l n s2.1/\P1 f6 c0 d6 d1 d7 Y Z d2 d8 V.2) ?_ ?_))
  .rintro V hr _ H1 ⟨c0,d6,d1,d7,Y,Z,d2,d8,f6,rfl,q,g,B,l6,l7,l8,l9⟩;refine aI (aO hr ?_ ?_)<;>intro A hr
   .refine aQ (bJ (aJ (aD (aS 1 g.h (aW (cE .normal hr (λo8 L' w'=>∃k4 l2 k5 l3 g6 h1 k6 l4 S,L'=[(0,vP bp0 0),(1,vI p1),(6,vI y1.f),(17,vP b4 0)]/\m.le S/\St S (kB b4 #[vI 3,vI 0,vI 0,vT y31.2,vS l s2.1 n] 158::kB bp0 (V6 o8 k4 l2 k5 l3 g6 h1 k6 l4) 215::kB b1 (V4 y1.2) 189::kR l s2.1 n 3 1::kR g6 o8.h.1 h1 158 5::O) w'/\RepS (aG .i64) S l n s2.1/\P1 S k4 l2 k5 l3 g6 h1 k6 l4 o8) ?_ ?_))))))
    .rintro o8 hr _ H2 ⟨k4,l2,k5,l3,g6,h1,k6,l4,S,rfl,q,g,B,x4,x5,x6,x7⟩;refine aV (cM [(10,λw'=>Inv S w'/\True),(9,λw'=>Inv S w'/\Piece.holds S w' (kB b4 #[vI 3,vI 0,vI 0,vT y31.2,vS l s2.1 n] 158)/\True)] kr g λH3 _ g=> ?_);have c:=S.le_refl;refine⟨lI (aF g c) (aF g c),aN 0 (rF 22 181 1 182 4 (vS l s2.1 n) (.tail _ (.head _)) cH (aU 3 [2,3,4] (aK 5 kr (cY hr (λ_ h=>a (p0:=o8) g.f4.f2 x4 x5 x6 x7 h) ?_))))⟩;rintro D hr _ H4 ⟨u4,u9,u5,v0,u6,v1,u7,v3,F9,rfl,n0,g,x8,x9,y0,z0⟩;refine⟨_,rfl,?_⟩;have c:=c.t n0;refine⟨lI (aF g c) (aF g c),aK 6 kr (qH (d:=187) (t:=22) (e:=3) (len:=1) (parts:= #[(0,(.tmp 186))]) (aG .i64) (xs:=[D.2]) [vI D.2] kr rfl (λ_=>qI kr _) rfl rfl g ⟨[vI D.2],_,rfl,rfl,rfl⟩ λb5 G0 H5 e0 g z1=> ?_)⟩;have c:=c.t e0;refine⟨lI (aF g c) (aF g c),aK 7 kr (uK 188 22 22 3 8 182 187 g.f5 (.inl kr) ((B.o n0).o e0) z1.src hr λl1 hr k7 l5 A4 H6 f7 g z2=> ?_)⟩;have c:=c.t f7;refine⟨lI (aF g c) (aF g c),aN 8 (aK 9 kr (tI 22 189 188 4 (vS k7 l1 l5) #[vI 3,vI 0,vI 0,vT y31.2,vS k7 l1 l5] g.f4 λH7 g=>⟨rJ (aF g c),bO kr ?_⟩))⟩;have g:=g.f2.t;exact iU (dX (zL v5 hr g.f3.f2.f4.f4.f4))
    intro o8 hr c;refine aO hr ?_ ?_<;>intro A hr
    .refine eQ 1 (bW hr (tT (p0:=V.2) g.f4.f2 l6 l7 l8 l9) ?_);rintro x5 hr _ x4 ⟨e0,n0,f7,u4,k7,u5,l5,u6,v3,rfl,D,g,u7,u9,v0,v1⟩;exact qM (c hr (zA g.f1.f4.f4.f3.f4))
    exact iD (c hr (zA g.f4.f4.f4.f4.f4))
   refine eE ?_;exact dY (q1 rfl (zL v4 hr g.f4.f4.f4.f4.f4))
  intro V hr K;refine aS 3 g.t.h (cW 2 170 hr ?_ ?_)<;>intro A hr
  .refine iH 1 hr (uU (p0:=s2.2) g.f4.f2 n5 n6 n7 n8) ?_;rintro l5 hr _ l6 ⟨D,g6,S,h1,e0,k4,f7,k5,l4,rfl,c,g,k6,k7,l2,l3⟩;exact bG 2 (K hr (zA g.f1.f4.f4.f3.f4))
  exact bG 4 (K hr (zA g.f4.f4.f4.f4.f4))
 intro o1 hr b;refine aO hr ?_ ?_<;>intro A hr
 .exact iD (b hr (zA g.f1.f2.f2))
 refine bA 1 hr (vU (p0:=u3.1) g.f1.f1 t3 t4 t5 t6) ?_;rintro s hr _ d5 ⟨u,F,v,G,x,H,y,R,b7,rfl,c,g,l,n,o,p⟩;refine cV hr ?_ ?_<;>intro A hr
 .exact iD (b hr (zA g.f1.f2.f2))
 refine eQ 1 (bW hr (vU (p0:=s.1) g.f1.f1 l n o p) ?_);rintro d4 hr _ d6 ⟨z,S,B,U,D,V,E,Y,b8,rfl,Z,g,b9,c0,d1,d2⟩;exact eJ 1 (xE (b hr (zA g.f1.f2.f2)))
theorem Ny{R6 R7 R8 R5}(a:PU R6)(c:QB R7)(k:QH R8)(b:QD R5){p0:eT}{p1:Int}{r:rN}(g:St m (kB bp0 (V6 p0 a1 c1 a2 c2 a3 c3 a4 c4) 215::kR a3 p0.h.1 c3 158 5::O) w)(r1:RepS C4 m a1 c1 p0.1)(r2:RepS aB m a2 c2 p0.f.1)(r3:RepS C5 m a3 c3 p0.h.1)(r4:RepS (aG .i64) m a4 c4 p0.j)(hr:EV N R6 R7 R8 R5 p0 p1=some r):Calls prog 197 #[vP bp0 0,vI p1] w λe w'=>∃g2 g5 g3 g6 b6 b7 g4 g7 m',bN m m' e (vI r.2) (kB bp0 (V6 r.1 g2 g5 g3 g6 b6 b7 g4 g7) 215::kR b6 r.1.h.1 b7 158 5::O) w' (P1 m' g2 g5 g3 g6 b6 b7 g4 g7 r.1):=by
 refine bH g func197 rfl ntmps197 λq=>bK (bA 2 hr (a (p0:=p0) g.f1.f1 r1 r2 r3 r4) ?_);rintro y1 hr _ w1 ⟨a5,c5,a6,c6,a7,c7,a8,c8,m1,rfl,e1,g,r5,r6,r7,r8⟩;refine eI (bJ (cE (.exit 0) hr (λl L' w'=>∃(v:uT),∃a9 c9 z H o s B K m2,v=l/\L'=[(5,vI v.1)]/\m.le m2/\St m2 (kB bp0 (V6 v.2 a9 c9 z H o s B K) 215::kR o v.j.1 s 158 5::O) w'/\P1 m2 a9 c9 z H o s B K v.2) ?_ ?_))
 .rintro l hr _ y ⟨v,a9,c9,z,H,o,s,B,K,m2,rfl,rfl,q,g,x,n,p,u⟩;exact eY (eD (zH hr g.f1.f1))
 intro l hr y;refine eF (λk1 L' w'=>∃(s1:uT),∃D M E R p u F S m3,aC (xP N R6 p1) k1 s1=some l/\L'=[(0,vP bp0 0),(1,vI p1),(5,vI s1.1)]/\m.le m3/\St m3 (kB bp0 (V6 s1.2 D M E R p u F S) 215::kR p s1.j.1 u 158 5::O) w'/\P1 m3 D M E R p u F S s1.2) N ⟨(y1.2,y1.1.1,y1.1.2.1,y1.1.d.1,y1.1.e.1,y1.1.f.1,y1.1.h.1,y1.1.j),a5,c5,a6,c6,a7,c7,a8,c8,m1,hr,rfl,q.t e1,g.f1.f1,r5,r6,r7,r8⟩ ?_;rintro k1 _ w3 ⟨s1,D,M,E,R,p,u,F,S,m3,hL,rfl,q,g,d6,d7,d8,d9⟩;obtain⟨k1,n7,rfl,hr,g8,b5⟩:=eH hL;refine aJ (aD (aS 3 g.h (cV hr ?_ ?_)))<;>intro A hr
 .refine aQ (bJ (bA 1 hr (pC (p0:=s1.2) g.f1.f1 d6 d7 d8 d9) ?_));rintro y2 hr _ w4 ⟨l1,l7,l2,l8,l3,l9,l4,n0,m4,rfl,e2,g,k7,k8,k9,l0⟩;refine eI (bA 1 hr (uU (p0:=y2.1) g.f1.f1 k7 k8 k9 l0) ?_);rintro x hr _ w5 ⟨g9,h7,h0,h8,h1,h9,h2,k0,m5,rfl,e3,g,e0,e9,f0,f3⟩;refine aI ?_;have⟨k6,hr,j2⟩:=aM hr;refine eS .normal (λL' w'=>∃(o2:uT),∃Y b2 Z b3 G U b0 b4 m6,(.inl o2:T1z)=k6/\L'=[(0,vP bp0 0),(1,vI p1),(5,vI s1.1),(6,vI o2.1),(7,vI y2.f)]/\m.le m6/\St m6 (kB bp0 (V6 o2.2 Y b2 Z b3 G U b0 b4) 215::kR G o2.j.1 U 158 5::O) w'/\P1 m6 Y b2 Z b3 G U b0 b4 o2.2) ?_ ?_
  .rintro _ w6 ⟨o2,Y,b2,Z,b3,G,U,b0,b4,m6,rfl,rfl,q,g,f5,f6,f7,f8⟩;have hr:=j2;refine aV (bA 2 hr (a (p0:=o2.2) g.f1.f1 f5 f6 f7 f8) ?_);rintro V hr _ w9 ⟨k4,n1,k5,n3,l5,n4,l6,n5,m9,rfl,e6,g,f9,g0,g1,h3⟩;refine aW (eQ 4 (iF 33 3 2 (aG .i64) [s1.1,V.2] g λb1 n6 n8 e7 g h4=>iH 2 hr (wP (p0:=V.1) (p1:=(4,0,o2.1,eB,[s1.1,V.2])) g.f2.f2 (f9.o e7) (g0.o e7) (g1.o e7) (h3.o e7) h4) ?_));rintro n hr _ n9 ⟨b8,d2,b9,d3,c0,d4,d1,d5,f4,rfl,e8,g,h5,h6,k2,k3⟩;refine eJ 1 ?_;have g:=g.f2.t;exact iU (dX (zL g8 hr g.f1.f1))
  intro V;refine aO hr ?_ ?_<;>intro A hr
  .refine cP 1 ?_;have n2:=jE hr;exact xE (V _ _ (zA g.f1.f1))
  refine bA 1 hr (uU (p0:=x.1) g.f1.f1 e0 e9 f0 f3) ?_;rintro n hr _ w7 ⟨h3,k2,h4,k3,h5,k4,h6,k5,m7,rfl,e4,g,f4,f5,f6,f7⟩;have q:=((q.t e2).t e3).t e4;refine aI (aO hr ?_ ?_)<;>intro A hr
  .refine cP 1 ?_;have n2:=jE hr;exact xE (V _ _ (zA g.f1.f1))
  refine bA 1 hr (uU (p0:=n.1) g.f1.f1 f4 f5 f6 f7) ?_;rintro y5 hr _ w8 ⟨b8,d2,b9,d3,c0,d4,d1,d5,m8,rfl,e5,g,f8,f9,g0,g1⟩;refine aI (aO hr ?_ ?_)<;>intro A hr
  .refine cP 1 ?_;have n2:=jE hr;exact xE (V _ _ (zA g.f1.f1))
  refine xZ ?_;cases hr;have hr:=j2;exact HD (xU rfl (dY (y rfl (zL b5 hr g.f1.f1))))
 refine eE ?_;exact dY (y rfl (zL b5 hr g.f1.f1))
theorem Oc{R6 R7 R8 R5}(b:PU R6)(a:QB R7)(l:QH R8)(k:QD R5){p0:eT}{p1:Int}{r:rN}(g:St m (kB bp0 (V6 p0 a1 c1 a2 c2 a3 c3 a4 c4) 215::kR a3 p0.h.1 c3 158 5::O) w)(r1:RepS C4 m a1 c1 p0.1)(r2:RepS aB m a2 c2 p0.f.1)(r3:RepS C5 m a3 c3 p0.h.1)(r4:RepS (aG .i64) m a4 c4 p0.j)(hr:EY N R6 R7 R8 R5 p0 p1=some r):Calls prog 190 #[vP bp0 0,vI p1] w λe w'=>∃f7 g0 f8 g1 b5 b6 f9 g2 m',bN m m' e (vI r.2) (kB bp0 (V6 r.1 f7 g0 f8 g1 b5 b6 f9 g2) 215::kR b5 r.1.h.1 b6 158 5::O) w' (P1 m' f7 g0 f8 g1 b5 b6 f9 g2 r.1):=by
 refine bH g func190 rfl ntmps190 λq=>bK (bA 2 hr (a (p0:=p0) g.f1.f1 r1 r2 r3 r4) ?_);rintro y1 hr _ w1 ⟨a5,c5,a6,c6,a7,c7,a8,c8,m1,rfl,e1,g,r5,r6,r7,r8⟩;refine eI (bJ (cE (.exit 0) hr (λn L' w'=>∃(v:uT),∃a9 c9 z H o s B K m2,v=n/\L'=[(5,vI v.1)]/\m.le m2/\St m2 (kB bp0 (V6 v.2 a9 c9 z H o s B K) 215::kR o v.j.1 s 158 5::O) w'/\P1 m2 a9 c9 z H o s B K v.2) ?_ ?_))
 .rintro n hr _ y ⟨v,a9,c9,z,H,o,s,B,K,m2,rfl,rfl,q,g,x,c,p,u⟩;exact eY (eD (zH hr g.f1.f1))
 intro n hr y;refine eF (λk1 L' w'=>∃(s1:uT),∃D M E R p u F S m3,aC (yU N R7 p1) k1 s1=some n/\L'=[(0,vP bp0 0),(1,vI p1),(5,vI s1.1)]/\m.le m3/\St m3 (kB bp0 (V6 s1.2 D M E R p u F S) 215::kR p s1.j.1 u 158 5::O) w'/\P1 m3 D M E R p u F S s1.2) N ⟨(y1.2,y1.1.1,y1.1.2.1,y1.1.d.1,y1.1.e.1,y1.1.f.1,y1.1.h.1,y1.1.j),a5,c5,a6,c6,a7,c7,a8,c8,m1,hr,rfl,q.t e1,g.f1.f1,r5,r6,r7,r8⟩ ?_;rintro k1 _ w3 ⟨s1,D,M,E,R,p,u,F,S,m3,hL,rfl,q,g,d6,d7,d8,d9⟩;obtain⟨k1,n4,rfl,hr,g3,b4⟩:=eH hL;refine aJ (aD (aS 3 g.h (cV hr ?_ ?_)))<;>intro A hr
 .refine aQ (bJ (bA 1 hr (pC (p0:=s1.2) g.f1.f1 d6 d7 d8 d9) ?_));rintro y2 hr _ w4 ⟨k7,l5,k8,l6,k9,l7,l0,l8,m4,rfl,e2,g,h3,h4,h5,h6⟩;refine eI (bA 1 hr (uU (p0:=y2.1) g.f1.f1 h3 h4 h5 h6) ?_);rintro x hr _ w5 ⟨g4,g8,g5,g9,g6,h0,g7,h1,m5,rfl,e3,g,e0,e8,e9,f0⟩;have q:=(q.t e2).t e3;refine aI ?_;have⟨h2,hr,j2⟩:=aM hr;refine eS .normal (λL' w'=>∃(o2:uT),∃V b0 Y b2 G U Z b3 m6,(.inl o2:T1z)=h2/\L'=[(0,vP bp0 0),(1,vI p1),(5,vI s1.1),(6,vI o2.1),(7,vI y2.f)]/\m.le m6/\St m6 (kB bp0 (V6 o2.2 V b0 Y b2 G U Z b3) 215::kR G o2.j.1 U 158 5::O) w'/\P1 m6 V b0 Y b2 G U Z b3 o2.2) ?_ ?_
  .rintro _ w6 ⟨o2,V,b0,Y,b2,G,U,Z,b3,m6,rfl,rfl,q,g,f3,f4,f5,f6⟩;have hr:=j2;refine aV (bA 2 hr (a (p0:=o2.2) g.f1.f1 f3 f4 f5 f6) ?_);rintro y5 hr _ w8 ⟨l1,l9,l2,n0,l3,n1,l4,n3,m8,rfl,e5,g,h7,h8,h9,k0⟩;refine aW (eQ 4 (iF 31 3 2 (aG .i64) [s1.1,y5.2] g λb1 m9 w9 e6 g k2=>iH 2 hr (wP (p0:=y5.1) (p1:=(4,0,o2.1,eB,[s1.1,y5.2])) g.f2.f2 (h7.o e6) (h8.o e6) (h9.o e6) (k0.o e6) k2) ?_));rintro c hr _ n5 ⟨b7,d1,b8,d2,b9,d3,c0,d4,d5,rfl,e7,g,k3,k4,k5,k6⟩;refine eJ 1 ?_;have g:=g.f2.t;exact iU (dX (zL g3 hr g.f1.f1))
  intro b7;refine aO hr ?_ ?_<;>intro A hr
  .refine cP 1 ?_;have n2:=jE hr;exact xE (b7 _ _ (zA g.f1.f1))
  refine bA 1 hr (uU (p0:=x.1) g.f1.f1 e0 e8 e9 f0) ?_;rintro c hr _ w7 ⟨b8,d2,b9,d3,c0,d4,d1,d5,m7,rfl,e4,g,f3,f4,f5,f6⟩;refine aI (aO hr ?_ ?_)<;>intro A hr
  .refine cP 1 ?_;have n2:=jE hr;exact xE (b7 _ _ (zA g.f1.f1))
  refine xZ ?_;cases hr;have hr:=j2;exact HD (xU rfl (dY (y rfl (zL b4 hr g.f1.f1))))
 refine eE ?_;exact dY (y rfl (zL b4 hr g.f1.f1))
theorem Nx{R6 R7 R8 R5}(c:PU R6)(l:QB R7)(b:QH R8)(a:QD R5){p0:eT}{p1:Int}{r:rN}(g:St m (kB bp0 (V6 p0 a1 c1 a2 c2 a3 c3 a4 c4) 215::kR a3 p0.h.1 c3 158 5::O) w)(r1:RepS C4 m a1 c1 p0.1)(r2:RepS aB m a2 c2 p0.f.1)(r3:RepS C5 m a3 c3 p0.h.1)(r4:RepS (aG .i64) m a4 c4 p0.j)(hr:AO N R6 R7 R8 R5 p0 p1=some r):Calls prog 178 #[vP bp0 0,vI p1] w λe w'=>∃f7 g0 f8 g1 b7 b8 f9 g2 m',bN m m' e (vI r.2) (kB bp0 (V6 r.1 f7 g0 f8 g1 b7 b8 f9 g2) 215::kR b7 r.1.h.1 b8 158 5::O) w' (P1 m' f7 g0 f8 g1 b7 b8 f9 g2 r.1):=by
 refine bH g func178 rfl ntmps178 λq=>bK (bA 1 hr (pC (p0:=p0) g.f1.f1 r1 r2 r3 r4) ?_);rintro y1 hr _ w1 ⟨a5,c5,a6,c6,a7,c7,a8,c8,m1,rfl,e1,g,r5,r6,r7,r8⟩;refine eI (bK (cE .normal hr (λv L' w'=>∃a9 c9 x D p s y E m2,L'=[(0,vP bp0 0),(1,vI p1),(5,vI y1.f)]/\m.le m2/\St m2 (kB bp0 (V6 v a9 c9 x D p s y E) 215::kR p v.h.1 s 158 5::O) w'/\P1 m2 a9 c9 x D p s y E v) ?_ ?_))
 .rintro v hr _ w2 ⟨a9,c9,x,D,p,s,y,E,m2,rfl,q,g,r9,d1,d2,d3⟩;refine lG (aD (aS 3 g.h (cV hr ?_ ?_)))<;>intro A hr
  .exact eD (zH hr g.f1.f1)
  refine aQ (aJ (bA 1 hr (vU (p0:=v) g.f1.f1 r9 d1 d2 d3) ?_));rintro y3 hr _ w4 ⟨q0,s8,q1,s9,q2,t3,q3,t4,m4,rfl,e3,g,d4,d5,d6,d7⟩;have q:=q.t e3;refine aI (aO hr ?_ ?_)<;>intro A hr
  .refine bA 3 hr (a (p0:=y3.1) g.f1.f1 d4 d5 d6 d7) ?_;rintro o hr _ w5 ⟨q4,t5,q5,t6,q6,t7,q7,t8,m5,rfl,e4,g,l0,l1,l2,l3⟩;refine eI (bA 1 hr (vU (p0:=o.1) g.f1.f1 l0 l1 l2 l3) ?_);rintro y5 hr _ w6 ⟨f6,h4,g3,h5,g4,h6,g5,h7,m6,rfl,e5,g,b9,c0,d8,d9⟩;refine aW (cE .normal hr (λo2 L' w'=>∃M Z R b0 z F S b3 m7,L'=[(0,vP bp0 0),(1,vI p1),(5,vI y1.f),(6,vI o.2)]/\m.le m7/\St m7 (kB bp0 (V6 o2 M Z R b0 z F S b3) 215::kR z o2.h.1 F 158 5::O) w'/\P1 m7 M Z R b0 z F S b3 o2) ?_ ?_)
   .rintro o2 hr _ w7 ⟨M,Z,R,b0,z,F,S,b3,m7,rfl,q,g,l4,l5,l6,l7⟩;refine aV (bA 3 hr (a (p0:=o2) g.f1.f1 l4 l5 l6 l7) ?_);rintro u hr _ v1 ⟨q8,t9,q9,u0,r0,u1,s3,u2,u7,rfl,e8,g,l8,l9,n0,n1⟩;refine eI (bA 1 hr (vU (p0:=u.1) g.f1.f1 l8 l9 n0 n1) ?_);rintro y9 hr _ v3 ⟨g6,h8,g7,h9,g8,k0,g9,k1,k8,rfl,e9,g,e0,f0,f3,f4⟩;refine aW (cE .normal hr (λK L' w'=>∃U b4 V b5 B G Y b6 H,L'=[(0,vP bp0 0),(1,vI p1),(5,vI y1.f),(6,vI o.2),(7,vI u.2)]/\m.le H/\St H (kB bp0 (V6 K U b4 V b5 B G Y b6) 215::kR B K.h.1 G 158 5::O) w'/\P1 H U b4 V b5 B G Y b6 K) ?_ ?_)
    .rintro K hr _ v4 ⟨U,b4,V,b5,B,G,Y,b6,H,rfl,q,g,n2,n3,n5,n6⟩;refine aV (bA 3 hr (a (p0:=K) g.f1.f1 n2 n3 n5 n6) ?_);rintro k hr _ v5 ⟨s4,u3,s5,u4,s6,u5,s7,u6,u9,rfl,k6,g,n7,n8,n9,o0⟩;refine aW (aR 4 (iF 60 3 3 (aG .i64) [o.2,u.2,k.2] g λb1 v0 v9 n g o5=>iH 2 hr (wP (p0:=k.1) (p1:=(5,0,0,eB,[o.2,u.2,k.2])) g.f2.f2 (n7.o n) (n8.o n) (n9.o n) (o0.o n) o5) ?_));rintro f5 hr _ x0 ⟨h0,k2,h1,k3,h2,k4,h3,k5,k9,rfl,k7,g,o6,o7,o8,o9⟩;refine eJ 1 ?_;have g:=g.f2.t;exact nX (zH hr g.f1.f1)
    intro K hr k;refine aO hr ?_ ?_<;>intro A hr
    .refine eQ 2 (bW hr (pC (p0:=y9.1) g.f1.f1 e0 f0 f3 f4) ?_);rintro n hr _ s7 ⟨o0,o8,o5,o9,o6,s4,o7,s5,s6,rfl,k5,g,k9,n2,n3,n5⟩;refine iH 1 hr (rP (p0:=n.1) g.f1.f1 k9 n2 n3 n5) ?_;rintro u4 hr _ u3 ⟨f5,h3,h0,k2,h1,k3,h2,k4,k7,rfl,k6,g,n6,n7,n8,n9⟩;exact qM (k hr (zE g.f1.f1 ((((q.t e8).t e9).t k5).t k6)))
    exact iD (k hr (zA g.f1.f1))
   intro o2 hr k;refine aO hr ?_ ?_<;>intro A hr
   .refine eQ 2 (bW hr (pC (p0:=y5.1) g.f1.f1 b9 c0 d8 d9) ?_);rintro y6 hr _ w8 ⟨f5,g9,g6,h0,g7,h1,g8,h2,m8,rfl,e6,g,Y,b4,b5,b6⟩;refine iH 1 hr (rP (p0:=y6.1) g.f1.f1 Y b4 b5 b6) ?_;rintro y7 hr _ w9 ⟨n,H,u,K,B,U,G,V,m9,rfl,e7,g,e0,f0,f3,f4⟩;exact qM (k hr (zE g.f1.f1 ((((q.t e4).t e5).t e6).t e7)))
   exact iD (k hr (zA g.f1.f1))
  refine aQ (bA 2 hr (b (p0:=y3.1) g.f1.f1 d4 d5 d6 d7) ?_);rintro k hr _ s4 ⟨l5,n8,l6,n9,l7,o0,l8,o5,q8,rfl,h1,g,h6,h7,h8,h9⟩;refine aW (bA 1 hr (pC (p0:=k.1) g.f1.f1 h6 h7 h8 h9) ?_);rintro G hr _ s5 ⟨l9,o6,n0,o7,n1,o8,n2,o9,q9,rfl,h2,g,k0,k1,k2,k3⟩;refine eI (bA 1 hr (uU (p0:=G.1) g.f1.f1 k0 k1 k2 k3) ?_);rintro n hr _ s6 ⟨g3,g7,g4,g8,g5,g9,g6,h0,h4,rfl,h3,g,d8,d9,e0,f0⟩;have q:=((q.t h1).t h2).t h3;refine aI ?_;have⟨h5,hr,j4⟩:=aM hr;refine eS .normal (λL' w'=>∃(o4:uT),∃H R K S z B M U F,(.inl o4:uT⊕rN)=h5/\L'=[(0,vP bp0 0),(1,vI p1),(9,vI k.2),(10,vI o4.1),(11,vI G.f)]/\m.le F/\St F (kB bp0 (V6 o4.2 H R K S z B M U) 215::kR z o4.j.1 B 158 5::O) w'/\P1 F H R K S z B M U o4.2) ?_ ?_
  .rintro _ s7 ⟨o4,H,R,K,S,z,B,M,U,F,rfl,rfl,q,g,f5,f6,k4,k5⟩;have hr:=j4;refine aV (bA 2 hr (b (p0:=o4.2) g.f1.f1 f5 f6 k4 k5) ?_);rintro o hr _ t5 ⟨n3,q4,n5,q5,n6,q6,n7,q7,r0,rfl,c0,g,k6,k7,k8,k9⟩;refine aW (aR 4 (iF 82 3 2 (aG .i64) [k.2,o.2] g λb2 s3 t6 u g l0=>iH 2 hr (wP (p0:=o.1) (p1:=(4,0,o4.1,eB,[k.2,o.2])) g.f2.f2 (k6.o u) (k7.o u) (k8.o u) (k9.o u) l0) ?_));rintro V hr _ t7 ⟨Y,b4,Z,b5,b0,b6,b3,b9,f4,rfl,f3,g,l1,l2,l3,l4⟩;refine eJ 1 ?_;have g:=g.f2.t;exact nX (zH hr g.f1.f1)
  intro u;refine aO hr ?_ ?_<;>intro A hr
  .refine cP 1 ?_;have n4:=jE hr;exact xE (u _ _ (zA g.f1.f1))
  refine bA 1 hr (uU (p0:=n.1) g.f1.f1 d8 d9 e0 f0) ?_;rintro o hr _ k4 ⟨V,b3,Y,b4,Z,b5,b0,b6,c0,rfl,b9,g,f3,f4,f5,f6⟩;refine aI (aO hr ?_ ?_)<;>intro A hr
  .refine cP 1 ?_;have n4:=jE hr;exact xE (u _ _ (zA g.f1.f1))
  refine bK (aT ?_);cases hr;have hr:=j4;exact mH (zH hr g.f1.f1)
 intro v hr k;refine aO hr ?_ ?_<;>intro A hr
 .refine eQ 2 (bW hr (rP (p0:=y1.1) g.f1.f1 r5 r6 r7 r8) ?_);rintro Z hr _ Y ⟨n,B,o,F,u,G,z,H,V,rfl,U,g,K,M,R,S⟩;exact qM (k hr (zA g.f1.f1))
 exact iD (k hr (zA g.f1.f1))
theorem sH(N:Nat):∀D:Nat,(∀{m:Mem} {O:List Piece} {w:World} {p0:eT} {p1:Int} {a:Nat} {t:Option Addr} {x:Nat} {u:Option Addr} {y:Nat} {q:Option Addr} {s:Nat} {v:Option Addr} {z:Nat} {r:rN} (g:St m (kB a (V6 p0 t x u y q s v z) 215::kR q p0.h.1 s 158 5::O) w) (A:RepS C4 m t x p0.1) (B:RepS aB m u y p0.f.1) (E:RepS C5 m q s p0.h.1) (F:RepS (aG .i64) m v z p0.j) (hr:(mJ N D).1 p0 p1=some r),Calls prog 206 #[vP a 0,vI p1] w λe w'=>∃d n k o b c l p m',bN m m' e (vI r.2) (kB a (V6 r.1 d n k o b c l p) 215::kR b r.1.h.1 c 158 5::O) w' (P1 m' d n k o b c l p r.1))/\(∀{m:Mem} {O:List Piece} {w:World} {p0:eT} {p1:Int} {a:Nat} {t:Option Addr} {x:Nat} {u:Option Addr} {y:Nat} {q:Option Addr} {s:Nat} {v:Option Addr} {z:Nat} {r:rN} (g:St m (kB a (V6 p0 t x u y q s v z) 215::kR q p0.h.1 s 158 5::O) w) (A:RepS C4 m t x p0.1) (B:RepS aB m u y p0.f.1) (E:RepS C5 m q s p0.h.1) (F:RepS (aG .i64) m v z p0.j) (hr:(mJ N D).2.1 p0 p1=some r),Calls prog 197 #[vP a 0,vI p1] w λe w'=>∃d n k o b c l p m',bN m m' e (vI r.2) (kB a (V6 r.1 d n k o b c l p) 215::kR b r.1.h.1 c 158 5::O) w' (P1 m' d n k o b c l p r.1))/\(∀{m:Mem} {O:List Piece} {w:World} {p0:eT} {p1:Int} {a:Nat} {t:Option Addr} {x:Nat} {u:Option Addr} {y:Nat} {q:Option Addr} {s:Nat} {v:Option Addr} {z:Nat} {r:rN} (g:St m (kB a (V6 p0 t x u y q s v z) 215::kR q p0.h.1 s 158 5::O) w) (A:RepS C4 m t x p0.1) (B:RepS aB m u y p0.f.1) (E:RepS C5 m q s p0.h.1) (F:RepS (aG .i64) m v z p0.j) (hr:(mJ N D).2.2.1 p0 p1=some r),Calls prog 190 #[vP a 0,vI p1] w λe w'=>∃d n k o b c l p m',bN m m' e (vI r.2) (kB a (V6 r.1 d n k o b c l p) 215::kR b r.1.h.1 c 158 5::O) w' (P1 m' d n k o b c l p r.1))/\(∀{m:Mem} {O:List Piece} {w:World} {p0:eT} {p1:Int} {a:Nat} {t:Option Addr} {x:Nat} {u:Option Addr} {y:Nat} {q:Option Addr} {s:Nat} {v:Option Addr} {z:Nat} {r:rN} (g:St m (kB a (V6 p0 t x u y q s v z) 215::kR q p0.h.1 s 158 5::O) w) (A:RepS C4 m t x p0.1) (B:RepS aB m u y p0.f.1) (E:RepS C5 m q s p0.h.1) (F:RepS (aG .i64) m v z p0.j) (hr:(mJ N D).2.2.2 p0 p1=some r),Calls prog 178 #[vP a 0,vI p1] w λe w'=>∃d n k o b c l p m',bN m m' e (vI r.2) (kB a (V6 r.1 d n k o b c l p) 215::kR b r.1.h.1 c 158 5::O) w' (P1 m' d n k o b c l p r.1))
 |0=>⟨λ_ _ _ _ _ hr=>(by cases hr),λ_ _ _ _ _ hr=>(by cases hr),λ_ _ _ _ _ hr=>(by cases hr),λ_ _ _ _ _ hr=>(by cases hr)⟩
 |D+1=>⟨λg A B E F hr=>Nr (sH N D).1 (sH N D).2.1 (sH N D).2.2.1 (sH N D).2.2.2 g A B E F hr,λg A B E F hr=>Ny (sH N D).1 (sH N D).2.1 (sH N D).2.2.1 (sH N D).2.2.2 g A B E F hr,λg A B E F hr=>Oc (sH N D).1 (sH N D).2.1 (sH N D).2.2.1 (sH N D).2.2.2 g A B E F hr,λg A B E F hr=>Nx (sH N D).1 (sH N D).2.1 (sH N D).2.2.1 (sH N D).2.2.2 g A B E F hr⟩
theorem Oh{p0:eT}{p1:Int}{r:rN}(g:St m (kB bp0 (V6 p0 a1 c1 a2 c2 a3 c3 a4 c4) 215::kR a3 p0.h.1 c3 158 5::O) w)(p:RepS C4 m a1 c1 p0.1)(q:RepS aB m a2 c2 p0.f.1)(s:RepS C5 m a3 c3 p0.h.1)(t:RepS (aG .i64) m a4 c4 p0.j)(hr:AQ N p0 p1=some r):Calls prog 178 #[vP bp0 0,vI p1] w λe w'=>∃c l d n a b k o m',bN m m' e (vI r.2) (kB bp0 (V6 r.1 c l d n a b k o) 215::kR a r.1.h.1 b 158 5::O) w' (P1 m' c l d n a b k o r.1):=
 (sH N N).2.2.2 g p q s t hr
variable {c6:Nat} {a6:Option Addr}
def qT(N:Nat)(s1:wO):Option (wO⊕wO):=
 (if(s1.2.2.2.1==0)then((rQ N (s1.1,s1.2.1,s1.2.2.1,s1.2.2.2.1,s1.2.2.2.2.1,s1.2.2.2.2.2.1,s1.2.2.2.2.2.2.1) (⟨#[41]⟩:BA)).bind λa=>some (!a.2,a.1.1,a.1.2.1,a.1.2.2.1,a.1.2.2.2.1,a.1.2.2.2.2.1,a.1.2.2.2.2.2.1,a.1.2.2.2.2.2.2)) else(some (false,s1.1,s1.2.1,s1.2.2.1,s1.2.2.2.1,s1.2.2.2.2.1,s1.2.2.2.2.2.1,s1.2.2.2.2.2.2.1)):EO).bind λb=>if b.1 then((if(decide ((List.length s1.2.2.2.2.2.2.2:Int)>0))then((lZ N b.2 (⟨#[44]⟩:BA)).bind λa=>some a) else(some b.2):tR).bind λa=>(mC N a).bind λa=>(qF N a.1).bind λc=>(if((List.length s1.2.2.2.2.2.2.2:Int)==8)then((mM N c.1 a.2.2.2.2 2).bind λd=>some d) else(some c.1):tR).bind λd=>(uW N s1.2.2.2.2.2.2.2 c.2).bind λe=>(if e then((mM N d a.2.2.2.2 10).bind λa=>some a) else(some d):tR).bind λa=>(iK 16 s1.2.2.2.2.2.2.2 ([c.2])).bind λc=>some (.inl (a.1,a.2.1,a.2.2.1,a.2.2.2.1,a.2.2.2.2.1,a.2.2.2.2.2.1,a.2.2.2.2.2.2,c))) else(some (.inr (b.2.1,b.2.2.1,b.2.2.2.1,b.2.2.2.2.1,b.2.2.2.2.2.1,b.2.2.2.2.2.2.1,b.2.2.2.2.2.2.2,s1.2.2.2.2.2.2.2)))
def QL(N:Nat)(p0:eT)(p1:iE):Option T21:=
 (mC N (p0.1,p0.2.1,p0.2.2.1,p0.2.2.2.1,([]:Tb),([]:lK),p0.2.2.2.2.2.2)).bind λy1=>(rR N y1.1 (⟨#[102,117,110,99]⟩:BA)).bind λa=>(if a.2 then(some (.inl (a.1.1,a.1.2.1,a.1.2.2.1,a.1.2.2.2.1,a.1.2.2.2.2.1,a.1.2.2.2.2.2.1,a.1.2.2.2.2.2.2,1))) else((rR N a.1 (⟨#[116,101,115,116]⟩:BA)).bind λa=>if a.2 then(some (.inl (a.1.1,a.1.2.1,a.1.2.2.1,a.1.2.2.2.1,a.1.2.2.2.2.1,a.1.2.2.2.2.2.1,a.1.2.2.2.2.2.2,2))) else((rR N a.1 (⟨#[103,101,110]⟩:BA)).bind λa=>if a.2 then(some (.inl (a.1.1,a.1.2.1,a.1.2.2.1,a.1.2.2.2.1,a.1.2.2.2.2.1,a.1.2.2.2.2.2.1,a.1.2.2.2.2.2.2,3))) else((mM N a.1 y1.2.2.2.2 9).bind λy5=>some (.inr (y5,(0,(⟨#[]⟩:BA),([]:Tb),([]:lK))))))):Option (T22⊕T21)).bind λa=>(match a with| .inl a=>(if((List.length p1.2.2:Int)==64)then((mM N (a.1,a.2.1,a.2.2.1,a.2.2.2.1,a.2.2.2.2.1,a.2.2.2.2.2.1,a.2.2.2.2.2.2.1) y1.2.2.2.2 2).bind λb=>some b) else(some (a.1,a.2.1,a.2.2.1,a.2.2.2.1,a.2.2.2.2.1,a.2.2.2.2.2.1,a.2.2.2.2.2.2.1)):tR).bind λo2=>(mC N o2).bind λc=>(if(a.2.2.2.2.2.2.2==3)then((tV N c.1 true).bind λb=>some (b.1.1,b.1.2.1,b.1.2.2.1,b.1.2.2.2.1,b.1.2.2.2.2.1,b.1.2.2.2.2.2.1,b.1.2.2.2.2.2.2,b.2)) else((qF N c.1).bind λb=>some (b.1.1,b.1.2.1,b.1.2.2.1,b.1.2.2.2.1,b.1.2.2.2.2.1,b.1.2.2.2.2.2.1,b.1.2.2.2.2.2.2,b.2)):Option (qC×Int×Int×Int×Tb×lK×Te×Ta)).bind λb=>(if(b.2.2.2.1==0)then((CT N p1 a.2.2.2.2.2.2.2 b.2.2.2.2.2.2.2).bind λd=>some d) else(some false):Tk).bind λo4=>(if o4 then((mM N (b.1,b.2.1,b.2.2.1,b.2.2.2.1,b.2.2.2.2.1,b.2.2.2.2.2.1,b.2.2.2.2.2.2.1) c.2.2.2.2 10).bind λc=>some c) else(some (b.1,b.2.1,b.2.2.1,b.2.2.2.1,b.2.2.2.2.1,b.2.2.2.2.2.1,b.2.2.2.2.2.2.1)):tR).bind λd=>(if(a.2.2.2.2.2.2.2==1)then((lZ N d (⟨#[40]⟩:BA)).bind λc=>(aC (qT N) N (c.1,c.2.1,c.2.2.1,c.2.2.2.1,c.2.2.2.2.1,c.2.2.2.2.2.1,c.2.2.2.2.2.2,([]:Tb))).bind λc=>some c) else(some (d.1,d.2.1,d.2.2.1,d.2.2.2.1,d.2.2.2.2.1,d.2.2.2.2.2.1,d.2.2.2.2.2.2,([]:Tb))):Option wO).bind λc=>(lZ N (c.1,c.2.1,c.2.2.1,c.2.2.2.1,c.2.2.2.2.2.2.2,c.2.2.2.2.2.1,c.2.2.2.2.2.2.1) (⟨#[61]⟩:BA)).bind λd=>(AQ N d 1).bind λd=>(lZ N d.1 (⟨#[59]⟩:BA)).bind λd=>some (d,(a.2.2.2.2.2.2.2,b.2.2.2.2.2.2.2,c.2.2.2.2.2.2.2,d.2.2.2.2.2.1))| .inr z=>some z)
theorem Oi{p0:eT}{p1:iE}{r:T21}(g:St m (kB bp0 (V6 p0 a1 c1 a2 c2 a3 c3 a4 c4) 215::kR a3 p0.h.1 c3 158 5::O) w)(r1:RepS C4 m a1 c1 p0.1)(r2:RepS aB m a2 c2 p0.f.1)(r3:RepS C5 m a3 c3 p0.h.1)(r4:RepS (aG .i64) m a4 c4 p0.j)(G:RepS aB m a5 c5 p1.2.1)(H:RepS C6 m a6 c6 p1.d)(hr:QL N p0 p1=some r):Calls prog 149 #[vP bp0 0,.agg (V8 p1 a5 c5 a6 c6)] w λe w'=>∃B2 B6 B3 B7 x7 x9 B4 B8 x8 y0 B5 B9 m',bN m m' e (.agg (V9 r.2 x8 y0 B5 B9)) (kR x8 r.e.1 y0 9 1::kB bp0 (V6 r.1 B2 B6 B3 B7 x7 x9 B4 B8) 215::kR x7 r.1.h.1 x9 158 5::O) w' (RepS C4 m' B2 B6 r.1.1/\RepS aB m' B3 B7 r.1.f.1/\RepS C5 m' x7 x9 r.1.h.1/\RepS (aG .i64) m' B4 B8 r.1.j/\RepS aB m' x8 y0 r.e.1/\RepS C5 m' B5 B9 r.f):=by
 refine bH g func149 rfl ntmps149 λq=>aD (eC 3 81 (.agg (V8 p1 a5 c5 a6 c6)) g λb1 m1 w1 e1 g v=>bX 4 111 (.agg #[vI 0,vT eB,v6,v6]) g λp w2 g=>aI (aD (bX 5 111 (.agg #[vI 0,vT eB,v6,v6]) g λl w3 g=>aI (aR 4 (lA #[vS a1 p0.1 c1,vI p0.2.1,vI p0.d.1,vI p0.e.1,v2,vS a3 p0.h.1 c3,vS a4 p0.j c4] g.f2 λw4 g=>aX 2 (lA #[vS a1 p0.1 c1,vI p0.2.1,vI p0.d.1,vI p0.e.1,v2,vc,vS a4 p0.j c4] g λw5 g=>cX ?_))))));have g:=g.f3.t;refine oN 1 ?_;have g:=(g.nilroom 158 5).front1;refine bW hr (pC (p0:=(p0.1,p0.2.1,p0.d.1,p0.e.1,([]:Tb),([]:lK),p0.j)) g (r1.o e1) (RepS.nil _ _) (RepS.nil _ _) (r4.o e1)) ?_;rintro y1 hr _ w6 ⟨a7,c7,a8,c8,a9,c9,M5,R2,m2,rfl,e2,g,r7,r8,r9,H5⟩;refine eI (bA 1 hr (vU (p0:=y1.1) g.f1.f1 r7 r8 r9 H5) ?_);rintro y2 hr _ w7 ⟨F3,G1,F4,G2,F5,G3,F6,G4,m3,rfl,e3,g,z2,z3,z4,z5⟩;have v:=(v.o e2).o e3;have G:=((G.o e1).o e2).o e3;have H:=((H.o e1).o e2).o e3;refine aI ?_;have⟨H4,hr,j1⟩:=aM hr
 refine eS .normal (λL' w'=>∃(b:T22),∃l4 q0 l5 q1 g4 h3 l6 q2 m4,(.inl b:T22⊕T21)=H4/\L'=[(0,vP bp0 0),(3,vP b1 0),(4,vP p 0),(5,vP l 0),(6,vI y1.f)]/\m.le m4/\St m4 (kB bp0 (V7 l4 b.1 q0 b.2.1 b.d.1 b.e.1 l5 b.f.1 q1 g4 b.h.1 h3 l6 b.j.1 q2) 215::kB l #[vI b.k,vT eB,v2,vc] 111::kB p #[vI 0,vT eB,v2,vc] 111::kR g4 b.h.1 h3 158 5::O) w'/\MRow m4 b1 0 (Vc p1 a5 c5 a6 c6)/\RepS aB m4 a5 c5 p1.2.1/\RepS C6 m4 a6 c6 p1.d/\P2 m4 l4 q0 l5 q1 g4 h3 l6 q2 b) ?_ ?_
 .rintro _ w8 ⟨b,l4,q0,l5,q1,g4,h3,l6,q2,m4,rfl,rfl,q,g,v,G,H,z6,z7,z8,z9⟩;have hr:=j1;refine lG (iG 1 g (v.drop 2) (aW (cE .normal hr (λo2 L' w'=>∃t5 u3 t6 u4 l7 q3 t7 u5 m8,L'=[(0,vP bp0 0),(3,vP b1 0),(4,vP p 0),(5,vP l 0)]/\m.le m8/\St m8 (kB bp0 (V6 o2 t5 u3 t6 u4 l7 q3 t7 u5) 215::kB l #[vI b.k,vT eB,v2,vc] 111::kB p #[vI 0,vT eB,v2,vc] 111::kR l7 o2.h.1 q3 158 5::O) w'/\MRow m8 b1 0 (Vc p1 a5 c5 a6 c6)/\RepS aB m8 a5 c5 p1.2.1/\RepS C6 m8 a6 c6 p1.d/\P1 m8 t5 u3 t6 u4 l7 q3 t7 u5 o2) ?_ ?_)))
  .rintro o2 hr _ S2 ⟨t5,u3,t6,u4,l7,q3,t7,u5,m8,rfl,q,g,v,G,H,H6,H7,H8,H9⟩;refine aV (bA 1 hr (pC (p0:=o2) g.f3.f1 H6 H7 H8 H9) ?_);rintro y7 hr _ S3 ⟨M6,R3,M7,R4,M8,R5,M9,R6,R9,rfl,e8,g,A0,A1,A2,A3⟩;refine eI (aD (aS 1 g.t.t.h (aW (cE .normal hr (λa L' w'=>∃b9 d3 c0 d4 M R d1 d5 S,L'=[(0,vP bp0 0),(3,vP b1 0),(4,vP p 0),(5,vP l 0),(6,vI y7.f)]/\m.le S/\St S (kB bp0 (V7 b9 a.1 d3 a.2.1 a.d.1 a.e.1 c0 a.f.1 d4 M a.h.1 R d1 a.j.1 d5) 215::kB l #[vI b.k,vT a.k,v2,vc] 111::kB p #[vI 0,vT eB,v2,vc] 111::kR M a.h.1 R 158 5::O) w'/\MRow S b1 0 (Vc p1 a5 c5 a6 c6)/\RepS aB S a5 c5 p1.2.1/\RepS C6 S a6 c6 p1.d/\P2 S b9 d3 c0 d4 M R d1 d5 a) ?_ ?_))))
   .rintro a hr _ S4 ⟨b9,d3,c0,d4,M,R,d1,d5,S,rfl,q,g,v,G,H,k8,k9,l0,l2⟩;refine lG (aD ?_);have⟨o4,hr,J⟩:=aM hr;refine DS (j:=13) (λL' w'=>∃k4,L'=[(0,vP bp0 0),(4,vP p 0),(5,vP l 0),(6,vI y7.f),(61,vB o4)]/\m.le k4/\St k4 (kB bp0 (V7 b9 a.1 d3 a.2.1 a.d.1 a.e.1 c0 a.f.1 d4 M a.h.1 R d1 a.j.1 d5) 215::kB l #[vI b.k,vT a.k,v2,vc] 111::kB p #[vI 0,vT eB,v2,vc] 111::kR M a.h.1 R 158 5::O) w'/\P2 k4 b9 d3 c0 d4 M R d1 d5 a) ?_ ?_
    .have hr:=J;rintro _ S5 ⟨k4,rfl,q,g,k8,k9,l0,l2⟩;refine aI (cE .normal hr (λo5 L' w'=>∃l8 q4 l9 q5 g5 h4 n0 q6 k5,L'=[(0,vP bp0 0),(4,vP p 0),(5,vP l 0)]/\m.le k5/\St k5 (kB bp0 (V6 o5 l8 q4 l9 q5 g5 h4 n0 q6) 215::kB l #[vI b.k,vT a.k,v2,vc] 111::kB p #[vI 0,vT eB,v2,vc] 111::kR g5 o5.h.1 h4 158 5::O) w'/\P1 k5 l8 q4 l9 q5 g5 h4 n0 q6 o5) ?_ ?_)
     .rintro o5 hr _ S6 ⟨l8,q4,l9,q5,g5,h4,n0,q6,k5,rfl,q,g,A4,A5,A6,A7⟩;refine lG (aD (aS 1 g.t.h (aW (cE .normal hr (λo L' w'=>∃n2 q7 t8 u6 g6 h5 n3 q8 z B t3,L'=[(0,vP bp0 0),(4,vP p 0),(5,vP l 0)]/\m.le t3/\St t3 (kB bp0 (V7 n2 o.1 q7 o.2.1 o.d.1 o.e.1 t8 o.f.1 u6 g6 o.h.1 h5 n3 o.j.1 q8) 215::kB l #[vI b.k,vT a.k,vS z o.k B,vc] 111::kB p #[vI 0,vT eB,v2,vc] 111::kR g6 o.h.1 h5 158 5::kR z o.k B 9 1::O) w'/\P3 t3 n2 q7 t8 u6 g6 h5 n3 q8 z B o) ?_ ?_))))
      .rintro o hr _ n4 ⟨n2,q7,t8,u6,g6,h5,n3,q8,z,B,t3,rfl,q,g,f6,l3,f7,f8,E⟩;refine oN 2 (bD g.t.h (aX 2 (lA (V7 n2 o.1 q7 o.2.1 o.d.1 o.e.1 z o.k B g6 o.h.1 h5 n3 o.j.1 q8) g λn5 g=>aI (bA 1 hr (tT (p0:=(o.1,o.2.1,o.d.1,o.e.1,o.k,o.h.1,o.j.1)) g.f3.f1 f6 E f7 f8) ?_))));rintro f9 hr _ n6 ⟨g1,h2,g2,h6,g3,h7,g7,h8,k6,rfl,x,g,b5,b6,b7,b8⟩;refine aI (bA 1 hr (Oh (p0:=f9) g.f1.f1 b5 b6 b7 b8) ?_);rintro g0 hr _ n7 ⟨g8,h9,g9,k0,h0,k2,h1,k3,k7,rfl,y,g,d2,d6,d7,d8⟩;refine aI (bA 1 hr (tT (p0:=g0.1) g.f1.f1 d2 d6 d7 d8) ?_);rintro s hr _ n8 ⟨F,Y,U,Z,c,n,V,b0,f5,rfl,D,g,d9,e0,u,f0⟩;cases hr;exact aI (aD (aS 3 g.h (aX 1 (lA #[vI b.k,vT a.k,vS z o.k B,vS c s.h.1 n] g.f2 λn9 g=>aI (aD (bD g.h (aZ (.agg #[vI b.k,vT a.k,vS z o.k B,vS c s.h.1 n]) g.f3 λo0 g=>aI (aT (lE g.h (zA g.t.t.f1.f1.f2))))))))))
      intro o hr z1;refine aO hr ?_ ?_<;>intro A hr
      .refine bA 1 hr (tT (p0:=o5) g.f3.f1 A4 A5 A6 A7) ?_;rintro b7 hr _ S7 ⟨F7,G5,F8,G6,F9,G7,G0,G8,H0,rfl,G9,g,K0,K1,K2,K4⟩;refine aI (bJ (cE (.exit 0) hr (λg3 L' w'=>∃(F:wO),∃n4 q9 n5 r0 g7 h6 n6 s3 g8 h7 k6,F=g3/\L'=[(0,vP bp0 0),(4,vP p 0),(5,vP l 0)]/\m.le k6/\St k6 (kB bp0 (V7 n4 F.1 q9 F.2.1 F.d.1 F.e.1 n5 F.f.1 r0 g7 F.h.1 h6 n6 F.j.1 s3) 215::kB l #[vI b.k,vT a.k,vS g8 F.k h7,vc] 111::kB p #[vI 0,vT eB,v2,vc] 111::kR g7 F.h.1 h6 158 5::kR g8 F.k h7 9 1::O) w'/\P3 k6 n4 q9 n5 r0 g7 h6 n6 s3 g8 h7 F) ?_ ?_))
       .rintro g3 hr _ y ⟨F,n4,q9,n5,r0,g7,h6,n6,s3,g8,h7,k6,rfl,rfl,q,g,c,n,s,u,x⟩;exact rV (xE (z1 hr (zA g.f4.f4.f4.f4.f4)))
       intro g3 hr z0;have g:=(g.nilroom 9 1).front2.front4.front4.front4;refine eF (λk1 L' w'=>∃(s1:wO),∃n7 s4 n8 s5 g9 h8 n9 s6 c n k7,aC (qT N) k1 s1=some g3/\L'=[(0,vP bp0 0),(4,vP p 0),(5,vP l 0)]/\m.le k7/\St k7 (kB bp0 (V7 n7 s1.1 s4 s1.2.1 s1.d.1 s1.e.1 n8 s1.f.1 s5 g9 s1.h.1 h8 n9 s1.j.1 s6) 215::kB l #[vI b.k,vT a.k,vS c s1.k n,vc] 111::kB p #[vI 0,vT eB,v2,vc] 111::kR g9 s1.h.1 h8 158 5::kR c s1.k n 9 1::O) w'/\P3 k7 n7 s4 n8 s5 g9 h8 n9 s6 c n s1) N ⟨(b7.1,b7.2.1,b7.d.1,b7.e.1,b7.f.1,b7.h.1,b7.j,([]:Tb)),F7,G5,F8,G6,F9,G7,G0,G8,none,0,H0,hr,rfl,q.t G9,g,K0,K1,K2,K4,(RepS.nil _ _)⟩ ?_;rintro k1 _ S8 ⟨s1,n7,s4,n8,s5,g9,h8,n9,s6,c,n,k7,hL,rfl,q,g,A8,A9,B0,B1,u⟩;obtain⟨k1,S1,rfl,hr,E5,E4⟩:=eH hL;refine aJ (aD (iY 10 hr (λy L' w'=>∃h0 h9 h1 k0 d2 d6 h2 k2 D,L'=[(0,vP bp0 0),(4,vP p 0),(5,vP l 0),(79,vB y.1)]/\m.le D/\St D (kB bp0 (V6 y.2 h0 h9 h1 k0 d2 d6 h2 k2) 215::kB l #[vI b.k,vT a.k,vS c s1.k n,vc] 111::kB p #[vI 0,vT eB,v2,vc] 111::kR c s1.k n 9 1::kR d2 y.j.1 d6 158 5::O) w'/\RepS C4 D h0 h9 y.2.1/\RepS aB D h1 k0 y.h.1/\RepS C5 D d2 d6 y.j.1/\RepS (aG .i64) D h2 k2 y.k/\RepS aB D c n s1.k) ?_ ?_))
       .rintro y hr _ S9 ⟨h0,h9,h1,k0,d2,d6,h2,k2,D,rfl,q,g,x3,x4,x5,x6,u⟩;refine aI (aO hr ?_ ?_)<;>intro A hr
        .refine aQ (bJ (aJ (aD (aS 1 g.t.h (aW (cE .normal hr (λo9 L' w'=>∃t9 u7 u0 u9 o0 s7 u1 v0 U,L'=[(0,vP bp0 0),(4,vP p 0),(5,vP l 0)]/\m.le U/\St U (kB bp0 (V6 o9 t9 u7 u0 u9 o0 s7 u1 v0) 215::kB l #[vI b.k,vT a.k,vS c s1.k n,vc] 111::kB p #[vI 0,vT eB,v2,vc] 111::kR c s1.k n 9 1::kR o0 o9.h.1 s7 158 5::O) w'/\RepS C4 U t9 u7 o9.1/\RepS aB U u0 u9 o9.f.1/\RepS C5 U o0 s7 o9.h.1/\RepS (aG .i64) U u1 v0 o9.j/\RepS aB U c n s1.k) ?_ ?_))))))
         .rintro o9 hr _ U0 ⟨t9,u7,u0,u9,o0,s7,u1,v0,U,rfl,q,g,K5,K6,K7,K8,u⟩;refine aV (bA 1 hr (pC (p0:=o9) g.f4.f1 K5 K6 K7 K8) ?_);rintro l3 hr _ U1 ⟨R0,R7,R1,R8,M1,M3,M2,M4,S0,rfl,s8,g,K9,M0,E6,E7⟩;refine aW (bA 1 hr (KB (p0:=l3.1) g.f1.f1 K9 M0 E6 E7) ?_);rintro b8 hr _ U2 ⟨D0,D6,D1,D7,D2,D8,D3,D9,H1,rfl,s9,g,v1,v3,v4,v5⟩;refine eI (aD (aS 1 g.t.t.h (aW (cE .normal hr (λE L' w'=>∃d8 f7 d9 f8 Z b5 e0 f9 V,L'=[(0,vP bp0 0),(4,vP p 0),(5,vP l 0),(6,vI l3.f),(7,vT b8.2)]/\m.le V/\St V (kB bp0 (V6 E d8 f7 d9 f8 Z b5 e0 f9) 215::kB l #[vI b.k,vT a.k,vS c s1.k n,vc] 111::kB p #[vI 0,vT eB,v2,vc] 111::kR c s1.k n 9 1::kR Z E.h.1 b5 158 5::O) w'/\RepS C4 V d8 f7 E.1/\RepS aB V d9 f8 E.f.1/\RepS C5 V Z b5 E.h.1/\RepS (aG .i64) V e0 f9 E.j/\RepS aB V c n s1.k) ?_ ?_))))
          .rintro E hr _ U3 ⟨d8,f7,d9,f8,Z,b5,e0,f9,V,rfl,q,g,v9,x0,x1,x2,u⟩;refine lG (aD (aS 1 g.t.h (iH 1 hr (Cm g u) ?_)));rintro U6 hr _ U4 ⟨H2,rfl,x,g⟩;refine aI (cE .normal hr (λs L' w'=>∃f0 g0 f5 g1 b0 b6 f6 g2 Y,L'=[(0,vP bp0 0),(4,vP p 0),(5,vP l 0),(7,vT b8.2)]/\m.le Y/\St Y (kB bp0 (V6 s f0 g0 f5 g1 b0 b6 f6 g2) 215::kB l #[vI b.k,vT a.k,vS c s1.k n,vc] 111::kB p #[vI 0,vT eB,v2,vc] 111::kR c s1.k n 9 1::kR b0 s.h.1 b6 158 5::O) w'/\RepS C4 Y f0 g0 s.1/\RepS aB Y f5 g1 s.f.1/\RepS C5 Y b0 b6 s.h.1/\RepS (aG .i64) Y f6 g2 s.j/\RepS aB Y c n s1.k) ?_ ?_)
           .rintro s hr _ F0 ⟨f0,g0,f5,g1,b0,b6,f6,g2,Y,rfl,q,g,D4,D5,E0,E1,u⟩;refine aV (nO (aS 1 g.t.h (aX 1 (iF 108 9 1 aB [b8.2] g λb4 E9 F2 d7 g E2=>oB 109 61 61 9 16 106 108 g.f4 (.inl kr) (u.o d7) E2.src hr λl1 hr t4 u2 E8 H3 k3 g E3=>aX 1 (lA #[vI b.k,vT a.k,vS t4 l1 u2,vc] g.f3 λU5 g=>cX ?_)))));have g:=g.f2.t;refine iU ?_;have hL:=E5 _ (sI hr);exact dX ⟨(s.1,s.2.1,s.d.1,s.e.1,s.f.1,s.h.1,s.j,l1),f0,g0,f5,g1,b0,b6,f6,g2,t4,u2,E8,hL,rfl,(q.t d7).t k3,g.f1.f4.f4.f3.f4,(D4.o d7).o k3,(D5.o d7).o k3,(E0.o d7).o k3,(E1.o d7).o k3,E3⟩
           intro s hr d7;refine aO hr ?_ ?_<;>intro A hr
           .refine eQ 2 (bW hr (rP (p0:=E) g.f4.f1 (v9.o x) (x0.o x) (x1.o x) (x2.o x)) ?_);rintro U7 hr _ U5 ⟨t4,E0,u2,E1,D4,E2,D5,E3,H3,rfl,k3,g,E8,E9,F0,F2⟩;exact qM (d7 hr (zA g.f1.f4.f4.f4.f4))
           exact iD (d7 hr (zA g.f4.f4.f4.f4.f4))
          intro E hr s;refine aO hr ?_ ?_<;>intro A hr
          .refine eQ 2 (bW hr (rP (p0:=b8.1) g.f1.f1 v1 v3 v4 v5) ?_);rintro x0 hr _ v9 ⟨Y,f0,b0,f5,b6,f6,d7,g0,u2,rfl,x,g,g1,g2,k3,t4⟩;exact qM (s hr (zA g.f1.f4.f4.f4.f4))
          exact iD (s hr (zA g.f1.f4.f4.f4.f4))
         intro o9 hr s;refine aO hr ?_ ?_<;>intro A hr
         .refine eQ 1 (bW hr (tT (p0:=y.2) g.f4.f1 x3 x4 x5 x6) ?_);rintro f6 hr _ f5 ⟨E,b0,V,b5,Y,b6,Z,b8,d7,rfl,x,g,d8,d9,e0,f0⟩;exact qM (s hr (zA g.f1.f4.f4.f4.f4))
         exact iD (s hr (zA g.f4.f4.f4.f4.f4))
        refine eE ?_;exact dY (z0 rfl (zL E4 hr g.f3.f4.f4.f4.f4))
       intro y hr K;refine aS 3 g.h (cW 2 75 hr ?_ ?_)<;>intro A hr
       .refine iH 1 hr (uU (p0:=(s1.1,s1.2.1,s1.d.1,s1.e.1,s1.f.1,s1.h.1,s1.j.1)) g.f3.f1 A8 A9 B0 B1) ?_;rintro e0 hr _ f0 ⟨x,Y,E,Z,U,b0,V,b5,b6,rfl,s,g,b8,d7,d8,d9⟩;exact bG 2 (K hr (zA g.f1.f4.f4.f4.f4))
       exact bG 4 (K hr (zA g.f3.f4.f4.f4.f4))
      refine lB ?_;cases hr;have g:=(g.nilroom 9 1).front4.front4.front4.front4;exact xE (z1 rfl (zA g))
     intro o5 hr c;refine aO hr ?_ ?_<;>intro A hr
     .refine eQ 2 (bW hr (rP (p0:=(a.1,a.2.1,a.d.1,a.e.1,a.f.1,a.h.1,a.j.1)) g.f3.f1 k8 k9 l0 l2) ?_);rintro b0 hr _ Z ⟨n,x,o,y,s,z,u,B,E,rfl,D,g,F,U,V,Y⟩;exact qM (c hr (zA g.f1.f3.f3.f3))
     exact iD (c hr (zA g.f3.f3.f3.f3))
    intro K;refine aS 3 g.h (cW 2 54 hr ?_ ?_)<;>intro A hr
    .refine dU g v (aS 1 g.t.h (aS 1 g.t.h (bW hr (Pu (p0:=p1) g G H) ?_)));rintro o hr _ s ⟨n,rfl,c,g⟩;cases hr;exact bG 1 (K _ _ (zA g.f3.f3.f3.f3))
    cases hr;exact bG 7 (K _ _ (zA g.f3.f3.f3.f3))
   intro a hr n;refine aO hr ?_ ?_<;>intro A hr
   .refine eQ 1 (bW hr (VH (p0:=y7.1) g.f1.f1 A0 A1 A2 A3) ?_);rintro Z hr _ b0 ⟨o,y,s,z,u,B,x,D,E,rfl,c,g,F,U,V,Y⟩;exact aX 1 (lA #[vI b.k,vT Z.2,v2,vc] g.f2 λb5 g=>qM (n hr (zA g.f2.f3.f2.f3)))
   refine eQ 1 (bW hr (KB (p0:=y7.1) g.f1.f1 A0 A1 A2 A3) ?_);rintro Z hr _ b0 ⟨o,y,s,z,u,B,x,D,E,rfl,c,g,F,U,V,Y⟩;exact aX 1 (lA #[vI b.k,vT Z.2,v2,vc] g.f2 λb5 g=>qM (n hr (zA g.f2.f3.f2.f3)))
  intro o2 hr c;refine aO hr ?_ ?_<;>intro A hr
  .refine eQ 2 (bW hr (rP (p0:=(b.1,b.2.1,b.d.1,b.e.1,b.f.1,b.h.1,b.j.1)) g.f3.f1 z6 z7 z8 z9) ?_);rintro U hr _ S ⟨n,x,o,y,s,z,u,B,R,rfl,a,g,D,E,F,M⟩;exact qM (c hr (zA g.f1.f3.f3.f3))
  exact iD (c hr (zA g.f3.f3.f3.f3))
 intro o;refine aO hr ?_ ?_<;>intro A hr
 .refine eQ 1 (lA #[vI 1,vT eB,v2,vc] g.f2 λa g=>cX ?_);have u:=jE hr;exact xE (o _ _ ⟨(y2.1.1,y2.1.2.1,y2.1.d.1,y2.1.e.1,y2.1.f.1,y2.1.h.1,y2.1.j,1),F3,G1,F4,G2,F5,G3,F6,G4,m3,u,rfl,((q.t e1).t e2).t e3,g.f2.f3.f2.f3,v,G,H,z2,z3,z4,z5⟩)
 refine bA 1 hr (vU (p0:=y2.1) g.f1.f1 z2 z3 z4 z5) ?_;rintro a hr _ f8 ⟨R,b9,S,c0,U,d1,V,d2,m5,rfl,n,g,x,y,z,B⟩;have q:=(((q.t e1).t e2).t e3).t n;refine aI (aO hr ?_ ?_)<;>intro A hr
 .refine eQ 1 (lA #[vI 2,vT eB,v2,vc] g.f2 λc g=>cX ?_);have u:=jE hr;exact xE (o _ _ ⟨(a.1.1,a.1.2.1,a.1.d.1,a.1.e.1,a.1.f.1,a.1.h.1,a.1.j,2),R,b9,S,c0,U,d1,V,d2,m5,u,rfl,q,g.f2.f3.f2.f3,v.o n,G.o n,H.o n,x,y,z,B⟩)
 refine bA 1 hr (vU (p0:=a.1) g.f1.f1 x y z B) ?_;rintro c hr _ f9 ⟨Y,d3,Z,d4,b0,d5,b5,d6,m6,rfl,s,g,D,E,F,M⟩;refine aI (aO hr ?_ ?_)<;>intro A hr
 .refine eQ 1 (lA #[vI 3,vT eB,v2,vc] g.f2 λb6 g=>cX ?_);have u:=jE hr;exact xE (o _ _ ⟨(c.1.1,c.1.2.1,c.1.d.1,c.1.e.1,c.1.f.1,c.1.h.1,c.1.j,3),Y,d3,Z,d4,b0,d5,b5,d6,m6,u,rfl,q.t s,g.f2.f3.f2.f3,(v.o n).o s,(G.o n).o s,(H.o n).o s,D,E,F,M⟩)
 refine bA 2 hr (rP (p0:=c.1) g.f1.f1 D E F M) ?_;rintro y5 hr _ g0 ⟨u,d7,b6,d8,b7,d9,b8,e0,m7,rfl,e6,g,f0,f5,f6,f7⟩;refine aI (aD (bD g.t.t.h (aZ (.agg #[vI 0,vT eB,v2,vc]) g.f3 λg1 g=>aI (aT ?_))));cases hr;have hr:=j1;refine bL ?_;cases hr;refine tM 4 111 [] [] g.h ?_;have g:=(g.nilroom 9 1).front1;exact(zA g.t.f3.t.f2.f2.f2)
def tD(N:Nat)(y5:EM)(s1:wO):Option (wO⊕wO):=
 (if(s1.2.2.2.1==0)then((mC N (s1.1,s1.2.1,s1.2.2.1,s1.2.2.2.1,s1.2.2.2.2.1,s1.2.2.2.2.2.1,s1.2.2.2.2.2.2.1)).bind λa=>if(a.2.1==1)then((mC N a.1).bind λb=>some ((b.2.2.1.toList==(⟨#[105,109,112,111,114,116]⟩:BA).toList),b.1.1,b.1.2.1,b.1.2.2.1,b.1.2.2.2.1,b.1.2.2.2.2.1,b.1.2.2.2.2.2.1,b.1.2.2.2.2.2.2)) else(some (false,a.1.1,a.1.2.1,a.1.2.2.1,a.1.2.2.2.1,a.1.2.2.2.2.1,a.1.2.2.2.2.2.1,a.1.2.2.2.2.2.2))) else(some (false,s1.1,s1.2.1,s1.2.2.1,s1.2.2.2.1,s1.2.2.2.2.1,s1.2.2.2.2.2.1,s1.2.2.2.2.2.2.1)):EO).bind λb=>if b.1 then((if((List.length s1.2.2.2.2.2.2.2:Int)==8)then((mC N b.2).bind λa=>(mM N a.1 a.2.2.2.2 2).bind λa=>some a) else(some b.2):tR).bind λo4=>(mC N (o4.1,wI (o4.2.1+1),o4.2.2.1,o4.2.2.2.1,o4.2.2.2.2.1,o4.2.2.2.2.2.1,o4.2.2.2.2.2.2)).bind λa=>(qF N a.1).bind λc=>(if(c.1.2.2.2.1==0)then(if(c.2.toList==y5.2.toList)then(some true) else((uW N s1.2.2.2.2.2.2.2 c.2).bind λd=>some d)) else(some false):Tk).bind λd=>(if d then((mM N c.1 a.2.2.2.2 10).bind λa=>some a) else(some c.1):tR).bind λa=>(lZ N a (⟨#[59]⟩:BA)).bind λa=>(iK 16 s1.2.2.2.2.2.2.2 ([c.2])).bind λc=>some (.inl (a.1,a.2.1,a.2.2.1,a.2.2.2.1,a.2.2.2.2.1,a.2.2.2.2.2.1,a.2.2.2.2.2.2,c))) else(some (.inr (b.2.1,b.2.2.1,b.2.2.2.1,b.2.2.2.2.1,b.2.2.2.2.2.1,b.2.2.2.2.2.2.1,b.2.2.2.2.2.2.2,s1.2.2.2.2.2.2.2)))
def uV(N:Nat)(y5:EM)(o2:wO)(s2:OY):Option (OY⊕OY):=
 (if(s2.2.2.2.1==0)then((mC N (s2.1,s2.2.1,s2.2.2.1,s2.2.2.2.1,s2.2.2.2.2.1,s2.2.2.2.2.2.1,s2.2.2.2.2.2.2.1)).bind λa=>some (a.2.1 !=5,a.1.1,a.1.2.1,a.1.2.2.1,a.1.2.2.2.1,a.1.2.2.2.2.1,a.1.2.2.2.2.2.1,a.1.2.2.2.2.2.2)) else(some (false,s2.1,s2.2.1,s2.2.2.1,s2.2.2.2.1,s2.2.2.2.2.1,s2.2.2.2.2.2.1,s2.2.2.2.2.2.2.1)):EO).bind λb=>if b.1 then((QL N b.2 (y5.2,o2.2.2.2.2.2.2.2,s2.2.2.2.2.2.2.2)).bind λa=>(iK 72 s2.2.2.2.2.2.2.2 ([a.2])).bind λc=>some (.inl (a.1.1,a.1.2.1,a.1.2.2.1,a.1.2.2.2.1,a.1.2.2.2.2.1,a.1.2.2.2.2.2.1,a.1.2.2.2.2.2.2,c))) else(some (.inr (b.2.1,b.2.2.1,b.2.2.2.1,b.2.2.2.2.1,b.2.2.2.2.2.1,b.2.2.2.2.2.2.1,b.2.2.2.2.2.2.2,s2.2.2.2.2.2.2.2)))
def RV(N:Nat)(p0:BA):Option PH:=
 (RS N p0).bind λy1=>if(y1.2.2 !=0)then(some (((⟨#[]⟩:BA),([]:Tb),([]:mI)),y1.2.1,y1.2.2)) else((rR N (y1.1,0,0,0,([]:Tb),([]:lK),([]:Te)) (⟨#[112,97,99,107,97,103,101]⟩:BA)).bind λa=>(if(!a.2)then((mC N a.1).bind λb=>(mM N b.1 b.2.2.2.2 9).bind λb=>some b) else(some a.1):tR).bind λa=>(qF N a).bind λy5=>(lZ N y5.1 (⟨#[59]⟩:BA)).bind λa=>(aC (tD N y5) N (a.1,a.2.1,a.2.2.1,a.2.2.2.1,a.2.2.2.2.1,a.2.2.2.2.2.1,a.2.2.2.2.2.2,([]:Tb))).bind λo2=>(aC (uV N y5 o2) N (o2.1,o2.2.1,o2.2.2.1,o2.2.2.2.1,o2.2.2.2.2.1,o2.2.2.2.2.2.1,o2.2.2.2.2.2.2.1,([]:mI))).bind λa=>if(a.2.2.2.1 !=0)then(some (((⟨#[]⟩:BA),([]:Tb),([]:mI)),a.2.2.1,a.2.2.2.1)) else(some ((y5.2,o2.2.2.2.2.2.2.2,a.2.2.2.2.2.2.2),0,0)))
theorem Qb{p0:BA}{r:PH}(g:St m (O) w)(hr:RV N p0=some r):Calls prog 105 #[vT p0] w λe w'=>∃l0 l4 l3 l5 m',bN m m' e (.tuple #[.agg (V8 r.1 l0 l4 l3 l5),vI r.2.1,vI r.d]) (kR l0 r.1.2.1 l4 9 1::kR l3 r.1.d l5 111 4::O) w' (P4 m' l0 l4 l3 l5 r.1.2):=by
 refine bH g func105 rfl ntmps105 λq=>aD (bX 2 81 (.agg #[vT eB,v6,v6]) g λp w1 g=>aW (bA 1 hr (Pt g) ?_));rintro y1 hr _ w2 ⟨a1,c1,m1,rfl,e1,g,r1⟩;have q:=q.t e1;refine eI (bV hr ?_ ?_)<;>intro A hr
 .refine aD (bD g.t.h (aX 2 (aZ (.agg #[vT eB,v2,vd]) g.f1 λa g=>eJ 2 ?_)));have g:=g.f1.t;refine aV (aT (bL ?_));cases hr;refine tM 2 81 [3,4] [vI y1.2.1,vI y1.d] g.h ?_;have g:=(g.nilroom 9 1).nilroom 111 4;exact⟨none,0,none,0,m1,rfl,q,g.f2.t.f1,(RepS.nil _ _),(RepS.nil _ _)⟩
 refine aQ (aR 2 (bS (sO 22 215 21 (.agg #[vS a1 y1.1 c1,vI 0,vI 0,vI 0,v2,vc,vb]) g λa w4 g=>eI (aR 1 ?_))));have g:=(g.nilroom 158 5).front1;refine bW hr (vU (p0:=(y1.1,0,0,0,([]:Tb),([]:lK),([]:Te))) g r1 (RepS.nil _ _) (RepS.nil _ _) (RepS.nil _ _)) ?_;rintro y2 hr _ w5 ⟨a2,c2,a3,c3,a4,c4,a5,c5,m3,rfl,e3,g,r2,r3,r4,r5⟩;refine eJ 1 ?_;have g:=g.f2.t;refine aV (cE .normal hr (λo1 L' w'=>∃a6 c6 a7 c7 a8 c8 a9 c9 m4,L'=[(2,vP p 0),(6,vP a 0)]/\m.le m4/\St m4 (kB a (V6 o1 a6 c6 a7 c7 a8 c8 a9 c9) 215::kB p #[vT eB,v2,vd] 81::kR a8 o1.h.1 c8 158 5::O) w'/\P1 m4 a6 c6 a7 c7 a8 c8 a9 c9 o1) ?_ ?_)
 .rintro o1 hr _ w6 ⟨a6,c6,a7,c7,a8,c8,a9,c9,m4,rfl,q,g,r6,r7,r8,r9⟩;refine aV (bA 1 hr (KB (p0:=o1) g.f2.f1 r6 r7 r8 r9) ?_);rintro y5 hr _ w9 ⟨x0,x8,x1,x9,x2,y0,x3,z0,m7,rfl,e6,g,s6,s7,s8,s9⟩;refine aX 1 (lA #[vT y5.2,v2,vd] g.f2 λz9 g=>aI (bA 1 hr (tT (p0:=y5.1) g.f2.f2 s6 s7 s8 s9) ?_));rintro y6 hr _ A0 ⟨n9,q5,o0,q6,o9,q7,q0,q8,m8,rfl,e7,g,t3,t4,t5,t6⟩;refine aI (aJ (bJ (cE (.exit 0) hr (λU L' w'=>∃(o2:wO),∃d5 g0 d6 g1 V b7 d7 g2 l n m9,o2=U/\L'=[(2,vP p 0),(6,vP a 0)]/\m.le m9/\St m9 (kB a (V7 d5 o2.1 g0 o2.2.1 o2.d.1 o2.e.1 d6 o2.f.1 g1 V o2.h.1 b7 d7 o2.j.1 g2) 215::kB p #[vT y5.2,vS l o2.k n,vd] 81::kR V o2.h.1 b7 158 5::kR l o2.k n 9 1::O) w'/\P3 m9 d5 g0 d6 g1 V b7 d7 g2 l n o2) ?_ ?_)))
  .rintro U hr _ s3 ⟨o2,d5,g0,d6,g1,V,b7,d7,g2,l,n,m9,rfl,rfl,q,g,n8,q1,q2,q3,B⟩;refine eY (aJ (bJ (cE (.exit 2) hr (λM L' w'=>∃(b:OY),∃b9 e2 c0 f0 R Z d1 f7 E F s,b=M/\L'=[(2,vP p 0),(6,vP a 0)]/\m.le s/\St s (kB a (V7 b9 b.1 e2 b.2.1 b.d.1 b.e.1 c0 b.f.1 f0 R b.h.1 Z d1 b.j.1 f7) 215::kB p #[vT y5.2,vS l o2.k n,vS E b.k F] 81::kR l o2.k n 9 1::kR R b.h.1 Z 158 5::kR E b.k F 111 4::O) w'/\RepS C4 s b9 e2 b.1/\RepS aB s c0 f0 b.f.1/\RepS C5 s R Z b.h.1/\RepS (aG .i64) s d1 f7 b.j.1/\RepS aB s l n o2.k/\RepS C6 s E F b.k) ?_ ?_)))
   .rintro M hr _ z ⟨b,b9,e2,c0,f0,R,Z,d1,f7,E,F,s,rfl,rfl,q,g,u,v,x,y,B,o⟩;refine eY (aJ (aD (aS 3 g.h (cV hr ?_ ?_))))<;>intro A hr
    .refine aJ (cM [(12,λw'=>Inv s w'/\Piece.holds s w' (kB a (V7 b9 b.1 e2 b.2.1 b.d.1 b.e.1 c0 b.f.1 f0 R b.h.1 Z d1 b.j.1 f7) 215)/\True)] kr g λD _ g=> ?_);have c:=s.le_refl;refine⟨aL (aF g c),aU 4 [0,1,2,3] (bZ 4 cH (aU 3 [5,6,7] (bZ 8 cH (aK 9 kr (iV 81 2 126 (.agg #[vT eB,v2,vd]) g.f1 λG g=>⟨aL (aF g c),aU 2 [10,11] (bO kr ?_)⟩)))))⟩;have g:=g.f2.t.f3.t;refine aV (aT (bL ?_));cases hr;refine tM 2 81 [3,4] [vI b.d.1,vI b.e.1] g.h ?_;have g:=(g.nilroom 9 1).nilroom 111 4;exact⟨none,0,none,0,s,rfl,q,g.f2.t.f2.t.f2.t.f1,(RepS.nil _ _),(RepS.nil _ _)⟩
    exact aQ (aD (bD g.t.h (aZ (.agg #[vT y5.2,vS l o2.k n,vS E b.k F]) g.f1 λc g=>aW (aT (lE g.h (zH hr g.t.t.f1.t.f1.f1))))))
   intro M hr h2;have g:=(g.nilroom 111 4).front3.front4.front4.front4;refine eF (λk2 L' w'=>∃(s2:OY),∃d2 f8 d3 f9 S b0 d4 g3 v x z,aC (uV N y5 o2) k2 s2=some M/\L'=[(2,vP p 0),(6,vP a 0)]/\m.le z/\St z (kB a (V7 d2 s2.1 f8 s2.2.1 s2.d.1 s2.e.1 d3 s2.f.1 f9 S s2.h.1 b0 d4 s2.j.1 g3) 215::kB p #[vT y5.2,vS l o2.k n,vS v s2.k x] 81::kR l o2.k n 9 1::kR S s2.h.1 b0 158 5::kR v s2.k x 111 4::O) w'/\RepS C4 z d2 f8 s2.1/\RepS aB z d3 f9 s2.f.1/\RepS C5 z S b0 s2.h.1/\RepS (aG .i64) z d4 g3 s2.j.1/\RepS aB z l n o2.k/\RepS C6 z v x s2.k) N ⟨(o2.1,o2.2.1,o2.d.1,o2.e.1,o2.f.1,o2.h.1,o2.j.1,([]:mI)),d5,g0,d6,g1,V,b7,d7,g2,none,0,m9,hr,rfl,q,g,n8,q1,q2,q3,B,(RepS.nil _ _)⟩ ?_;rintro k2 _ s4 ⟨s2,d2,f8,d3,f9,S,b0,d4,g3,v,x,z,hL,rfl,q,g,h3,h4,h5,h6,B,H⟩;obtain⟨k2,r0,rfl,hr,l6,k9⟩:=eH hL;refine aJ (aD (iY 11 hr (λy L' w'=>∃d8 g4 d9 g5 Y b5 e0 g6 u,L'=[(2,vP p 0),(6,vP a 0),(112,vB y.1)]/\m.le u/\St u (kB a (V6 y.2 d8 g4 d9 g5 Y b5 e0 g6) 215::kB p #[vT y5.2,vS l o2.k n,vS v s2.k x] 81::kR l o2.k n 9 1::kR v s2.k x 111 4::kR Y y.j.1 b5 158 5::O) w'/\RepS C4 u d8 g4 y.2.1/\RepS aB u d9 g5 y.h.1/\RepS C5 u Y b5 y.j.1/\RepS (aG .i64) u e0 g6 y.k/\RepS aB u l n o2.k/\RepS C6 u v x s2.k) ?_ ?_))
   .rintro y hr _ s5 ⟨d8,g4,d9,g5,Y,b5,e0,g6,u,rfl,q,g,h7,h8,h9,k0,B,H⟩;refine aI (aO hr ?_ ?_)<;>intro A hr
    .refine aQ (bJ (cM [(9,λw'=>Inv u w'/\True),(8,λw'=>Inv u w'/\Piece.holds u w' (kB p #[vT y5.2,vS l o2.k n,vS v s2.k x] 81)/\True)] kr g λt7 _ g=> ?_));have c:=u.le_refl;refine⟨lI (aF g c) (aF g c),aN 0 (rF 79 113 1 114 2 (vS v s2.k x) (.tail _ (.head _)) cH (aN 2 (rF 81 2 3 116 0 (.agg #[vT y5.2,vS l o2.k n,vS v s2.k x]) (.tail _ (.head _)) cH (aK 4 kr (cY hr (λ_ h=>Oi (p0:=y.2) (p1:=(y5.2,o2.k,s2.k)) g.f4.f1 h7 h8 h9 k0 B H h) ?_)))))⟩;rintro o hr _ t8 ⟨n5,n6,k3,k6,k4,k7,k5,k8,g8,h0,g9,h1,q4,rfl,g7,g,l7,l8,l9,n0,n1,n2⟩;refine⟨_,rfl,?_⟩;have c:=c.t g7;refine⟨lI (aF g c) (aF g c),aK 5 kr (qH (d:=118) (t:=79) (e:=111) (len:=1) (parts:= #[(0,(.tmp 117))]) C6 (xs:=[o.2]) [vI o.2.1,vT o.d.1,vS g8 o.e.1 h0,vS g9 o.f h1] kr rfl (λ_=>qI kr _) rfl rfl g ⟨[vI o.2.1,vT o.d.1,vS g8 o.e.1 h0,vS g9 o.f h1],_,rfl,⟨_,_,rfl,rfl,⟨_,_,rfl,rfl,⟨_,_,rfl,(pO n1),(pO n2)⟩⟩⟩,rfl⟩ λb4 q9 t9 D g n3=> ?_)⟩;have c:=c.t D;refine⟨lI (aF g c) (aF g c),aK 6 kr (uK 119 79 79 111 72 114 118 g.f6 (.inl kr) ((H.o g7).o D) n3.src hr λl2 hr b6 b8 n7 u0 G g n4=> ?_)⟩;have c:=c.t G;refine⟨lI (aF g c) (aF g c),aN 7 (aK 8 kr (tI 79 120 119 2 (vS b6 l2 b8) #[vT y5.2,vS l o2.k n,vS b6 l2 b8] g.f5 λu1 g=>⟨rJ (aF g c),bO kr ?_⟩))⟩
     have g:=g.f2.t.f2.t;refine iU ?_;have hL:=l6 _ (sI hr);exact dX ⟨(o.1.1,o.1.2.1,o.1.d.1,o.1.e.1,o.1.f.1,o.1.h.1,o.1.j,l2),n5,n6,k3,k6,k4,k7,k5,k8,b6,b8,n7,hL,rfl,((q.t g7).t D).t G,g.f1.f3.f4.f3.f4,(l7.o D).o G,(l8.o D).o G,(l9.o D).o G,(n0.o D).o G,((B.o g7).o D).o G,n4⟩
    refine eE ?_;exact dY (h2 rfl (zL k9 hr g.f3.f4.f4.f4.f4))
   intro y hr K;refine aS 3 g.h (cW 2 107 hr ?_ ?_)<;>intro A hr
   .refine iH 1 hr (pC (p0:=(s2.1,s2.2.1,s2.d.1,s2.e.1,s2.f.1,s2.h.1,s2.j.1)) g.f3.f1 h3 h4 h5 h6) ?_;rintro k0 hr _ k3 ⟨o,b8,D,g7,G,g8,b6,g9,h0,rfl,c,g,h1,h7,h8,h9⟩;exact bG 3 (K hr (zA g.f1.f4.f4.f4.f4))
   exact bG 5 (K hr (zA g.f3.f4.f4.f4.f4))
  intro U hr l6;have g:=(g.nilroom 9 1).front2.front3.front3;refine eF (λk1 L' w'=>∃(s1:wO),∃d8 g3 d9 g4 Y b8 e0 g5 b c d4,aC (tD N y5) k1 s1=some U/\L'=[(2,vP p 0),(6,vP a 0)]/\m.le d4/\St d4 (kB a (V7 d8 s1.1 g3 s1.2.1 s1.d.1 s1.e.1 d9 s1.f.1 g4 Y s1.h.1 b8 e0 s1.j.1 g5) 215::kB p #[vT y5.2,vS b s1.k c,vd] 81::kR Y s1.h.1 b8 158 5::kR b s1.k c 9 1::O) w'/\P3 d4 d8 g3 d9 g4 Y b8 e0 g5 b c s1) N ⟨(y6.1,y6.2.1,y6.d.1,y6.e.1,y6.f.1,y6.h.1,y6.j,([]:Tb)),n9,q5,o0,q6,o9,q7,q0,q8,none,0,m8,hr,rfl,(q.t e6).t e7,g,t3,t4,t5,t6,(RepS.nil _ _)⟩ ?_;rintro k1 _ A1 ⟨s1,d8,g3,d9,g4,Y,b8,e0,g5,b,c,d4,hL,rfl,q,g,n3,n4,n5,n6,o⟩;obtain⟨k1,z8,rfl,hr,n8,n7⟩:=eH hL;refine aJ (aD ?_);have⟨v,hr,J⟩:=aM hr;refine DS (j:=17) (λL' w'=>∃Z b9 b0 c0 D E b5 d1 u,L'=[(2,vP p 0),(6,vP a 0),(52,vB v.1)]/\m.le u/\St u (kB a (V6 v.2 Z b9 b0 c0 D E b5 d1) 215::kB p #[vT y5.2,vS b s1.k c,vd] 81::kR b s1.k c 9 1::kR D v.j.1 E 158 5::O) w'/\RepS C4 u Z b9 v.2.1/\RepS aB u b0 c0 v.h.1/\RepS C5 u D E v.j.1/\RepS (aG .i64) u b5 d1 v.k/\RepS aB u b c s1.k) ?_ ?_
  .have hr:=J;rintro _ A2 ⟨Z,b9,b0,c0,D,E,b5,d1,u,rfl,q,g,k6,k7,k8,k9,o⟩;refine aI (aO hr ?_ ?_)<;>intro A hr
   .refine aQ (bJ (aJ (aD (aS 1 g.t.h (aW (cE .normal hr (λo4 L' w'=>∃e2 g6 f0 g7 b6 d2 f7 g8 y,L'=[(2,vP p 0),(6,vP a 0)]/\m.le y/\St y (kB a (V6 o4 e2 g6 f0 g7 b6 d2 f7 g8) 215::kB p #[vT y5.2,vS b s1.k c,vd] 81::kR b s1.k c 9 1::kR b6 o4.h.1 d2 158 5::O) w'/\RepS C4 y e2 g6 o4.1/\RepS aB y f0 g7 o4.f.1/\RepS C5 y b6 d2 o4.h.1/\RepS (aG .i64) y f7 g8 o4.j/\RepS aB y b c s1.k) ?_ ?_))))))
    .rintro o4 hr _ A3 ⟨e2,g6,f0,g7,b6,d2,f7,g8,y,rfl,q,g,t7,t8,t9,u0,o⟩;refine oN 3 (bD g.h (aX 3 (lA (V7 e2 o4.1 g6 (wI (o4.2.1+1)) o4.d.1 o4.e.1 f0 o4.f.1 g7 b6 o4.h.1 d2 f7 o4.j g8) g λA4 g=>aI (bA 1 hr (pC (p0:=(o4.1,wI (o4.2.1+1),o4.d.1,o4.e.1,o4.f.1,o4.h.1,o4.j)) g.f3.f1 t7 t8 t9 u0) ?_))));rintro h1 hr _ A5 ⟨x4,z1,x5,z2,x6,z3,x7,z4,z5,rfl,l9,g,u1,u2,u3,u4⟩;refine aW (bA 1 hr (KB (p0:=h1.1) g.f1.f1 u1 u2 u3 u4) ?_);rintro s hr _ A6 ⟨h2,h8,h3,h9,f8,g9,h4,k0,n2,rfl,n0,g,G,H,M,R⟩;have q:=(q.t l9).t n0;have o:=(o.o l9).o n0;refine eI (aD (iY 17 hr (λo5 L' w'=>∃x,L'=[(2,vP p 0),(6,vP a 0),(7,vI h1.f),(8,vT s.2),(90,vB o5)]/\m.le x/\St x (kB a (V6 s.1 h2 h8 h3 h9 f8 g9 h4 k0) 215::kB p #[vT y5.2,vS b s1.k c,vd] 81::kR f8 s.1.h.1 g9 158 5::kR b s1.k c 9 1::O) w'/\RepS C4 x h2 h8 s.1.1/\RepS aB x h3 h9 s.1.f.1/\RepS C5 x f8 g9 s.1.h.1/\RepS (aG .i64) x h4 k0 s.1.j/\RepS aB x b c s1.k) ?_ ?_))
     .rintro o5 hr _ A7 ⟨x,rfl,q,g,G,H,M,R,o⟩;refine aI (cE .normal hr (λS L' w'=>∃h5 k3 h6 k4 f9 h0 h7 k5 z,L'=[(2,vP p 0),(6,vP a 0),(8,vT s.2)]/\m.le z/\St z (kB a (V6 S h5 k3 h6 k4 f9 h0 h7 k5) 215::kB p #[vT y5.2,vS b s1.k c,vd] 81::kR b s1.k c 9 1::kR f9 S.h.1 h0 158 5::O) w'/\RepS C4 z h5 k3 S.1/\RepS aB z h6 k4 S.f.1/\RepS C5 z f9 h0 S.h.1/\RepS (aG .i64) z h7 k5 S.j/\RepS aB z b c s1.k) ?_ ?_)
      .rintro S hr _ A8 ⟨h5,k3,h6,k4,f9,h0,h7,k5,z,rfl,q,g,u5,u6,u7,u9,o⟩;refine aV (bA 1 hr (tT (p0:=S) g.f3.f1 u5 u6 u7 u9) ?_);rintro B hr _ A9 ⟨q1,q9,q2,r0,q3,s3,q4,s4,z6,rfl,n1,g,v0,v1,v3,v4⟩;refine aI (nO (aS 1 g.t.t.h (aX 1 (iF 99 9 1 aB [s.2] g λb3 z7 B0 F g v5=>oB 100 61 61 9 16 97 99 g.f4 (.inl kr) ((o.o n1).o F) v5.src hr λl1 hr l7 l8 s5 B1 d3 g v9=>aX 1 (lA #[vT y5.2,vS l7 l1 l8,vd] g.f4 λB2 g=>cX ?_)))));have g:=g.f2.t;refine iU ?_;have hL:=n8 _ (sI hr);exact dX ⟨(B.1,B.2.1,B.d.1,B.e.1,B.f.1,B.h.1,B.j,l1),q1,q9,q2,r0,q3,s3,q4,s4,l7,l8,s5,hL,rfl,((q.t n1).t F).t d3,g.f1.f3.f2.f3,(v0.o F).o d3,(v1.o F).o d3,(v3.o F).o d3,(v4.o F).o d3,v9⟩
      intro S hr B;refine aO hr ?_ ?_<;>intro A hr
      .refine eQ 2 (bW hr (rP (p0:=s.1) g.f2.f1 G H M R) ?_);rintro u6 hr _ u5 ⟨d3,q1,l7,q2,l8,q3,n1,q4,q9,rfl,F,g,r0,s3,s4,s5⟩;exact qM (B hr (zA g.f1.f3.f3.f3))
      exact iD (B hr (zA g.f2.f3.f3.f3))
     intro o5 hr K;refine aS 3 g.h (cW 2 79 hr ?_ ?_)<;>intro A hr
     .refine aS 2 g.t.t.h (cW 2 84 hr ?_ ?_)<;>intro A hr
      .exact bG 6 (K hr (zA g.f3.f2.f3.f3))
      refine aS 1 g.t.t.h (iH 1 hr (Cm g o) ?_);rintro F hr _ S ⟨B,rfl,z,g⟩;exact bG 2 (K hr (zA g.f3.f2.f3.f3))
     exact bG 11 (K hr (zA g.f3.f2.f3.f3))
    intro o4 hr s;refine aO hr ?_ ?_<;>intro A hr
    .refine eQ 2 (bW hr (pC (p0:=v.2) g.f3.f1 k6 k7 k8 k9) ?_);rintro y9 hr _ l8 ⟨h6,k0,h7,k3,h8,k4,h9,k5,l7,rfl,x,g,f9,g9,h0,h1⟩;refine iH 1 hr (rP (p0:=y9.1) g.f1.f1 f9 g9 h0 h1) ?_;rintro n0 hr _ l9 ⟨B,M,F,R,G,S,H,d3,f8,rfl,z,g,h2,h3,h4,h5⟩;exact qM (s hr (zA g.f1.f3.f3.f3))
    exact iD (s hr (zA g.f3.f3.f3.f3))
   refine eE ?_;exact dY (l6 rfl (zL n7 hr g.f2.f3.f3.f3))
  intro K;refine aS 3 g.h (cW 2 41 hr ?_ ?_)<;>intro A hr
  .refine iH 1 hr (pC (p0:=(s1.1,s1.2.1,s1.d.1,s1.e.1,s1.f.1,s1.h.1,s1.j.1)) g.f2.f1 n3 n4 n5 n6) ?_;rintro y7 hr _ h4 ⟨F,d3,G,e2,H,f0,M,f7,g8,rfl,s,g,x,y,z,B⟩;refine cW 4 47 hr ?_ ?_<;>intro A hr
   .refine iH 1 hr (pC (p0:=y7.1) g.f1.f1 x y z B) ?_;rintro y8 hr _ h5 ⟨R,f8,S,f9,b6,g6,d2,g7,g9,rfl,e9,g,h0,h1,h2,h3⟩;exact bG 3 (K _ _ (zH hr g.f1.f3.f3.f3))
   exact bG 5 (K _ _ (zH hr g.f1.f3.f3.f3))
  exact bG 11 (K _ _ (zH hr g.f2.f3.f3.f3))
 intro o1 hr b;refine aO hr ?_ ?_<;>intro A hr
 .refine eQ 2 (bW hr (pC (p0:=y2.1) g.f1.f1 r2 r3 r4 r5) ?_);rintro M hr _ w7 ⟨V,b5,Y,b6,Z,b7,b0,b8,m5,rfl,R,g,y,z,B,D⟩;refine iH 1 hr (rP (p0:=M.1) g.f1.f1 y z B D) ?_;rintro y4 hr _ w8 ⟨c,s,l,u,n,v,o,x,U,rfl,S,g,E,F,G,H⟩;exact qM (b hr (zA g.f1.f2.f2))
 exact iD (b hr (zA g.f1.f2.f2))
def LH(N:Nat)(p0:Tr)(p1:BA):Option (iE×Bool):=
 (vW N p0 p1).bind λy1=>(if(!y1.2)then(some true) else((QY N p1).bind λa=>some (!a)):Tk).bind λa=>if a then(some (((⟨#[]⟩:BA),([]:Tb),([]:mI)),false)) else((RV N y1.1).bind λa=>some (a.1,a.2.2==0))
theorem Ce{p0:Tr}{p1:BA}{r:iE×Bool}(g:St m (O) w)(F:RepS C1 m a1 c1 p0)(hr:LH N p0 p1=some r):Calls prog 69 #[.agg #[vS a1 p0 c1],vT p1] w λe w'=>∃l o n p m',bN m m' e (.tuple #[.agg (V8 r.1 l o n p),vB r.2]) (kR l r.1.2.1 o 9 1::kR n r.1.d p 111 4::O) w' (P4 m' l o n p r.1.2):=by
 refine bH g func69 rfl ntmps69 λq=>aD (eC 2 28 (.agg #[vS a1 p0 c1]) g λR U V u g z=>bX 4 81 (.agg #[vT eB,v6,v6]) g λx Y g=>tH (dU g z (iH 1 hr (FW g (F.o u)) ?_)));rintro y1 hr _ Z ⟨D,rfl,y,g⟩;refine eI (aD (iY 7 hr (λv L' w'=>∃s,L'=[(4,vP x 0),(6,vT y1.1),(23,vB v)]/\m.le s/\St s (kB x #[vT eB,v2,vd] 81::O) w') ?_ ?_))
 .rintro v hr _ w4 ⟨s,rfl,q,g⟩;refine aI (aO hr ?_ ?_)<;>intro A hr
  .refine aR 1 (aZ (.agg #[vT eB,v2,vd]) g λa g=>aW (aT (bL ?_)));cases hr;refine tM 4 81 [5] [vB false] g.h ?_;have g:=(g.nilroom 9 1).nilroom 111 4;exact⟨none,0,none,0,s,rfl,q,g.f2.t.f1,(RepS.nil _ _),(RepS.nil _ _)⟩
  refine aQ (bA 1 hr (Qb g) ?_);rintro a hr _ w7 ⟨b,f,c,k,E,rfl,B,g,G,H⟩;exact aX 4 (bX 8 81 (.agg #[vT eB,v6,v6]) g λS w8 g=>aZ (.agg (V8 a.1 b f c k)) g λw9 g=>tH (bD g.h (aX 2 (aZ (.agg (V8 a.1 b f c k)) g.f3 λM g=>aW (aT (lE g.h (zH hr g.t.t.f1.f1)))))))
 intro v hr K;refine cW 3 19 hr ?_ ?_<;>intro A hr
 .exact bG 4 (K hr (zA g))
 refine iH 1 hr (Ox g) ?_;rintro c hr _ f ⟨b,rfl,a,g⟩;exact bG 2 (K hr (zA g))
def LA(N:Nat)(p0:Tr)(s1:Int×pW):Option (Int×pW⊕pW):=
 if(decide (s1.1<(List.length p0:Int)))then(((bC p0 s1.1).bind λa=>(LH N p0 a.1).bind λb=>if b.2 then((iK 16 s1.2.1 ([a.1])).bind λa=>(iK 64 s1.2.2 ([b.1])).bind λb=>some (a,b)) else(some s1.2):Option pW).bind λo2=>some (.inl (wI (s1.1+1),o2.1,o2.2))) else(some (.inr s1.2))
def GO(N:Nat)(p0:Tr):Option pW:=
 (CV N p0).bind λy1=>if(y1 !=0)then(some (([]:Tb),([]:OW))) else((aC (LA N p0) N (0,([]:Tb),([]:OW))).bind λa=>some a)
theorem VZ{p0:Tr}{r:pW}(g:St m (O) w)(x:RepS C1 m a1 c1 p0)(hr:GO N p0=some r):Calls prog 30 #[.agg #[vS a1 p0 c1]] w λe w'=>∃d1 d3 d2 d4 m',bN m m' e (.agg (Vd r d1 d3 d2 d4)) (kR d1 r.1 d3 9 1::kR d2 r.2 d4 81 3::O) w' (P5 m' d1 d3 d2 d4 r):=by
 refine bH g func30 rfl ntmps30 λq=>aD (eC 1 28 (.agg #[vS a1 p0 c1]) g λb1 m1 w1 e1 g n=>bX 2 87 (.agg #[v6,v6]) g λb2 w2 g=>aI (aD (bX 3 87 (.agg #[v6,v6]) g λv w3 g=>aI (aJ (aD (dU g n (bW hr (KT g (x.o e1)) ?_)))))));rintro y1 hr _ w4 ⟨m2,rfl,e2,g⟩;refine cV hr ?_ ?_<;>intro A hr
 .refine aD (bD g.h (aZ (.agg #[v2,ve]) g.f1 λa g=>aI (aT (bL ?_))));cases hr;refine tM 2 87 [] [] g.h ?_;have g:=(g.nilroom 9 1).nilroom 81 3;exact⟨none,0,none,0,m2,rfl,(q.t e1).t e2,g.f2.t.f2.t.f1,(RepS.nil _ _),(RepS.nil _ _)⟩
 refine aQ (aJ (iG 1 g (n.o e2) (mA (cE (.exit 0) hr (λK L' w'=>∃(V:pW),∃a2 c2 a3 c3 m3,V=K/\L'=[(2,vP b2 0),(3,vP v 0)]/\m.le m3/\St m3 (kB v (Vd V a2 c2 a3 c3) 87::kB b2 #[v2,ve] 87::kR a2 V.1 c2 9 1::kR a3 V.2 c3 81 3::O) w'/\P5 m3 a2 c2 a3 c3 V) ?_ ?_))))
 .rintro K hr _ f ⟨V,a2,c2,a3,c3,m3,rfl,rfl,q,g,a,b⟩;obtain rfl:=sI hr;exact eY (aD (bD g.h (aZ (.agg (Vd V a2 c2 a3 c3)) g.f1 λc g=>aI (aT (lE g.h (zA g.t.t.f1.f1))))))
 intro K hr d5;have g:=(g.nilroom 9 1).nilroom 81 3;refine eF (λk1 L' w'=>∃(s1:Int×pW),∃M R y z m4,aC (LA N p0) k1 s1=some K/\L'=[(1,vP b1 0),(2,vP b2 0),(3,vP v 0),(13,vS a1 p0 c1),(14,vI (p0.length:Int)),(15,vI s1.1)]/\m.le m4/\St m4 (kB v (Vd s1.2 M R y z) 87::kB b2 #[v2,ve] 87::kR M s1.2.1 R 9 1::kR y s1.d z 81 3::O) w'/\MRow m4 b1 0 [vS a1 p0 c1]/\RepS C1 m4 a1 c1 p0/\P5 m4 M R y z s1.2) N ⟨(0,([]:Tb),([]:OW)),none,0,none,0,m2,hr,rfl,(q.t e1).t e2,g.f1.f3.f3,n.o e2,(x.o e1).o e2,(RepS.nil _ _),(RepS.nil _ _)⟩ ?_;rintro k1 _ w7 ⟨s1,M,R,y,z,m4,hL,rfl,q,g,n,x,r4,r5⟩;obtain⟨k1,f6,rfl,hr,e9,e8⟩:=eH hL;refine cG (aO hr ?_ ?_)<;>intro A hr
 .refine aQ (aJ (cE .normal hr (λo2 L' w'=>∃a6 c6 a7 c7 m5,L'=[(1,vP b1 0),(2,vP b2 0),(3,vP v 0),(13,vS a1 p0 c1),(14,vI (p0.length:Int)),(15,vI s1.1)]/\m.le m5/\St m5 (kB v (Vd o2 a6 c6 a7 c7) 87::kB b2 #[v2,ve] 87::kR a6 o2.1 c6 9 1::kR a7 o2.2 c7 81 3::O) w'/\MRow m5 b1 0 [vS a1 p0 c1]/\RepS C1 m5 a1 c1 p0/\P5 m5 a6 c6 a7 c7 o2) ?_ ?_))
  .rintro o2 hr _ c ⟨a6,c6,a7,c7,m5,rfl,q,g,n,x,a,b⟩;exact aV (cP 2 (dX (zL e9 hr g.f3.f3.f3.f3)))
  intro o2 hr b9;refine bJ (aD (iP x hr ?_));rintro D hr b4 f1 f5 ⟨_,_,rfl,rfl,rfl⟩ f0;refine dU g f0 (bX 5 95 (.agg (V3 eB eB)) g λb5 w9 g=>aZ (.agg (V2 D)) g λg0 g=>aI (aD (dU g n (aS 1 g.h (bW hr (Ce g x) ?_)))));rintro u hr _ g1 ⟨E,G,F,H,m6,rfl,e3,g,r8,r9⟩;have q:=q.t e3;have n:=n.o e3;have x:=x.o e3;have r4:=r4.o e3;have r5:=r5.o e3;refine aX 3 (bX 6 81 (.agg #[vT eB,v6,v6]) g λb6 g2 g=>aZ (.agg (V8 u.1 E G F H)) g λg3 g=>aW (bV hr ?_ ?_))<;>intro A hr
  .refine cM [(15,λw'=>Inv m6 w'/\Piece.holds m6 w' (kB b6 (V8 u.1 E G F H) 81)/\Piece.holds m6 w' (kB b5 (V2 D) 95)/\True),(12,λw'=>Inv m6 w'/\Piece.holds m6 w' (kB v (Vd s1.2 M R y z) 87)/\True)] kr g λg4 _ g=> ?_;have a:=m6.le_refl;refine⟨lI (aF g a) (aF g a),aN 0 (rF 61 27 1 28 0 (vS M s1.2.1 R) (.tail _ (.head _)) cH (aN 2 (bZ 3 nV (aN 6 (rF 85 33 7 34 1 (vS y s1.d z) (.tail _ (.head _)) cH (bZ 8 cH (qZ [4,9] kr ae (rW ?_ ?_))))))))⟩
   .refine qH (d:=31) (t:=61) (e:=9) (len:=1) (parts:= #[(0,(.tmp 30))]) aB (xs:=[D.1]) [vT D.1] kr rfl (λ_=>qI kr _) rfl rfl g ⟨[vT D.1],_,rfl,rfl,rfl⟩ λb7 m7 f4 c g c0=> ?_;have a:=a.t c;refine⟨lI (aF g a) (aF g a),qZ [5,9] kr ae (rW ?_ ?_)⟩
    .refine uK 32 61 61 9 16 28 31 g.f7 (.inl kr) (r4.o c) c0.src hr λB hr f k m8 d6 b g Y=> ?_;have a:=a.t b;refine⟨lI (aF g a) (aF g a),aN 11 (aK 9 kr (qH (d:=36) (t:=85) (e:=81) (len:=1) (parts:= #[(0,(.tmp 35))]) C7 (xs:=[u.1]) (Vc u.1 E G F H) kr rfl (λ_=>qI kr _) rfl rfl g ⟨(Vc u.1 E G F H),_,rfl,⟨_,_,rfl,rfl,⟨_,_,rfl,(pO ((r8.o c).o b)),(pO ((r9.o c).o b))⟩⟩,rfl⟩ λb8 m9 d7 l g Z=> ?_))⟩;have a:=a.t l;refine⟨lI (aF g a) (aF g a),aK 10 kr (uK 37 85 85 81 64 34 36 g.f9 (.inl kr) (((r5.o c).o b).o l) Z.src hr λS hr o p U d8 s g b0=> ?_)⟩;have a:=a.t s;refine⟨lI (aF g a) (aF g a),aK 12 kr (tI 61 38 32 0 (vS f B k) #[vS f B k,vS y s1.d z] g.f8 λd9 g=>⟨rJ (aF g a),aN 13 (aK 14 kr (tI 85 39 37 1 (vS o S p) #[vS f B k,vS o S p] g λe0 g=>⟨rJ (aF g a),bO kr ?_⟩))⟩)⟩;have g:=g.f2.t.f3.t;exact oK (b9 hr ⟨f,k,o,p,U,rfl,(((q.t c).t b).t l).t s,g.f3.t.f3.t.f3.t.f3.t.f1.f2.f3.f3,(((n.o c).o b).o l).o s,(((x.o c).o b).o l).o s,(Y.o l).o s,b0⟩)
    refine qH (d:=36) (t:=85) (e:=81) (len:=1) (parts:= #[(0,(.tmp 35))]) C7 (xs:=[u.1]) (Vc u.1 E G F H) kr rfl (λ_=>qI kr _) rfl rfl g ⟨(Vc u.1 E G F H),_,rfl,⟨_,_,rfl,rfl,⟨_,_,rfl,(pO (r8.o c)),(pO (r9.o c))⟩⟩,rfl⟩ λb8 m8 d6 b g Y=> ?_;have a:=a.t b;refine⟨lI (aF g a) (aF g a),aK 5 kr (uK 32 61 61 9 16 28 31 g.f8 (.inl kr) ((r4.o c).o b) (c0.o b).src hr λB hr f k m9 d7 l g Z=> ?_)⟩;have a:=a.t l;refine⟨lI (aF g a) (aF g a),aN 11 (aK 10 kr (uK 37 85 85 81 64 34 36 g.f9 (.inl kr) (((r5.o c).o b).o l) (Y.o l).src hr λS hr o p U d8 s g b0=> ?_))⟩;have a:=a.t s;refine⟨lI (aF g a) (aF g a),aK 12 kr (tI 61 38 32 0 (vS f B k) #[vS f B k,vS y s1.d z] g.f8 λd9 g=>⟨rJ (aF g a),aN 13 (aK 14 kr (tI 85 39 37 1 (vS o S p) #[vS f B k,vS o S p] g λe0 g=>⟨rJ (aF g a),bO kr ?_⟩))⟩)⟩;have g:=g.f3.t.f3.t;exact oK (b9 hr ⟨f,k,o,p,U,rfl,(((q.t c).t b).t l).t s,g.f3.t.f3.t.f3.t.f3.t.f1.f2.f3.f3,(((n.o c).o b).o l).o s,(((x.o c).o b).o l).o s,Z.o s,b0⟩)
   refine qH (d:=36) (t:=85) (e:=81) (len:=1) (parts:= #[(0,(.tmp 35))]) C7 (xs:=[u.1]) (Vc u.1 E G F H) kr rfl (λ_=>qI kr _) rfl rfl g ⟨(Vc u.1 E G F H),_,rfl,⟨_,_,rfl,rfl,⟨_,_,rfl,(pO r8),(pO r9)⟩⟩,rfl⟩ λb7 m7 f4 c g c0=> ?_;have a:=a.t c;refine⟨lI (aF g a) (aF g a),aK 4 kr (qH (d:=31) (t:=61) (e:=9) (len:=1) (parts:= #[(0,(.tmp 30))]) aB (xs:=[D.1]) [vT D.1] kr rfl (λ_=>qI kr _) rfl rfl g ⟨[vT D.1],_,rfl,rfl,rfl⟩ λb8 m8 d6 b g Y=> ?_)⟩;have a:=a.t b;refine⟨lI (aF g a) (aF g a),aK 5 kr (uK 32 61 61 9 16 28 31 g.f8 (.inl kr) ((r4.o c).o b) Y.src hr λB hr f k m9 d7 l g Z=> ?_)⟩;have a:=a.t l;refine⟨lI (aF g a) (aF g a),aN 11 (aK 10 kr (uK 37 85 85 81 64 34 36 g.f9 (.inl kr) (((r5.o c).o b).o l) ((c0.o b).o l).src hr λS hr o p U d8 s g b0=> ?_))⟩;have a:=a.t s;refine⟨lI (aF g a) (aF g a),aK 12 kr (tI 61 38 32 0 (vS f B k) #[vS f B k,vS y s1.d z] g.f8 λd9 g=>⟨rJ (aF g a),aN 13 (aK 14 kr (tI 85 39 37 1 (vS o S p) #[vS f B k,vS o S p] g λe0 g=>⟨rJ (aF g a),bO kr ?_⟩))⟩)⟩;have g:=g.f3.t.f3.t;exact oK (b9 hr ⟨f,k,o,p,U,rfl,(((q.t c).t b).t l).t s,g.f3.t.f3.t.f3.t.f3.t.f1.f2.f3.f3,(((n.o c).o b).o l).o s,(((x.o c).o b).o l).o s,Z.o s,b0⟩)
  exact lB (oK (b9 hr (zA g.t.t.t.t.f3.f3.f3.f3)))
 refine eE ?_;exact dY (d5 rfl (zL e8 hr g.f3.f3.f3.f3))
def FL(N:Nat)(p0:pW)(p1:Int)(p3:BA)(s1:EL)(a:iE)(s2:EL):Option (EL⊕EI):=
 if(decide (s2.1<(List.length a.2.2:Int)))then(((bC a.2.2 s2.1).bind λb=>(if(b.1==p1)then(some (b.2.1.toList==p3.toList)) else(some false):Tk).bind λb=>if b then(if((wI (s2.2.2.2.2+1))==1)then((bC p0.1 s1.1).bind λb=>some (a.1,b,s2.1,wI (s2.2.2.2.2+1))) else(some (s2.2.1,s2.2.2.1,s2.2.2.2.1,wI (s2.2.2.2.2+1)))) else(some s2.2):Option EI).bind λa=>some (.inl (wI (s2.1+1),a.1,a.2.1,a.2.2.1,a.2.2.2))) else(some (.inr s2.2))
def FM(N:Nat)(p0:pW)(p1:Int)(p2:BA)(p3:BA)(s1:EL):Option (EL⊕EI):=
 if(decide (s1.1<(List.length p0.2:Int)))then(((bC p0.2 s1.1).bind λa=>(if(p1 !=3)then(some (!(a.1.toList==p2.toList))) else(some false):Tk).bind λo4=>if o4 then(some s1.2) else((aC (FL N p0 p1 p3 s1 a) N (0,s1.2.1,s1.2.2.1,s1.2.2.2.1,s1.2.2.2.2)).bind λa=>some a):Option EI).bind λa=>some (.inl (wI (s1.1+1),a.1,a.2.1,a.2.2.1,a.2.2.2))) else(some (.inr s1.2))
def yZ(N:Nat)(p0:pW)(p1:Int)(p2:BA)(p3:BA):Option mQ:=
 (if(p1==3)then(some (⟨#[]⟩:BA)) else(some p2):Tl).bind λa=>(aC (FM N p0 p1 p2 p3) N (0,a,(⟨#[]⟩:BA),0,0)).bind λo2=>some (o2.1,p3,p1,o2.2.1,o2.2.2.1,o2.2.2.2)
theorem QW{p0:pW}{p1:Int}{p2:BA}{p3:BA}{r}(g:St m (O) w)(c:RepS aB m a1 c1 p0.1)(k:RepS C7 m a2 c2 p0.2)(hr:yZ N p0 p1 p2 p3=some r):Calls prog 45 #[.agg (Vd p0 a1 c1 a2 c2),vI p1,vT p2,vT p3] w λe w'=>∃m',iL m m' e (.agg (Ve r)) (O) w':=by
 refine bH g func45 rfl ntmps45 λq=>aD (eC 4 87 (.agg (Vd p0 a1 c1 a2 c2)) g λo m1 w1 e1 g a=>bX 8 59 (.agg dW) g λp w2 g=>aI (aR 4 (bX 9 59 (.agg dW) g λn w3 g=>aZ (.agg (Vf p2 p3 p1 eB 0 0)) g λw4 g=>aI (aJ (bK (cE .normal hr (λo1 L' w'=>∃m2,L'=[(1,vI p1),(2,vT p2),(3,vT p3),(4,vP o 0),(8,vP p 0),(9,vP n 0)]/\m.le m2/\St m2 (kB n (Vf o1 p3 p1 eB 0 0) 59::kB p dW 59::O) w'/\MRow m2 o 0 [vS a1 p0.1 c1,vS a2 p0.2 c2]/\P5 m2 a1 c1 a2 c2 p0) ?_ ?_))))))
 .rintro o1 hr _ w5 ⟨m2,rfl,q,g,a,c,k⟩;refine lG (iG 1 g (a.drop 1) (mA (cE (.exit 0) hr (λU L' w'=>∃(o2:EI),∃m3,o2=U/\L'=[(8,vP p 0),(9,vP n 0)]/\m.le m3/\St m3 (kB n (Vf o2.1 p3 p1 o2.2.1 o2.d.1 o2.e) 59::kB p dW 59::O) w') ?_ ?_)))
  .rintro U hr _ l ⟨o2,m3,rfl,rfl,q,g⟩;exact eY (aD (bD g.h (aZ (.agg (Vf o2.1 p3 p1 o2.2.1 o2.d.1 o2.e)) g.f1 λb g=>aI (aT (lE g.h (zH hr g.t.t))))))
  intro U hr a8;refine eF (λk1 L' w'=>∃(s1:EL),∃Z,aC (FM N p0 p1 p2 p3) k1 s1=some U/\L'=[(1,vI p1),(2,vT p2),(3,vT p3),(4,vP o 0),(8,vP p 0),(9,vP n 0),(22,vS a2 p0.2 c2),(23,vI (p0.2.length:Int)),(24,vI s1.1)]/\m.le Z/\St Z (kB n (Vf s1.2.1 p3 p1 s1.d.1 s1.e.1 s1.f) 59::kB p dW 59::O) w'/\MRow Z o 0 [vS a1 p0.1 c1,vS a2 p0.2 c2]/\P5 Z a1 c1 a2 c2 p0) N ⟨(0,o1,eB,0,0),m2,hr,rfl,q,g.f1.f1,a,c,k⟩ ?_;rintro k1 _ w8 ⟨s1,Z,hL,rfl,q,g,a,c,k⟩;obtain⟨k1,d7,rfl,hr,c7,b9⟩:=eH hL;refine cG (aO hr ?_ ?_)<;>intro A hr
  .refine aQ (aJ (cE .normal hr (λG L' w'=>∃m5,L'=[(1,vI p1),(2,vT p2),(3,vT p3),(4,vP o 0),(8,vP p 0),(9,vP n 0),(22,vS a2 p0.2 c2),(23,vI (p0.2.length:Int)),(24,vI s1.1)]/\m.le m5/\St m5 (kB n (Vf G.1 p3 p1 G.2.1 G.d.1 G.e) 59::kB p dW 59::O) w'/\MRow m5 o 0 [vS a1 p0.1 c1,vS a2 p0.2 c2]/\P5 m5 a1 c1 a2 c2 p0) ?_ ?_))
   .rintro G hr _ b ⟨m5,rfl,q,g,a,c,k⟩;exact aV (cP 2 (dX (zL c7 hr g.f1.f1)))
   intro G hr b0;refine bJ (aR 1 (iP k hr ?_));rintro b hr b4 f1 d4 ⟨_,_,rfl,rfl,⟨_,_,rfl,⟨B,D,rfl,z⟩,⟨s,u,rfl,v⟩⟩⟩ c9;refine dU g c9 (bX 11 81 (.agg #[vT eB,v6,v6]) g λE d9 g=>aX 1 (aZ (.agg (V8 b B D s u)) g λe0 g=>aI (aJ (aD ?_))));have⟨o4,hr,J⟩:=aM hr;refine DS (j:=8) (λL' w'=>∃R,L'=[(1,vI p1),(2,vT p2),(3,vT p3),(4,vP o 0),(8,vP p 0),(9,vP n 0),(10,vI s1.1),(11,vP E 0),(22,vS a2 p0.2 c2),(23,vI (p0.2.length:Int)),(24,vI s1.1),(36,vB o4)]/\m.le R/\St R (kB E (V8 b B D s u) 81::kB n (Vf s1.2.1 p3 p1 s1.d.1 s1.e.1 s1.f) 59::kB p dW 59::O) w'/\MRow R o 0 [vS a1 p0.1 c1,vS a2 p0.2 c2]/\RepS aB R a1 c1 p0.1/\RepS C7 R a2 c2 p0.2/\P4 R B D s u b.2) ?_ ?_
   .have hr:=J;rintro _ e2 ⟨R,rfl,q,g,a,c,k,z,v⟩;refine aI (aO hr ?_ ?_)<;>intro A hr
    .exact eE (rV (xE (b0 hr (zA g.t.f1.f1))))
    refine aQ (aD (aS 1 g.h (mA (cE (.exit 2) hr (λV L' w'=>∃(o5:EI),∃m7,o5=V/\L'=[(1,vI p1),(2,vT p2),(3,vT p3),(4,vP o 0),(8,vP p 0),(9,vP n 0),(22,vS a2 p0.2 c2),(23,vI (p0.2.length:Int)),(24,vI s1.1)]/\m.le m7/\St m7 (kB E (V8 b B D s u) 81::kB n (Vf o5.1 p3 p1 o5.2.1 o5.d.1 o5.e) 59::kB p dW 59::O) w'/\MRow m7 o 0 [vS a1 p0.1 c1,vS a2 p0.2 c2]/\RepS aB m7 a1 c1 p0.1/\RepS C7 m7 a2 c2 p0.2/\P4 m7 B D s u b.2) ?_ ?_))))
    .rintro V hr _ l ⟨o5,m7,rfl,rfl,q,g,a,c,k,z,v⟩;exact rV (oK (b0 hr (zA g.t.f1.f1)))
    intro V hr a9;refine eF (λk2 L' w'=>∃(s2:EL),∃F,aC (FL N p0 p1 p3 s1 b) k2 s2=some V/\L'=[(1,vI p1),(2,vT p2),(3,vT p3),(4,vP o 0),(8,vP p 0),(9,vP n 0),(10,vI s1.1),(11,vP E 0),(22,vS a2 p0.2 c2),(23,vI (p0.2.length:Int)),(24,vI s1.1),(38,vS s b.d u),(39,vI (b.2.2.length:Int)),(40,vI s2.1)]/\m.le F/\St F (kB E (V8 b B D s u) 81::kB n (Vf s2.2.1 p3 p1 s2.d.1 s2.e.1 s2.f) 59::kB p dW 59::O) w'/\MRow F o 0 [vS a1 p0.1 c1,vS a2 p0.2 c2]/\RepS aB F a1 c1 p0.1/\RepS C7 F a2 c2 p0.2/\RepS C6 F s u b.d/\RepS aB F B D b.2.1) N ⟨(0,s1.2.1,s1.d.1,s1.e.1,s1.f),R,hr,rfl,q,g.f2.f2.f2,a,c,k,v,z⟩ ?_;rintro k2 _ e3 ⟨s2,F,hL,rfl,q,g,a,c,k,v,z⟩;obtain⟨k2,d8,rfl,hr,c8,c0⟩:=eH hL;refine cG (aO hr ?_ ?_)<;>intro A hr
    .refine aQ (aJ (cE .normal hr (λH L' w'=>∃S,L'=[(1,vI p1),(2,vT p2),(3,vT p3),(4,vP o 0),(8,vP p 0),(9,vP n 0),(10,vI s1.1),(11,vP E 0),(22,vS a2 p0.2 c2),(23,vI (p0.2.length:Int)),(24,vI s1.1),(38,vS s b.d u),(39,vI (b.2.2.length:Int)),(40,vI s2.1)]/\m.le S/\St S (kB E (V8 b B D s u) 81::kB n (Vf H.1 p3 p1 H.2.1 H.d.1 H.e) 59::kB p dW 59::O) w'/\MRow S o 0 [vS a1 p0.1 c1,vS a2 p0.2 c2]/\RepS aB S a1 c1 p0.1/\RepS C7 S a2 c2 p0.2/\RepS C6 S s u b.d/\RepS aB S B D b.2.1) ?_ ?_))
     .rintro H hr _ l ⟨S,rfl,q,g,a,c,k,v,z⟩;exact aV (cP 2 (dX (zL c8 hr g.f2.f2.f2)))
     intro H hr a7;refine bJ (aR 1 (iP v hr ?_));rintro Y hr b6 f2 d5 ⟨_,_,rfl,rfl,⟨_,_,rfl,rfl,⟨_,_,rfl,⟨a5,c5,rfl,r5⟩,⟨a6,c6,rfl,r6⟩⟩⟩⟩ d1;refine dU g d1 (bX 13 111 (.agg #[vI 0,vT eB,v6,v6]) g λb7 e4 g=>aX 1 (aZ (.agg (V9 Y a5 c5 a6 c6)) g λe5 g=>aI (aD (iY 10 hr (λo7 L' w'=>∃l,L'=[(1,vI p1),(2,vT p2),(3,vT p3),(4,vP o 0),(8,vP p 0),(9,vP n 0),(10,vI s1.1),(11,vP E 0),(12,vI s2.1),(22,vS a2 p0.2 c2),(23,vI (p0.2.length:Int)),(24,vI s1.1),(38,vS s b.d u),(39,vI (b.2.2.length:Int)),(40,vI s2.1),(54,vB o7)]/\m.le l/\St l (kB b7 (V9 Y a5 c5 a6 c6) 111::kB E (V8 b B D s u) 81::kB n (Vf s2.2.1 p3 p1 s2.d.1 s2.e.1 s2.f) 59::kB p dW 59::O) w'/\MRow l o 0 [vS a1 p0.1 c1,vS a2 p0.2 c2]/\RepS aB l a1 c1 p0.1/\RepS C7 l a2 c2 p0.2/\RepS C6 l s u b.d/\RepS aB l a5 c5 Y.d.1/\RepS C5 l a6 c6 Y.e/\RepS aB l B D b.2.1) ?_ ?_))))
     .rintro o7 hr _ e6 ⟨l,rfl,q,g,a,c,k,v,r5,r6,z⟩;refine aI (aO hr ?_ ?_)<;>intro A hr
      .refine aD (aS 1 g.t.t.h (aX 2 (lA (Vf s2.2.1 p3 p1 s2.d.1 s2.e.1 (wI (s2.f+1))) g.f2 λe7 g=>aI (aD (aS 1 g.h (cV hr ?_ ?_))))))<;>intro A hr
       .refine cM [(14,λw'=>Inv l w'/\Piece.holds l w' (kB E (V8 b B D s u) 81)/\True)] kr g λe8 _ g=> ?_;have M:=l.le_refl;refine⟨aL (aF g M),aN 0 (bZ 1 cH (aN 2 (cN 3 a (aN 4 ?_))))⟩;have⟨x3,d3,hr⟩:=aM hr;refine nP (t:=61) (e:=9) (x:=(.tmp 65)) (y:=(.tmp 66)) 5 67 aB kr rfl kr (.head _) (iQ (bU (bU (iQ (iQ (bU (bU (iQ (bU lR))))))))) (ev (vS a1 p0.1 c1)) (ev (vI s1.1)) kr c d3 ?_;rintro b8 f3 d6 rfl d2;exact cN 6 d2 (aU 2 [7,8] (aK 9 kr (tI 9 70 63 0 (vT b.1) (Vf b.1 p3 p1 s2.d.1 s2.e.1 (wI (s2.f+1))) g λe9 g=>⟨aL (aF g M),aN 10 (aK 11 kr (tI 9 71 68 3 (vT x3) (Vf b.1 p3 p1 x3 s2.e.1 (wI (s2.f+1))) g λf0 g=>⟨aL (aF g M),aN 12 (aK 13 kr (tI 3 72 69 4 (vI s2.1) (Vf b.1 p3 p1 x3 s2.1 (wI (s2.f+1))) g λf4 g=>⟨aL (aF g M),bO kr (oK (a7 hr ⟨l,rfl,q,g.f1.t.f2.f1.f2,a,c,k,v,z⟩))⟩))⟩))⟩)))
       exact lB (oK (a7 hr (zA g.f1.t.f2.f1.f2)))
      exact lB (oK (a7 hr (zA g.t.f2.f2.f2)))
     intro o7 hr K;refine aS 1 g.h (cW 3 49 hr ?_ ?_)<;>intro A hr
     .exact aS 1 g.h (bG 3 (K hr (zA g.f3.f3.f3.f3)))
     exact bG 5 (K hr (zA g.f3.f3.f3.f3))
    refine eE ?_;exact dY (a9 rfl (zL c0 hr g.f2.f2.f2))
   intro K;refine cW 3 31 hr ?_ ?_<;>intro A hr
   .exact aS 1 g.h (bG 3 (K _ _ (zH hr g.f2.f2.f2)))
   exact bG 5 (K _ _ (zH hr g.f2.f2.f2))
  refine eE ?_;exact dY (a8 rfl (zL b9 hr g.f1.f1))
 intro o1 hr b;refine aO hr ?_ ?_<;>intro A hr
 .exact eQ 1 (lA (Vf eB p3 p1 eB 0 0) g λl g=>qM (b hr ⟨m1,rfl,q.t e1,g.f1.f1,a,c.o e1,k.o e1⟩))
 exact iD (b hr ⟨m1,rfl,q.t e1,g.f1.f1,a,c.o e1,k.o e1⟩)
end
end Go.Proofs.YtndcdhopdbkikabGreatDoor
