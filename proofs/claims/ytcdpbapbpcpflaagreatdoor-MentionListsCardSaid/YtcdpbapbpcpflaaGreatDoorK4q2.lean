/- No condition but those of each theorem. -/
import Derived.Test.YtcdpbapbpcpflaaGreatDoorProg
import Derived.WalkKit
import Derived.Deep.LoopGhost
import Derived.KernelRfl
import Derived.OrdersHeld
import Derived.OrdersIn
import Derived.LoopNIn
import Derived.Sort.LoopGhostIn
import Derived.Laws.AppendOwn
import Derived.RangeFuncLeaves
import Derived.RangeFuncRecord
import Derived.MapKept
import Derived.Maps.RangeRun
import Derived.ChangeKeysEq
import Derived.HandedShaped
import Derived.ChangeStays
import Derived.ChangeSame
import Derived.OpenShut
import Derived.WideShapes
import Derived.JoinedOf
import Derived.ReadAgain
import Derived.ChangeAt
import Derived.RowKit
import Derived.Lib.Overlaps
import Derived.Shelf.SlSortCmp.NoneTotal
import Derived.Shelf.Sort.Plain
import Derived.Shelf.Slices.In.SortNone
import Derived.WalkSmall
import Derived.Recover
import Derived.Lib.Builder
import Derived.Lib.UnsafeStr
import Derived.Shelf.Strconv.Itoa3
import Derived.Lib.Bytealg
import Derived.Test.YtcdpbapbpcpflaaGreatDoorK3q2
namespace Go.Proofs.YtcdpbapbpcpflaaGreatDoor
section
open Go Go.Dc
set_option maxHeartbeats 4000000
set_option maxRecDepth 100000
variable {N bp0 c1 c2 c3:Nat} {m:Mem} {O:List Piece} {w:World} {a1 a2 a3:Option Addr}
def qIl(N:Nat)(R7:T1g→(Int)→(Int)→(Int)→T1h)(p3:Int)(x1:Tn)(s3:T1j):Option (T1j⊕T1i):=
 if(decide (s3.1<(List.length ([(⟨#[105,102,32]⟩:ByteArray),(⟨#[32,116,104,101,110,32]⟩:ByteArray),(⟨#[32,101,108,115,101,32]⟩:ByteArray)]):Int)))=true then((idx ([(⟨#[105,102,32]⟩:ByteArray),(⟨#[32,116,104,101,110,32]⟩:ByteArray),(⟨#[32,101,108,115,101,32]⟩:ByteArray)]) s3.1).bind fun x5=>(qCm 1 s3.2.2.1 x5.data.toList).bind fun l6=>(idx x1.2.2.2.2 s3.1).bind fun x6=>(R7 ((true,l6),s3.2.2.2.1,s3.2.2.2.2.1,s3.2.2.2.2.2) x6 0 (IntKind.wrap .i64 (p3+1))).bind fun y8=>some (.inl (IntKind.wrap .i64 (s3.1+1),y8.1.1,y8.1.2,y8.2.1,y8.2.2.1,y8.2.2.2))) else(some (.inr s3.2))
def qFm(N:Nat)(R7:T1g→(Int)→(Int)→(Int)→T1h)(p3:Int)(x1:Tn)(s5:T1j):Option (T1j⊕T1i):=
 if(decide (s5.1<(List.length x1.2.2.2.2:Int)))=true then((idx x1.2.2.2.2 s5.1).bind fun x7=>(if(decide (s5.1>0))=true then((qCm 1 s5.2.2.1 ((⟨#[44,32]⟩:ByteArray).data.toList)).bind fun l8=>some (true,l8)) else(some (s5.2.1,s5.2.2.1)):Option (Bool×T1b)).bind fun o4=>(R7 (o4,s5.2.2.2.1,s5.2.2.2.2.1,s5.2.2.2.2.2) x7 0 (IntKind.wrap .i64 (p3+1))).bind fun y9=>some (.inl (IntKind.wrap .i64 (s5.1+1),y9.1.1,y9.1.2,y9.2.1,y9.2.2.1,y9.2.2.2))) else(some (.inr s5.2))
def qEu(N:Nat)(R7:T1g→(Int)→(Int)→(Int)→T1h)(p0:T1g)(p1:Int)(p2:Int)(p3:Int):T1h:=
 (idx p0.2.1 p1).bind fun x1=>(qJd N x1).bind fun y1=>if(decide (y1<p2))=true then((qCm 1 p0.1.2 ([(40:UInt8)])).bind fun l1=>(R7 ((true,l1),p0.2.1,p0.2.2.1,p0.2.2.2) p1 0 (IntKind.wrap .i64 (p3+1))).bind fun y2=>(qCm 1 y2.1.2 ([(41:UInt8)])).bind fun l2=>some ((true,l2),y2.2.1,y2.2.2.1,y2.2.2.2)) else(if(x1.1==1)=true then((strconv_Itoa N x1.2.1).bind fun y3=>(qCm 1 p0.1.2 y3.data.toList).bind fun l3=>some ((true,l3),p0.2.1,p0.2.2.1,if p3>p0.2.2.2 then p3 else p0.2.2.2)) else(if(x1.1==2)=true then((idx p0.2.2.1 x1.2.1).bind fun x2=>(qCm 1 p0.1.2 x2.data.toList).bind fun l4=>some ((true,l4),p0.2.1,p0.2.2.1,if p3>p0.2.2.2 then p3 else p0.2.2.2)) else(if(x1.1==4)=true then((qJd N x1).bind fun y4=>(if(y4==1)=true then(some (IntKind.wrap .i64 (y4+1))) else(some y4):T8).bind fun o1=>(idx x1.2.2.2.2 0).bind fun x3=>(R7 (p0.1,p0.2.1,p0.2.2.1,if p3>p0.2.2.2 then p3 else p0.2.2.2) x3 o1 p3).bind fun y5=>(qNy N).bind fun y6=>(catB (⟨#[32]⟩:ByteArray) ((qNa y6 x1.2.2.1).getD (⟨#[]⟩:ByteArray))).bind fun s1=>(catB s1 (⟨#[32]⟩:ByteArray)).bind fun s2=>(qCm 1 y5.1.2 s2.data.toList).bind fun l5=>(idx x1.2.2.2.2 1).bind fun x4=>(R7 ((true,l5),y5.2.1,y5.2.2.1,y5.2.2.2) x4 (IntKind.wrap .i64 (y4+1)) p3).bind fun y7=>some (y7.1,y7.2.1,y7.2.2.1,y7.2.2.2)) else(if(x1.1==5)=true then((qAq (qIl N R7 p3 x1) N (0,p0.1.1,p0.1.2,p0.2.1,p0.2.2.1,if p3>p0.2.2.2 then p3 else p0.2.2.2)).bind fun o2=>some ((o2.1,o2.2.1),o2.2.2.1,o2.2.2.2.1,o2.2.2.2.2)) else(if(x1.1==3)=true then((catB x1.2.2.2.1 (⟨#[40]⟩:ByteArray)).bind fun s4=>(qCm 1 p0.1.2 s4.data.toList).bind fun l7=>(qAq (qFm N R7 p3 x1) N (0,true,l7,p0.2.1,p0.2.2.1,if p3>p0.2.2.2 then p3 else p0.2.2.2)).bind fun o3=>(qCm 1 o3.2.1 ([(41:UInt8)])).bind fun l9=>some ((true,l9),o3.2.2.1,o3.2.2.2.1,o3.2.2.2.2)) else(if(x1.1==6)=true then((catB (⟨#[114,101,97,100,40,34]⟩:ByteArray) x1.2.2.2.1).bind fun s6=>(catB s6 (⟨#[34,44,32]⟩:ByteArray)).bind fun s7=>(qCm 1 p0.1.2 s7.data.toList).bind fun l10=>(idx x1.2.2.2.2 0).bind fun x8=>(R7 ((true,l10),p0.2.1,p0.2.2.1,if p3>p0.2.2.2 then p3 else p0.2.2.2) x8 0 (IntKind.wrap .i64 (p3+1))).bind fun y10=>(qCm 1 y10.1.2 ([(41:UInt8)])).bind fun l11=>some ((true,l11),y10.2.1,y10.2.2.1,y10.2.2.2)) else(if(x1.1==10)=true then((strconv_Itoa N x1.2.1).bind fun y11=>(catB (⟨#[102,108,105,112,40]⟩:ByteArray) y11).bind fun s8=>(catB s8 (⟨#[41]⟩:ByteArray)).bind fun s9=>(qCm 1 p0.1.2 s9.data.toList).bind fun l12=>some ((true,l12),p0.2.1,p0.2.2.1,if p3>p0.2.2.2 then p3 else p0.2.2.2)) else((qKw (some []:Option T1d) 7 (⟨#[115,105,122,101]⟩:ByteArray)).bind fun mp1=>(qKw mp1 8 (⟨#[104,97,115]⟩:ByteArray)).bind fun mp2=>(qKw mp2 9 (⟨#[101,110,118]⟩:ByteArray)).bind fun mp3=>(catB ((qNa mp3 x1.1).getD (⟨#[]⟩:ByteArray)) (⟨#[40,34]⟩:ByteArray)).bind fun s10=>(catB s10 x1.2.2.2.1).bind fun s11=>(catB s11 (⟨#[34,41]⟩:ByteArray)).bind fun s12=>(qCm 1 p0.1.2 s12.data.toList).bind fun l13=>some ((true,l13),p0.2.1,p0.2.2.1,if p3>p0.2.2.2 then p3 else p0.2.2.2)))))))))
def qEb(N:Nat):Nat→(T1g→(Int)→(Int)→(Int)→T1h)
 |0=>(fun _ _ _ _=>none)
 |D+1=>qEu N (qEb N D)
def qLg(N:Nat)(p0:T1g)(p1:Int)(p2:Int)(p3:Int):T1h:=(qEb N N) p0 p1 p2 p3
abbrev qPz(F:T1g→(Int)→(Int)→(Int)→T1h):Prop:=∀{m:Mem} {O:List Piece} {w:World} {p0:T1g} {p1:Int} {p2:Int} {p3:Int} {bp0:Nat} {a1:Option Addr} {c1:Nat} {a2:Option Addr} {c2:Nat} {a3:Option Addr} {c3:Nat} {r:T1g} (g:St m (kB bp0 #[.pointer (qDv p0.1.1 bp0),vS a1 p0.1.2 c1,vS a2 p0.2.1 c2,vS a3 p0.2.2.1 c3,vI p0.2.2.2] 193::kR a1 p0.1.2 c1 5 1::O) w) (r1:RepS cU8 m a1 c1 p0.1.2) (r2:RepS C3 m a2 c2 p0.2.1) (r3:RepS cStr m a3 c3 p0.2.2.1) (i:F p0 p1 p2 p3=some r),Calls Tryz.prog 141 #[vP bp0 0,vI p1,vI p2,vI p3] w fun e w'=>∃ra1 rc1 ra2 rc2 ra3 rc3 m',e= .returned (.tuple #[])∧m.le m'∧St m' (kB bp0 #[.pointer (qDv r.1.1 bp0),vS ra1 r.1.2 rc1,vS ra2 r.2.1 rc2,vS ra3 r.2.2.1 rc3,vI r.2.2.2] 193::kR ra1 r.1.2 rc1 5 1::O) w'∧P5 m' ra1 rc1 ra2 rc2 ra3 rc3 r
theorem qPh{R7:T1g→(Int)→(Int)→(Int)→T1h}(ih_source_writer_expr:qPz R7){p0:T1g}{p1:Int}{p2:Int}{p3:Int}{r:T1g}(g:St m (kB bp0 #[.pointer (qDv p0.1.1 bp0),vS a1 p0.1.2 c1,vS a2 p0.2.1 c2,vS a3 p0.2.2.1 c3,vI p0.2.2.2] 193::kR a1 p0.1.2 c1 5 1::O) w)(r1:RepS cU8 m a1 c1 p0.1.2)(r2:RepS C3 m a2 c2 p0.2.1)(r3:RepS cStr m a3 c3 p0.2.2.1)(i:qEu N R7 p0 p1 p2 p3=some r):Calls Tryz.prog 141 #[vP bp0 0,vI p1,vI p2,vI p3] w fun e w'=>∃ra1 rc1 ra2 rc2 ra3 rc3 m',e= .returned (.tuple #[])∧m.le m'∧St m' (kB bp0 #[.pointer (qDv r.1.1 bp0),vS ra1 r.1.2 rc1,vS ra2 r.2.1 rc2,vS ra3 r.2.2.1 rc3,vI r.2.2.2] 193::kR ra1 r.1.2 rc1 5 1::O) w'∧P5 m' ra1 rc1 ra2 rc2 ra3 rc3 r:=by
 unfold qEu at i;have q:=m.le_refl;refine W_cA Tryz.func141 rfl Tryz.ntmps141 ?_;refine W_sr (qDy 3 19 60 18 2 (vS a2 p0.2.1 c2) g.h (qAb 1 [(20,vI p1)] (qAa rfl (qDi 21 60 117 19 20 r2 i ?_))));rintro x1 i b1 f1 cs1 ⟨_,_,rfl,rfl,⟨_,_,rfl,rfl,⟨_,_,rfl,rfl,⟨_,_,rfl,rfl,⟨a4,c4,rfl,r4⟩⟩⟩⟩⟩ hq1;refine qFh 22 117 21 f1 (.agg (V8 x1 a4 c4)) g hq1 (qAa rfl (qIk 8 117 (.agg #[vI 0,vI 0,vI 0,vT eB,v8]) g fun b2 w1 g=>(qAa rfl (qGh 117 8 22 (.agg (V8 x1 a4 c4)) g fun w2 g=>(WO_e (qAr (W_sr (qAa rfl (qBy 23 117 8 0 (.agg (V8 x1 a4 c4)) g.h (qAm 24 i (fun _ h=>qQi g r4 h) ?_))))))))));rintro y1 i _ w3 ⟨m1,rfl,e1,g⟩;have q:=q.t e1;have r4:=r4.mono e1;have r1:=r1.mono e1;have r2:=r2.mono e1;have r3:=r3.mono e1;refine qAd 2 [(26,vB (decide (y1<p2)))] (W_if i ?_ ?_)
 ·intro A i;refine W_sr (qAb 3 [(29,vP bp0 0)] (qAa rfl (qDn 30 200 #[vP bp0 0,.int .u8 40] kr rfl (W_cA Tryz.func200 rfl Tryz.ntmps200 (W_sr (qAd 1 [] (W_sr (qAb 1 [(5,vP bp0 0)] ?_))))))));have g:=g.f1;refine qAa rfl (qDn 6 140 #[vP bp0 0] kr rfl ((qBu (c0:=(qDv p0.1.1 bp0)) (R:=[vS a1 p0.1.2 c1,vS a2 p0.2.1 c2,vS a3 p0.2.2.1 c3,vI p0.2.2.2]) (qHo p0.1.1 bp0 kr) g).mono ?_));rintro _ w4 ⟨m2,rfl,e2,g⟩;refine⟨_,rfl,?_⟩;have g:St m2 (kB bp0 #[.pointer (qDv true bp0),vS a1 p0.1.2 c1,vS a2 p0.2.1 c2,vS a3 p0.2.2.1 c3,vI p0.2.2.2] 193::kB b2 (V8 x1 a4 c4) 117::kR a1 p0.1.2 c1 5 1::O) w4:=g;refine WO_e (W_sr (qAb 4 [(7,vP bp0 0),(10,vP bp0 1)] (qAa rfl (qBy 11 120 10 1 (vS a1 p0.1.2 c1) g.h (qAb 1 [(12,.int .u8 40)] (qAa rfl (qAx (d:=13) (t:=120) (e:=5) (len:=1) (parts:= #[(0,(.tmp 12))]) cU8 (xs:=[(40:UInt8)]) [.int .u8 40] kr rfl (fun _=>qAw kr _) rfl rfl g ⟨[.int .u8 40],_,rfl,rfl,rfl⟩ fun b3 m3 w5 e3 g r5=>(qAa rfl (qEl 14 120 120 5 1 11 13 g.f3 (.inl kr) ((r1.mono e2).mono e3) r5.src i fun l1 i a5 c5 m4 w6 e4 g r6=>(qAb 2 [(16,vP bp0 1)] (qAa rfl (qEq 120 16 14 1 (vS a5 l1 c5) #[.pointer (qDv true bp0),vS a5 l1 c5,vS a2 p0.2.1 c2,vS a3 p0.2.2.1 c3,vI p0.2.2.2] g.f2 fun w7 g=>(qAy rfl ?_)))))))))))));have g:=g.f2.t;refine qAi (W_sr (qAd 1 [(4,.nilIface)] (qBb (X_rt [4] [.nilIface] (⟨_,rfl,?_⟩)))))
  refine WO_e (W_sr (qAb 4 [(31,vP bp0 0),(32,vI p1),(34,vI (wr (p3+1)))] (qAm 35 i (fun _ h=>ih_source_writer_expr (p0:=((true,l1),p0.2.1,p0.2.2.1,p0.2.2.2)) g.f1.f1 r6 (((r2.mono e2).mono e3).mono e4) (((r3.mono e2).mono e3).mono e4) h) ?_)));rintro y2 i _ w8 ⟨a6,c6,a7,c7,a8,c8,m5,rfl,e5,g,r7,r8,r9⟩;refine WO_e (W_sr (qAb 3 [(38,vP bp0 0)] (qAa rfl (qDn 39 200 #[vP bp0 0,.int .u8 41] kr rfl (W_cA Tryz.func200 rfl Tryz.ntmps200 (W_sr (qAd 1 [] (W_sr (qAb 1 [(5,vP bp0 0)] (qAa rfl (qDn 6 140 #[vP bp0 0] kr rfl ((qBu (c0:=(qDv y2.1.1 bp0)) (R:=[vS a6 y2.1.2 c6,vS a7 y2.2.1 c7,vS a8 y2.2.2.1 c8,vI y2.2.2.2]) (qHo y2.1.1 bp0 kr) g).mono ?_))))))))))));rintro _ w9 ⟨m6,rfl,e6,g⟩;refine⟨_,rfl,?_⟩;have g:St m6 (kB bp0 #[.pointer (qDv true bp0),vS a6 y2.1.2 c6,vS a7 y2.2.1 c7,vS a8 y2.2.2.1 c8,vI y2.2.2.2] 193::kR a6 y2.1.2 c6 5 1::kB b2 (V8 x1 a4 c4) 117::O) w9:=g
  refine WO_e (W_sr (qAb 4 [(7,vP bp0 0),(10,vP bp0 1)] (qAa rfl (qBy 11 120 10 1 (vS a6 y2.1.2 c6) g.h (qAb 1 [(12,.int .u8 41)] (qAa rfl (qAx (d:=13) (t:=120) (e:=5) (len:=1) (parts:= #[(0,(.tmp 12))]) cU8 (xs:=[(41:UInt8)]) [.int .u8 41] kr rfl (fun _=>qAw kr _) rfl rfl g ⟨[.int .u8 41],_,rfl,rfl,rfl⟩ fun b4 m7 w10 e7 g r10=>(qAa rfl (qEl 14 120 120 5 1 11 13 g.f2 (.inl kr) ((r7.mono e6).mono e7) r10.src i fun l2 i a9 c9 m8 w11 e8 g r11=>(qAb 2 [(16,vP bp0 1)] (qAa rfl (qEq 120 16 14 1 (vS a9 l2 c9) #[.pointer (qDv true bp0),vS a9 l2 c9,vS a7 y2.2.1 c7,vS a8 y2.2.2.1 c8,vI y2.2.2.2] g.f2 fun w12 g=>(qAy rfl ?_)))))))))))));have g:=g.f2.t;refine qAi (W_sr (qAd 1 [(4,.nilIface)] (qBb (X_rt [4] [.nilIface] (⟨_,rfl,?_⟩)))));refine WO_e (qBb (qAc ?_));cases i;exact qPc [] [] rfl ResAll.nil ⟨a9,c9,a7,c7,a8,c8,m8,rfl,((((((q.t e2).t e3).t e4).t e5).t e6).t e7).t e8,g.f2.t.f1.f1,r11,((r8.mono e6).mono e7).mono e8,((r9.mono e6).mono e7).mono e8⟩
 ·intro A i;refine qAp (qAi (W_sr (qAb 4 [(40,vP bp0 0),(43,vP bp0 4)] (qAa rfl (qBy 44 3 43 4 (vI p0.2.2.2) g.t.h (qAb 4 [(46,vI (if p3>p0.2.2.2 then p3 else p0.2.2.2)),(48,vP bp0 4)] (qAa rfl (qEq 3 48 46 4 (vI (if p3>p0.2.2.2 then p3 else p0.2.2.2)) #[.pointer (qDv p0.1.1 bp0),vS a1 p0.1.2 c1,vS a2 p0.2.1 c2,vS a3 p0.2.2.1 c3,vI (if p3>p0.2.2.2 then p3 else p0.2.2.2)] g.f1 fun w13 g=>(WO_e (W_sr (qDy 1 50 3 49 0 (vI x1.1) g.t.h (WO_e (qAt (W_sr (qAd 2 [(66,vB (x1.1==1))] (W_if i ?_ ?_))))))))))))))))
  ·intro A i;refine qGf [(7,fun w'=>Inv m1 w'∧Piece.holds m1 w' (kB b2 (V8 x1 a4 c4) 117)∧True)] kr g fun w14 _ g=> ?_;have hmS1:=m1.le_refl;refine⟨⟨.inr ⟨Inv.anti g.inv hmS1,Piece.holds_anti g.t.h hmS1,trivial⟩,trivial⟩,?_⟩;refine qBf 0 68 (vP bp0 0) (.head _) (qBf 1 69 (vP bp0 0) (.head _) (qBf 2 70 (vP bp0 0) (.head _) (qBf 3 71 (vP b2 1) (.head _) (qGp 3 71 4 72 1 (vI x1.2.1) (.head _) (fun _ h=>h.2.1) (qCi 5 kr (qDm 73 i (fun _ h=>qQs g h) ?_))))));rintro y3 i _ w15 ⟨m9,rfl,e9,g⟩;refine⟨_,rfl,?_⟩;have hmS1:=Mem.le_trans hmS1 e9;refine⟨⟨.inr ⟨Inv.anti g.inv hmS1,Piece.holds_anti g.t.h hmS1,trivial⟩,trivial⟩,?_⟩;refine qCi 6 kr (qDn 74 72 #[vP bp0 0,vT y3] kr rfl (W_cA Tryz.func72 rfl Tryz.ntmps72 (W_sr (qAd 2 [] (W_sr (qAb 1 [(6,vP bp0 0)] (qAa rfl (qDn 7 140 #[vP bp0 0] kr rfl ((qBu (c0:=(qDv p0.1.1 bp0)) (R:=[vS a1 p0.1.2 c1,vS a2 p0.2.1 c2,vS a3 p0.2.2.1 c3,vI (if p3>p0.2.2.2 then p3 else p0.2.2.2)]) (qHo p0.1.1 bp0 kr) g).mono ?_)))))))));rintro _ w16 ⟨m10,rfl,e10,g⟩;refine⟨_,rfl,?_⟩;have hmS1:=Mem.le_trans hmS1 e10;have g:St m10 (kB bp0 #[.pointer (qDv true bp0),vS a1 p0.1.2 c1,vS a2 p0.2.1 c2,vS a3 p0.2.2.1 c3,vI (if p3>p0.2.2.2 then p3 else p0.2.2.2)] 193::kB b2 (V8 x1 a4 c4) 117::kR a1 p0.1.2 c1 5 1::O) w16:=g
   refine WO_e (W_sr (qAb 4 [(8,vP bp0 0),(11,vP bp0 1)] (qAa rfl (qBy 12 120 11 1 (vS a1 p0.1.2 c1) g.h (qAb 1 [(13,vT y3)] (qAa rfl (qEl 14 120 9 5 1 12 13 g.f2 (.inr kr) ((r1.mono e9).mono e10) (Gives.str _) i fun l3 i a10 c10 m11 w17 e11 g r12=> ?_)))))));have hmS1:=Mem.le_trans hmS1 e11;refine qAb 2 [(16,vP bp0 1)] (qAa rfl (qEq 120 16 14 1 (vS a10 l3 c10) #[.pointer (qDv true bp0),vS a10 l3 c10,vS a2 p0.2.1 c2,vS a3 p0.2.2.1 c3,vI (if p3>p0.2.2.2 then p3 else p0.2.2.2)] g.f1 fun w18 g=>(WO_e (W_sr (qAd 4 [(4,vI (y3.size:Int)),(5,.nilIface)] (qBb (X_rt [4,5] [vI (y3.size:Int),.nilIface] (⟨_,rfl,?_⟩))))))));refine⟨⟨.inr ⟨Inv.anti g.inv hmS1,Piece.holds_anti g.t.t.h hmS1,trivial⟩,trivial⟩,?_⟩;refine qDc kr ?_;refine qBl ?_;cases i;exact qOb [] [] rfl ResAll.nil ⟨a10,c10,a2,c2,a3,c3,m11,rfl,((q.t e9).t e10).t e11,g.f2.t.f1.f1,r12,((r2.mono e9).mono e10).mono e11,((r3.mono e9).mono e10).mono e11⟩
  ·intro A i;refine W_sr (qAd 2 [(75,vB (x1.1==2))] (W_if i ?_ ?_))
   ·intro A i;refine qGf [(12,fun w'=>Inv m1 w'∧Piece.holds m1 w' (kB b2 (V8 x1 a4 c4) 117)∧True),(11,fun w'=>Inv m1 w'∧Piece.holds m1 w' (kB bp0 #[.pointer (qDv p0.1.1 bp0),vS a1 p0.1.2 c1,vS a2 p0.2.1 c2,vS a3 p0.2.2.1 c3,vI (if p3>p0.2.2.2 then p3 else p0.2.2.2)] 193)∧True)] kr g fun w19 _ g=> ?_;have hmS2:=m1.le_refl;refine⟨⟨.inr ⟨Inv.anti g.inv hmS2,Piece.holds_anti g.t.h hmS2,trivial⟩,⟨.inr ⟨Inv.anti g.inv hmS2,Piece.holds_anti g.h hmS2,trivial⟩,trivial⟩⟩,?_⟩;refine qBf 0 77 (vP bp0 0) (.head _) (qBf 1 78 (vP bp0 0) (.head _) (qBf 2 79 (vP bp0 0) (.head _) (qBf 3 80 (vP bp0 0) (.head _) (qBf 4 81 (vP bp0 0) (.head _) (qBf 5 82 (vP bp0 3) (.head _) (qBf 7 84 (vP b2 1) (.head _) (qGp 3 84 8 85 1 (vI x1.2.1) (.head _) (fun _ h=>h.2.1) (qCi 6 kr (qBy 83 43 82 3 (vS a3 p0.2.2.1 c3) g.h (⟨⟨.inr ⟨Inv.anti g.inv hmS2,Piece.holds_anti g.t.h hmS2,trivial⟩,⟨.inr ⟨Inv.anti g.inv hmS2,Piece.holds_anti g.h hmS2,trivial⟩,trivial⟩⟩,?_⟩))))))))));have⟨x2,hx8,i⟩:=qAu i;refine qMc (t:=43) (e:=9) (x:=(.tmp 83)) (y:=(.tmp 85)) 9 86 cStr kr rfl kr (.head _) (qCn qIe) (ev (vS a3 p0.2.2.1 c3)) (ev (vI x1.2.1)) kr r3 hx8 ?_;rintro b5 f2 cs2 rfl hq2
    refine qPw 9 86 10 87 f2 (vT x2) (.head _) (fun _ h=>h.1) hq2 (qCi 11 kr (qDn 88 72 #[vP bp0 0,vT x2] kr rfl (W_cA Tryz.func72 rfl Tryz.ntmps72 (W_sr (qAd 2 [] (W_sr (qAb 1 [(6,vP bp0 0)] (qAa rfl (qDn 7 140 #[vP bp0 0] kr rfl ((qBu (c0:=(qDv p0.1.1 bp0)) (R:=[vS a1 p0.1.2 c1,vS a2 p0.2.1 c2,vS a3 p0.2.2.1 c3,vI (if p3>p0.2.2.2 then p3 else p0.2.2.2)]) (qHo p0.1.1 bp0 kr) g).mono ?_))))))))));rintro _ w20 ⟨m12,rfl,e12,g⟩;refine⟨_,rfl,?_⟩;have hmS2:=Mem.le_trans hmS2 e12;have g:St m12 (kB bp0 #[.pointer (qDv true bp0),vS a1 p0.1.2 c1,vS a2 p0.2.1 c2,vS a3 p0.2.2.1 c3,vI (if p3>p0.2.2.2 then p3 else p0.2.2.2)] 193::kB b2 (V8 x1 a4 c4) 117::kR a1 p0.1.2 c1 5 1::O) w20:=g;refine WO_e (W_sr (qAb 4 [(8,vP bp0 0),(11,vP bp0 1)] (qAa rfl (qBy 12 120 11 1 (vS a1 p0.1.2 c1) g.h (qAb 1 [(13,vT x2)] (qAa rfl (qEl 14 120 9 5 1 12 13 g.f2 (.inr kr) (r1.mono e12) (Gives.str _) i fun l4 i a11 c11 m13 w21 e13 g r13=> ?_)))))));have hmS2:=Mem.le_trans hmS2 e13;refine qAb 2 [(16,vP bp0 1)] (qAa rfl (qEq 120 16 14 1 (vS a11 l4 c11) #[.pointer (qDv true bp0),vS a11 l4 c11,vS a2 p0.2.1 c2,vS a3 p0.2.2.1 c3,vI (if p3>p0.2.2.2 then p3 else p0.2.2.2)] g.f1 fun w22 g=>(WO_e (W_sr (qAd 4 [(4,vI (x2.size:Int)),(5,.nilIface)] (qBb (X_rt [4,5] [vI (x2.size:Int),.nilIface] (⟨_,rfl,?_⟩))))))))
    refine⟨⟨.inr ⟨Inv.anti g.inv hmS2,Piece.holds_anti g.t.t.h hmS2,trivial⟩,⟨.inl rfl,trivial⟩⟩,?_⟩;refine qDc kr ?_;refine qBl ?_;cases i;exact qOb [] [] rfl ResAll.nil ⟨a11,c11,a2,c2,a3,c3,m13,rfl,(q.t e12).t e13,g.f2.t.f1.f1,r13,(r2.mono e12).mono e13,(r3.mono e12).mono e13⟩
   ·intro A i;refine W_sr (qAd 2 [(89,vB (x1.1==4))] (W_if i ?_ ?_))
    ·intro A i;refine W_sr (qAa rfl (qBy 91 117 8 0 (.agg (V8 x1 a4 c4)) g.t.h (qAm 92 i (fun _ h=>qQi g r4 h) ?_)));rintro y4 i _ w23 ⟨m14,rfl,e14,g⟩;have r4:=r4.mono e14;have r1:=r1.mono e14;have r2:=r2.mono e14;have r3:=r3.mono e14;refine qAd 1 [(9,vI y4)] (W_sr (qAd 2 [(10,vI y4)] (qAr (W_sr (qAd 2 [(95,vB (y4==1))] ?_)))));have⟨o1,i,j1⟩:=qAu i;refine qCp .normal (fun L' w'=>∃m15,L'=[(0,vP bp0 0),(3,vI p3),(8,vP b2 0),(9,vI y4),(10,vI o1)]∧m.le m15∧St m15 (kB bp0 #[.pointer (qDv p0.1.1 bp0),vS a1 p0.1.2 c1,vS a2 p0.2.1 c2,vS a3 p0.2.2.1 c3,vI (if p3>p0.2.2.2 then p3 else p0.2.2.2)] 193::kB b2 (V8 x1 a4 c4) 117::kR a1 p0.1.2 c1 5 1::O) w'∧RepS cU8 m15 a1 c1 p0.1.2∧RepS C3 m15 a2 c2 p0.2.1∧RepS cStr m15 a3 c3 p0.2.2.1∧RepS (cInt .i64) m15 a4 c4 x1.2.2.2.2) ?_ ?_
     ·have i:=j1;rintro _ w24 ⟨m15,rfl,q,g,r1,r2,r3,r4⟩;refine qAi (W_sr (qAb 2 [(98,vP bp0 0),(99,vP b2 4)] (qAa rfl (qBy 100 22 99 4 (vS a4 x1.2.2.2.2 c4) g.t.h (qAa rfl (qDi 101 22 3 100 ((.const (vI 0))) r4 i ?_))))));rintro x3 i b6 f3 cs3 rfl hq3;refine qFh 102 3 101 f3 (vI x3) g hq3 (qAb 2 [(103,vI o1),(104,vI p3)] (qAm 105 i (fun _ h=>ih_source_writer_expr (p0:=(p0.1,p0.2.1,p0.2.2.1,if p3>p0.2.2.2 then p3 else p0.2.2.2)) g.f2.f1 r1 r2 r3 h) ?_));rintro y5 i _ w25 ⟨a12,c12,a13,c13,a14,c14,m16,rfl,e15,g,r14,r15,r16⟩;refine WO_e (qAr (qGf [(10,fun w'=>Inv m16 w'∧Piece.holds m16 w' (kB b2 (V8 x1 a4 c4) 117)∧True)] kr g fun w26 _ g=> ?_));have hmS3:=m16.le_refl;refine⟨⟨.inr ⟨Inv.anti g.inv hmS3,Piece.holds_anti g.t.t.h hmS3,trivial⟩,trivial⟩,?_⟩;refine qBf 0 106 (vP bp0 0) (.head _) (qBf 1 107 (vP bp0 0) (.head _) (qBf 2 108 (vP bp0 0) (.head _) (qBf 4 110 (vP b2 2) (.head _) (qGp 3 110 5 111 2 (vI x1.2.2.1) (.head _) (fun _ h=>h.2.1) (qCi 3 kr (qDm 109 i (fun _ h=>qWp g h) ?_))))));rintro y6 i _ w27 ⟨q1,es1,ck1,m17,rfl,e16,g,r17⟩;refine⟨_,rfl,?_⟩;have hmS3:=Mem.le_trans hmS3 e16;refine⟨⟨.inr ⟨Inv.anti g.inv hmS3,Piece.holds_anti g.t.t.t.h hmS3,trivial⟩,trivial⟩,?_⟩
      refine qCi 6 kr (qQw (ek:=(fun n:Int=>Value.int .i64 n)) (c:=cStr) (agg:=false) (k:=x1.2.2.1) (zx:=eB) (zcs:=[vT eB]) (z:=(vT eB)) (kt:=3) (et:=9) (d:=112) (t:=234) (x:=(.tmp 109)) (y:=(.tmp 111)) (ok:=false) kr rfl (ev (.map q1)) (ev (vI x1.2.2.1)) kr (qJx kr) g.h r17 rfl rfl ?_);rintro cs4 rfl;refine⟨⟨.inr ⟨Inv.anti g.inv hmS3,Piece.holds_anti g.t.t.t.h hmS3,trivial⟩,trivial⟩,?_⟩;refine qGe 9 9 ((.const (vT (⟨#[32]⟩:ByteArray)))) 112 7 113 (.head _) i fun s1 i=> ?_;refine qGe 9 9 113 ((.const (vT (⟨#[32]⟩:ByteArray)))) 8 114 (.head _) i fun s2 i=> ?_;refine qCi 9 kr (qDn 115 72 #[vP bp0 0,vT s2] kr rfl (W_cA Tryz.func72 rfl Tryz.ntmps72 (W_sr (qAd 2 [] (W_sr (qAb 1 [(6,vP bp0 0)] ?_))))));have g:=g.f1;refine qAa rfl (qDn 7 140 #[vP bp0 0] kr rfl ((qBu (c0:=(qDv y5.1.1 bp0)) (R:=[vS a12 y5.1.2 c12,vS a13 y5.2.1 c13,vS a14 y5.2.2.1 c14,vI y5.2.2.2]) (qHo y5.1.1 bp0 kr) g).mono ?_));rintro _ w28 ⟨m18,rfl,e17,g⟩;refine⟨_,rfl,?_⟩;have hmS3:=Mem.le_trans hmS3 e17;have g:St m18 (kB bp0 #[.pointer (qDv true bp0),vS a12 y5.1.2 c12,vS a13 y5.2.1 c13,vS a14 y5.2.2.1 c14,vI y5.2.2.2] 193::qGz q1 es1 ck1::kR a12 y5.1.2 c12 5 1::kB b2 (V8 x1 a4 c4) 117::O) w28:=g
      refine WO_e (W_sr (qAb 4 [(8,vP bp0 0),(11,vP bp0 1)] (qAa rfl (qBy 12 120 11 1 (vS a12 y5.1.2 c12) g.h (qAb 1 [(13,vT s2)] (qAa rfl (qEl 14 120 9 5 1 12 13 g.f2 (.inr kr) ((r14.mono e16).mono e17) (Gives.str _) i fun l5 i a15 c15 m19 w29 e18 g r18=> ?_)))))));have hmS3:=Mem.le_trans hmS3 e18;refine qAb 2 [(16,vP bp0 1)] (qAa rfl (qEq 120 16 14 1 (vS a15 l5 c15) #[.pointer (qDv true bp0),vS a15 l5 c15,vS a13 y5.2.1 c13,vS a14 y5.2.2.1 c14,vI y5.2.2.2] g.f1 fun w30 g=>(WO_e (W_sr (qAd 4 [(4,vI (s2.size:Int)),(5,.nilIface)] (qBb (X_rt [4,5] [vI (s2.size:Int),.nilIface] (⟨_,rfl,?_⟩))))))));refine⟨⟨.inr ⟨Inv.anti g.inv hmS3,Piece.holds_anti g.t.t.t.h hmS3,trivial⟩,trivial⟩,?_⟩;refine qDc kr ?_;refine qAi (qAn (qAb 2 [(116,vP bp0 0),(117,vP b2 4)] (qAa rfl (qBy 118 22 117 4 (vS a4 x1.2.2.2.2 c4) g.t.t.t.h (qAa rfl (qDi 119 22 3 118 ((.const (vI 1))) ((((r4.mono e15).mono e16).mono e17).mono e18) i ?_))))));rintro x4 i b7 f4 cs5 rfl hq4;refine qFh 120 3 119 f4 (vI x4) g hq4 (qAb 3 [(122,vI (wr (y4+1))),(123,vI p3)] (qAm 124 i (fun _ h=>ih_source_writer_expr (p0:=((true,l5),y5.2.1,y5.2.2.1,y5.2.2.2)) g.f1.f1 r18 (((r15.mono e16).mono e17).mono e18) (((r16.mono e16).mono e17).mono e18) h) ?_));rintro y7 i _ w31 ⟨a16,c16,a17,c17,a18,c18,m20,rfl,e19,g,r19,r20,r21⟩;refine qAy rfl (qBl ?_);cases i
      exact qOb [] [] rfl ResAll.nil ⟨a16,c16,a17,c17,a18,c18,m20,rfl,((((q.t e15).t e16).t e17).t e18).t e19,g.f2.t.f2.t.f1.f1,r19,r20,r21⟩
     ·intro Ku1;refine W_if i ?_ ?_
      ·intro A i;refine qAn (qAb 3 [(10,vI (wr (y4+1)))] (qAy rfl ?_));cases i;exact xE (Ku1 _ _ ⟨m14,rfl,q.t e14,g.f2.f2.f2,r1,r2,r3,r4⟩)
      ·intro A i;refine qAp ?_;cases i;exact xE (Ku1 _ _ ⟨m14,rfl,q.t e14,g.f2.f2.f2,r1,r2,r3,r4⟩)
    ·intro A i;refine W_sr (qAd 2 [(125,vB (x1.1==5))] (W_if i ?_ ?_))
     ·intro A i;refine W_sr (qAa rfl (qAx (d:=127) (t:=43) (e:=9) (len:=3) (parts:= #[(0,(.const (vT bw))),(1,(.const (vT bx))),(2,(.const (vT b24)))]) cStr (xs:=[bw,bx,b24]) [vT bw,vT bx,vT b24] kr rfl (fun _=>qAw kr _) rfl rfl g ⟨[vT bw],_,rfl,rfl,⟨[vT bx],_,rfl,rfl,⟨[vT b24],_,rfl,rfl,rfl⟩⟩⟩ fun b8 m21 w32 e20 g r22=>(qAd 2 [(128,vI (List.length ([bw,bx,b24]):Int)),(129,vI 0)] (qAt ?_))));have⟨out1,i,j2⟩:=qAu i;refine qCp (.exit 1) (fun L' w'=>∃(o2:T1i),∃a19 c19 a20 c20 a21 c21 m22,o2=out1∧L'=[]∧m.le m22∧St m22 (kB bp0 #[.pointer (qDv o2.1 bp0),vS a19 o2.2.1 c19,vS a20 o2.2.2.1 c20,vS a21 o2.2.2.2.1 c21,vI o2.2.2.2.2] 193::kB b2 (V8 x1 a4 c4) 117:: .room (aP b8) (List.length ([bw,bx,b24])) 3 9 1::kR a19 o2.2.1 c19 5 1::O) w'∧RepS cU8 m22 a19 c19 o2.2.1∧RepS C3 m22 a20 c20 o2.2.2.1∧RepS cStr m22 a21 c21 o2.2.2.2.1∧RepS (cInt .i64) m22 a4 c4 x1.2.2.2.2) ?_ ?_
      ·rintro _ w33 ⟨o2,a19,c19,a20,c20,a21,c21,m22,rfl,rfl,q,g,r23,r24,r25,r4⟩;have i:=j2;refine qBg (qBl ?_);cases i;exact qOb [] [] rfl ResAll.nil ⟨a19,c19,a20,c20,a21,c21,m22,rfl,q,g.f1.t.f1.t.f1.f1,r23,r24,r25⟩
      intro K1_u2;refine qFu _ kr (qDl (fun k1 L' w'=>∃(s3:T1j),∃a22 c22 a23 c23 a24 c24 m23,qAq (qIl N R7 p3 x1) k1 s3=some out1∧L'=[(0,vP bp0 0),(3,vI p3),(8,vP b2 0),(127,.slice (aP b8) (List.length ([bw,bx,b24])) 3),(128,vI (List.length ([bw,bx,b24]):Int)),(129,vI s3.1)]∧m.le m23∧St m23 (kB bp0 #[.pointer (qDv s3.2.1 bp0),vS a22 s3.2.2.1 c22,vS a23 s3.2.2.2.1 c23,vS a24 s3.2.2.2.2.1 c24,vI s3.2.2.2.2.2] 193::kB b2 (V8 x1 a4 c4) 117:: .room (aP b8) (List.length ([bw,bx,b24])) 3 9 1::kR a22 s3.2.2.1 c22 5 1::O) w'∧RepS cStr m23 (aP b8) 3 ([bw,bx,b24])∧RepS cU8 m23 a22 c22 s3.2.2.1∧RepS C3 m23 a23 c23 s3.2.2.2.1∧RepS cStr m23 a24 c24 s3.2.2.2.2.1∧RepS (cInt .i64) m23 a4 c4 x1.2.2.2.2) N ⟨(0,p0.1.1,p0.1.2,p0.2.1,p0.2.2.1,if p3>p0.2.2.2 then p3 else p0.2.2.2),a1,c1,a2,c2,a3,c3,m21,i,rfl,q.t e20,g.f3.f1.f3.f3,r22,r1.mono e20,r2.mono e20,r3.mono e20,r4.mono e20⟩ ?_);rintro k1 _ w34 ⟨s3,a22,c22,a23,c23,a24,c24,m23,hL,rfl,q,g,r22,r26,r27,r28,r4⟩;rcases k1 with _|k1
      ·exact qBh hL
      ·obtain⟨qu2,i,hSu2,hBu2⟩:=qBi hL;clear hL;unfold qIl at i;refine W_sr (qAd 1 [(130,vB (decide (s3.1<(List.length ([bw,bx,b24]):Int))))] (qAr (W_if i ?_ ?_)))
       ·intro A i;refine qAp (qAi (qAr (qAt (W_sr (qAb 1 [(131,vI s3.1)] (qAa rfl (qDi 132 43 9 127 129 r22 i ?_)))))));rintro x5 i b9 f5 cs6 rfl hq5;refine qFh 133 9 132 f5 (vT x5) g hq5 (qAd 2 [(11,vI s3.1),(12,vT x5)] (W_sr (qAb 4 [(136,vP bp0 0),(137,vT x5)] (qAa rfl (qDn 138 72 #[vP bp0 0,vT x5] kr rfl (W_cA Tryz.func72 rfl Tryz.ntmps72 (W_sr (qAd 2 [] (W_sr (qAb 1 [(6,vP bp0 0)] (qAa rfl (qDn 7 140 #[vP bp0 0] kr rfl ((qBu (c0:=(qDv s3.2.1 bp0)) (R:=[vS a22 s3.2.2.1 c22,vS a23 s3.2.2.2.1 c23,vS a24 s3.2.2.2.2.1 c24,vI s3.2.2.2.2.2]) (qHo s3.2.1 bp0 kr) g).mono ?_)))))))))))));rintro _ w35 ⟨m24,rfl,e21,g⟩;refine⟨_,rfl,?_⟩;have g:St m24 (kB bp0 #[.pointer (qDv true bp0),vS a22 s3.2.2.1 c22,vS a23 s3.2.2.2.1 c23,vS a24 s3.2.2.2.2.1 c24,vI s3.2.2.2.2.2] 193::kB b2 (V8 x1 a4 c4) 117:: .room (aP b8) (List.length ([bw,bx,b24])) 3 9 1::kR a22 s3.2.2.1 c22 5 1::O) w35:=g;refine WO_e (W_sr (qAb 4 [(8,vP bp0 0),(11,vP bp0 1)] (qAa rfl (qBy 12 120 11 1 (vS a22 s3.2.2.1 c22) g.h (qAb 1 [(13,vT x5)] (qAa rfl (qEl 14 120 9 5 1 12 13 g.f3 (.inr kr) (r26.mono e21) (Gives.str _) i fun l6 i a25 c25 m25 w36 e22 g r29=> ?_)))))));have r4:=(r4.mono e21).mono e22
        refine qAb 2 [(16,vP bp0 1)] (qAa rfl (qEq 120 16 14 1 (vS a25 l6 c25) #[.pointer (qDv true bp0),vS a25 l6 c25,vS a23 s3.2.2.2.1 c23,vS a24 s3.2.2.2.2.1 c24,vI s3.2.2.2.2.2] g.f1 fun w37 g=>(WO_e (W_sr (qAd 4 [(4,vI (x5.size:Int)),(5,.nilIface)] (qBb (X_rt [4,5] [vI (x5.size:Int),.nilIface] (⟨_,rfl,?_⟩))))))));refine WO_e (qAn (qAb 2 [(139,vP bp0 0),(140,vP b2 4)] (qAa rfl (qBy 141 22 140 4 (vS a4 x1.2.2.2.2 c4) g.t.t.h (qAb 1 [(142,vI s3.1)] (qAa rfl (qDi 143 22 3 141 142 r4 i ?_)))))));rintro x6 i b10 f6 cs7 rfl hq6;refine qFh 144 3 143 f6 (vI x6) g hq6 (qAb 2 [(146,vI (wr (p3+1)))] (qAm 147 i (fun _ h=>ih_source_writer_expr (p0:=((true,l6),s3.2.2.2.1,s3.2.2.2.2.1,s3.2.2.2.2.2)) g.f1.f1 r29 ((r27.mono e21).mono e22) ((r28.mono e21).mono e22) h) ?_));rintro y8 i _ w38 ⟨a26,c26,a27,c27,a28,c28,m26,rfl,e23,g,r30,r31,r32⟩;refine qAy rfl (qBl (qAi (qAn (qAb 2 [(129,vI (wr (s3.1+1)))] (qAy rfl ?_)))));obtain rfl:=sI i;have hL:=hSu2 _ rfl;exact xE (qCk k1 (jF _) ⟨(wr (s3.1+1),y8.1.1,y8.1.2,y8.2.1,y8.2.2.1,y8.2.2.2),a26,c26,a27,c27,a28,c28,m26,hL,rfl,((q.t e21).t e22).t e23,g.f1.f3.f3.f3,((r22.mono e21).mono e22).mono e23,r30,r31,r32,r4.mono e23⟩)
       ·intro A i;refine qDa (qAf ?_);cases i;have ho:=hBu2 _ rfl;have g:=g.f3.f3.f3.f3;refine qAf ?_;exact xE (K1_u2 _ _ ⟨s3.2,a22,c22,a23,c23,a24,c24,m23,ho,rfl,q,g,r26,r27,r28,r4⟩)
     ·intro A i;refine W_sr (qAd 2 [(149,vB (x1.1==3))] (W_if i ?_ ?_))
      ·intro A i;refine qAr (qGf [(7,fun w'=>Inv m1 w'∧Piece.holds m1 w' (kB b2 (V8 x1 a4 c4) 117)∧True)] kr g fun w39 _ g=> ?_);have hmS4:=m1.le_refl;refine⟨⟨.inr ⟨Inv.anti g.inv hmS4,Piece.holds_anti g.t.h hmS4,trivial⟩,trivial⟩,?_⟩;refine qBf 0 151 (vP bp0 0) (.head _) (qBf 1 152 (vP bp0 0) (.head _) (qBf 2 153 (vP bp0 0) (.head _) (qBf 3 154 (vP b2 3) (.head _) (qGp 9 154 4 155 3 (vT x1.2.2.2.1) (.head _) (fun _ h=>h.2.1) (qGe 9 9 155 ((.const (vT bu))) 5 156 (.head _) i fun s4 i=>(qCi 6 kr (qDn 157 72 #[vP bp0 0,vT s4] kr rfl (W_cA Tryz.func72 rfl Tryz.ntmps72 (W_sr (qAd 2 [] (W_sr (qAb 1 [(6,vP bp0 0)] (qAa rfl (qDn 7 140 #[vP bp0 0] kr rfl ((qBu (c0:=(qDv p0.1.1 bp0)) (R:=[vS a1 p0.1.2 c1,vS a2 p0.2.1 c2,vS a3 p0.2.2.1 c3,vI (if p3>p0.2.2.2 then p3 else p0.2.2.2)]) (qHo p0.1.1 bp0 kr) g).mono ?_)))))))))))))));rintro _ w40 ⟨m27,rfl,e24,g⟩;refine⟨_,rfl,?_⟩;have hmS4:=Mem.le_trans hmS4 e24;have g:St m27 (kB bp0 #[.pointer (qDv true bp0),vS a1 p0.1.2 c1,vS a2 p0.2.1 c2,vS a3 p0.2.2.1 c3,vI (if p3>p0.2.2.2 then p3 else p0.2.2.2)] 193::kB b2 (V8 x1 a4 c4) 117::kR a1 p0.1.2 c1 5 1::O) w40:=g;refine WO_e (W_sr (qAb 4 [(8,vP bp0 0),(11,vP bp0 1)] (qAa rfl (qBy 12 120 11 1 (vS a1 p0.1.2 c1) g.h (qAb 1 [(13,vT s4)] (qAa rfl (qEl 14 120 9 5 1 12 13 g.f2 (.inr kr) (r1.mono e24) (Gives.str _) i fun l7 i a29 c29 m28 w41 e25 g r33=> ?_)))))))
       have hmS4:=Mem.le_trans hmS4 e25;refine qAb 2 [(16,vP bp0 1)] (qAa rfl (qEq 120 16 14 1 (vS a29 l7 c29) #[.pointer (qDv true bp0),vS a29 l7 c29,vS a2 p0.2.1 c2,vS a3 p0.2.2.1 c3,vI (if p3>p0.2.2.2 then p3 else p0.2.2.2)] g.f1 fun w42 g=>(WO_e (W_sr (qAd 4 [(4,vI (s4.size:Int)),(5,.nilIface)] (qBb (X_rt [4,5] [vI (s4.size:Int),.nilIface] (⟨_,rfl,?_⟩))))))));refine⟨⟨.inr ⟨Inv.anti g.inv hmS4,Piece.holds_anti g.t.t.h hmS4,trivial⟩,trivial⟩,?_⟩;refine qDc kr ?_;refine qAi (qAr (W_sr (qDy 1 159 22 158 4 (vS a4 x1.2.2.2.2 c4) g.t.t.h (qAd 2 [(160,vI (x1.2.2.2.2.length:Int)),(161,vI 0)] (qAt ?_)))));have⟨out2,i,j3⟩:=qAu i;refine qCp (.exit 3) (fun L' w'=>∃(o3:T1i),∃a30 c30 a31 c31 a32 c32 m29,o3=out2∧L'=[(0,vP bp0 0)]∧m.le m29∧St m29 (kB bp0 #[.pointer (qDv o3.1 bp0),vS a30 o3.2.1 c30,vS a31 o3.2.2.1 c31,vS a32 o3.2.2.2.1 c32,vI o3.2.2.2.2] 193::kB b2 (V8 x1 a4 c4) 117::kR a30 o3.2.1 c30 5 1::O) w'∧RepS cU8 m29 a30 c30 o3.2.1∧RepS C3 m29 a31 c31 o3.2.2.1∧RepS cStr m29 a32 c32 o3.2.2.2.1∧RepS (cInt .i64) m29 a4 c4 x1.2.2.2.2) ?_ ?_
       ·rintro _ w43 ⟨o3,a30,c30,a31,c31,a32,c32,m29,rfl,rfl,q,g,r34,r35,r36,r4⟩;have i:=j3;refine qBg (qAi (qAn (qAb 3 [(180,vP bp0 0)] (qAa rfl (qDn 181 200 #[vP bp0 0,.int .u8 41] kr rfl (W_cA Tryz.func200 rfl Tryz.ntmps200 (W_sr (qAd 1 [] (W_sr (qAb 1 [(5,vP bp0 0)] (qAa rfl (qDn 6 140 #[vP bp0 0] kr rfl ((qBu (c0:=(qDv o3.1 bp0)) (R:=[vS a30 o3.2.1 c30,vS a31 o3.2.2.1 c31,vS a32 o3.2.2.2.1 c32,vI o3.2.2.2.2]) (qHo o3.1 bp0 kr) g).mono ?_)))))))))))));rintro _ w50 ⟨m35,rfl,e29,g⟩;refine⟨_,rfl,?_⟩;have g:St m35 (kB bp0 #[.pointer (qDv true bp0),vS a30 o3.2.1 c30,vS a31 o3.2.2.1 c31,vS a32 o3.2.2.2.1 c32,vI o3.2.2.2.2] 193::kB b2 (V8 x1 a4 c4) 117::kR a30 o3.2.1 c30 5 1::O) w50:=g
        refine WO_e (W_sr (qAb 4 [(7,vP bp0 0),(10,vP bp0 1)] (qAa rfl (qBy 11 120 10 1 (vS a30 o3.2.1 c30) g.h (qAb 1 [(12,.int .u8 41)] (qAa rfl (qAx (d:=13) (t:=120) (e:=5) (len:=1) (parts:= #[(0,(.tmp 12))]) cU8 (xs:=[(41:UInt8)]) [.int .u8 41] kr rfl (fun _=>qAw kr _) rfl rfl g ⟨[.int .u8 41],_,rfl,rfl,rfl⟩ fun b12 m36 w51 e30 g r45=>(qAa rfl (qEl 14 120 120 5 1 11 13 g.f3 (.inl kr) ((r34.mono e29).mono e30) r45.src i fun l9 i a41 c41 m37 w52 e31 g r46=>(qAb 2 [(16,vP bp0 1)] (qAa rfl (qEq 120 16 14 1 (vS a41 l9 c41) #[.pointer (qDv true bp0),vS a41 l9 c41,vS a31 o3.2.2.1 c31,vS a32 o3.2.2.2.1 c32,vI o3.2.2.2.2] g.f2 fun w53 g=>(qAy rfl ?_)))))))))))));have g:=g.f2.t;refine qAi (W_sr (qAd 1 [(4,.nilIface)] (qBb (X_rt [4] [.nilIface] (⟨_,rfl,?_⟩)))));refine qAy rfl (qBl ?_);cases i;exact qOb [] [] rfl ResAll.nil ⟨a41,c41,a31,c31,a32,c32,m37,rfl,((q.t e29).t e30).t e31,g.f2.t.f1.f1,r46,((r35.mono e29).mono e30).mono e31,((r36.mono e29).mono e30).mono e31⟩
       intro K3_u3;refine qFu _ kr (qDl (fun k2 L' w'=>∃(s5:T1j),∃a33 c33 a34 c34 a35 c35 m30,qAq (qFm N R7 p3 x1) k2 s5=some out2∧L'=[(0,vP bp0 0),(3,vI p3),(159,vS a4 x1.2.2.2.2 c4),(160,vI (x1.2.2.2.2.length:Int)),(161,vI s5.1)]∧m.le m30∧St m30 (kB bp0 #[.pointer (qDv s5.2.1 bp0),vS a33 s5.2.2.1 c33,vS a34 s5.2.2.2.1 c34,vS a35 s5.2.2.2.2.1 c35,vI s5.2.2.2.2.2] 193::kB b2 (V8 x1 a4 c4) 117::kR a33 s5.2.2.1 c33 5 1::O) w'∧RepS (cInt .i64) m30 a4 c4 x1.2.2.2.2∧RepS cU8 m30 a33 c33 s5.2.2.1∧RepS C3 m30 a34 c34 s5.2.2.2.1∧RepS cStr m30 a35 c35 s5.2.2.2.2.1) N ⟨(0,true,l7,p0.2.1,p0.2.2.1,if p3>p0.2.2.2 then p3 else p0.2.2.2),a29,c29,a2,c2,a3,c3,m28,i,rfl,(q.t e24).t e25,g.f1.f2.f2,(r4.mono e24).mono e25,r33,(r2.mono e24).mono e25,(r3.mono e24).mono e25⟩ ?_);rintro k2 _ w44 ⟨s5,a33,c33,a34,c34,a35,c35,m30,hL,rfl,q,g,r4,r37,r38,r39⟩;rcases k2 with _|k2
       ·exact qBh hL
       ·obtain⟨qu3,i,hSu3,hBu3⟩:=qBi hL;clear hL;unfold qFm at i;refine W_sr (qAd 1 [(162,vB (decide (s5.1<(x1.2.2.2.2.length:Int))))] (qAr (W_if i ?_ ?_)))
        ·intro A i;refine qAp (qAi (qAr (qAt (W_sr (qAb 1 [(163,vI s5.1)] (qAa rfl (qDi 164 22 3 159 161 r4 i ?_)))))));rintro x7 i b11 f7 cs8 rfl hq7;refine qFh 165 3 164 f7 (vI x7) g hq7 (qAd 2 [(13,vI s5.1),(14,vI x7)] (qAr (W_sr (qAd 2 [(167,vB (decide (s5.1>0)))] ?_))));have⟨o4,i,j4⟩:=qAu i;refine qCp .normal (fun L' w'=>∃a36 c36 m31,L'=[(0,vP bp0 0),(3,vI p3),(14,vI x7),(159,vS a4 x1.2.2.2.2 c4),(160,vI (x1.2.2.2.2.length:Int)),(161,vI s5.1)]∧m.le m31∧St m31 (kB bp0 #[.pointer (qDv o4.1 bp0),vS a36 o4.2 c36,vS a34 s5.2.2.2.1 c34,vS a35 s5.2.2.2.2.1 c35,vI s5.2.2.2.2.2] 193::kB b2 (V8 x1 a4 c4) 117::kR a36 o4.2 c36 5 1::O) w'∧RepS (cInt .i64) m31 a4 c4 x1.2.2.2.2∧RepS cU8 m31 a36 c36 o4.2∧RepS C3 m31 a34 c34 s5.2.2.2.1∧RepS cStr m31 a35 c35 s5.2.2.2.2.1) ?_ ?_
         ·have i:=j4;rintro _ w45 ⟨a36,c36,m31,rfl,q,g,r4,r40,r38,r39⟩;refine qAi (qAn (qAb 4 [(172,vP bp0 0),(173,vI x7),(175,vI (wr (p3+1)))] (qAm 176 i (fun _ h=>ih_source_writer_expr (p0:=(o4,s5.2.2.2.1,s5.2.2.2.2.1,s5.2.2.2.2.2)) g.f2.f1 r40 r38 r39 h) ?_)));rintro y9 i _ w49 ⟨a38,c38,a39,c39,a40,c40,m34,rfl,e28,g,r42,r43,r44⟩;refine qAy rfl (qBl (qAi (qAn (qAb 2 [(161,vI (wr (s5.1+1)))] (qAy rfl ?_)))));obtain rfl:=sI i;have hL:=hSu3 _ rfl;exact xE (qCk k2 (jF _) ⟨(wr (s5.1+1),y9.1.1,y9.1.2,y9.2.1,y9.2.2.1,y9.2.2.2),a38,c38,a39,c39,a40,c40,m34,hL,rfl,q.t e28,g.f1.f2.f2,r4.mono e28,r42,r43,r44⟩)
         ·intro Ku4;refine W_if i ?_ ?_
          ·intro A i;refine qAn (qAb 3 [(170,vP bp0 0)] (qAa rfl (qDn 171 72 #[vP bp0 0,vT bv] kr rfl (W_cA Tryz.func72 rfl Tryz.ntmps72 (W_sr (qAd 2 [] (W_sr (qAb 1 [(6,vP bp0 0)] (qAa rfl (qDn 7 140 #[vP bp0 0] kr rfl ((qBu (c0:=(qDv s5.2.1 bp0)) (R:=[vS a33 s5.2.2.1 c33,vS a34 s5.2.2.2.1 c34,vS a35 s5.2.2.2.2.1 c35,vI s5.2.2.2.2.2]) (qHo s5.2.1 bp0 kr) g).mono ?_)))))))))));rintro _ w46 ⟨m32,rfl,e26,g⟩;refine⟨_,rfl,?_⟩;have g:St m32 (kB bp0 #[.pointer (qDv true bp0),vS a33 s5.2.2.1 c33,vS a34 s5.2.2.2.1 c34,vS a35 s5.2.2.2.2.1 c35,vI s5.2.2.2.2.2] 193::kB b2 (V8 x1 a4 c4) 117::kR a33 s5.2.2.1 c33 5 1::O) w46:=g;refine WO_e (W_sr (qAb 4 [(8,vP bp0 0),(11,vP bp0 1)] (qAa rfl (qBy 12 120 11 1 (vS a33 s5.2.2.1 c33) g.h (qAb 1 [(13,vT bv)] (qAa rfl (qEl 14 120 9 5 1 12 13 g.f2 (.inr kr) (r37.mono e26) (Gives.str _) i fun l8 i a37 c37 m33 w47 e27 g r41=>(qAb 2 [(16,vP bp0 1)] (qAa rfl (qEq 120 16 14 1 (vS a37 l8 c37) #[.pointer (qDv true bp0),vS a37 l8 c37,vS a34 s5.2.2.2.1 c34,vS a35 s5.2.2.2.2.1 c35,vI s5.2.2.2.2.2] g.f1 fun w48 g=>(WO_e (W_sr (qAd 4 [(4,vI (bv.size:Int)),(5,.nilIface)] (qBb (X_rt [4,5] [vI (bv.size:Int),.nilIface] (⟨_,rfl,?_⟩))))))))))))))));refine qAy rfl ?_;cases i;exact xE (Ku4 _ _ ⟨a37,c37,m33,rfl,(q.t e26).t e27,g.f1.f2.f2,(r4.mono e26).mono e27,r41,(r38.mono e26).mono e27,(r39.mono e26).mono e27⟩)
          ·intro A i;refine qAp ?_;cases i;exact xE (Ku4 _ _ ⟨a33,c33,m30,rfl,q,g.f2.f2.f2,r4,r37,r38,r39⟩)
        ·intro A i;refine qDa (qAf ?_);cases i;have ho:=hBu3 _ rfl;have g:=g.f2.f2.f2;refine qAf ?_;exact xE (K3_u3 _ _ ⟨s5.2,a33,c33,a34,c34,a35,c35,m30,ho,rfl,q,g,r37,r38,r39,r4⟩)
      ·intro A i;refine W_sr (qAd 2 [(182,vB (x1.1==6))] (W_if i ?_ ?_))
       ·intro A i;refine qAr (qGf [(8,fun w'=>Inv m1 w'∧Piece.holds m1 w' (kB b2 (V8 x1 a4 c4) 117)∧True)] kr g fun w54 _ g=> ?_);have hmS5:=m1.le_refl;refine⟨⟨.inr ⟨Inv.anti g.inv hmS5,Piece.holds_anti g.t.h hmS5,trivial⟩,trivial⟩,?_⟩;refine qBf 0 184 (vP bp0 0) (.head _) (qBf 1 185 (vP bp0 0) (.head _) (qBf 2 186 (vP bp0 0) (.head _) (qBf 3 187 (vP b2 3) (.head _) (qGp 9 187 4 188 3 (vT x1.2.2.2.1) (.head _) (fun _ h=>h.2.1) (qGe 9 9 ((.const (vT (⟨#[114,101,97,100,40,34]⟩:ByteArray)))) 188 5 189 (.head _) i fun s6 i=>(qGe 9 9 189 ((.const (vT (⟨#[34,44,32]⟩:ByteArray)))) 6 190 (.head _) i fun s7 i=>(qCi 7 kr (qDn 191 72 #[vP bp0 0,vT s7] kr rfl (W_cA Tryz.func72 rfl Tryz.ntmps72 (W_sr (qAd 2 [] (W_sr (qAb 1 [(6,vP bp0 0)] (qAa rfl (qDn 7 140 #[vP bp0 0] kr rfl ((qBu (c0:=(qDv p0.1.1 bp0)) (R:=[vS a1 p0.1.2 c1,vS a2 p0.2.1 c2,vS a3 p0.2.2.1 c3,vI (if p3>p0.2.2.2 then p3 else p0.2.2.2)]) (qHo p0.1.1 bp0 kr) g).mono ?_))))))))))))))));rintro _ w55 ⟨m38,rfl,e32,g⟩;refine⟨_,rfl,?_⟩;have hmS5:=Mem.le_trans hmS5 e32;have g:St m38 (kB bp0 #[.pointer (qDv true bp0),vS a1 p0.1.2 c1,vS a2 p0.2.1 c2,vS a3 p0.2.2.1 c3,vI (if p3>p0.2.2.2 then p3 else p0.2.2.2)] 193::kB b2 (V8 x1 a4 c4) 117::kR a1 p0.1.2 c1 5 1::O) w55:=g
        refine WO_e (W_sr (qAb 4 [(8,vP bp0 0),(11,vP bp0 1)] (qAa rfl (qBy 12 120 11 1 (vS a1 p0.1.2 c1) g.h (qAb 1 [(13,vT s7)] (qAa rfl (qEl 14 120 9 5 1 12 13 g.f2 (.inr kr) (r1.mono e32) (Gives.str _) i fun l10 i a42 c42 m39 w56 e33 g r47=> ?_)))))));have hmS5:=Mem.le_trans hmS5 e33;refine qAb 2 [(16,vP bp0 1)] (qAa rfl (qEq 120 16 14 1 (vS a42 l10 c42) #[.pointer (qDv true bp0),vS a42 l10 c42,vS a2 p0.2.1 c2,vS a3 p0.2.2.1 c3,vI (if p3>p0.2.2.2 then p3 else p0.2.2.2)] g.f1 fun w57 g=>(WO_e (W_sr (qAd 4 [(4,vI (s7.size:Int)),(5,.nilIface)] (qBb (X_rt [4,5] [vI (s7.size:Int),.nilIface] (⟨_,rfl,?_⟩))))))));refine⟨⟨.inr ⟨Inv.anti g.inv hmS5,Piece.holds_anti g.t.t.h hmS5,trivial⟩,trivial⟩,?_⟩;refine qDc kr ?_;refine qAi (W_sr (qAb 2 [(192,vP bp0 0),(193,vP b2 4)] (qAa rfl (qBy 194 22 193 4 (vS a4 x1.2.2.2.2 c4) g.t.t.h (qAa rfl (qDi 195 22 3 194 ((.const (vI 0))) ((r4.mono e32).mono e33) i ?_))))));rintro x8 i b13 f8 cs9 rfl hq8;refine qFh 196 3 195 f8 (vI x8) g hq8 (qAb 2 [(198,vI (wr (p3+1)))] (qAm 199 i (fun _ h=>ih_source_writer_expr (p0:=((true,l10),p0.2.1,p0.2.2.1,if p3>p0.2.2.2 then p3 else p0.2.2.2)) g.f1.f1 r47 ((r2.mono e32).mono e33) ((r3.mono e32).mono e33) h) ?_));rintro y10 i _ w58 ⟨a43,c43,a44,c44,a45,c45,m40,rfl,e34,g,r48,r49,r50⟩
        refine WO_e (qAn (qAb 3 [(202,vP bp0 0)] (qAa rfl (qDn 203 200 #[vP bp0 0,.int .u8 41] kr rfl (W_cA Tryz.func200 rfl Tryz.ntmps200 (W_sr (qAd 1 [] (W_sr (qAb 1 [(5,vP bp0 0)] (qAa rfl (qDn 6 140 #[vP bp0 0] kr rfl ((qBu (c0:=(qDv y10.1.1 bp0)) (R:=[vS a43 y10.1.2 c43,vS a44 y10.2.1 c44,vS a45 y10.2.2.1 c45,vI y10.2.2.2]) (qHo y10.1.1 bp0 kr) g).mono ?_))))))))))));rintro _ w59 ⟨m41,rfl,e35,g⟩;refine⟨_,rfl,?_⟩;have g:St m41 (kB bp0 #[.pointer (qDv true bp0),vS a43 y10.1.2 c43,vS a44 y10.2.1 c44,vS a45 y10.2.2.1 c45,vI y10.2.2.2] 193::kR a43 y10.1.2 c43 5 1::kB b2 (V8 x1 a4 c4) 117::O) w59:=g;refine WO_e (W_sr (qAb 4 [(7,vP bp0 0),(10,vP bp0 1)] (qAa rfl (qBy 11 120 10 1 (vS a43 y10.1.2 c43) g.h (qAb 1 [(12,.int .u8 41)] (qAa rfl (qAx (d:=13) (t:=120) (e:=5) (len:=1) (parts:= #[(0,(.tmp 12))]) cU8 (xs:=[(41:UInt8)]) [.int .u8 41] kr rfl (fun _=>qAw kr _) rfl rfl g ⟨[.int .u8 41],_,rfl,rfl,rfl⟩ fun b14 m42 w60 e36 g r51=>(qAa rfl (qEl 14 120 120 5 1 11 13 g.f2 (.inl kr) ((r48.mono e35).mono e36) r51.src i fun l11 i a46 c46 m43 w61 e37 g r52=>(qAb 2 [(16,vP bp0 1)] (qAa rfl (qEq 120 16 14 1 (vS a46 l11 c46) #[.pointer (qDv true bp0),vS a46 l11 c46,vS a44 y10.2.1 c44,vS a45 y10.2.2.1 c45,vI y10.2.2.2] g.f2 fun w62 g=>(qAy rfl ?_)))))))))))));have g:=g.f2.t
        refine qAi (W_sr (qAd 1 [(4,.nilIface)] (qBb (X_rt [4] [.nilIface] (⟨_,rfl,?_⟩)))));refine qAy rfl (qBl ?_);cases i;exact qOb [] [] rfl ResAll.nil ⟨a46,c46,a44,c44,a45,c45,m43,rfl,(((((q.t e32).t e33).t e34).t e35).t e36).t e37,g.f2.t.f1.f1,r52,((r49.mono e35).mono e36).mono e37,((r50.mono e35).mono e36).mono e37⟩
       ·intro A i;refine W_sr (qAd 2 [(204,vB (x1.1==10))] (W_if i ?_ ?_))
        ·intro A i;refine qGf [(9,fun w'=>Inv m1 w'∧Piece.holds m1 w' (kB b2 (V8 x1 a4 c4) 117)∧True)] kr g fun w63 _ g=> ?_;have hmS6:=m1.le_refl;refine⟨⟨.inr ⟨Inv.anti g.inv hmS6,Piece.holds_anti g.t.h hmS6,trivial⟩,trivial⟩,?_⟩;refine qBf 0 206 (vP bp0 0) (.head _) (qBf 1 207 (vP bp0 0) (.head _) (qBf 2 208 (vP bp0 0) (.head _) (qBf 3 209 (vP b2 1) (.head _) (qGp 3 209 4 210 1 (vI x1.2.1) (.head _) (fun _ h=>h.2.1) (qCi 5 kr (qDm 211 i (fun _ h=>qQs g h) ?_))))));rintro y11 i _ w64 ⟨m44,rfl,e38,g⟩;refine⟨_,rfl,?_⟩;have hmS6:=Mem.le_trans hmS6 e38;refine⟨⟨.inr ⟨Inv.anti g.inv hmS6,Piece.holds_anti g.t.h hmS6,trivial⟩,trivial⟩,?_⟩;refine qGe 9 9 ((.const (vT (⟨#[102,108,105,112,40]⟩:ByteArray)))) 211 6 212 (.head _) i fun s8 i=> ?_;refine qGe 9 9 212 ((.const (vT bt))) 7 213 (.head _) i fun s9 i=> ?_;refine qCi 8 kr (qDn 214 72 #[vP bp0 0,vT s9] kr rfl (W_cA Tryz.func72 rfl Tryz.ntmps72 (W_sr (qAd 2 [] (W_sr (qAb 1 [(6,vP bp0 0)] (qAa rfl (qDn 7 140 #[vP bp0 0] kr rfl ((qBu (c0:=(qDv p0.1.1 bp0)) (R:=[vS a1 p0.1.2 c1,vS a2 p0.2.1 c2,vS a3 p0.2.2.1 c3,vI (if p3>p0.2.2.2 then p3 else p0.2.2.2)]) (qHo p0.1.1 bp0 kr) g).mono ?_)))))))));rintro _ w65 ⟨m45,rfl,e39,g⟩;refine⟨_,rfl,?_⟩;have hmS6:=Mem.le_trans hmS6 e39
         have g:St m45 (kB bp0 #[.pointer (qDv true bp0),vS a1 p0.1.2 c1,vS a2 p0.2.1 c2,vS a3 p0.2.2.1 c3,vI (if p3>p0.2.2.2 then p3 else p0.2.2.2)] 193::kB b2 (V8 x1 a4 c4) 117::kR a1 p0.1.2 c1 5 1::O) w65:=g;refine WO_e (W_sr (qAb 4 [(8,vP bp0 0),(11,vP bp0 1)] (qAa rfl (qBy 12 120 11 1 (vS a1 p0.1.2 c1) g.h (qAb 1 [(13,vT s9)] (qAa rfl (qEl 14 120 9 5 1 12 13 g.f2 (.inr kr) ((r1.mono e38).mono e39) (Gives.str _) i fun l12 i a47 c47 m46 w66 e40 g r53=> ?_)))))));have hmS6:=Mem.le_trans hmS6 e40;refine qAb 2 [(16,vP bp0 1)] (qAa rfl (qEq 120 16 14 1 (vS a47 l12 c47) #[.pointer (qDv true bp0),vS a47 l12 c47,vS a2 p0.2.1 c2,vS a3 p0.2.2.1 c3,vI (if p3>p0.2.2.2 then p3 else p0.2.2.2)] g.f1 fun w67 g=>(WO_e (W_sr (qAd 4 [(4,vI (s9.size:Int)),(5,.nilIface)] (qBb (X_rt [4,5] [vI (s9.size:Int),.nilIface] (⟨_,rfl,?_⟩))))))));refine⟨⟨.inr ⟨Inv.anti g.inv hmS6,Piece.holds_anti g.t.t.h hmS6,trivial⟩,trivial⟩,?_⟩;refine qDc kr ?_;refine qBl ?_;cases i;exact qOb [] [] rfl ResAll.nil ⟨a47,c47,a2,c2,a3,c3,m46,rfl,((q.t e38).t e39).t e40,g.f2.t.f1.f1,r53,((r2.mono e38).mono e39).mono e40,((r3.mono e38).mono e39).mono e40⟩
        ·intro A i;refine W_sr (qAa rfl (qOu (d:=51) (t:=234) kr rfl g fun b15 w68 g=> ?_));have⟨mp1,hx39,i⟩:=qAu i;refine qAa rfl (qFa (ek:=(fun n:Int=>Value.int .i64 n)) (c:=cStr) (agg:=false) (k:=7) (yv:=b1u) (cs:=[vT b1u]) (z:=(vT eB)) (v:=(vT b1u)) (kt:=3) (et:=9) (t:=234) (x:=(.tmp 51)) (y:=(.const (vI 7))) (u:=(.const (vT b1u))) kr (ev (.map (some b15))) (ev (vI 7)) (ev (vT b1u)) kr (qJx kr) g (MapQ.new (fun n:Int=>Value.int .i64 n) cStr false _ _) rfl rfl hx39 fun es2 ck2 w69 g r54=> ?_);have⟨mp2,hx40,i⟩:=qAu i;refine qAa rfl (qFa (ek:=(fun n:Int=>Value.int .i64 n)) (c:=cStr) (agg:=false) (k:=8) (yv:=b1v) (cs:=[vT b1v]) (z:=(vT eB)) (v:=(vT b1v)) (kt:=3) (et:=9) (t:=234) (x:=(.tmp 51)) (y:=(.const (vI 8))) (u:=(.const (vT b1v))) kr (ev (.map (some b15))) (ev (vI 8)) (ev (vT b1v)) kr (qJx kr) g r54 rfl rfl hx40 fun es3 ck3 w70 g r55=> ?_);have⟨mp3,hx41,i⟩:=qAu i
         refine qAa rfl (qFa (ek:=(fun n:Int=>Value.int .i64 n)) (c:=cStr) (agg:=false) (k:=9) (yv:=b1w) (cs:=[vT b1w]) (z:=(vT eB)) (v:=(vT b1w)) (kt:=3) (et:=9) (t:=234) (x:=(.tmp 51)) (y:=(.const (vI 9))) (u:=(.const (vT b1w))) kr (ev (.map (some b15))) (ev (vI 9)) (ev (vT b1w)) kr (qJx kr) g r55 rfl rfl hx41 fun es4 ck4 w71 g r56=>(qAb 2 [(52,.map (some b15)),(53,vP b2 0)] (qAa rfl (qBy 54 3 53 0 (vI x1.1) g.t.t.h (qAa rfl (qQw (ek:=(fun n:Int=>Value.int .i64 n)) (c:=cStr) (agg:=false) (k:=x1.1) (zx:=eB) (zcs:=[vT eB]) (z:=(vT eB)) (kt:=3) (et:=9) (d:=55) (t:=234) (x:=(.tmp 52)) (y:=(.tmp 54)) (ok:=false) kr rfl (ev (.map (some b15))) (ev (vI x1.1)) kr (qJx kr) g.h r56 rfl rfl ?_))))));rintro cs10 rfl;refine qAd 1 [(15,vT ((qNa mp3 x1.1).getD eB))] (qGf [(10,fun w'=>Inv m1 w'∧Piece.holds m1 w' (kB b2 (V8 x1 a4 c4) 117)∧True)] kr g fun w72 _ g=> ?_);have hmS7:=m1.le_refl;refine⟨⟨.inr ⟨Inv.anti g.inv hmS7,Piece.holds_anti g.t.t.h hmS7,trivial⟩,trivial⟩,?_⟩
         refine qBf 0 56 (vP bp0 0) (.head _) (qBf 1 57 (vP bp0 0) (.head _) (qBf 2 58 (vP bp0 0) (.head _) (qBf 3 59 (vT ((qNa mp3 x1.1).getD eB)) (.head _) (qGe 9 9 59 ((.const (vT (⟨#[40,34]⟩:ByteArray)))) 4 60 (.head _) i fun s10 i=>(qBf 5 61 (vP b2 3) (.head _) (qGp 9 61 6 62 3 (vT x1.2.2.2.1) (.head _) (fun _ h=>h.2.1) (qGe 9 9 60 62 7 63 (.head _) i fun s11 i=>(qGe 9 9 63 ((.const (vT bs))) 8 64 (.head _) i fun s12 i=>(qCi 9 kr (qDn 65 72 #[vP bp0 0,vT s12] kr rfl (W_cA Tryz.func72 rfl Tryz.ntmps72 (W_sr (qAd 2 [] (W_sr (qAb 1 [(6,vP bp0 0)] ?_)))))))))))))));have g:=g.f1;refine qAa rfl (qDn 7 140 #[vP bp0 0] kr rfl ((qBu (c0:=(qDv p0.1.1 bp0)) (R:=[vS a1 p0.1.2 c1,vS a2 p0.2.1 c2,vS a3 p0.2.2.1 c3,vI (if p3>p0.2.2.2 then p3 else p0.2.2.2)]) (qHo p0.1.1 bp0 kr) g).mono ?_));rintro _ w73 ⟨m47,rfl,e41,g⟩;refine⟨_,rfl,?_⟩;have hmS7:=Mem.le_trans hmS7 e41;have g:St m47 (kB bp0 #[.pointer (qDv true bp0),vS a1 p0.1.2 c1,vS a2 p0.2.1 c2,vS a3 p0.2.2.1 c3,vI (if p3>p0.2.2.2 then p3 else p0.2.2.2)] 193::qGz (some b15) es4 ck4::kB b2 (V8 x1 a4 c4) 117::kR a1 p0.1.2 c1 5 1::O) w73:=g;refine WO_e (W_sr (qAb 4 [(8,vP bp0 0),(11,vP bp0 1)] (qAa rfl (qBy 12 120 11 1 (vS a1 p0.1.2 c1) g.h (qAb 1 [(13,vT s12)] (qAa rfl (qEl 14 120 9 5 1 12 13 g.f3 (.inr kr) (r1.mono e41) (Gives.str _) i fun l13 i a48 c48 m48 w74 e42 g r57=> ?_)))))))
         have hmS7:=Mem.le_trans hmS7 e42;refine qAb 2 [(16,vP bp0 1)] (qAa rfl (qEq 120 16 14 1 (vS a48 l13 c48) #[.pointer (qDv true bp0),vS a48 l13 c48,vS a2 p0.2.1 c2,vS a3 p0.2.2.1 c3,vI (if p3>p0.2.2.2 then p3 else p0.2.2.2)] g.f1 fun w75 g=>(WO_e (W_sr (qAd 4 [(4,vI (s12.size:Int)),(5,.nilIface)] (qBb (X_rt [4,5] [vI (s12.size:Int),.nilIface] (⟨_,rfl,?_⟩))))))));refine⟨⟨.inr ⟨Inv.anti g.inv hmS7,Piece.holds_anti g.t.t.t.h hmS7,trivial⟩,trivial⟩,?_⟩;refine qDc kr ?_;refine qBl ?_;cases i;exact qOb [] [] rfl ResAll.nil ⟨a48,c48,a2,c2,a3,c3,m48,rfl,(q.t e41).t e42,g.f2.t.f2.t.f1.f1,r57,(r2.mono e41).mono e42,(r3.mono e41).mono e42⟩
theorem qKx(N:Nat):∀D:Nat,(∀{m:Mem} {O:List Piece} {w:World} {p0:T1g} {p1:Int} {p2:Int} {p3:Int} {bp0:Nat} {a1:Option Addr} {c1:Nat} {a2:Option Addr} {c2:Nat} {a3:Option Addr} {c3:Nat} {r:T1g} (g:St m (kB bp0 #[.pointer (qDv p0.1.1 bp0),vS a1 p0.1.2 c1,vS a2 p0.2.1 c2,vS a3 p0.2.2.1 c3,vI p0.2.2.2] 193::kR a1 p0.1.2 c1 5 1::O) w) (r1:RepS cU8 m a1 c1 p0.1.2) (r2:RepS C3 m a2 c2 p0.2.1) (r3:RepS cStr m a3 c3 p0.2.2.1) (i:(qEb N D) p0 p1 p2 p3=some r),Calls Tryz.prog 141 #[vP bp0 0,vI p1,vI p2,vI p3] w fun e w'=>∃ra1 rc1 ra2 rc2 ra3 rc3 m',e= .returned (.tuple #[])∧m.le m'∧St m' (kB bp0 #[.pointer (qDv r.1.1 bp0),vS ra1 r.1.2 rc1,vS ra2 r.2.1 rc2,vS ra3 r.2.2.1 rc3,vI r.2.2.2] 193::kR ra1 r.1.2 rc1 5 1::O) w'∧P5 m' ra1 rc1 ra2 rc2 ra3 rc3 r)
 |0=>fun _ _ _ _ i=>(by cases i)
 |D+1=>fun g r1 r2 r3 i=>qPh (qKx N D) g r1 r2 r3 i
theorem qQu{p0:T1g}{p1:Int}{p2:Int}{p3:Int}{r:T1g}(g:St m (kB bp0 #[.pointer (qDv p0.1.1 bp0),vS a1 p0.1.2 c1,vS a2 p0.2.1 c2,vS a3 p0.2.2.1 c3,vI p0.2.2.2] 193::kR a1 p0.1.2 c1 5 1::O) w)(r1:RepS cU8 m a1 c1 p0.1.2)(r2:RepS C3 m a2 c2 p0.2.1)(r3:RepS cStr m a3 c3 p0.2.2.1)(i:qLg N p0 p1 p2 p3=some r):Calls Tryz.prog 141 #[vP bp0 0,vI p1,vI p2,vI p3] w fun e w'=>∃ra1 rc1 ra2 rc2 ra3 rc3 m',e= .returned (.tuple #[])∧m.le m'∧St m' (kB bp0 #[.pointer (qDv r.1.1 bp0),vS ra1 r.1.2 rc1,vS ra2 r.2.1 rc2,vS ra3 r.2.2.1 rc3,vI r.2.2.2] 193::kR ra1 r.1.2 rc1 5 1::O) w'∧P5 m' ra1 rc1 ra2 rc2 ra3 rc3 r:=
 (qKx N N) g r1 r2 r3 i
def qKp(N:Nat)(p0:To)(p1:T6):Option Tj:=
 (qLg N ((false,([]:T1b)),p0,p1,0) (IntKind.wrap .i64 ((List.length p0:Int)-1)) 0 1).bind fun y1=>(nonE y1.1.2).bind fun u1=>some (qMi y1.1.2,y1.2.2.2)
theorem qVm{p0:To}{p1:T6}{r:Tj}(g:St m (O) w)(r1:RepS C3 m a1 c1 p0)(r2:RepS cStr m a2 c2 p1)(i:qKp N p0 p1=some r):Calls Tryz.prog 73 #[vS a1 p0 c1,vS a2 p1 c2] w fun e w'=>∃m',e= .returned (.tuple #[vT r.1,vI r.2])∧m.le m'∧St m' (O) w':=by
 unfold qKp at i;have q:=m.le_refl;refine W_cA Tryz.func73 rfl Tryz.ntmps73 ?_;refine W_sr (qAd 2 [] (W_sr (qAb 3 [(9,.agg #[.pointer none,vd,vS a1 p0 c1,vS a2 p1 c2,vI 0])] (qAa rfl (qTs 10 193 9 (.agg #[.pointer none,vd,vS a1 p0 c1,vS a2 p1 c2,vI 0]) g fun b1 w1 g=>(qAd 1 [(6,vP b1 0)] (W_sr (qAb 4 [(11,vP b1 0),(14,vI (wr ((p0.length:Int)-1)))] ?_))))))));have g:=(g.nilroom 5 1).front1;refine qAm 15 i (fun _ h=>qQu (p0:=((false,([]:T1b)),p0,p1,0)) g (RepS.nil _ _) r1 r2 h) ?_;rintro y1 i _ w2 ⟨a3,c3,a4,c4,a5,c5,m2,rfl,e2,g,r3,r4,r5⟩;refine WO_e (qAr (qGf [(10,fun w'=>Inv m2 w'∧Piece.holds m2 w' (kB b1 #[.pointer (qDv y1.1.1 b1),vS a3 y1.1.2 c3,vS a4 y1.2.1 c4,vS a5 y1.2.2.1 c5,vI y1.2.2.2] 193)∧True)] kr g fun w3 _ g=> ?_));have hmS1:=m2.le_refl;refine⟨⟨.inr ⟨Inv.anti g.inv hmS1,Piece.holds_anti g.h hmS1,trivial⟩,trivial⟩,?_⟩
 refine qBf 0 16 (vP b1 0) (.head _) (qBf 1 17 (vP b1 0) (.head _) (qBf 2 18 (vP b1 0) (.head _) (qBf 4 20 (vP b1 0) (.head _) (qBf 5 21 (vP b1 0) (.head _) (qBf 6 22 (vP b1 4) (.head _) (qGp 3 22 7 23 4 (vI y1.2.2.2) (.head _) (fun _ h=>h.2.1) (qCi 3 kr (qDn 19 76 #[vP b1 0] kr rfl (W_cA Tryz.func76 rfl Tryz.ntmps76 (W_sr (qAd 1 [] (qAr (qGf [(12,fun w'=>Inv m2 w'∧Piece.holds m2 w' (kB b1 #[.pointer (qDv y1.1.1 b1),vS a3 y1.1.2 c3,vS a4 y1.2.1 c4,vS a5 y1.2.2.1 c5,vI y1.2.2.2] 193)∧True)] kr g fun w4 _ g=> ?_)))))))))))));have hmS2:=m2.le_refl;refine⟨⟨.inr ⟨Inv.anti g.inv hmS2,Piece.holds_anti g.h hmS2,trivial⟩,trivial⟩,?_⟩;refine qBf 0 3 (vP b1 0) (.head _) (qBf 1 4 (vP b1 0) (.head _) (qBf 2 5 (vP b1 1) (.head _) (qGp 120 5 3 6 1 (vS a3 y1.1.2 c3) (.head _) (fun _ h=>h.2.1) (qBf 5 8 (vP b1 0) (.head _) (qBf 6 9 (vP b1 0) (.head _) (qBf 7 10 (vP b1 1) (.head _) (qGp 120 10 8 11 1 (vS a3 y1.1.2 c3) (.head _) (fun _ h=>h.2.1) (qBf 9 12 (vI (y1.1.2.length:Int)) (.head _) ?_))))))));have⟨u1,hx2,i⟩:=qAu i;have hne1:=zIy hx2;refine qCi 4 kr (qSi (d:=7) (t:=120) (x:=(.tmp 6)) kr rfl (ev (vS a3 y1.1.2 c3)) r3 hne1 (⟨⟨.inr ⟨Inv.anti g.inv hmS2,Piece.holds_anti g.h hmS2,trivial⟩,trivial⟩,?_⟩))
 refine qCi 10 kr (qPp (d:=13) (pt:=196) (it:=3) (e:=5) (x:=(.tmp 7)) (y:=(.tmp 12)) kr rfl (ev (.pointer a3)) (ev (vI (y1.1.2.length:Int))) g.f1 r3 hne1 kr kr fun w5 g=>(⟨⟨.inr ⟨Inv.anti g.inv hmS2,Piece.holds_anti g.h hmS2,trivial⟩,trivial⟩,?_⟩));refine qBf 11 2 (vT (qMi y1.1.2)) (.head _) (qDc kr (qAi (qBb (X_rt [2] [vT (qMi y1.1.2)] (⟨_,rfl,?_⟩)))));refine⟨⟨.inr ⟨Inv.anti g.inv hmS1,Piece.holds_anti g.h hmS1,trivial⟩,trivial⟩,?_⟩;refine qBf 8 4 (vT (qMi y1.1.2)) (.head _) (qBf 9 5 (vI y1.2.2.2) (.head _) (qDc kr (qAi (qBb ?_))));obtain rfl:=sI i;exact X_rt [4,5] [vT (qMi y1.1.2),vI y1.2.2.2] ⟨m2,rfl,q.t e2,g.t⟩
def qNn(N:Nat)(p0:To)(p1:T6):Option Tj:=
 (qIn N ((⟨#[112]⟩:ByteArray),([]:T6),[(1,(⟨#[102]⟩:ByteArray),p1,p0)])).bind fun y1=>if(y1 !=0)=true then(some ((⟨#[]⟩:ByteArray),y1)) else((qKp N p0 p1).bind fun y2=>some (y2.1,0))
theorem qXh{p0:To}{p1:T6}{r:Tj}(g:St m (O) w)(r1:RepS C3 m a1 c1 p0)(r2:RepS cStr m a2 c2 p1)(i:qNn N p0 p1=some r):Calls Tryz.prog 157 #[vS a1 p0 c1,vS a2 p1 c2] w fun e w'=>∃m',e= .returned (.tuple #[vT r.1,vI r.2])∧m.le m'∧St m' (O) w':=by
 unfold qNn at i;have q:=m.le_refl;refine W_cA Tryz.func157 rfl Tryz.ntmps157 ?_;refine W_sr (qAd 2 [] (qAr (W_sr (qAb 3 [(11,.agg #[vI 1,vT bo,vS a2 p1 c2,vS a1 p0 c1])] (qAa rfl (qAx (d:=12) (t:=50) (e:=62) (len:=1) (parts:= #[(0,(.tmp 11))]) C4 (xs:=[(1,bo,p1,p0)]) [vI 1,vT bo,vS a2 p1 c2,vS a1 p0 c1] kr rfl (fun _=>qAw kr _) rfl rfl g ⟨[vI 1,vT bo,vS a2 p1 c2,vS a1 p0 c1],_,rfl,⟨_,_,rfl,rfl,⟨_,_,rfl,rfl,⟨_,_,rfl,(qSl r2),(qSl r1)⟩⟩⟩,rfl⟩ fun b1 m1 w1 e1 g r3=>(qAb 1 [(13,.agg #[vT ba,v6,.slice (aP b1) (List.length ([(1,bo,p1,p0)])) 1])] (qAm 14 i (fun _ h=>qQt g (RepS.nil _ _) r3 h) ?_))))))));rintro y1 i _ w2 ⟨m2,rfl,e2,g⟩;refine qAb 1 [(6,vI y1)] (qAy rfl ?_);have g:=g.t;refine qAi (W_sr (qAd 2 [(16,vB (y1 !=0))] (W_if i ?_ ?_)))
 ·intro A i;refine W_sr (qAd 3 [(4,vT eB),(5,vI y1)] (qBb (qAc ?_)));obtain rfl:=sI i;exact X_rt [4,5] [vT eB,vI y1] ⟨m2,rfl,(q.t e1).t e2,g⟩
 ·intro A i;refine qAp (qAi (W_sr (qAb 2 [(19,vS a1 p0 c1),(20,vS a2 p1 c2)] (qAm 21 i (fun _ h=>qVm g ((r1.mono e1).mono e2) ((r2.mono e1).mono e2) h) ?_))));rintro y2 i _ w3 ⟨m3,rfl,e3,g⟩;refine qAd 5 [(7,vT y2.1)] (W_sr (qAd 3 [(4,vT y2.1),(5,vI 0)] (qBb ?_)));cases i;exact X_rt [4,5] [vT y2.1,vI 0] ⟨m3,rfl,((q.t e1).t e2).t e3,g⟩
def qQd(N:Nat)(p0:T6)(p1:ByteArray):Tf:=
 if((List.length p0:Int)==0)=true then(some (⟨#[]⟩:ByteArray)) else(if((List.length p0:Int)==1)=true then((idx p0 0).bind fun x1=>some x1) else none)
theorem qWr{p0:T6}{p1:ByteArray}{r:ByteArray}(g:St m (O) w)(r1:RepS cStr m a1 c1 p0)(i:qQd N p0 p1=some r):Calls Tryz.prog 74 #[vS a1 p0 c1,vT p1] w fun e w'=>∃m',e= .returned (vT r)∧m.le m'∧St m' (O) w':=by
 unfold qQd at i;have q:=m.le_refl;refine W_cA Tryz.func74 rfl Tryz.ntmps74 ?_;refine W_sr (qAd 1 [] (qAr (W_sr (qAd 2 [(12,vI (p0.length:Int))] (qAt (W_sr (qAd 2 [(13,vB ((p0.length:Int)==0))] (W_if i ?_ ?_))))))))
 ·intro A i;refine W_sr (qAd 1 [(4,vT eB)] (qBb (qAh (qAc ?_))));cases i;exact X_rt [4] [vT eB] ⟨m,rfl,q,g⟩
 ·intro A i;refine W_sr (qAd 2 [(15,vB ((p0.length:Int)==1))] (W_if i ?_ ?_))
  ·intro A i;refine W_sr (qAb 1 [(17,vS a1 p0 c1)] (qAa rfl (qDi 18 43 9 17 ((.const (vI 0))) r1 i ?_)));rintro x1 i b1 f1 cs1 rfl hq1;refine qFh 19 9 18 f1 (vT x1) g hq1 (qAd 1 [(4,vT x1)] (qBb (qAh (qAc ?_))));obtain rfl:=sI i;exact X_rt [4] [vT x1] ⟨m,rfl,q,g⟩
  ·intro A i;cases i
def qIb(N:Nat)(p0:Tx)(s3:Int×T1b):Option (Int×T1b⊕T1b):=
 if(decide (s3.1<(List.length p0.2.1:Int)))=true then((idx p0.2.1 s3.1).bind fun x2=>(catB (⟨#[105,109,112,111,114,116,32]⟩:ByteArray) x2).bind fun s4=>(catB s4 (⟨#[59,10]⟩:ByteArray)).bind fun s5=>(qCm 1 s3.2 s5.data.toList).bind fun l2=>some (.inl (IntKind.wrap .i64 (s3.1+1),l2))) else(some (.inr s3.2))
def qMg(N:Nat)(p0:Tx)(p1:Int):Option Tj:=
 (qIn N p0).bind fun y1=>if(y1 !=0)=true then(some ((⟨#[]⟩:ByteArray),y1)) else((if(decide (p1<0))=true then(some true) else(some (decide (p1≥(List.length p0.2.2:Int)))):Te).bind fun o1=>if o1=true then(some ((⟨#[]⟩:ByteArray),3)) else((idx p0.2.2 p1).bind fun x1=>(qNn N x1.2.2.2 x1.2.2.1).bind fun y2=>if(y2.2 !=0)=true then(some ((⟨#[]⟩:ByteArray),y2.2)) else((catB (⟨#[112,97,99,107,97,103,101,32]⟩:ByteArray) p0.1).bind fun s1=>(catB s1 (⟨#[59,10]⟩:ByteArray)).bind fun s2=>(qCm 1 ([]:T1b) s2.data.toList).bind fun l1=>(qAq (qIb N p0) N (0,l1)).bind fun o2=>(if(x1.1==1)=true then((catB (⟨#[102,117,110,99,32]⟩:ByteArray) x1.2.1).bind fun s6=>(catB s6 (⟨#[40]⟩:ByteArray)).bind fun s7=>(qQd N x1.2.2.1 (⟨#[44,32]⟩:ByteArray)).bind fun y3=>(catB s7 y3).bind fun s8=>(catB s8 (⟨#[41,32,61,32]⟩:ByteArray)).bind fun s9=>(qCm 1 o2 s9.data.toList).bind fun l3=>some l3) else(if(x1.1==2)=true then((catB (⟨#[116,101,115,116,32]⟩:ByteArray) x1.2.1).bind fun s10=>(catB s10 (⟨#[32,61,32]⟩:ByteArray)).bind fun s11=>(qCm 1 o2 s11.data.toList).bind fun l4=>some l4) else((catB (⟨#[103,101,110,32,34]⟩:ByteArray) x1.2.1).bind fun s12=>(catB s12 (⟨#[34,32,61,32]⟩:ByteArray)).bind fun s13=>(qCm 1 o2 s13.data.toList).bind fun l5=>some l5)):Option T1b).bind fun o3=>(catB y2.1 (⟨#[59,10]⟩:ByteArray)).bind fun s14=>(qCm 1 o3 s14.data.toList).bind fun l6=>(nonE l6).bind fun u3=>some (qMi l6,0))))
theorem qVd{p0:Tx}{p1:Int}{r:Tj}(g:St m (O) w)(r1:RepS cStr m a1 c1 p0.2.1)(r2:RepS C4 m a2 c2 p0.2.2)(i:qMg N p0 p1=some r):Calls Tryz.prog 84 #[.agg (V6 p0 a1 c1 a2 c2),vI p1] w fun e w'=>∃m',e= .returned (.tuple #[vT r.1,vI r.2])∧m.le m'∧St m' (O) w':=by
 unfold qMg at i;have q:=m.le_refl;refine W_cA Tryz.func84 rfl Tryz.ntmps84 ?_;refine W_sr (qAa rfl (qJm 2 52 0 (.agg (V6 p0 a1 c1 a2 c2)) g fun b1 m1 w1 e1 g hb1=> ?_));have r1:=r1.mono e1;have r2:=r2.mono e1;refine qAd 2 [] (qAr (W_sr (qFh 13 52 2 0 (.agg (V6 p0 a1 c1 a2 c2)) g hb1 (qAm 14 i (fun _ h=>qQt g r1 r2 h) ?_))));rintro y1 i _ w2 ⟨m2,rfl,e2,g⟩;have q:=(q.t e1).t e2;have hb1:=hb1.mono e2;refine qAd 1 [(6,vI y1)] (W_sr (qAd 2 [(16,vB (y1 !=0))] (W_if i ?_ ?_)))
 ·intro A i;refine W_sr (qAd 3 [(4,vT eB),(5,vI y1)] (qBb (qAc ?_)));obtain rfl:=sI i;exact X_rt [4,5] [vT eB,vI y1] ⟨m2,rfl,q,g⟩
 ·intro A i;refine qAp (qAi (qAr (W_sr ?_)));have⟨o1,i,J⟩:=qAu i;refine qDp (j:=9) (fun L' w'=>∃m3,L'=[(1,vI p1),(2,vP b1 0),(26,vB o1)]∧m.le m3∧St m3 (O) w'∧MRow m3 b1 0 [vT p0.1,vS a1 p0.2.1 c1,vS a2 p0.2.2 c2]∧RepS cStr m3 a1 c1 p0.2.1∧RepS C4 m3 a2 c2 p0.2.2) ?_ ?_
  ·have i:=J;rintro _ w3 ⟨m3,rfl,q,g,hb1,r1,r2⟩;refine WO_e (W_if i ?_ ?_)
   ·intro A i;refine W_sr (qAd 2 [(4,vT eB),(5,vI 3)] (qBb (qAc ?_)));cases i;exact X_rt [4,5] [vT eB,vI 3] ⟨m3,rfl,q,g⟩
   ·intro A i;refine qAp (qAi (W_sr (qAb 1 [(27,vP b1 2)] (qAa rfl (qBo (d:=28) (t:=50) (x:=(.tmp 27)) (vS a2 p0.2.2 c2) kr rfl (ev (vP b1 2)) g (hb1.drop 2) kr (qAb 1 [(29,vI p1)] (qAa rfl (qDi 30 50 62 28 29 r2 i ?_))))))));rintro x1 i b2 f1 cs1 ⟨_,_,rfl,rfl,⟨_,_,rfl,rfl,⟨_,_,rfl,⟨a3,c3,rfl,r3⟩,⟨a4,c4,rfl,r4⟩⟩⟩⟩ hq1;refine qFh 31 62 30 f1 (.agg (V7 x1 a3 c3 a4 c4)) g hq1 (qAa rfl (qIk 7 62 (.agg #[vI 0,vT eB,v8,v8]) g fun b3 w4 g=>(qAa rfl (qGh 62 7 31 (.agg (V7 x1 a3 c3 a4 c4)) g fun w5 g=>(WO_e (W_sr (qDy 1 34 60 33 3 (vS a4 x1.2.2.2 c4) g.h (qDy 1 36 43 35 2 (vS a3 x1.2.2.1 c3) g.h (qAm 37 i (fun _ h=>qXh g r4 r3 h) ?_)))))))));rintro y2 i _ w6 ⟨m4,rfl,e3,g⟩;refine qAd 5 [(8,vT y2.1),(9,vI y2.2)] (qAr (W_sr (qAd 2 [(41,vB (y2.2 !=0))] (W_if i ?_ ?_))))
    ·intro A i;refine W_sr (qAd 3 [(4,vT eB),(5,vI y2.2)] (qBb (qAc ?_)));cases i;exact X_rt [4,5] [vT eB,vI y2.2] ⟨m4,rfl,q.t e3,g.t⟩
    ·intro A i;refine qAp (qAi (W_sr (qAa rfl (qIk 10 122 (.agg #[.pointer none,v8]) g fun b4 w7 g=>(WO_e (W_sr (qAb 1 [(43,vP b1 0)] (qFh 44 9 43 0 (vT p0.1) g (hb1.mono e3) (qAa rfl (qDh 45 9 9 ((.const (vT b1f))) 44 i fun s1 i=>(qAa rfl (qDh 46 9 9 45 ((.const (vT b1c))) i fun s2 i=>(qAa rfl (qDn 47 72 #[vP b4 0,vT s2] kr rfl (W_cA Tryz.func72 rfl Tryz.ntmps72 (W_sr (qAd 2 [] (W_sr (qAb 1 [(6,vP b4 0)] (qAa rfl (qDn 7 140 #[vP b4 0] kr rfl ((qBu (c0:=(qDv false b4)) (R:=[vd]) (qHo false b4 kr) g).mono ?_))))))))))))))))))))));rintro _ w8 ⟨m5,rfl,e4,g⟩;refine⟨_,rfl,?_⟩;have g:St m5 (kB b4 #[.pointer (qDv true b4),vd] 122::kB b3 (V7 x1 a3 c3 a4 c4) 62::O) w8:=g;refine WO_e (W_sr (qAb 4 [(8,vP b4 0),(11,vP b4 1)] (qAa rfl (qBy 12 120 11 1 (vd) g.h (qAb 1 [(13,vT s2)] (qAa rfl (qEl 14 120 9 5 1 12 13 (g.nilroom 5 1) (.inr kr) (RepS.nil _ _) (Gives.str _) i fun l1 i a5 c5 m6 w9 e5 g r5=>(qAb 2 [(16,vP b4 1)] (qAa rfl (qEq 120 16 14 1 (vS a5 l1 c5) #[.pointer (qDv true b4),vS a5 l1 c5] g.f1 fun w10 g=>(WO_e (W_sr (qAd 4 [(4,vI (s2.size:Int)),(5,.nilIface)] (qBb (X_rt [4,5] [vI (s2.size:Int),.nilIface] (⟨_,rfl,?_⟩))))))))))))))))
     refine WO_e (qAr (W_sr (qAb 1 [(48,vP b1 1)] (qAa rfl (qBo (d:=49) (t:=43) (x:=(.tmp 48)) (vS a1 p0.2.1 c1) kr rfl (ev (vP b1 1)) g ((((hb1.mono e3).mono e4).mono e5).drop 1) kr (qAd 2 [(50,vI (p0.2.1.length:Int)),(51,vI 0)] (qAt ?_)))))));have⟨out1,i,j1⟩:=qAu i;refine qCp (.exit 0) (fun L' w'=>∃(o2:T1b),∃a6 c6 m7,o2=out1∧L'=[(7,vP b3 0),(8,vT y2.1),(10,vP b4 0)]∧m.le m7∧St m7 (kB b4 #[.pointer (qDv true b4),vS a6 o2 c6] 122::kB b3 (V7 x1 a3 c3 a4 c4) 62::kR a6 o2 c6 5 1::O) w'∧RepS cU8 m7 a6 c6 o2∧P2 m7 a3 c3 a4 c4 x1.2.2) ?_ ?_
     ·rintro _ w11 ⟨o2,a6,c6,m7,rfl,rfl,q,g,r6,r3,r4⟩;have i:=j1;refine qBg (qAi (qAr (W_sr (qDy 1 61 3 60 0 (vI x1.1) g.t.h (WO_e ?_)))));have⟨o3,i,j2⟩:=qAu i;refine qCp .normal (fun L' w'=>∃a9 c9 m11,L'=[(8,vT y2.1),(10,vP b4 0)]∧m.le m11∧St m11 (kB b4 #[.pointer (qDv true b4),vS a9 o3 c9] 122::kB b3 (V7 x1 a3 c3 a4 c4) 62::kR a9 o3 c9 5 1::O) w'∧RepS cU8 m11 a9 c9 o3∧P2 m11 a3 c3 a4 c4 x1.2.2) ?_ ?_
      ·have i:=j2;rintro _ w16 ⟨a9,c9,m11,rfl,q,g,r9,r3,r4⟩;refine qAi (W_sr (qAb 1 [(86,vT y2.1)] (qAa rfl (qDh 87 9 9 86 ((.const (vT b1c))) i fun s14 i=>(qAa rfl (qDn 88 72 #[vP b4 0,vT s14] kr rfl (W_cA Tryz.func72 rfl Tryz.ntmps72 (W_sr (qAd 2 [] (W_sr (qAb 1 [(6,vP b4 0)] (qAa rfl (qDn 7 140 #[vP b4 0] kr rfl ((qBu (c0:=(qDv true b4)) (R:=[vS a9 o3 c9]) (qHo true b4 kr) g).mono ?_))))))))))))));rintro _ w28 ⟨m19,rfl,e15,g⟩;refine⟨_,rfl,?_⟩;have g:St m19 (kB b4 #[.pointer (qDv true b4),vS a9 o3 c9] 122::kB b3 (V7 x1 a3 c3 a4 c4) 62::kR a9 o3 c9 5 1::O) w28:=g;refine WO_e (W_sr (qAb 4 [(8,vP b4 0),(11,vP b4 1)] (qAa rfl (qBy 12 120 11 1 (vS a9 o3 c9) g.h (qAb 1 [(13,vT s14)] (qAa rfl (qEl 14 120 9 5 1 12 13 g.f2 (.inr kr) (r9.mono e15) (Gives.str _) i fun l6 i a13 c13 m20 w29 e16 g r13=>(qAb 2 [(16,vP b4 1)] (qAa rfl (qEq 120 16 14 1 (vS a13 l6 c13) #[.pointer (qDv true b4),vS a13 l6 c13] g.f1 fun w30 g=>(WO_e (W_sr (qAd 4 [(4,vI (s14.size:Int)),(5,.nilIface)] (qBb (X_rt [4,5] [vI (s14.size:Int),.nilIface] (⟨_,rfl,?_⟩))))))))))))))));refine WO_e (W_sr (qAa rfl (qDn 89 76 #[vP b4 0] kr rfl (W_cA Tryz.func76 rfl Tryz.ntmps76 (W_sr (qAd 1 [] (qAr (qGf [(12,fun w'=>Inv m20 w'∧Piece.holds m20 w' (kB b4 #[.pointer (qDv true b4),vS a13 l6 c13] 122)∧True)] kr g fun w31 _ g=> ?_))))))));have hmS2:=m20.le_refl
       refine⟨⟨.inr ⟨Inv.anti g.inv hmS2,Piece.holds_anti g.h hmS2,trivial⟩,trivial⟩,?_⟩;refine qBf 0 3 (vP b4 0) (.head _) (qBf 1 4 (vP b4 0) (.head _) (qBf 2 5 (vP b4 1) (.head _) (qGp 120 5 3 6 1 (vS a13 l6 c13) (.head _) (fun _ h=>h.2.1) (qBf 5 8 (vP b4 0) (.head _) (qBf 6 9 (vP b4 0) (.head _) (qBf 7 10 (vP b4 1) (.head _) (qGp 120 10 8 11 1 (vS a13 l6 c13) (.head _) (fun _ h=>h.2.1) (qBf 9 12 (vI (l6.length:Int)) (.head _) ?_))))))));have⟨u3,hx25,i⟩:=qAu i;have hne1:=zIy hx25;refine qCi 4 kr (qSi (d:=7) (t:=120) (x:=(.tmp 6)) kr rfl (ev (vS a13 l6 c13)) r13 hne1 (⟨⟨.inr ⟨Inv.anti g.inv hmS2,Piece.holds_anti g.h hmS2,trivial⟩,trivial⟩,?_⟩));refine qCi 10 kr (qPp (d:=13) (pt:=196) (it:=3) (e:=5) (x:=(.tmp 7)) (y:=(.tmp 12)) kr rfl (ev (.pointer a13)) (ev (vI (l6.length:Int))) g.f1 r13 hne1 kr kr fun w32 g=>(⟨⟨.inr ⟨Inv.anti g.inv hmS2,Piece.holds_anti g.h hmS2,trivial⟩,trivial⟩,?_⟩));refine qBf 11 2 (vT (qMi l6)) (.head _) (qDc kr (qAi (qBb (X_rt [2] [vT (qMi l6)] (⟨_,rfl,?_⟩)))));refine qAd 2 [(4,vT (qMi l6)),(5,vI 0)] (qBb ?_);obtain rfl:=sI i;exact X_rt [4,5] [vT (qMi l6),vI 0] ⟨m20,rfl,(q.t e15).t e16,g.t.t⟩
      ·intro Ku2;refine qAt (W_sr (qAd 2 [(67,vB (x1.1==1))] (W_if i ?_ ?_)))
       ·intro A i;refine qGf [(10,fun w'=>Inv m7 w'∧Piece.holds m7 w' (kB b3 (V7 x1 a3 c3 a4 c4) 62)∧True)] kr g fun w17 _ g=> ?_;have hmS1:=m7.le_refl;refine⟨⟨.inr ⟨Inv.anti g.inv hmS1,Piece.holds_anti g.t.h hmS1,trivial⟩,trivial⟩,?_⟩;refine qBf 0 69 (vP b3 1) (.head _) (qGp 9 69 1 70 1 (vT x1.2.1) (.head _) (fun _ h=>h.2.1) (qGe 9 9 ((.const (vT (⟨#[102,117,110,99,32]⟩:ByteArray)))) 70 2 71 (.head _) i fun s6 i=>(qGe 9 9 71 ((.const (vT bu))) 3 72 (.head _) i fun s7 i=>(qBf 4 73 (vP b3 2) (.head _) (qGp 43 73 5 74 2 (vS a3 x1.2.2.1 c3) (.head _) (fun _ h=>h.2.1) (qCi 6 kr (qDm 75 i (fun _ h=>qWr g r3 h) ?_)))))));rintro y3 i _ w18 ⟨m12,rfl,e8,g⟩;refine⟨_,rfl,?_⟩;have hmS1:=Mem.le_trans hmS1 e8;refine⟨⟨.inr ⟨Inv.anti g.inv hmS1,Piece.holds_anti g.t.h hmS1,trivial⟩,trivial⟩,?_⟩;refine qGe 9 9 72 75 7 76 (.head _) i fun s8 i=> ?_;refine qGe 9 9 76 ((.const (vT (⟨#[41,32,61,32]⟩:ByteArray)))) 8 77 (.head _) i fun s9 i=> ?_;refine qCi 9 kr (qDn 78 72 #[vP b4 0,vT s9] kr rfl (W_cA Tryz.func72 rfl Tryz.ntmps72 (W_sr (qAd 2 [] (W_sr (qAb 1 [(6,vP b4 0)] (qAa rfl (qDn 7 140 #[vP b4 0] kr rfl ((qBu (c0:=(qDv true b4)) (R:=[vS a6 o2 c6]) (qHo true b4 kr) g).mono ?_)))))))));rintro _ w19 ⟨m13,rfl,e9,g⟩;refine⟨_,rfl,?_⟩;have hmS1:=Mem.le_trans hmS1 e9
        have g:St m13 (kB b4 #[.pointer (qDv true b4),vS a6 o2 c6] 122::kB b3 (V7 x1 a3 c3 a4 c4) 62::kR a6 o2 c6 5 1::O) w19:=g;refine WO_e (W_sr (qAb 4 [(8,vP b4 0),(11,vP b4 1)] (qAa rfl (qBy 12 120 11 1 (vS a6 o2 c6) g.h (qAb 1 [(13,vT s9)] (qAa rfl (qEl 14 120 9 5 1 12 13 g.f2 (.inr kr) ((r6.mono e8).mono e9) (Gives.str _) i fun l3 i a10 c10 m14 w20 e10 g r10=> ?_)))))));have hmS1:=Mem.le_trans hmS1 e10;refine qAb 2 [(16,vP b4 1)] (qAa rfl (qEq 120 16 14 1 (vS a10 l3 c10) #[.pointer (qDv true b4),vS a10 l3 c10] g.f1 fun w21 g=>(WO_e (W_sr (qAd 4 [(4,vI (s9.size:Int)),(5,.nilIface)] (qBb (X_rt [4,5] [vI (s9.size:Int),.nilIface] (⟨_,rfl,?_⟩))))))));refine⟨⟨.inr ⟨Inv.anti g.inv hmS1,Piece.holds_anti g.t.t.h hmS1,trivial⟩,trivial⟩,?_⟩;refine qDc kr ?_;refine qBl ?_;cases i;exact xE (Ku2 _ _ ⟨a10,c10,m14,rfl,((q.t e8).t e9).t e10,g.f1.f2.f2,r10,((r3.mono e8).mono e9).mono e10,((r4.mono e8).mono e9).mono e10⟩)
       ·intro A i;refine W_sr (qAd 2 [(79,vB (x1.1==2))] (W_if i ?_ ?_))
        ·intro A i;refine qAn (qDy 1 82 9 81 1 (vT x1.2.1) g.t.h (qAa rfl (qDh 83 9 9 ((.const (vT (⟨#[116,101,115,116,32]⟩:ByteArray)))) 82 i fun s10 i=>(qAa rfl (qDh 84 9 9 83 ((.const (vT (⟨#[32,61,32]⟩:ByteArray)))) i fun s11 i=>(qAa rfl (qDn 85 72 #[vP b4 0,vT s11] kr rfl (W_cA Tryz.func72 rfl Tryz.ntmps72 (W_sr (qAd 2 [] (W_sr (qAb 1 [(6,vP b4 0)] (qAa rfl (qDn 7 140 #[vP b4 0] kr rfl ((qBu (c0:=(qDv true b4)) (R:=[vS a6 o2 c6]) (qHo true b4 kr) g).mono ?_)))))))))))))));rintro _ w22 ⟨m15,rfl,e11,g⟩;refine⟨_,rfl,?_⟩;have g:St m15 (kB b4 #[.pointer (qDv true b4),vS a6 o2 c6] 122::kB b3 (V7 x1 a3 c3 a4 c4) 62::kR a6 o2 c6 5 1::O) w22:=g;refine WO_e (W_sr (qAb 4 [(8,vP b4 0),(11,vP b4 1)] (qAa rfl (qBy 12 120 11 1 (vS a6 o2 c6) g.h (qAb 1 [(13,vT s11)] (qAa rfl (qEl 14 120 9 5 1 12 13 g.f2 (.inr kr) (r6.mono e11) (Gives.str _) i fun l4 i a11 c11 m16 w23 e12 g r11=>(qAb 2 [(16,vP b4 1)] (qAa rfl (qEq 120 16 14 1 (vS a11 l4 c11) #[.pointer (qDv true b4),vS a11 l4 c11] g.f1 fun w24 g=>(WO_e (W_sr (qAd 4 [(4,vI (s11.size:Int)),(5,.nilIface)] (qBb (X_rt [4,5] [vI (s11.size:Int),.nilIface] (⟨_,rfl,?_⟩))))))))))))))));refine qAy rfl (qBl ?_);cases i;exact xE (Ku2 _ _ ⟨a11,c11,m16,rfl,(q.t e11).t e12,g.f1.f2.f2,r11,(r3.mono e11).mono e12,(r4.mono e11).mono e12⟩)
        ·intro A i;refine qAn (qDy 1 63 9 62 1 (vT x1.2.1) g.t.h (qAa rfl (qDh 64 9 9 ((.const (vT (⟨#[103,101,110,32,34]⟩:ByteArray)))) 63 i fun s12 i=>(qAa rfl (qDh 65 9 9 64 ((.const (vT (⟨#[34,32,61,32]⟩:ByteArray)))) i fun s13 i=>(qAa rfl (qDn 66 72 #[vP b4 0,vT s13] kr rfl (W_cA Tryz.func72 rfl Tryz.ntmps72 (W_sr (qAd 2 [] (W_sr (qAb 1 [(6,vP b4 0)] (qAa rfl (qDn 7 140 #[vP b4 0] kr rfl ((qBu (c0:=(qDv true b4)) (R:=[vS a6 o2 c6]) (qHo true b4 kr) g).mono ?_)))))))))))))));rintro _ w25 ⟨m17,rfl,e13,g⟩;refine⟨_,rfl,?_⟩;have g:St m17 (kB b4 #[.pointer (qDv true b4),vS a6 o2 c6] 122::kB b3 (V7 x1 a3 c3 a4 c4) 62::kR a6 o2 c6 5 1::O) w25:=g;refine WO_e (W_sr (qAb 4 [(8,vP b4 0),(11,vP b4 1)] (qAa rfl (qBy 12 120 11 1 (vS a6 o2 c6) g.h (qAb 1 [(13,vT s13)] (qAa rfl (qEl 14 120 9 5 1 12 13 g.f2 (.inr kr) (r6.mono e13) (Gives.str _) i fun l5 i a12 c12 m18 w26 e14 g r12=>(qAb 2 [(16,vP b4 1)] (qAa rfl (qEq 120 16 14 1 (vS a12 l5 c12) #[.pointer (qDv true b4),vS a12 l5 c12] g.f1 fun w27 g=>(WO_e (W_sr (qAd 4 [(4,vI (s13.size:Int)),(5,.nilIface)] (qBb (X_rt [4,5] [vI (s13.size:Int),.nilIface] (⟨_,rfl,?_⟩))))))))))))))));refine qAy rfl (qBl ?_);cases i;exact xE (Ku2 _ _ ⟨a12,c12,m18,rfl,(q.t e13).t e14,g.f1.f2.f2,r12,(r3.mono e13).mono e14,(r4.mono e13).mono e14⟩)
     intro K0_u1;refine qFu _ kr (qDl (fun k1 L' w'=>∃(s3:Int×T1b),∃a7 c7 m8,qAq (qIb N p0) k1 s3=some out1∧L'=[(7,vP b3 0),(8,vT y2.1),(10,vP b4 0),(49,vS a1 p0.2.1 c1),(50,vI (p0.2.1.length:Int)),(51,vI s3.1)]∧m.le m8∧St m8 (kB b4 #[.pointer (qDv true b4),vS a7 s3.2 c7] 122::kB b3 (V7 x1 a3 c3 a4 c4) 62::kR a7 s3.2 c7 5 1::O) w'∧RepS cStr m8 a1 c1 p0.2.1∧RepS cU8 m8 a7 c7 s3.2∧P2 m8 a3 c3 a4 c4 x1.2.2) N ⟨(0,l1),a5,c5,m6,i,rfl,((q.t e3).t e4).t e5,g.f1.f2.f2,((r1.mono e3).mono e4).mono e5,r5,((r3.mono e3).mono e4).mono e5,((r4.mono e3).mono e4).mono e5⟩ ?_);rintro k1 _ w12 ⟨s3,a7,c7,m8,hL,rfl,q,g,r1,r7,r3,r4⟩;rcases k1 with _|k1
     ·exact qBh hL
     ·obtain⟨qu1,i,hSu1,hBu1⟩:=qBi hL;clear hL;unfold qIb at i;refine W_sr (qAd 1 [(52,vB (decide (s3.1<(p0.2.1.length:Int))))] (qAr (W_if i ?_ ?_)))
      ·intro A i;refine qAp (qAi (qAr (qAt (W_sr (qAa rfl (qDi 53 43 9 49 51 r1 i ?_))))));rintro x2 i b5 f2 cs2 rfl hq2;refine qFh 54 9 53 f2 (vT x2) g hq2 (qAd 1 [(12,vT x2)] (qAn (qAb 1 [(55,vT x2)] (qAa rfl (qDh 56 9 9 ((.const (vT b1l))) 55 i fun s4 i=>(qAa rfl (qDh 57 9 9 56 ((.const (vT b1c))) i fun s5 i=>(qAa rfl (qDn 58 72 #[vP b4 0,vT s5] kr rfl (W_cA Tryz.func72 rfl Tryz.ntmps72 (W_sr (qAd 2 [] (W_sr (qAb 1 [(6,vP b4 0)] (qAa rfl (qDn 7 140 #[vP b4 0] kr rfl ((qBu (c0:=(qDv true b4)) (R:=[vS a7 s3.2 c7]) (qHo true b4 kr) g).mono ?_)))))))))))))))));rintro _ w13 ⟨m9,rfl,e6,g⟩;refine⟨_,rfl,?_⟩;have g:St m9 (kB b4 #[.pointer (qDv true b4),vS a7 s3.2 c7] 122::kB b3 (V7 x1 a3 c3 a4 c4) 62::kR a7 s3.2 c7 5 1::O) w13:=g;refine WO_e (W_sr (qAb 4 [(8,vP b4 0),(11,vP b4 1)] (qAa rfl (qBy 12 120 11 1 (vS a7 s3.2 c7) g.h (qAb 1 [(13,vT s5)] (qAa rfl (qEl 14 120 9 5 1 12 13 g.f2 (.inr kr) (r7.mono e6) (Gives.str _) i fun l2 i a8 c8 m10 w14 e7 g r8=>(qAb 2 [(16,vP b4 1)] (qAa rfl (qEq 120 16 14 1 (vS a8 l2 c8) #[.pointer (qDv true b4),vS a8 l2 c8] g.f1 fun w15 g=>(WO_e (W_sr (qAd 4 [(4,vI (s5.size:Int)),(5,.nilIface)] (qBb (X_rt [4,5] [vI (s5.size:Int),.nilIface] (⟨_,rfl,?_⟩))))))))))))))));refine qAy rfl (qBl (qAi (qAn (qAb 2 [(51,vI (wr (s3.1+1)))] (qAy rfl ?_)))));obtain rfl:=sI i
       have hL:=hSu1 _ rfl;exact xE (qCk k1 (jF _) ⟨(wr (s3.1+1),l2),a8,c8,m10,hL,rfl,(q.t e6).t e7,g.f1.f2.f2,(r1.mono e6).mono e7,r8,(r3.mono e6).mono e7,(r4.mono e6).mono e7⟩)
      ·intro A i;refine qDa (qAf ?_);cases i;have ho:=hBu1 _ rfl;have g:=g.f2.f2.f2;refine qAf ?_;exact xE (K0_u1 _ _ ⟨s3.2,a7,c7,m8,ho,rfl,q,g,r7,r3,r4⟩)
  ·intro K;refine qAb 3 [(20,vB (decide (p1<0)))] (qCu 20 i ?_ ?_)
   ·intro A i;refine qAb 6 [(26,vB true)] ?_;cases i;exact qBa _ kr (K _ _ ⟨m2,rfl,q,g,hb1,r1.mono e2,r2.mono e2⟩)
   ·intro A i;refine qAb 2 [(21,vI p1),(22,vP b1 2)] (qAa rfl (qBo (d:=23) (t:=50) (x:=(.tmp 22)) (vS a2 p0.2.2 c2) kr rfl (ev (vP b1 2)) g (hb1.drop 2) kr (qAb 3 [(26,vB (decide (p1≥(p0.2.2.length:Int))))] ?_)));cases i;exact qBa _ kr (K _ _ ⟨m2,rfl,q,g,hb1,r1.mono e2,r2.mono e2⟩)
def qHv(N:Nat):Te:=
 (qFk N (⟨#[112,97,99,107,97,103,101,32,112,59,32,105,109,112,111,114,116,32,113,59,32,116,101,115,116,32,116,32,61,32,102,40,114,101,97,100,40,34,97,46,100,97,116,34,44,32,102,108,105,112,40,48,41,41,41,59]⟩:ByteArray)).bind fun y1=>if((List.length y1.1.2.2:Int) !=1)=true then(some false) else((qMg N y1.1 0).bind fun y2=>(idx y1.1.2.2 0).bind fun x1=>(idx y1.1.2.2 0).bind fun x2=>(qHq N x1).bind fun y3=>(qHn N x2).bind fun y4=>(if(y2.2==0)=true then(if(y2.1.toList==(⟨#[112,97,99,107,97,103,101,32,112,59,10,105,109,112,111,114,116,32,113,59,10,116,101,115,116,32,116,32,61,32,102,40,114,101,97,100,40,34,97,46,100,97,116,34,44,32,102,108,105,112,40,48,41,41,41,59,10]⟩:ByteArray).toList)=true then(if((List.length y3:Int)==1)=true then((idx y3 0).bind fun x3=>if(x3.toList==(⟨#[102]⟩:ByteArray).toList)=true then(if((List.length y4:Int)==1)=true then((idx y4 0).bind fun x4=>if(x4.toList==(⟨#[97,46,100,97,116]⟩:ByteArray).toList)=true then((idx y1.1.2.2 0).bind fun x5=>(qIj N x5).bind fun y5=>some y5) else(some false)) else(some false)) else(some false)) else(some false)) else(some false)) else(some false):Te).bind fun o1=>some o1)
theorem qLl{r:Bool}(g:St m (O) w)(i:qHv N=some r):Calls Tryz.prog 33 #[] w fun e w'=>∃m',e= .returned (vB r)∧m.le m'∧St m' (O) w':=by
 unfold qHv at i;have q:=m.le_refl;refine W_cA Tryz.func33 rfl Tryz.ntmps33 ?_;refine W_sr (qAd 1 [] (W_sr (qAm 9 i (fun _ h=>qLq g h) ?_)));rintro y1 i _ w1 ⟨a1,c1,a2,c2,m1,rfl,e1,g,r1,r2⟩;refine qAb 4 [(10,.agg (V6 y1.1 a1 c1 a2 c2)),(11,vI y1.2.1),(12,vI y1.2.2)] (qAa rfl (qIk 1 52 (.agg #[vT eB,v8,v8]) g fun b1 w2 g=>(qAa rfl (qGh 52 1 10 (.agg (V6 y1.1 a1 c1 a2 c2)) g fun w3 g=>(qAd 2 [] (qAr (W_sr (qDy 1 14 50 13 2 (vS a2 y1.1.2.2 c2) g.h (qAd 2 [(16,vB ((y1.1.2.2.length:Int) !=1))] (W_if i ?_ ?_))))))))))
 ·intro A i;refine W_sr (qAd 1 [(0,vB false)] (qBb (qAc ?_)));cases i;exact X_rt [0] [vB false] ⟨m1,rfl,q.t e1,g.t.t.t⟩
 ·intro A i;refine qAp (qAi (W_sr (qAa rfl (qBy 18 52 1 0 (.agg (V6 y1.1 a1 c1 a2 c2)) g.h (qAm 19 i (fun _ h=>qVd g r1 r2 h) ?_)))));rintro y2 i _ w4 ⟨m2,rfl,e2,g⟩;have r2:=r2.mono e2;refine qAd 5 [(4,vT y2.1),(5,vI y2.2)] (qAr (qGf [(12,fun w'=>Inv m2 w'∧Piece.holds m2 w' (kB b1 (V6 y1.1 a1 c1 a2 c2) 52)∧True)] kr g fun w5 _ g=> ?_));have hmS1:=m2.le_refl;refine⟨⟨.inr ⟨Inv.anti g.inv hmS1,Piece.holds_anti g.h hmS1,trivial⟩,trivial⟩,?_⟩;refine qBf 0 22 (vP b1 2) (.head _) (qGp 50 22 1 23 2 (vS a2 y1.1.2.2 c2) (.head _) (fun _ h=>h.2.1) ?_);have⟨x1,hx3,i⟩:=qAu i;refine qMc (t:=50) (e:=62) (x:=(.tmp 23)) (y:=(.const (vI 0))) 2 24 C4 kr rfl kr (.head _) (qBr qIe) (ev (vS a2 y1.1.2.2 c2)) (ev (vI 0)) kr r2 hx3 ?_;rintro b2 f1 cs1 ⟨_,_,rfl,rfl,⟨_,_,rfl,rfl,⟨_,_,rfl,⟨a3,c3,rfl,r3⟩,⟨a4,c4,rfl,r4⟩⟩⟩⟩ hq1;refine qPw 62 24 3 25 f1 (.agg (V7 x1 a3 c3 a4 c4)) (.head _) (fun _ h=>h.1) hq1 (qBf 5 27 (vP b1 2) (.head _) (qGp 50 27 6 28 2 (vS a2 y1.1.2.2 c2) (.head _) (fun _ h=>h.2.1) ?_));have⟨x2,hx4,i⟩:=qAu i;refine qMc (t:=50) (e:=62) (x:=(.tmp 28)) (y:=(.const (vI 0))) 7 29 C4 kr rfl kr (.head _) (qBr qIe) (ev (vS a2 y1.1.2.2 c2)) (ev (vI 0)) kr r2 hx4 ?_;rintro b3 f2 cs2 ⟨_,_,rfl,rfl,⟨_,_,rfl,rfl,⟨_,_,rfl,⟨a5,c5,rfl,r5⟩,⟨a6,c6,rfl,r6⟩⟩⟩⟩ hq2
  refine qPw 62 29 8 30 f2 (.agg (V7 x2 a5 c5 a6 c6)) (.head _) (fun _ h=>h.1) hq2 (qCi 4 kr (qDm 26 i (fun _ h=>qMo g r3 r4 h) ?_));rintro y3 i _ w6 ⟨a7,c7,m3,rfl,e3,g,r7⟩;refine⟨_,rfl,?_⟩;have hmS1:=Mem.le_trans hmS1 e3;refine⟨⟨.inr ⟨Inv.anti g.inv hmS1,Piece.holds_anti g.t.h hmS1,trivial⟩,trivial⟩,?_⟩;refine qCi 9 kr (qDm 31 i (fun _ h=>qMs g (r5.mono e3) (r6.mono e3) h) ?_);rintro y4 i _ w7 ⟨a8,c8,m4,rfl,e4,g,r8⟩;refine⟨_,rfl,?_⟩;have q:=(((q.t e1).t e2).t e3).t e4;have r2:=(r2.mono e3).mono e4;have r1:=((r1.mono e2).mono e3).mono e4;have hmS1:=Mem.le_trans hmS1 e4;refine⟨⟨.inr ⟨Inv.anti g.inv hmS1,Piece.holds_anti g.t.t.h hmS1,trivial⟩,trivial⟩,?_⟩;refine qBf 10 6 (vS a7 y3 c7) (.head _) (qBf 11 7 (vS a8 y4 c8) (.head _) (qDc kr (qAi (W_sr ?_))));have⟨o1,i,J⟩:=qAu i;refine qDp (j:=36) (fun L' w'=>∃m5,L'=[(0,vB o1)]∧m.le m5∧St m5 (kB b1 (V6 y1.1 a1 c1 a2 c2) 52::kR a8 y4 c8 9 1::kR a7 y3 c7 9 1::kR a1 y1.1.2.1 c1 9 1::kR a2 y1.1.2.2 c2 62 4::O) w'∧RepS cStr m5 a1 c1 y1.1.2.1∧RepS C4 m5 a2 c2 y1.1.2.2) ?_ ?_
  ·have i:=J;rintro _ w8 ⟨m5,rfl,q,g,r1,r2⟩;refine WO_e (qBb ?_);obtain rfl:=sI i;exact X_rt [0] [vB o1] ⟨m5,rfl,q,g.t.t.t.t.t⟩
  ·intro K;refine qAb 3 [(34,vB (y2.2==0))] (qCu 34 i ?_ ?_)
   ·intro A i;refine qAb 4 [(38,vB (y2.1.toList==(⟨#[112,97,99,107,97,103,101,32,112,59,10,105,109,112,111,114,116,32,113,59,10,116,101,115,116,32,116,32,61,32,102,40,114,101,97,100,40,34,97,46,100,97,116,34,44,32,102,108,105,112,40,48,41,41,41,59,10]⟩:ByteArray).toList))] (qCu 38 i ?_ ?_)
    ·intro A i;refine qAb 5 [(43,vB ((y3.length:Int)==1))] (qCu 43 i ?_ ?_)
     ·intro A i;refine qAb 1 [(44,vS a7 y3 c7)] (qAa rfl (qDi 45 43 9 44 ((.const (vI 0))) (r7.mono e4) i ?_));rintro x3 i b4 f3 cs3 rfl hq3;refine qFh 46 9 45 f3 (vT x3) g hq3 (qAb 3 [(49,vB (x3.toList==bo.toList))] (qCu 49 i ?_ ?_))
      ·intro A i;refine qAb 5 [(54,vB ((y4.length:Int)==1))] (qCu 54 i ?_ ?_)
       ·intro A i;refine qAb 1 [(55,vS a8 y4 c8)] (qAa rfl (qDi 56 43 9 55 ((.const (vI 0))) r8 i ?_));rintro x4 i b5 f4 cs4 rfl hq4;refine qFh 57 9 56 f4 (vT x4) g hq4 (qAb 3 [(60,vB (x4.toList==bg.toList))] (qCu 60 i ?_ ?_))
        ·intro A i;refine qDy 1 62 50 61 2 (vS a2 y1.1.2.2 c2) g.t.t.h (qAa rfl (qDi 63 50 62 62 ((.const (vI 0))) r2 i ?_));rintro x5 i b6 f5 cs5 ⟨_,_,rfl,rfl,⟨_,_,rfl,rfl,⟨_,_,rfl,⟨a9,c9,rfl,r9⟩,⟨a10,c10,rfl,r10⟩⟩⟩⟩ hq5;refine qFh 64 62 63 f5 (.agg (V7 x5 a9 c9 a10 c10)) g hq5 (qAm 65 i (fun _ h=>qMn g r9 r10 h) ?_);rintro y5 i _ w9 ⟨m6,rfl,e5,g⟩;refine qAb 2 [(0,vB y5)] ?_;cases i;exact qBa _ kr (K _ _ ⟨m6,rfl,q.t e5,g.f4.f4.f3.f3.f4,r1.mono e5,r2.mono e5⟩)
        ·intro A i;refine qAb 7 [(0,vB false)] ?_;cases i;exact qBa _ kr (K _ _ ⟨m4,rfl,q,g.f4.f4.f3.f3.f4,r1,r2⟩)
       ·intro A i;refine qAb 13 [(0,vB false)] ?_;cases i;exact qBa _ kr (K _ _ ⟨m4,rfl,q,g.f4.f4.f3.f3.f4,r1,r2⟩)
      ·intro A i;refine qAb 18 [(0,vB false)] ?_;cases i;exact qBa _ kr (K _ _ ⟨m4,rfl,q,g.f4.f4.f3.f3.f4,r1,r2⟩)
     ·intro A i;refine qAb 24 [(0,vB false)] ?_;cases i;exact qBa _ kr (K _ _ ⟨m4,rfl,q,g.f4.f4.f3.f3.f4,r1,r2⟩)
    ·intro A i;refine qAb 29 [(0,vB false)] ?_;cases i;exact qBa _ kr (K _ _ ⟨m4,rfl,q,g.f4.f4.f3.f3.f4,r1,r2⟩)
   ·intro A i;refine qAb 33 [(0,vB false)] ?_;cases i;exact qBa _ kr (K _ _ ⟨m4,rfl,q,g.f4.f4.f3.f3.f4,r1,r2⟩)
end
section
open Go Go.Dc
variable {N c1 c2 c3:Nat} {m:Mem} {O:List Piece} {w:World} {a1 a2 a3:Option Addr}
def qCo(N:Nat)(l3:Tw)(s1:Int):Td:=
 if(decide (s1<(List.length l3:Int)))=true then((idx l3 s1).bind fun x1=>((qHq N x1).bind fun y2=>(qGu N x1).bind fun y3=>(qCr N y2 y3).bind fun y4=>if(!y4)=true then(some true) else((qHn N x1).bind fun y5=>(qGx N x1).bind fun y6=>(qCr N y5 y6).bind fun y7=>if(!y7)=true then(some true) else((qHs N x1).bind fun y8=>(qEp N x1).bind fun y9=>(qCr N y8 y9).bind fun y10=>if(!y10)=true then(some true) else((qIj N x1).bind fun y11=>(qGs N x1).bind fun y12=>some (!(y11==y12))))):Te).bind fun o3=>if o3=true then(some (.inr (.inr (false)))) else(some (.inl (IntKind.wrap .i64 (s1+1))))) else(some (.inr (.inl ())))
def qEs(N:Nat)(p0:T9)(p1:Tv):Te:=
 (qHl N (p0,0)).bind fun y1=>(if(decide ((List.length p1.2.2.2:Int)>40))=true then((subS p1.2.2.2 0 40).bind fun l1=>some l1) else(some p1.2.2.2):Option To).bind fun o1=>(qCm 72 ([]:Tw) y1.2.2.2).bind fun l2=>(qCm 72 l2 ([(p1.1,p1.2.1,p1.2.2.1,o1)])).bind fun l3=>(qAq (qCo N l3) N 0).bind fun out1=>(match out1 with| .inl o2=>(qHv N).bind fun y13=>some y13| .inr (z)=>some z)
set_option maxHeartbeats 4000000 in
set_option maxRecDepth 100000 in
theorem qMu{p0:T9}{p1:Tv}{r:Bool}(g:St m (O) w)(r1:RepS (cInt .i64) m a1 c1 p0)(r2:RepS cStr m a2 c2 p1.2.2.1)(r3:RepS C3 m a3 c3 p1.2.2.2)(i:qEs N p0 p1=some r):Calls Tryz.prog 5 #[vS a1 p0 c1,.agg (V7 p1 a2 c2 a3 c3)] w fun e w'=>∃m',e= .returned (vB r)∧m.le m'∧St m' (O) w':=by
 unfold qEs at i;have q:=m.le_refl;refine W_cA Tryz.func5 rfl Tryz.ntmps5 ?_;refine W_sr (qAa rfl (qTs 3 62 1 (.agg (V7 p1 a2 c2 a3 c3)) g fun b1 w1 g=>(qAd 1 [] (W_sr (qAb 2 [(9,.agg #[vS a1 p0 c1,vI 0])] (qAa rfl (qTs 10 25 9 (.agg #[vS a1 p0 c1,vI 0]) g fun b2 w2 g=>(qAm 11 i (fun _ h=>qPb (p0:=(p0,0)) g r1 h) ?_))))))));rintro y1 i _ w3 ⟨a4,c4,a5,c5,a6,c6,m3,rfl,e3,g,r4,r5,r6⟩;refine qAa rfl (qIk 5 52 (.agg #[vT eB,v8,v8]) g fun b3 w4 g=>(qAa rfl (qGh 52 5 11 (.agg (V6 y1.2 a5 c5 a6 c6)) g fun w5 g=>(WO_e (qAr (W_sr (qDy 1 13 60 12 3 (vS a3 p1.2.2.2 c3) g.t.t.t.t.h (qAd 2 [(15,vB (decide ((p1.2.2.2.length:Int)>40)))] ?_))))))));have⟨o1,i,j1⟩:=qAu i;refine qCp .normal (fun L' w'=>∃a7 c7 m4,L'=[(3,vP b1 0),(5,vP b3 0)]∧m.le m4∧St m4 (kB b3 (V6 y1.2 a5 c5 a6 c6) 52::kB b2 (V1 y1.1 a4 c4) 25::kB b1 #[vI p1.1,vT p1.2.1,vS a2 p1.2.2.1 c2,vS a7 o1 c7] 62::kR a5 y1.2.2.1 c5 9 1::kR a6 y1.2.2.2 c6 62 4::O) w'∧RepS cStr m4 a5 c5 y1.2.2.1∧RepS C4 m4 a6 c6 y1.2.2.2∧RepS (cInt .i64) m4 a4 c4 y1.1.1∧RepS cStr m4 a2 c2 p1.2.2.1∧RepS C3 m4 a7 c7 o1) ?_ ?_
 ·have i:=j1;rintro _ w6 ⟨a7,c7,m4,rfl,q,g,r5,r6,r4,r2,r7⟩;refine qAi (qAr (qAr (qGf [(8,fun w'=>Inv m4 w'∧Piece.holds m4 w' (kB b3 (V6 y1.2 a5 c5 a6 c6) 52)∧Piece.holds m4 w' (kB b1 #[vI p1.1,vT p1.2.1,vS a2 p1.2.2.1 c2,vS a7 o1 c7] 62)∧True)] kr g fun w8 _ g=> ?_)));have hmS1:=m4.le_refl;refine⟨⟨.inr ⟨Inv.anti g.inv hmS1,Piece.holds_anti g.h hmS1,Piece.holds_anti g.t.t.h hmS1,trivial⟩,trivial⟩,?_⟩;refine qBf 0 20 (vP b3 2) (.head _) (qGp 50 20 1 21 2 (vS a6 y1.2.2.2 c6) (.head _) (fun _ h=>h.2.1) (qGp 62 3 3 23 0 (.agg #[vI p1.1,vT p1.2.1,vS a2 p1.2.2.1 c2,vS a7 o1 c7]) (.head _) (fun _ h=>h.2.2.1) (qBf 7 27 (vI 0) (.head _) (zHt [2,4] kr (by simp) (zJa ?_ ?_)))))
  ·refine qEl 22 50 50 62 72 ((.const (v8))) 21 (g.nilroom 62 4) (.inl kr) (RepS.nil _ _) r6.src i fun l2 i a9 c9 m5 w9 e4 g r9=> ?_;have hmS1:=Mem.le_trans hmS1 e4;refine⟨⟨.inr ⟨Inv.anti g.inv hmS1,Piece.holds_anti g.t.h hmS1,Piece.holds_anti g.t.t.t.h hmS1,trivial⟩,trivial⟩,?_⟩;refine qCi 4 kr (qAx (d:=24) (t:=50) (e:=62) (len:=1) (parts:= #[(0,(.tmp 23))]) C4 (xs:=[(p1.1,p1.2.1,p1.2.2.1,o1)]) [vI p1.1,vT p1.2.1,vS a2 p1.2.2.1 c2,vS a7 o1 c7] kr rfl (fun _=>qAw kr _) rfl rfl g ⟨[vI p1.1,vT p1.2.1,vS a2 p1.2.2.1 c2,vS a7 o1 c7],_,rfl,⟨_,_,rfl,rfl,⟨_,_,rfl,rfl,⟨_,_,rfl,(qSl (r2.mono e4)),(qSl (r7.mono e4))⟩⟩⟩,rfl⟩ fun b4 m6 w10 e5 g r10=> ?_);have hmS1:=Mem.le_trans hmS1 e5;refine⟨⟨.inr ⟨Inv.anti g.inv hmS1,Piece.holds_anti g.t.t.h hmS1,Piece.holds_anti g.t.t.t.t.h hmS1,trivial⟩,trivial⟩,?_⟩;refine qCi 5 kr (qEl 25 50 50 62 72 22 24 g.f1 (.inl kr) (r9.mono e5) r10.src i fun l3 i a10 c10 m7 w11 e6 g r11=> ?_);have hmS1:=Mem.le_trans hmS1 e6;refine⟨⟨.inr ⟨Inv.anti g.inv hmS1,Piece.holds_anti g.t.t.h hmS1,Piece.holds_anti g.t.t.t.t.h hmS1,trivial⟩,trivial⟩,?_⟩;refine qBf 6 26 (vI (l3.length:Int)) (.head _) (qDc kr ?_);have g:=g.f1.t;refine qAi (qAt ?_);have⟨out1,i,j2⟩:=qAu i
   refine qCp (.exit 0) (fun L' w'=>∃(o2:Unit),∃m8,(.inl o2)=out1∧L'=[]∧m.le m8∧St m8 (kB b3 (V6 y1.2 a5 c5 a6 c6) 52::kB b2 (V1 y1.1 a4 c4) 25::kB b1 #[vI p1.1,vT p1.2.1,vS a2 p1.2.2.1 c2,vS a7 o1 c7] 62::kR a10 l3 c10 62 4::kR a5 y1.2.2.1 c5 9 1::kR a6 y1.2.2.2 c6 62 4::O) w'∧RepS cStr m8 a5 c5 y1.2.2.1∧RepS C4 m8 a6 c6 y1.2.2.2∧RepS (cInt .i64) m8 a4 c4 y1.1.1∧RepS cStr m8 a2 c2 p1.2.2.1∧RepS C3 m8 a7 c7 o1) ?_ ?_
   ·rintro _ w12 ⟨o2,m8,rfl,rfl,q,g,r5,r6,r4,r2,r7⟩;have i:=j2;refine qBg (qAi (W_sr (qAm 61 i (fun _ h=>qLl g h) ?_)));rintro y13 i _ w29 ⟨m22,rfl,e18,g⟩;refine qAb 1 [(4,vB y13)] (qAy rfl ?_);have g:=g.f3.t;refine qAi (qBb ?_);obtain rfl:=sI i;exact X_rt [4] [vB y13] ⟨m22,rfl,q.t e18,g.t.t.t.t.t⟩
   intro K0_u2;refine qFu _ kr (qDl (fun k1 L' w'=>∃(s1:Int),∃m9,qAq (qCo N l3) k1 s1=some out1∧L'=[(25,vS a10 l3 c10),(26,vI (l3.length:Int)),(27,vI s1)]∧m.le m9∧St m9 (kB b3 (V6 y1.2 a5 c5 a6 c6) 52::kB b2 (V1 y1.1 a4 c4) 25::kB b1 #[vI p1.1,vT p1.2.1,vS a2 p1.2.2.1 c2,vS a7 o1 c7] 62::kR a10 l3 c10 62 4::kR a5 y1.2.2.1 c5 9 1::kR a6 y1.2.2.2 c6 62 4::O) w'∧RepS C4 m9 a10 c10 l3∧RepS cStr m9 a5 c5 y1.2.2.1∧RepS C4 m9 a6 c6 y1.2.2.2∧RepS (cInt .i64) m9 a4 c4 y1.1.1∧RepS cStr m9 a2 c2 p1.2.2.1∧RepS C3 m9 a7 c7 o1) N ⟨0,m7,i,rfl,((q.t e4).t e5).t e6,g.f5.f5.f2.f5.f5.f5,r11,((r5.mono e4).mono e5).mono e6,((r6.mono e4).mono e5).mono e6,((r4.mono e4).mono e5).mono e6,((r2.mono e4).mono e5).mono e6,((r7.mono e4).mono e5).mono e6⟩ ?_);rintro k1 _ w13 ⟨s1,m9,hL,rfl,q,g,r11,r5,r6,r4,r2,r7⟩;rcases k1 with _|k1
   ·exact qBh hL
   ·obtain⟨qu2,i,hSu2,hBu2⟩:=qBi hL;clear hL;unfold qCo at i;refine W_sr (qAd 1 [(28,vB (decide (s1<(l3.length:Int))))] (qAr (W_if i ?_ ?_)))
    ·intro A i;refine qAp (qAi (qAr (qAt (W_sr (qAa rfl (qDi 29 50 62 25 27 r11 i ?_))))));rintro x1 i b5 f1 cs1 ⟨_,_,rfl,rfl,⟨_,_,rfl,rfl,⟨_,_,rfl,⟨a11,c11,rfl,r12⟩,⟨a12,c12,rfl,r13⟩⟩⟩⟩ hq1;refine qFh 30 62 29 f1 (.agg (V7 x1 a11 c11 a12 c12)) g hq1 (qAa rfl (qIk 7 62 (.agg #[vI 0,vT eB,v8,v8]) g fun b6 w14 g=>(qAa rfl (qGh 62 7 30 (.agg (V7 x1 a11 c11 a12 c12)) g fun w15 g=>(WO_e (qAr ?_))))));have⟨o3,i,J⟩:=qAu i;refine qCp .normal (fun L' w'=>∃m10,L'=[(25,vS a10 l3 c10),(26,vI (l3.length:Int)),(27,vI s1),(59,vB o3)]∧m.le m10∧St m10 (kB b6 (V7 x1 a11 c11 a12 c12) 62::kB b3 (V6 y1.2 a5 c5 a6 c6) 52::kB b2 (V1 y1.1 a4 c4) 25::kB b1 #[vI p1.1,vT p1.2.1,vS a2 p1.2.2.1 c2,vS a7 o1 c7] 62::kR a10 l3 c10 62 4::kR a5 y1.2.2.1 c5 9 1::kR a6 y1.2.2.2 c6 62 4::O) w'∧RepS C4 m10 a10 c10 l3∧RepS cStr m10 a11 c11 x1.2.2.1∧RepS C3 m10 a12 c12 x1.2.2.2∧RepS cStr m10 a5 c5 y1.2.2.1∧RepS C4 m10 a6 c6 y1.2.2.2∧RepS (cInt .i64) m10 a4 c4 y1.1.1∧RepS cStr m10 a2 c2 p1.2.2.1∧RepS C3 m10 a7 c7 o1) ?_ ?_
     ·have i:=J;rintro _ w16 ⟨m10,rfl,q,g,r11,r12,r13,r5,r6,r4,r2,r7⟩;refine qAi (W_if i ?_ ?_)
      ·intro A i;refine W_sr (qAb 1 [(4,vB false)] (qAy rfl ?_));have g:=g.f4.t;refine qAi (qBb (qAh (qAc ?_)));cases i;have ho:=hBu2 _ rfl;subst ho;have i:=j2;refine qAc (qAh (qAc ?_));cases i;exact X_rt [4] [vB false] ⟨m10,rfl,q,g.t.t.t.t.t.t⟩
      ·intro A i;refine qAp (qBl (qAi (qAn (qAb 2 [(27,vI (wr (s1+1)))] (qAy rfl ?_)))));obtain rfl:=sI i;have hL:=hSu2 _ rfl;exact xE (qCk k1 (jF _) ⟨wr (s1+1),m10,hL,rfl,q,g.t.f5.f5.f5.f5.f5.f5,r11,r5,r6,r4,r2,r7⟩)
     ·intro K;refine qGf [(29,fun w'=>Inv m9 w'∧Piece.holds m9 w' (kB b6 (V7 x1 a11 c11 a12 c12) 62)∧True)] kr g fun w17 _ g=> ?_;have hmS2:=m9.le_refl;refine⟨⟨.inr ⟨Inv.anti g.inv hmS2,Piece.holds_anti g.h hmS2,trivial⟩,trivial⟩,?_⟩;refine qGp 62 7 0 31 0 (.agg (V7 x1 a11 c11 a12 c12)) (.head _) (fun _ h=>h.2.1) (qGp 62 7 2 33 0 (.agg (V7 x1 a11 c11 a12 c12)) (.head _) (fun _ h=>h.2.1) (qCi 1 kr (qDm 32 i (fun _ h=>qMo g r12 r13 h) ?_)));rintro y2 i _ w18 ⟨a13,c13,m11,rfl,e7,g,r14⟩;refine⟨_,rfl,?_⟩;have hmS2:=Mem.le_trans hmS2 e7;refine⟨⟨.inr ⟨Inv.anti g.inv hmS2,Piece.holds_anti g.t.h hmS2,trivial⟩,trivial⟩,?_⟩;refine qCi 3 kr (qDm 34 i (fun _ h=>qLp g (r12.mono e7) (r13.mono e7) h) ?_);rintro y3 i _ w19 ⟨a14,c14,m12,rfl,e8,g,r15⟩;refine⟨_,rfl,?_⟩;have hmS2:=Mem.le_trans hmS2 e8;refine⟨⟨.inr ⟨Inv.anti g.inv hmS2,Piece.holds_anti g.t.t.h hmS2,trivial⟩,trivial⟩,?_⟩;refine qCi 4 kr (qDm 35 i (fun _ h=>qDz g (r14.mono e8) r15 h) ?_);rintro y4 i _ w20 ⟨m13,rfl,e9,g⟩;refine⟨_,rfl,?_⟩;have r12:=((r12.mono e7).mono e8).mono e9;have r13:=((r13.mono e7).mono e8).mono e9;have hmS2:=Mem.le_trans hmS2 e9;refine⟨⟨.inr ⟨Inv.anti g.inv hmS2,Piece.holds_anti g.t.t.h hmS2,trivial⟩,trivial⟩,?_⟩;refine qBf 5 36 (vB (!y4)) (.head _) (qBf 6 37 (vB (!y4)) (.head _) ?_);rcases qEg (!y4) with A|A
      ·rw[if_pos A] at i;refine qKz (t:=37) (b:=true) (!y4) kr A ?_;refine qEh 7 38 (.head _) (qEh 8 39 (.head _) (qEh 9 40 (.head _) (qEh 10 41 (.head _) (qEh 11 42 (.head _) (qEh 12 43 (.head _) (qBf 13 44 (vB true) (.head _) (qBf 14 45 (vB true) (.head _) (qEh 15 46 (.head _) (qEh 16 47 (.head _) (qEh 17 48 (.head _) (qEh 18 49 (.head _) (qEh 19 50 (.head _) (qEh 20 51 (.head _) (qBf 21 52 (vB true) (.head _) (qBf 22 53 (vB true) (.head _) (qEh 23 54 (.head _) (qEh 24 55 (.head _) (qEh 25 56 (.head _) (qEh 26 57 (.head _) (qEh 27 58 (.head _) (qBf 28 59 (vB true) (.head _) ?_)))))))))))))))))))));cases i;exact qDc kr (qRm _ kr (K _ _ ⟨m13,rfl,((q.t e7).t e8).t e9,g.t.t.f6.f6.f6.f6.f6.f6.f6,((r11.mono e7).mono e8).mono e9,r12,r13,((r5.mono e7).mono e8).mono e9,((r6.mono e7).mono e8).mono e9,((r4.mono e7).mono e8).mono e9,((r2.mono e7).mono e8).mono e9,((r7.mono e7).mono e8).mono e9⟩))
      ·rw[if_neg (not_true A)] at i;refine qKz (t:=37) (b:=false) (!y4) kr A ?_;refine qGp 62 7 7 38 0 (.agg (V7 x1 a11 c11 a12 c12)) (.head _) (fun _ h=>h.2.1) (qGp 62 7 9 40 0 (.agg (V7 x1 a11 c11 a12 c12)) (.head _) (fun _ h=>h.2.1) (qCi 8 kr (qDm 39 i (fun _ h=>qMs g r12 r13 h) ?_)));rintro y5 i _ w21 ⟨a15,c15,m14,rfl,e10,g,r16⟩;refine⟨_,rfl,?_⟩;have hmS2:=Mem.le_trans hmS2 e10;refine⟨⟨.inr ⟨Inv.anti g.inv hmS2,Piece.holds_anti g.t.t.t.h hmS2,trivial⟩,trivial⟩,?_⟩;refine qCi 10 kr (qDm 41 i (fun _ h=>qLo g (r12.mono e10) (r13.mono e10) h) ?_);rintro y6 i _ w22 ⟨a16,c16,m15,rfl,e11,g,r17⟩;refine⟨_,rfl,?_⟩;have hmS2:=Mem.le_trans hmS2 e11;refine⟨⟨.inr ⟨Inv.anti g.inv hmS2,Piece.holds_anti g.t.t.t.t.h hmS2,trivial⟩,trivial⟩,?_⟩;refine qCi 11 kr (qDm 42 i (fun _ h=>qDz g (r16.mono e11) r17 h) ?_);rintro y7 i _ w23 ⟨m16,rfl,e12,g⟩;refine⟨_,rfl,?_⟩;have q:=(((((q.t e7).t e8).t e9).t e10).t e11).t e12;have r11:=(((((r11.mono e7).mono e8).mono e9).mono e10).mono e11).mono e12;have r12:=((r12.mono e10).mono e11).mono e12;have r13:=((r13.mono e10).mono e11).mono e12;have r5:=(((((r5.mono e7).mono e8).mono e9).mono e10).mono e11).mono e12;have r6:=(((((r6.mono e7).mono e8).mono e9).mono e10).mono e11).mono e12;have r4:=(((((r4.mono e7).mono e8).mono e9).mono e10).mono e11).mono e12
       have r2:=(((((r2.mono e7).mono e8).mono e9).mono e10).mono e11).mono e12;have r7:=(((((r7.mono e7).mono e8).mono e9).mono e10).mono e11).mono e12;have hmS2:=Mem.le_trans hmS2 e12;refine⟨⟨.inr ⟨Inv.anti g.inv hmS2,Piece.holds_anti g.t.t.t.t.h hmS2,trivial⟩,trivial⟩,?_⟩;refine qBf 12 43 (vB (!y7)) (.head _) (qBf 13 44 (vB (!y7)) (.head _) (qBf 14 45 (vB (!y7)) (.head _) ?_));rcases qEg (!y7) with A|A
       ·rw[if_pos A] at i;refine qKz (t:=45) (b:=true) (!y7) kr A ?_;refine qEh 15 46 (.head _) (qEh 16 47 (.head _) (qEh 17 48 (.head _) (qEh 18 49 (.head _) (qEh 19 50 (.head _) (qEh 20 51 (.head _) (qBf 21 52 (vB true) (.head _) (qBf 22 53 (vB true) (.head _) (qEh 23 54 (.head _) (qEh 24 55 (.head _) (qEh 25 56 (.head _) (qEh 26 57 (.head _) (qEh 27 58 (.head _) (qBf 28 59 (vB true) (.head _) ?_)))))))))))));cases i;exact qDc kr (qRm _ kr (K _ _ ⟨m16,rfl,q,g.t.t.t.t.f6.f6.f6.f6.f6.f6.f6,r11,r12,r13,r5,r6,r4,r2,r7⟩))
       ·rw[if_neg (not_true A)] at i;refine qKz (t:=45) (b:=false) (!y7) kr A ?_;refine qGp 62 7 15 46 0 (.agg (V7 x1 a11 c11 a12 c12)) (.head _) (fun _ h=>h.2.1) (qGp 62 7 17 48 0 (.agg (V7 x1 a11 c11 a12 c12)) (.head _) (fun _ h=>h.2.1) (qCi 16 kr (qDm 47 i (fun _ h=>qMx g r12 r13 h) ?_)));rintro y8 i _ w24 ⟨a17,c17,m17,rfl,e13,g,r18⟩;refine⟨_,rfl,?_⟩;have hmS2:=Mem.le_trans hmS2 e13;refine⟨⟨.inr ⟨Inv.anti g.inv hmS2,Piece.holds_anti g.t.t.t.t.t.h hmS2,trivial⟩,trivial⟩,?_⟩;refine qCi 18 kr (qDm 49 i (fun _ h=>qKe g (r12.mono e13) (r13.mono e13) h) ?_);rintro y9 i _ w25 ⟨a18,c18,m18,rfl,e14,g,r19⟩;refine⟨_,rfl,?_⟩;have hmS2:=Mem.le_trans hmS2 e14;refine⟨⟨.inr ⟨Inv.anti g.inv hmS2,Piece.holds_anti g.t.t.t.t.t.t.h hmS2,trivial⟩,trivial⟩,?_⟩;refine qCi 19 kr (qDm 50 i (fun _ h=>qDz g (r18.mono e14) r19 h) ?_);rintro y10 i _ w26 ⟨m19,rfl,e15,g⟩;refine⟨_,rfl,?_⟩;have r12:=((r12.mono e13).mono e14).mono e15;have r13:=((r13.mono e13).mono e14).mono e15;have r5:=((r5.mono e13).mono e14).mono e15;have r6:=((r6.mono e13).mono e14).mono e15;have r4:=((r4.mono e13).mono e14).mono e15;have r2:=((r2.mono e13).mono e14).mono e15;have r7:=((r7.mono e13).mono e14).mono e15;have hmS2:=Mem.le_trans hmS2 e15;refine⟨⟨.inr ⟨Inv.anti g.inv hmS2,Piece.holds_anti g.t.t.t.t.t.t.h hmS2,trivial⟩,trivial⟩,?_⟩
        refine qBf 20 51 (vB (!y10)) (.head _) (qBf 21 52 (vB (!y10)) (.head _) (qBf 22 53 (vB (!y10)) (.head _) ?_));rcases qEg (!y10) with A|A
        ·rw[if_pos A] at i;refine qKz (t:=53) (b:=true) (!y10) kr A ?_;refine qEh 23 54 (.head _) (qEh 24 55 (.head _) (qEh 25 56 (.head _) (qEh 26 57 (.head _) (qEh 27 58 (.head _) (qBf 28 59 (vB true) (.head _) ?_)))));cases i;exact qDc kr (qRm _ kr (K _ _ ⟨m19,rfl,((q.t e13).t e14).t e15,g.t.t.t.t.t.t.f6.f6.f6.f6.f6.f6.f6,((r11.mono e13).mono e14).mono e15,r12,r13,r5,r6,r4,r2,r7⟩))
        ·rw[if_neg (not_true A)] at i;refine qKz (t:=53) (b:=false) (!y10) kr A ?_;refine qGp 62 7 23 54 0 (.agg (V7 x1 a11 c11 a12 c12)) (.head _) (fun _ h=>h.2.1) (qGp 62 7 25 56 0 (.agg (V7 x1 a11 c11 a12 c12)) (.head _) (fun _ h=>h.2.1) (qCi 24 kr (qDm 55 i (fun _ h=>qMn g r12 r13 h) ?_)));rintro y11 i _ w27 ⟨m20,rfl,e16,g⟩;refine⟨_,rfl,?_⟩;have hmS2:=Mem.le_trans hmS2 e16;refine⟨⟨.inr ⟨Inv.anti g.inv hmS2,Piece.holds_anti g.t.t.t.t.t.t.h hmS2,trivial⟩,trivial⟩,?_⟩;refine qCi 26 kr (qDm 57 i (fun _ h=>qLk g (r12.mono e16) (r13.mono e16) h) ?_);rintro y12 i _ w28 ⟨m21,rfl,e17,g⟩;refine⟨_,rfl,?_⟩;have hmS2:=Mem.le_trans hmS2 e17;refine⟨⟨.inr ⟨Inv.anti g.inv hmS2,Piece.holds_anti g.t.t.t.t.t.t.h hmS2,trivial⟩,trivial⟩,?_⟩;refine qBf 27 58 (vB (!(y11==y12))) (.head _) (qBf 28 59 (vB (!(y11==y12))) (.head _) ?_);cases i;exact qDc kr (qRm _ kr (K _ _ ⟨m21,rfl,((((q.t e13).t e14).t e15).t e16).t e17,g.t.t.t.t.t.t.f6.f6.f6.f6.f6.f6.f6,((((r11.mono e13).mono e14).mono e15).mono e16).mono e17,(r12.mono e16).mono e17,(r13.mono e16).mono e17,(r5.mono e16).mono e17,(r6.mono e16).mono e17,(r4.mono e16).mono e17,(r2.mono e16).mono e17,(r7.mono e16).mono e17⟩))
    ·intro A i;refine qDa (qAf ?_);cases i;have ho:=hBu2 _ rfl;have g:=g.f5.f5.f5.f5.f5.f5;refine qAf ?_;exact xE (K0_u2 _ _ ⟨(),m9,ho,rfl,q,g,r5,r6,r4,r2,r7⟩)
  ·refine qAx (d:=24) (t:=50) (e:=62) (len:=1) (parts:= #[(0,(.tmp 23))]) C4 (xs:=[(p1.1,p1.2.1,p1.2.2.1,o1)]) [vI p1.1,vT p1.2.1,vS a2 p1.2.2.1 c2,vS a7 o1 c7] kr rfl (fun _=>qAw kr _) rfl rfl g ⟨[vI p1.1,vT p1.2.1,vS a2 p1.2.2.1 c2,vS a7 o1 c7],_,rfl,⟨_,_,rfl,rfl,⟨_,_,rfl,rfl,⟨_,_,rfl,(qSl r2),(qSl r7)⟩⟩⟩,rfl⟩ fun b4 m5 w9 e4 g r9=> ?_;have hmS1:=Mem.le_trans hmS1 e4;refine⟨⟨.inr ⟨Inv.anti g.inv hmS1,Piece.holds_anti g.t.h hmS1,Piece.holds_anti g.t.t.t.h hmS1,trivial⟩,trivial⟩,?_⟩;refine qCi 2 kr (qEl 22 50 50 62 72 ((.const (v8))) 21 (g.nilroom 62 4) (.inl kr) (RepS.nil _ _) (r6.mono e4).src i fun l2 i a9 c9 m6 w10 e5 g r10=> ?_);have hmS1:=Mem.le_trans hmS1 e5;refine⟨⟨.inr ⟨Inv.anti g.inv hmS1,Piece.holds_anti g.t.t.h hmS1,Piece.holds_anti g.t.t.t.t.h hmS1,trivial⟩,trivial⟩,?_⟩;refine qCi 5 kr (qEl 25 50 50 62 72 22 24 g (.inl kr) r10 (r9.mono e5).src i fun l3 i a10 c10 m7 w11 e6 g r11=> ?_);have hmS1:=Mem.le_trans hmS1 e6;refine⟨⟨.inr ⟨Inv.anti g.inv hmS1,Piece.holds_anti g.t.t.h hmS1,Piece.holds_anti g.t.t.t.t.h hmS1,trivial⟩,trivial⟩,?_⟩;refine qBf 6 26 (vI (l3.length:Int)) (.head _) (qDc kr ?_);have g:=g.f1.t;refine qAi (qAt ?_);have⟨out1,i,j2⟩:=qAu i
   refine qCp (.exit 0) (fun L' w'=>∃(o2:Unit),∃m8,(.inl o2)=out1∧L'=[]∧m.le m8∧St m8 (kB b3 (V6 y1.2 a5 c5 a6 c6) 52::kB b2 (V1 y1.1 a4 c4) 25::kB b1 #[vI p1.1,vT p1.2.1,vS a2 p1.2.2.1 c2,vS a7 o1 c7] 62::kR a10 l3 c10 62 4::kR a5 y1.2.2.1 c5 9 1::kR a6 y1.2.2.2 c6 62 4::O) w'∧RepS cStr m8 a5 c5 y1.2.2.1∧RepS C4 m8 a6 c6 y1.2.2.2∧RepS (cInt .i64) m8 a4 c4 y1.1.1∧RepS cStr m8 a2 c2 p1.2.2.1∧RepS C3 m8 a7 c7 o1) ?_ ?_
   ·rintro _ w12 ⟨o2,m8,rfl,rfl,q,g,r5,r6,r4,r2,r7⟩;have i:=j2;refine qBg (qAi (W_sr (qAm 61 i (fun _ h=>qLl g h) ?_)));rintro y13 i _ w29 ⟨m22,rfl,e18,g⟩;refine qAb 1 [(4,vB y13)] (qAy rfl ?_);have g:=g.f3.t;refine qAi (qBb ?_);obtain rfl:=sI i;exact X_rt [4] [vB y13] ⟨m22,rfl,q.t e18,g.t.t.t.t.t⟩
   intro K0_u2;refine qFu _ kr (qDl (fun k1 L' w'=>∃(s1:Int),∃m9,qAq (qCo N l3) k1 s1=some out1∧L'=[(25,vS a10 l3 c10),(26,vI (l3.length:Int)),(27,vI s1)]∧m.le m9∧St m9 (kB b3 (V6 y1.2 a5 c5 a6 c6) 52::kB b2 (V1 y1.1 a4 c4) 25::kB b1 #[vI p1.1,vT p1.2.1,vS a2 p1.2.2.1 c2,vS a7 o1 c7] 62::kR a10 l3 c10 62 4::kR a5 y1.2.2.1 c5 9 1::kR a6 y1.2.2.2 c6 62 4::O) w'∧RepS C4 m9 a10 c10 l3∧RepS cStr m9 a5 c5 y1.2.2.1∧RepS C4 m9 a6 c6 y1.2.2.2∧RepS (cInt .i64) m9 a4 c4 y1.1.1∧RepS cStr m9 a2 c2 p1.2.2.1∧RepS C3 m9 a7 c7 o1) N ⟨0,m7,i,rfl,((q.t e4).t e5).t e6,g.f5.f5.f2.f5.f5.f5,r11,((r5.mono e4).mono e5).mono e6,((r6.mono e4).mono e5).mono e6,((r4.mono e4).mono e5).mono e6,((r2.mono e4).mono e5).mono e6,((r7.mono e4).mono e5).mono e6⟩ ?_);rintro k1 _ w13 ⟨s1,m9,hL,rfl,q,g,r11,r5,r6,r4,r2,r7⟩;rcases k1 with _|k1
   ·exact qBh hL
   ·obtain⟨qu2,i,hSu2,hBu2⟩:=qBi hL;clear hL;unfold qCo at i;refine W_sr (qAd 1 [(28,vB (decide (s1<(l3.length:Int))))] (qAr (W_if i ?_ ?_)))
    ·intro A i;refine qAp (qAi (qAr (qAt (W_sr (qAa rfl (qDi 29 50 62 25 27 r11 i ?_))))));rintro x1 i b5 f1 cs1 ⟨_,_,rfl,rfl,⟨_,_,rfl,rfl,⟨_,_,rfl,⟨a11,c11,rfl,r12⟩,⟨a12,c12,rfl,r13⟩⟩⟩⟩ hq1;refine qFh 30 62 29 f1 (.agg (V7 x1 a11 c11 a12 c12)) g hq1 (qAa rfl (qIk 7 62 (.agg #[vI 0,vT eB,v8,v8]) g fun b6 w14 g=>(qAa rfl (qGh 62 7 30 (.agg (V7 x1 a11 c11 a12 c12)) g fun w15 g=>(WO_e (qAr ?_))))));have⟨o3,i,J⟩:=qAu i;refine qCp .normal (fun L' w'=>∃m10,L'=[(25,vS a10 l3 c10),(26,vI (l3.length:Int)),(27,vI s1),(59,vB o3)]∧m.le m10∧St m10 (kB b6 (V7 x1 a11 c11 a12 c12) 62::kB b3 (V6 y1.2 a5 c5 a6 c6) 52::kB b2 (V1 y1.1 a4 c4) 25::kB b1 #[vI p1.1,vT p1.2.1,vS a2 p1.2.2.1 c2,vS a7 o1 c7] 62::kR a10 l3 c10 62 4::kR a5 y1.2.2.1 c5 9 1::kR a6 y1.2.2.2 c6 62 4::O) w'∧RepS C4 m10 a10 c10 l3∧RepS cStr m10 a11 c11 x1.2.2.1∧RepS C3 m10 a12 c12 x1.2.2.2∧RepS cStr m10 a5 c5 y1.2.2.1∧RepS C4 m10 a6 c6 y1.2.2.2∧RepS (cInt .i64) m10 a4 c4 y1.1.1∧RepS cStr m10 a2 c2 p1.2.2.1∧RepS C3 m10 a7 c7 o1) ?_ ?_
     ·have i:=J;rintro _ w16 ⟨m10,rfl,q,g,r11,r12,r13,r5,r6,r4,r2,r7⟩;refine qAi (W_if i ?_ ?_)
      ·intro A i;refine W_sr (qAb 1 [(4,vB false)] (qAy rfl ?_));have g:=g.f4.t;refine qAi (qBb (qAh (qAc ?_)));cases i;have ho:=hBu2 _ rfl;subst ho;have i:=j2;refine qAc (qAh (qAc ?_));cases i;exact X_rt [4] [vB false] ⟨m10,rfl,q,g.t.t.t.t.t.t⟩
      ·intro A i;refine qAp (qBl (qAi (qAn (qAb 2 [(27,vI (wr (s1+1)))] (qAy rfl ?_)))));obtain rfl:=sI i;have hL:=hSu2 _ rfl;exact xE (qCk k1 (jF _) ⟨wr (s1+1),m10,hL,rfl,q,g.t.f5.f5.f5.f5.f5.f5,r11,r5,r6,r4,r2,r7⟩)
     ·intro K;refine qGf [(29,fun w'=>Inv m9 w'∧Piece.holds m9 w' (kB b6 (V7 x1 a11 c11 a12 c12) 62)∧True)] kr g fun w17 _ g=> ?_;have hmS2:=m9.le_refl;refine⟨⟨.inr ⟨Inv.anti g.inv hmS2,Piece.holds_anti g.h hmS2,trivial⟩,trivial⟩,?_⟩;refine qGp 62 7 0 31 0 (.agg (V7 x1 a11 c11 a12 c12)) (.head _) (fun _ h=>h.2.1) (qGp 62 7 2 33 0 (.agg (V7 x1 a11 c11 a12 c12)) (.head _) (fun _ h=>h.2.1) (qCi 1 kr (qDm 32 i (fun _ h=>qMo g r12 r13 h) ?_)));rintro y2 i _ w18 ⟨a13,c13,m11,rfl,e7,g,r14⟩;refine⟨_,rfl,?_⟩;have hmS2:=Mem.le_trans hmS2 e7;refine⟨⟨.inr ⟨Inv.anti g.inv hmS2,Piece.holds_anti g.t.h hmS2,trivial⟩,trivial⟩,?_⟩;refine qCi 3 kr (qDm 34 i (fun _ h=>qLp g (r12.mono e7) (r13.mono e7) h) ?_);rintro y3 i _ w19 ⟨a14,c14,m12,rfl,e8,g,r15⟩;refine⟨_,rfl,?_⟩;have hmS2:=Mem.le_trans hmS2 e8;refine⟨⟨.inr ⟨Inv.anti g.inv hmS2,Piece.holds_anti g.t.t.h hmS2,trivial⟩,trivial⟩,?_⟩;refine qCi 4 kr (qDm 35 i (fun _ h=>qDz g (r14.mono e8) r15 h) ?_);rintro y4 i _ w20 ⟨m13,rfl,e9,g⟩;refine⟨_,rfl,?_⟩;have r12:=((r12.mono e7).mono e8).mono e9;have r13:=((r13.mono e7).mono e8).mono e9;have hmS2:=Mem.le_trans hmS2 e9;refine⟨⟨.inr ⟨Inv.anti g.inv hmS2,Piece.holds_anti g.t.t.h hmS2,trivial⟩,trivial⟩,?_⟩;refine qBf 5 36 (vB (!y4)) (.head _) (qBf 6 37 (vB (!y4)) (.head _) ?_);rcases qEg (!y4) with A|A
      ·rw[if_pos A] at i;refine qKz (t:=37) (b:=true) (!y4) kr A ?_;refine qEh 7 38 (.head _) (qEh 8 39 (.head _) (qEh 9 40 (.head _) (qEh 10 41 (.head _) (qEh 11 42 (.head _) (qEh 12 43 (.head _) (qBf 13 44 (vB true) (.head _) (qBf 14 45 (vB true) (.head _) (qEh 15 46 (.head _) (qEh 16 47 (.head _) (qEh 17 48 (.head _) (qEh 18 49 (.head _) (qEh 19 50 (.head _) (qEh 20 51 (.head _) (qBf 21 52 (vB true) (.head _) (qBf 22 53 (vB true) (.head _) (qEh 23 54 (.head _) (qEh 24 55 (.head _) (qEh 25 56 (.head _) (qEh 26 57 (.head _) (qEh 27 58 (.head _) (qBf 28 59 (vB true) (.head _) ?_)))))))))))))))))))));cases i;exact qDc kr (qRm _ kr (K _ _ ⟨m13,rfl,((q.t e7).t e8).t e9,g.t.t.f6.f6.f6.f6.f6.f6.f6,((r11.mono e7).mono e8).mono e9,r12,r13,((r5.mono e7).mono e8).mono e9,((r6.mono e7).mono e8).mono e9,((r4.mono e7).mono e8).mono e9,((r2.mono e7).mono e8).mono e9,((r7.mono e7).mono e8).mono e9⟩))
      ·rw[if_neg (not_true A)] at i;refine qKz (t:=37) (b:=false) (!y4) kr A ?_;refine qGp 62 7 7 38 0 (.agg (V7 x1 a11 c11 a12 c12)) (.head _) (fun _ h=>h.2.1) (qGp 62 7 9 40 0 (.agg (V7 x1 a11 c11 a12 c12)) (.head _) (fun _ h=>h.2.1) (qCi 8 kr (qDm 39 i (fun _ h=>qMs g r12 r13 h) ?_)));rintro y5 i _ w21 ⟨a15,c15,m14,rfl,e10,g,r16⟩;refine⟨_,rfl,?_⟩;have hmS2:=Mem.le_trans hmS2 e10;refine⟨⟨.inr ⟨Inv.anti g.inv hmS2,Piece.holds_anti g.t.t.t.h hmS2,trivial⟩,trivial⟩,?_⟩;refine qCi 10 kr (qDm 41 i (fun _ h=>qLo g (r12.mono e10) (r13.mono e10) h) ?_);rintro y6 i _ w22 ⟨a16,c16,m15,rfl,e11,g,r17⟩;refine⟨_,rfl,?_⟩;have hmS2:=Mem.le_trans hmS2 e11;refine⟨⟨.inr ⟨Inv.anti g.inv hmS2,Piece.holds_anti g.t.t.t.t.h hmS2,trivial⟩,trivial⟩,?_⟩;refine qCi 11 kr (qDm 42 i (fun _ h=>qDz g (r16.mono e11) r17 h) ?_);rintro y7 i _ w23 ⟨m16,rfl,e12,g⟩;refine⟨_,rfl,?_⟩;have q:=(((((q.t e7).t e8).t e9).t e10).t e11).t e12;have r11:=(((((r11.mono e7).mono e8).mono e9).mono e10).mono e11).mono e12;have r12:=((r12.mono e10).mono e11).mono e12;have r13:=((r13.mono e10).mono e11).mono e12;have r5:=(((((r5.mono e7).mono e8).mono e9).mono e10).mono e11).mono e12;have r6:=(((((r6.mono e7).mono e8).mono e9).mono e10).mono e11).mono e12;have r4:=(((((r4.mono e7).mono e8).mono e9).mono e10).mono e11).mono e12
       have r2:=(((((r2.mono e7).mono e8).mono e9).mono e10).mono e11).mono e12;have r7:=(((((r7.mono e7).mono e8).mono e9).mono e10).mono e11).mono e12;have hmS2:=Mem.le_trans hmS2 e12;refine⟨⟨.inr ⟨Inv.anti g.inv hmS2,Piece.holds_anti g.t.t.t.t.h hmS2,trivial⟩,trivial⟩,?_⟩;refine qBf 12 43 (vB (!y7)) (.head _) (qBf 13 44 (vB (!y7)) (.head _) (qBf 14 45 (vB (!y7)) (.head _) ?_));rcases qEg (!y7) with A|A
       ·rw[if_pos A] at i;refine qKz (t:=45) (b:=true) (!y7) kr A ?_;refine qEh 15 46 (.head _) (qEh 16 47 (.head _) (qEh 17 48 (.head _) (qEh 18 49 (.head _) (qEh 19 50 (.head _) (qEh 20 51 (.head _) (qBf 21 52 (vB true) (.head _) (qBf 22 53 (vB true) (.head _) (qEh 23 54 (.head _) (qEh 24 55 (.head _) (qEh 25 56 (.head _) (qEh 26 57 (.head _) (qEh 27 58 (.head _) (qBf 28 59 (vB true) (.head _) ?_)))))))))))));cases i;exact qDc kr (qRm _ kr (K _ _ ⟨m16,rfl,q,g.t.t.t.t.f6.f6.f6.f6.f6.f6.f6,r11,r12,r13,r5,r6,r4,r2,r7⟩))
       ·rw[if_neg (not_true A)] at i;refine qKz (t:=45) (b:=false) (!y7) kr A ?_;refine qGp 62 7 15 46 0 (.agg (V7 x1 a11 c11 a12 c12)) (.head _) (fun _ h=>h.2.1) (qGp 62 7 17 48 0 (.agg (V7 x1 a11 c11 a12 c12)) (.head _) (fun _ h=>h.2.1) (qCi 16 kr (qDm 47 i (fun _ h=>qMx g r12 r13 h) ?_)));rintro y8 i _ w24 ⟨a17,c17,m17,rfl,e13,g,r18⟩;refine⟨_,rfl,?_⟩;have hmS2:=Mem.le_trans hmS2 e13;refine⟨⟨.inr ⟨Inv.anti g.inv hmS2,Piece.holds_anti g.t.t.t.t.t.h hmS2,trivial⟩,trivial⟩,?_⟩;refine qCi 18 kr (qDm 49 i (fun _ h=>qKe g (r12.mono e13) (r13.mono e13) h) ?_);rintro y9 i _ w25 ⟨a18,c18,m18,rfl,e14,g,r19⟩;refine⟨_,rfl,?_⟩;have hmS2:=Mem.le_trans hmS2 e14;refine⟨⟨.inr ⟨Inv.anti g.inv hmS2,Piece.holds_anti g.t.t.t.t.t.t.h hmS2,trivial⟩,trivial⟩,?_⟩;refine qCi 19 kr (qDm 50 i (fun _ h=>qDz g (r18.mono e14) r19 h) ?_);rintro y10 i _ w26 ⟨m19,rfl,e15,g⟩;refine⟨_,rfl,?_⟩;have r12:=((r12.mono e13).mono e14).mono e15;have r13:=((r13.mono e13).mono e14).mono e15;have r5:=((r5.mono e13).mono e14).mono e15;have r6:=((r6.mono e13).mono e14).mono e15;have r4:=((r4.mono e13).mono e14).mono e15;have r2:=((r2.mono e13).mono e14).mono e15;have r7:=((r7.mono e13).mono e14).mono e15;have hmS2:=Mem.le_trans hmS2 e15;refine⟨⟨.inr ⟨Inv.anti g.inv hmS2,Piece.holds_anti g.t.t.t.t.t.t.h hmS2,trivial⟩,trivial⟩,?_⟩
        refine qBf 20 51 (vB (!y10)) (.head _) (qBf 21 52 (vB (!y10)) (.head _) (qBf 22 53 (vB (!y10)) (.head _) ?_));rcases qEg (!y10) with A|A
        ·rw[if_pos A] at i;refine qKz (t:=53) (b:=true) (!y10) kr A ?_;refine qEh 23 54 (.head _) (qEh 24 55 (.head _) (qEh 25 56 (.head _) (qEh 26 57 (.head _) (qEh 27 58 (.head _) (qBf 28 59 (vB true) (.head _) ?_)))));cases i;exact qDc kr (qRm _ kr (K _ _ ⟨m19,rfl,((q.t e13).t e14).t e15,g.t.t.t.t.t.t.f6.f6.f6.f6.f6.f6.f6,((r11.mono e13).mono e14).mono e15,r12,r13,r5,r6,r4,r2,r7⟩))
        ·rw[if_neg (not_true A)] at i;refine qKz (t:=53) (b:=false) (!y10) kr A ?_;refine qGp 62 7 23 54 0 (.agg (V7 x1 a11 c11 a12 c12)) (.head _) (fun _ h=>h.2.1) (qGp 62 7 25 56 0 (.agg (V7 x1 a11 c11 a12 c12)) (.head _) (fun _ h=>h.2.1) (qCi 24 kr (qDm 55 i (fun _ h=>qMn g r12 r13 h) ?_)));rintro y11 i _ w27 ⟨m20,rfl,e16,g⟩;refine⟨_,rfl,?_⟩;have hmS2:=Mem.le_trans hmS2 e16;refine⟨⟨.inr ⟨Inv.anti g.inv hmS2,Piece.holds_anti g.t.t.t.t.t.t.h hmS2,trivial⟩,trivial⟩,?_⟩;refine qCi 26 kr (qDm 57 i (fun _ h=>qLk g (r12.mono e16) (r13.mono e16) h) ?_);rintro y12 i _ w28 ⟨m21,rfl,e17,g⟩;refine⟨_,rfl,?_⟩;have hmS2:=Mem.le_trans hmS2 e17;refine⟨⟨.inr ⟨Inv.anti g.inv hmS2,Piece.holds_anti g.t.t.t.t.t.t.h hmS2,trivial⟩,trivial⟩,?_⟩;refine qBf 27 58 (vB (!(y11==y12))) (.head _) (qBf 28 59 (vB (!(y11==y12))) (.head _) ?_);cases i;exact qDc kr (qRm _ kr (K _ _ ⟨m21,rfl,((((q.t e13).t e14).t e15).t e16).t e17,g.t.t.t.t.t.t.f6.f6.f6.f6.f6.f6.f6,((((r11.mono e13).mono e14).mono e15).mono e16).mono e17,(r12.mono e16).mono e17,(r13.mono e16).mono e17,(r5.mono e16).mono e17,(r6.mono e16).mono e17,(r4.mono e16).mono e17,(r2.mono e16).mono e17,(r7.mono e16).mono e17⟩))
    ·intro A i;refine qDa (qAf ?_);cases i;have ho:=hBu2 _ rfl;have g:=g.f5.f5.f5.f5.f5.f5;refine qAf ?_;exact xE (K0_u2 _ _ ⟨(),m9,ho,rfl,q,g,r5,r6,r4,r2,r7⟩)
 ·intro Ku1;refine W_if i ?_ ?_
  ·intro A i;refine qAn (qDy 1 17 60 16 3 (vS a3 p1.2.2.2 c3) g.t.t.t.t.h ?_);have⟨l1,hx2,i⟩:=qAu i;refine qAa rfl (qVw (d:=18) (t:=60) (e:=117) (x:=(.tmp 17)) (lo:=none) (hi:=(some (.const (vI 40)))) C3 kr rfl (ev (vS a3 p1.2.2.2 c3)) kr (r3.mono e3) (.inl ⟨rfl,rfl⟩) (.inr ⟨_,_,rfl,(ev (vI 40))⟩) hx2 ?_);intro a8 c8 r8;refine qAb 1 [(19,vP b1 3)] (qAa rfl (qEq 60 19 18 3 (vS a8 l1 c8) #[vI p1.1,vT p1.2.1,vS a2 p1.2.2.1 c2,vS a8 l1 c8] g.f4 fun w7 g=>(qAy rfl ?_)));cases i;exact xE (Ku1 _ _ ⟨a8,c8,m3,rfl,q.t e3,g.f3.f3.f2.f4.f4,r5,r6,r4,r2.mono e3,r8⟩)
  ·intro A i;refine qAp ?_;cases i;exact xE (Ku1 _ _ ⟨a3,c3,m3,rfl,q.t e3,g.f2.f2.f4.f4.f4,r5,r6,r4,r2.mono e3,r3.mono e3⟩)
end
end Go.Proofs.YtcdpbapbpcpflaaGreatDoor
section
namespace Go.Dc
theorem zDy{σ β:Type}{f:σ→Option (σ⊕β)}(st:Nat→σ)(k:Nat)(res:β)(step:∀i,i<k→f (st i)=some (.inl (st (i+1))))(stop:f (st k)=some (.inr res)){N:Nat}(hN:k<N):qAq f N (st 0)=some res:=by
 have key:∀d i M,i+d=k→d<M→qAq f M (st i)=some res:=by
  intro d
  induction d with
  |zero=>intro i M h hM;obtain⟨M',rfl⟩:∃M',M=M'+1:=⟨M-1,by omega⟩;simp only[gE] at h;subst h;simp[qAq,stop]
  |succ d ih=>
   intro i M h hM
   obtain⟨M',rfl⟩:∃M',M=M'+1:=⟨M-1,by omega⟩
   have:=ih (i+1) M' (by omega) (by omega)
   simp[qAq,step i (by omega),this]
 exact key k 0 N (by omega) hN
section
variable {ν:Type}
theorem zDf{l:List (Int×ν)}{k c:Int}{v:ν}(h:c≠k):mget (l.map fun p=>if k=p.1 then(k,v) else p) c=mget l c:=by
 induction l with
 |nil=>rfl
 |cons p l ih=>
  simp only[k9,mget]
  by_cases hk:k=p.1
  ·subst hk;rw[if_pos rfl,if_neg h,if_neg h,ih]
  ·rw[if_neg hk,ih]
theorem zCj{l:List (Int×ν)}{k:Int}{v:ν}(h:(mget l k).isSome=true):mget (l.map fun p=>if k=p.1 then(k,v) else p) k=some v:=by
 induction l with
 |nil=>cases h
 |cons p l ih=>
  simp only[k9,mget] at h ⊢
  by_cases hk:k=p.1
  ·subst hk;simp
  ·rw[if_neg hk] at h ⊢
   rw[if_neg hk]
   exact ih h
theorem zHp{l:List (Int×ν)}{k:Int}{v:ν}(h:mget l k=none)(c:Int):mget (mins l k v) c=if c=k then some v else mget l c:=by
 induction l with
 |nil=>rfl
 |cons p l ih=>
  simp only[mget] at h
  split at h
  ·cases h
  ·rename_i hk
   simp only[mins]
   split
   ·simp only[mget]
   ·simp only[mget,ih h]
    by_cases hc:c=k
    ·subst hc;simp[hk]
    ·simp[hc]
theorem zGt(l:List (Int×ν))(k:Int)(v:ν)(c:Int):mget (mset l k v) c=if c=k then some v else mget l c:=by
 unfold mset
 split
 ·rename_i h
  split
  ·rename_i hc;subst hc;exact zCj h
  ·rename_i hc;exact zDf hc
 ·rename_i h
  exact zHp (by simpa using h) c
def Srt(l:List (Int×ν)):Prop:=(l.map (·.1)).Pairwise (· < ·)
theorem Srt.nil:Srt ([]:List (Int×ν)):=List.Pairwise.nil
theorem Srt.mins{l:List (Int×ν)}{k:Int}{v:ν}(hs:Srt l)(h:mget l k=none):Srt (mins l k v):=by
 induction l with
 |nil=>simp[Srt,Go.Dc.mins]
 |cons p l ih=>
  have hs':=hs
  simp only[Srt,k9,kX] at hs
  simp only[mget] at h
  split at h
  ·cases h
  ·rename_i hk
   simp only[Go.Dc.mins]
   split
   ·rename_i hlt
    have hlt:k<p.1:=by simpa[KOrd.lt] using hlt
    refine kX.2 ⟨fun a ha=> ?_,hs'⟩
    simp only[k9,jM] at ha
    rcases ha with rfl|ha
    ·exact hlt
    ·exact Int.lt_trans hlt (hs.1 a ha)
   ·rename_i hlt
    have hlt:¬k<p.1:=by simpa[KOrd.lt] using hlt
    refine kX.2 ⟨fun a ha=> ?_,ih hs.2 h⟩
    obtain⟨q,hq,rfl⟩:=fG.1 ha
    rcases jM.1 ((zBj l k v).mem_iff.1 hq) with rfl|hq
    ·show p.1<k;omega
    ·exact hs.1 _ (gK hq)
theorem Srt.mset{l:List (Int×ν)}(hs:Srt l)(k:Int)(v:ν):Srt (mset l k v):=by
 unfold Go.Dc.mset
 split
 ·unfold Srt
  have:(l.map fun p=>if k=p.1 then(k,v) else p).map (·.1)=l.map (·.1):=by
   rw[List.map_map]
   refine List.map_congr_left fun p _=> ?_
   simp only[Function.comp_apply]
   split
   ·rename_i h;exact h
   ·rfl
  rw[this];exact hs
 ·rename_i h
  exact hs.mins (by simpa using h)
theorem Srt.out{l:List (Int×ν)}{c:Int}(h:∀a∈l.map (·.1),c<a):mget l c=none:=by
 rw[qWv];intro hm;exact Int.lt_irrefl _ (h c hm)
theorem Srt.ext:∀{l k:List (Int×ν)},Srt l→Srt k→(∀c,mget l c=mget k c)→l=k
 |[],[],_,_,_=>rfl
 |[],q::k,_,_,h=>by have:=h q.1;simp[mget] at this
 |p::l,[],_,_,h=>by have:=h p.1;simp[mget] at this
 |p::l,q::k,hl,hk,h=>by
  have hl':(∀a∈l.map (·.1),p.1<a)∧Srt l:=kX.1 hl
  have hk':(∀a∈k.map (·.1),q.1<a)∧Srt k:=kX.1 hk
  have h1:p.1=q.1:=by
   rcases Int.lt_trichotomy p.1 q.1 with hlt|he|hlt
   ·have:=h p.1
    rw[Srt.out (l:=q::k) (c:=p.1)] at this
    ·simp[mget] at this
    ·intro a ha
     rcases jM.1 ha with rfl|ha
     ·exact hlt
     ·exact Int.lt_trans hlt (hk'.1 a ha)
   ·exact he
   ·have:=h q.1
    rw[Srt.out (l:=p::l) (c:=q.1)] at this
    ·simp[mget] at this
    ·intro a ha
     rcases jM.1 ha with rfl|ha
     ·exact hlt
     ·exact Int.lt_trans hlt (hl'.1 a ha)
  have h2:p.2=q.2:=by have:=h p.1;simpa[mget,h1] using this
  have h3:l=k:=by
   refine Srt.ext hl'.2 hk'.2 fun c=> ?_
   by_cases hc:c=p.1
   ·rw[Srt.out (l:=l) (fun a ha=>hc▸hl'.1 a ha),Srt.out (l:=k) (fun a ha=>by rw[hc,h1];exact hk'.1 a ha)]
   ·have:=h c
    simpa[mget,hc,h1▸hc] using this
  rw[h3,Prod.ext h1 h2]
def qNt(v:ν)(m:List (Int×ν))(xs:List UInt8):List (Int×ν):=xs.foldl (fun m x=>mset m (x.toNat:Int) v) m
theorem qXn{v:ν}:∀{xs:List UInt8} {m:List (Int×ν)},Srt m→Srt (qNt v m xs)
 |[],_,h=>h
 |_::xs,_,h=>qXn (xs:=xs) (h.mset _ _)
theorem qXx{v:ν}(c:Int):∀(xs:List UInt8) (m:List (Int×ν)),mget (qNt v m xs) c=if xs.any (fun x=>decide ((x.toNat:Int)=c))=true then some v else mget m c
 |[],m=>by simp[qNt]
 |x::xs,m=>by
  have:=qXx (v:=v) c xs (mset m (x.toNat:Int) v)
  rw[show qNt v m (x::xs)=qNt v (mset m (x.toNat:Int) v) xs from rfl,this,zGt]
  by_cases h1:xs.any (fun x=>decide ((x.toNat:Int)=c))=true
  ·simp[h1]
  ·by_cases h2:(x.toNat:Int)=c
   ·subst h2;simp[h1]
   ·have h3:¬c=(x.toNat:Int):=fun e=>h2 e.symm
    simp[h1,h2,h3]
end
end Go.Dc
namespace Go.Proofs.YtcdpbapbpcpflaaGreatDoor
open Go Go.Dc
def allK:List (Int×ByteArray):=[(1,⟨#[97,98,99,100,101,102,103,104,105,106,107,108,109,110,111,112,113,114,115,116,117,118,119,120,121,122]⟩),(2,⟨#[48,49,50,51,52,53,54,55,56,57]⟩),(3,⟨#[95]⟩),(4,⟨#[46]⟩),(5,⟨#[9,10,13,32]⟩),(6,⟨#[35]⟩),(7,⟨#[34]⟩),(8,⟨#[59,44,40,41,43,45,42,47,37,60,61]⟩)]
def kdL:List (Int×Int):=[(9,5),(10,5),(13,5),(32,5),(34,7),(35,6),(37,8),(40,8),(41,8),(42,8),(43,8),(44,8),(45,8),(46,4),(47,8),(48,2),(49,2),(50,2),(51,2),(52,2),(53,2),(54,2),(55,2),(56,2),(57,2),(59,8),(60,8),(61,8),(95,3),(97,1),(98,1),(99,1),(100,1),(101,1),(102,1),(103,1),(104,1),(105,1),(106,1),(107,1),(108,1),(109,1),(110,1),(111,1),(112,1),(113,1),(114,1),(115,1),(116,1),(117,1),(118,1),(119,1),(120,1),(121,1),(122,1)]
def kdI(c:Int):Int:=(mget kdL c).getD 0
def inE(e:Int×ByteArray)(c:Int):Bool:=e.2.data.toList.any fun x=>decide ((x.toNat:Int)=c)
def layK(m:List (Int×Int))(k:List (Int×ByteArray)):List (Int×Int):=k.foldl (fun m e=>qNt e.1 m e.2.data.toList) m
theorem zEa:∀{k:List (Int×ByteArray)} {m:List (Int×Int)},Srt m→Srt (layK m k)
 |[],_,h=>h
 |_::k,_,h=>zEa (k:=k) (qXn h)
theorem zEo(c:Int):∀(k:List (Int×ByteArray)) (m:List (Int×Int)),(∀e∈k,inE e c=true→e.1=kdI c)→(∀v,mget m c=some v→v=kdI c)→
  mget (layK m k) c=if(k.any fun e=>inE e c)=true then some (kdI c) else mget m c
 |[],m,_,_=>by simp[layK]
 |e::k,m,h,hm=>by
  have hg:=qXx (v:=e.1) c e.2.data.toList m
  have:=zEo c k (qNt e.1 m e.2.data.toList) (fun e' he=>h e' (jX _ he)) (fun v hv=>by
   rw[hg] at hv
   split at hv
   ·rename_i hi
    rw[←jY hv]
    exact h e (jN ..) hi
   ·exact hm v hv)
  rw[show layK m (e::k)=layK (qNt e.1 m e.2.data.toList) k from rfl,this,hg]
  by_cases h1:(k.any fun e=>inE e c)=true
  ·simp[h1]
  ·by_cases h2:inE e c=true
   ·have:=h e (jN ..) h2
    have h2':(e.2.data.toList.any fun x=>decide ((x.toNat:Int)=c))=true:=h2
    simp only[gW,h2,fZ,jH,h1,h2',this]
    simp
   ·have h2':(e.2.data.toList.any fun x=>decide ((x.toNat:Int)=c))=false:=by simpa[inE] using h2
    simp only[gW,h1,h2',Bool.or_false,jB,jG]
    simp[h2]
theorem zFc:(allK.all fun e=>e.2.data.toList.all fun x=>decide (e.1=kdI (x.toNat:Int)))=true∧(kdL.all fun p=>allK.any fun e=>inE e p.1)=true:=⟨by kernel_rfl,by kernel_rfl⟩
theorem kd_in{e:Int×ByteArray}{c:Int}(he:e∈allK)(h:inE e c=true):e.1=kdI c:=by
 have:=k0.1 zFc.1 e he
 obtain⟨x,hx,hc⟩:=fR.1 h
 have h2:=k0.1 this x hx
 have hc:(x.toNat:Int)=c:=by simpa using hc
 subst hc
 simpa using h2
theorem zNl(c:Int):mget kdL c=if(allK.any fun e=>inE e c)=true then some (kdI c) else none:=by
 cases h:mget kdL c with
 |none=>
  rw[if_neg]
  intro ha
  obtain⟨e,he,hi⟩:=fR.1 ha
  have h1:=kd_in he hi
  have h0:kdI c=0:=by simp[kdI,h]
  have:(allK.all fun e=>decide (e.1≠0))=true:=by kernel_rfl
  have:=k0.1 this e he
  simp[h1,h0] at this
 |some v=>
  have hm:(c,v)∈kdL:=(qYv (l:=kdL) (by
   have:decide ((kdL.map (·.1)).Nodup)=true:=by kernel_rfl
   simpa using this)).1 h
  have:=k0.1 zFc.2 _ hm
  rw[if_pos this]
  simp[kdI,h]
theorem zMr:Srt kdL:=by
 have:decide ((kdL.map (·.1)).Pairwise (· < ·))=true:=by kernel_rfl
 simpa[Srt] using this
theorem zIu{k:List (Int×ByteArray)}(h:k.Perm allK):layK [] k=kdL:=by
 refine Srt.ext (zEa Srt.nil) zMr fun c=> ?_
 rw[zEo c k [] (fun e he hi=>kd_in (h.mem_iff.1 he) hi) (fun v hv=>by cases hv),zNl]
 have:(k.any fun e=>inE e c)=(allK.any fun e=>inE e c):=by
  rw[kE,fR,fR]
  exact⟨fun⟨e,he,hi⟩=>⟨e,h.mem_iff.1 he,hi⟩,fun⟨e,he,hi⟩=>⟨e,h.mem_iff.2 he,hi⟩⟩
 rw[this]
 rfl
theorem zKn{N:Nat}{e:Int×ByteArray}(m:List (Int×Int))(he:e.2.size≤26)(hN:30<N):qFr N (some e) (some m)=some (.inl (some (qNt e.1 m e.2.data.toList))):=by
 have hsz:e.2.data.toList.length=e.2.size:=by simp
 have hb:bytesOf e.2=some e.2.data.toList:=by unfold bytesOf;rw[if_pos (by simp only[maxLen];omega)]
 simp only[qFr,hb,j0]
 have key:=zDy (f:=qJo N e e.2.data.toList) (fun i=>((i:Int),some (qNt e.1 m (e.2.data.toList.take i)))) e.2.data.toList.length (some (qNt e.1 m e.2.data.toList)) (fun i hi=> ?_) ?_ (N:=N) (by omega)
 ·simp only[Int.natCast_zero,d3] at key
  rw[show qNt e.1 m []=m from rfl] at key
  rw[key];rfl
 ·simp only[qJo]
  rw[if_pos (by simpa using hi),qDf hi]
  simp only[j0,qKw,kW]
  rw[wi64 (by omega) (by omega),kL hi]
  simp[qNt]
 ·simp only[qJo]
  rw[if_neg (by simp),gA]
theorem qYc{N:Nat}(hN:30<N):∀(k:List (Int×ByteArray)) (m:List (Int×Int)),(∀e∈k,e.2.size≤26)→qOi (qFr N) k (some m)=some (some (layK m k))
 |[],m,_=>by simp[qOi,qFr,layK]
 |e::k,m,h=>by
  have:=qYc hN k (qNt e.1 m e.2.data.toList) (fun e' he=>h e' (jX _ he))
  simp only[qOi,zKn m (h e (jN ..)) hN,j0,this]
  rfl
theorem zDp{N:Nat}(hN:30<N):qLx N=some (some kdL):=by
 have h8:∀e∈allK,e.2.size≤26:=by
  have:(allK.all fun e=>decide (e.2.size≤26))=true:=by kernel_rfl
  intro e he
  simpa using k0.1 this e he
 have key:qTo (qFr N) allK (some [])=some (some kdL):=zHl fun k hk=>by
  rw[qYc hN k [] (fun e he=>h8 e (hk.mem_iff.1 he)),zIu hk]
 have h1:qLx N=(qTo (qFr N) allK (some [])).bind fun o1=>some o1:=by kernel_rfl
 rw[h1,key];rfl
end Go.Proofs.YtcdpbapbpcpflaaGreatDoor
end
namespace Go.Proofs.YtcdpbapbpcpflaaGreatDoor
section
open Go Go.Dc
theorem qCx(s:ByteArray):s.data.toList.length=s.size:=by simp
theorem qFy{s:ByteArray}{i:Nat}(h:i<s.data.toList.length):idxB s (i:Int)=some (s.data.toList[i]):=by
 have h':i<s.size:=by simpa using h
 rw[zEh h']
 simp[ByteArray.getElem_eq_getElem_data]
def tw(p:UInt8→Bool)(l:List UInt8)(a:Nat):Nat:=a+((l.drop a).takeWhile p).length
section
variable {p:UInt8→Bool} {l:List UInt8} {a:Nat}
theorem qSv(h:a≤l.length):a≤tw p l a∧tw p l a≤l.length:=by
 have:=(List.takeWhile_sublist p (l:=l.drop a)).length_le
 simp only[kH] at this
 unfold tw;omega
theorem qVx(h:a<l.length)(hb:p l[a]=true):tw p l (a+1)=tw p l a:=by
 unfold tw
 rw[jP h,gI hb]
 simp only[jC];omega
theorem qVo(h:a<l.length)(hb:p l[a]=false):tw p l a=a:=by
 unfold tw
 rw[jP h,gT (by simp[hb])]
 simp
theorem zJe(h:l.length≤a):tw p l a=a:=by
 unfold tw
 rw[jR h];rfl
theorem qTh{β:Type}{f:Int→Option (Int⊕β)}(out:Nat→β)(go:∀i:Nat,∀h:i<l.length,p l[i]=true→f (i:Int)=some (.inl ((i:Int)+1)))
  (no:∀i:Nat,∀h:i<l.length,p l[i]=false→f (i:Int)=some (.inr (out i))) (en:f (l.length:Int)=some (.inr (out l.length))):
  ∀(d a N:Nat),a+d=l.length→d<N→qAq f N (a:Int)=some (out (tw p l a))
 |d,a,0,_,h=>by omega
 |0,a,N+1,hd,h=>by
  have:a=l.length:=by omega
  subst this
  rw[zJe (jK _)];simp[qAq,en]
 |d+1,a,N+1,hd,h=>by
  have ha:a<l.length:=by omega
  cases hb:p l[a] with
  |true=>
   have:=qTh out go no en d (a+1) N (by omega) (by omega)
   rw[qVx ha hb] at this
   simpa[qAq,go a ha hb] using this
  |false=>
   rw[qVo ha hb];simp[qAq,no a ha hb]
end
def kd(c:UInt8):Int:=kdI (c.toNat:Int)
def inK(ks:List Int)(c:UInt8):Bool:=ks.any fun k=>kd c==k
theorem qYd{N:Nat}{s:ByteArray}{ks:List Int}{i:Nat}(h:i<s.data.toList.length)(hk:ks.length≤10)(hN:10<N):qAq (qJg N s (some kdL) ks (i:Int)) N (false,0)=some (inK ks (s.data.toList[i])):=by
 have key:=zDy (f:=qJg N s (some kdL) ks (i:Int)) (fun j=>((ks.take j).any (fun k=>kd (s.data.toList[i])==k),(j:Int))) ks.length (inK ks (s.data.toList[i])) (fun j hj=> ?_) ?_ (N:=N) (by omega)
 ·simpa using key
 ·simp only[qJg]
  rw[if_pos (by simpa using hj),qDf hj,qFy h]
  simp only[j0]
  rw[wi64 (by omega) (by omega),kL hj,List.any_append]
  cases(ks.take j).any (fun k=>kd (s.data.toList[i])==k)
  ·simp[kd,kdI,qNa]
  ·simp
 ·simp only[qJg]
  rw[if_neg (by simp),gA]
  rfl
theorem zIr{N:Nat}{s:ByteArray}{ks:List Int}{i:Nat}(hi:i≤s.data.toList.length)(hl:s.data.toList.length<1000000)(hk:ks.length≤10)(hN:s.data.toList.length+10<N):
  qLw N s (i:Int) (some kdL) ks=some ((tw (inK ks) s.data.toList i:Nat):Int):=by
 have hs:=qCx s
 have key:=qTh (f:=qJk N s (some kdL) ks) (l:=s.data.toList) (p:=inK ks) (fun n=>(n:Int)) (fun j hj hb=>by
   simp only[qJk]
   rw[if_pos (by simp only[jA];omega),qYd hj hk (by omega),hb]
   simp only[j0]
   rw[wi64 (by omega) (by omega)]
   rfl) (fun j hj hb=>by
   simp only[qJk]
   rw[if_pos (by simp only[jA];omega),qYd hj hk (by omega),hb]
   rfl) (by
   simp only[qJk]
   rw[if_neg (by simp only[jA];omega)]) (s.data.toList.length-i) i N (by omega) (by omega)
 unfold qLw
 rw[key]
 rfl
end
section
open Go Go.Dc
theorem kd_def(c:UInt8):(qNa (some kdL) (c.toNat:Int)).getD 0=kd c:=rfl
theorem qJw{l:List UInt8}{i:Nat}(h:i<l.length):l.getD i 0=l[i]:=by simp[kV,h]
def numS(n:Int)(c:UInt8):Int:=if 9007199254740993<10*n+((c.toNat:Int)-48) then 9007199254740993 else 10*n+((c.toNat:Int)-48)
def numL(ds:List UInt8):Int:=ds.foldl numS 0
def qVe(c:UInt8):Bool:=decide (32≤c.toNat)&&decide (c.toNat≤126)&&c !=34
def zDi:Int×ByteArray×Int×Int:=(0,⟨#[]⟩,0,0)
def zAu(l:List UInt8)(i:Nat):Nat:=if l.getD i 0=61∧l.getD (i+1) 0=61 then i+2 else i+1
def tokP(s:ByteArray)(i:Nat):(Int×ByteArray×Int×Int)×Int×Int:=
 if kd (s.data.toList.getD i 0)=1 then
  if tw (inK [1,2,3]) s.data.toList i-i>24 then(zDi,0,2) else((1,s.extract i (tw (inK [1,2,3]) s.data.toList i),0,0),((tw (inK [1,2,3]) s.data.toList i:Nat):Int),0)
 else if kd (s.data.toList.getD i 0)=2 then
  if numL ((s.data.toList.drop i).takeWhile (inK [2]))>9007199254740992 then(zDi,0,3) else((2,⟨#[]⟩,numL ((s.data.toList.drop i).takeWhile (inK [2])),0),((tw (inK [2]) s.data.toList i:Nat):Int),0)
 else if kd (s.data.toList.getD i 0)=7 then
  if s.data.toList.getD (tw qVe s.data.toList (i+1)) 0=34 then((3,s.extract (i+1) (tw qVe s.data.toList (i+1)),0,0),((tw qVe s.data.toList (i+1)+1:Nat):Int),0) else(zDi,0,9)
 else if kd (s.data.toList.getD i 0)=8 then
  ((4,s.extract i (zAu s.data.toList i),0,0),((zAu s.data.toList i:Nat):Int),0)
 else(zDi,0,9)
theorem zKk:∀c:UInt8,kd c=2→48≤c.toNat∧c.toNat≤57:=by
 have h:((List.range 256).all fun n=> !(decide (kd (UInt8.ofNat n)=2))||(decide (48≤n)&&decide (n≤57)))=true:=by kernel_rfl
 intro c hc
 have:=k0.1 h c.toNat (fN.2 c.toNat_lt)
 simpa[hc] using this
theorem zIs(l:List UInt8)(c:UInt8):numL (l++[c])=numS (numL l) c:=by simp[numL]
theorem zJq{p:UInt8→Bool}:∀{l:List UInt8} {c:UInt8},c∈l.takeWhile p→p c=true
 |[],_,h=>by simp at h
 |x::l,c,h=>by
  cases hx:p x with
  |true=>
   rw[gI hx] at h
   rcases jM.1 h with rfl|h
   ·exact hx
   ·exact zJq h
  |false=>rw[gT (by simp[hx])] at h;cases h
theorem qSm{s:ByteArray}{i e:Nat}(h1:i≤e)(h2:e≤s.data.toList.length):subB s (i:Int) (e:Int)=some (s.extract i e):=by
 have:=qCx s
 rw[qUz (by omega) (by omega) (by omega)]
 simp
theorem zId{s:ByteArray}{i:Nat}(h1:i≤s.data.toList.length):subB s (i:Int) (s.size:Int)=some (s.extract i s.data.toList.length):=by
 have hs:=qCx s
 rw[←qSm h1 (jK _),hs]
theorem qEr(x y:ByteArray):(x.toList==y.toList)=decide (x=y):=by
 rw[kE]
 simp only[kA,jA]
 constructor
 ·intro h
  rw[ByteArray.toList_eq,ByteArray.toList_eq] at h
  exact Go.WideShapes.bytes_inj h
 ·rintro rfl;rfl
end
section
open Go Go.Dc
theorem zLo{p:UInt8→Bool}{l:List UInt8}(h:∀c∈l,p c=true):tw p l 0=l.length:=by
 unfold tw
 have:l.takeWhile p=l:=by
  induction l with
  |nil=>rfl
  |cons c l ih=>rw[gI (h c (jN ..)),ih fun d hd=>h d (jX _ hd)]
 simp[this]
end
section
open Go Go.Dc
abbrev Tok:=Int×ByteArray×Int×Int
theorem zEf{ks:List Int}{k:Int}{c:UInt8}(hk:k∈ks)(h:kd c=k):inK ks c=true:=by
 unfold inK;exact fR.2 ⟨k,hk,by simp[h]⟩
theorem qYg{p:UInt8→Bool}{l:List UInt8}{a:Nat}(h:a<l.length)(hp:p l[a]=true):a<tw p l a:=by
 rw[←qVx h hp];have:=(qSv (p:=p) (l:=l) (a:=a+1) (by omega)).1;omega
theorem qSd{l:List UInt8}{i:Nat}(h:l.getD i 0≠0):i<l.length:=by
 rcases d4 i l.length with h'|h'
 ·exact h'
 ·exfalso;apply h;rw[kV,List.getElem?_eq_none h'];rfl
theorem zDb{s:ByteArray}{i:Nat}(hi:i<s.data.toList.length)(h:(tokP s i).2.2=0):∃e:Nat,(tokP s i).2.1=(e:Int)∧i<e∧e≤s.data.toList.length∧
  (((tokP s i).1.1=1∨(tokP s i).1.1=4)∧(tokP s i).1.2.1=s.extract i e∨(tokP s i).1.1=2∧(tokP s i).1.2.1=⟨#[]⟩∨(tokP s i).1.1=3∧(tokP s i).1.2.1.size+i<e):=by
 have hs:=qCx s
 unfold tokP at h ⊢
 rw[qJw hi] at h ⊢
 by_cases h1:kd (s.data.toList[i])=1
 ·rw[if_pos h1] at h ⊢
  split at h
  ·cases h
  ·rename_i h24
   rw[if_neg h24]
   have hb:=qSv (p:=inK [1,2,3]) (l:=s.data.toList) (a:=i) (by omega)
   exact⟨_,rfl,qYg hi (zEf (by simp) h1),hb.2,.inl ⟨.inl rfl,rfl⟩⟩
 rw[if_neg h1] at h ⊢
 by_cases h2:kd (s.data.toList[i])=2
 ·rw[if_pos h2] at h ⊢
  split at h
  ·cases h
  ·rename_i h24
   rw[if_neg h24]
   have hb:=qSv (p:=inK [2]) (l:=s.data.toList) (a:=i) (by omega)
   exact⟨_,rfl,qYg hi (zEf (by simp) h2),hb.2,.inr (.inl ⟨rfl,rfl⟩)⟩
 rw[if_neg h2] at h ⊢
 by_cases h7:kd (s.data.toList[i])=7
 ·rw[if_pos h7] at h ⊢
  split at h
  ·rename_i h24
   rw[if_pos h24]
   have hb:=qSv (p:=qVe) (l:=s.data.toList) (a:=i+1) (by omega)
   have hlt:tw qVe s.data.toList (i+1)<s.data.toList.length:=qSd (by rw[h24];decide)
   refine⟨_,rfl,by omega,by omega,.inr (.inr ⟨rfl,?_⟩)⟩
   simp only[ByteArray.size_extract]
   omega
  ·cases h
 rw[if_neg h7] at h ⊢
 by_cases h8:kd (s.data.toList[i])=8
 ·rw[if_pos h8] at h ⊢
  refine⟨_,rfl,?_,?_,.inl ⟨.inr rfl,rfl⟩⟩
  ·unfold zAu;split<;>omega
  ·unfold zAu
   split
   ·rename_i hh
    have:i+1<s.data.toList.length:=qSd (by rw[hh.2];decide)
    omega
   ·omega
 rw[if_neg h8] at h
 cases h
def qNq(c:UInt8):Bool:=c !=10
def tokG:Nat→ByteArray→Nat→(Int×Int)⊕List Tok
 |0,_,_=> .inr []
 |k+1,s,i=>
  if tw (inK [5]) s.data.toList i=s.data.toList.length then .inr [(5,⟨#[]⟩,0,(s.data.toList.length:Int))]
  else if kd (s.data.toList.getD (tw (inK [5]) s.data.toList i) 0)=6 then tokG k s (tw qNq s.data.toList (tw (inK [5]) s.data.toList i))
  else if(tokP s (tw (inK [5]) s.data.toList i)).2.2≠0 then .inl ((tw (inK [5]) s.data.toList i:Nat),(tokP s (tw (inK [5]) s.data.toList i)).2.2)
  else match tokG k s (tokP s (tw (inK [5]) s.data.toList i)).2.1.toNat with
   | .inl x=> .inl x
   | .inr r=> .inr (((tokP s (tw (inK [5]) s.data.toList i)).1.1,(tokP s (tw (inK [5]) s.data.toList i)).1.2.1,(tokP s (tw (inK [5]) s.data.toList i)).1.2.2.1,((tw (inK [5]) s.data.toList i:Nat):Int))::r)
def zCw(acc:List Tok):(Int×Int)⊕List Tok→List Tok×Int×Int
 | .inl x=>([],x.1,x.2)
 | .inr r=>(acc++r,0,0)
def qIx(s:ByteArray):List Tok×Int×Int:=if s.data.toList.length>16384 then([],0,2) else zCw [] (tokG (s.data.toList.length+1) s 0)
end
section
open Go Go.Dc
def endT(t:Tok):Int:=t.2.2.2+(t.2.1.size:Int)+(if t.1=2 then 1 else 0)
def zMl(s:ByteArray):Int→List Tok→Prop
 |_,[]=>True
 |e,t::r=>e≤t.2.2.2∧t.2.2.2+(t.2.1.size:Int)≤s.size∧(t.1=5↔r=[])∧(t.1=1∨t.1=4→s.extract t.2.2.2.toNat (t.2.2.2+(t.2.1.size:Int)).toNat=t.2.1∧0<t.2.1.size)∧zMl s (endT t) r
theorem qSy{s:ByteArray}:∀(k i:Nat) (e:Int) (r:List Tok),i≤s.data.toList.length→s.data.toList.length<i+k→e≤i→tokG k s i= .inr r→zMl s e r∧r≠[]∧r.length≤s.data.toList.length+1-i
 |0,i,e,r,h1,h2,h3,h4=>by omega
 |k+1,i,e,r,h1,h2,h3,h4=>by
  have hs:=qCx s
  have hb:=qSv (p:=inK [5]) (l:=s.data.toList) (a:=i) h1
  simp only[tokG] at h4
  generalize hE:tw (inK [5]) s.data.toList i=a at hb h4
  split at h4
  ·obtain rfl:=(Sum.inr.inj h4).symm
   refine⟨⟨by show e≤(s.data.toList.length:Int);omega,by show(s.data.toList.length:Int)+((0:Nat):Int)≤_;omega,by simp,fun h=>by simp at h,trivial⟩,by simp,by simp;omega⟩
  ·rename_i he
   have hlt:a<s.data.toList.length:=by omega
   split at h4
   ·rename_i h6
    have hb2:=qSv (p:=qNq) (l:=s.data.toList) (a:=a) (by omega)
    have hpos:=qYg (p:=qNq) hlt (by
     rw[qJw hlt] at h6
     simp only[qNq,fY,ne_eq]
     intro e;rw[e] at h6;exact absurd h6 (by decide))
    obtain⟨g1,g2,g3⟩:=qSy k _ e r hb2.2 (by omega) (by omega) h4
    exact⟨g1,g2,by omega⟩
   ·split at h4
    ·cases h4
    ·rename_i h0
     obtain⟨b,hb1,hb2,hb3,hk⟩:=zDb hlt (by simpa using h0)
     rw[hb1,jL] at h4
     generalize (tokP s a).1=t at h4 hk
     cases hG:tokG k s b with
     |inl x=>rw[hG] at h4;cases h4
     |inr q=>
      rw[hG] at h4
      obtain rfl:=(Sum.inr.inj h4).symm
      have hext:(s.extract a b).size=b-a:=by rw[ByteArray.size_extract];omega
      have hend:endT (t.1,t.2.1,t.2.2.1,(a:Int))≤b∧(a:Int)+(t.2.1.size:Int)≤b∧t.1≠5∧(t.1=1∨t.1=4→t.2.1=s.extract a b):=by
       rcases hk with ⟨hk1,hk2⟩|⟨hk1,hk2⟩|⟨hk1,hk2⟩
       ·refine⟨?_,?_,by omega,fun _=>hk2⟩
        ·simp only[endT,hk2,hext];rw[if_neg (by omega)];omega
        ·rw[hk2,hext];omega
       ·have:(⟨#[]⟩:ByteArray).size=0:=rfl
        refine⟨?_,?_,by omega,fun h=>by omega⟩
        ·simp only[endT,hk2,this];rw[if_pos hk1];omega
        ·rw[hk2,this];omega
       ·refine⟨?_,by omega,by omega,fun h=>by omega⟩
        simp only[endT];rw[if_neg (by omega)];omega
      obtain⟨g1,g2,g3⟩:=qSy k b (endT (t.1,t.2.1,t.2.2.1,(a:Int))) q hb3 (by omega) hend.1 hG
      refine⟨⟨by show e≤(a:Int);omega,?_,?_,?_,g1⟩,by simp,by simp only[jC];omega⟩
      ·show(a:Int)+(t.2.1.size:Int)≤_;omega
      ·exact⟨fun h=>absurd h hend.2.2.1,fun h=>absurd h g2⟩
      ·intro h
       have:=hend.2.2.2 h
       show s.extract (Int.toNat (a:Int)) ((a:Int)+(t.2.1.size:Int)).toNat=t.2.1∧0<t.2.1.size
       rw[this,hext,jL,show((a:Int)+((b-a:Nat):Int)).toNat=b by omega]
       exact⟨rfl,by omega⟩
theorem qZp{s:ByteArray}:∀(k i:Nat) (x:Int×Int),i≤s.data.toList.length→s.data.toList.length<i+k→tokG k s i= .inl x→0≤x.1∧x.1≤s.size∧x.2≠0
 |0,i,x,h1,h2,h4=>by omega
 |k+1,i,x,h1,h2,h4=>by
  have hs:=qCx s
  have hb:=qSv (p:=inK [5]) (l:=s.data.toList) (a:=i) h1
  simp only[tokG] at h4
  generalize hE:tw (inK [5]) s.data.toList i=a at hb h4
  split at h4
  ·cases h4
  ·rename_i he
   have hlt:a<s.data.toList.length:=by omega
   split at h4
   ·rename_i h6
    have hb2:=qSv (p:=qNq) (l:=s.data.toList) (a:=a) (by omega)
    have hpos:=qYg (p:=qNq) hlt (by
     rw[qJw hlt] at h6
     simp only[qNq,fY,ne_eq]
     intro e;rw[e] at h6;exact absurd h6 (by decide))
    exact qZp k _ x hb2.2 (by omega) h4
   ·split at h4
    ·rename_i h0
     obtain rfl:=Sum.inl.inj h4
     exact⟨by simp only;omega,by simp only;omega,h0⟩
    ·rename_i h0
     obtain⟨b,hb1,hb2,hb3,hk⟩:=zDb hlt (by simpa using h0)
     rw[hb1,jL] at h4
     cases hG:tokG k s b with
     |inl y=>rw[hG] at h4;obtain rfl:=Sum.inl.inj h4;exact qZp k b y hb3 (by omega) hG
     |inr q=>rw[hG] at h4;cases h4
end
section
open Go Go.Dc
theorem qTu{p:UInt8→Bool}(h:((List.range 256).all fun n=>p (UInt8.ofNat n))=true)(c:UInt8):p c=true:=by
 have:=k0.1 h c.toNat (fN.2 c.toNat_lt)
 simpa using this
theorem qVq{N:Nat}(c:UInt8):qEt N (c.toNat:Int)=some (kd c==1):=by
 have h:=qTu (p:=fun c=>(decide (97≤c.toNat)&&decide (c.toNat≤122))==(kd c==1)) (by kernel_rfl) c
 rw[kA] at h
 rw[←h]
 unfold qEt
 by_cases h1:97≤c.toNat
 ·rw[if_pos (by simp only[jA];omega)]
  simp only[h1,decide_true,gO,j0]
  congr 1
  exact decide_eq_decide.2 (by omega)
 ·rw[if_neg (by simp only[jA];omega)]
  simp[h1]
theorem qSt{N:Nat}(c:UInt8):qEk N (c.toNat:Int)=some (inK [1,2,3] c):=by
 have h:=qTu (p:=fun c=>(kd c==1||(decide (48≤c.toNat)&&decide (c.toNat≤57)||decide (c.toNat=95)))==inK [1,2,3] c) (by kernel_rfl) c
 rw[kA] at h
 rw[←h]
 unfold qEk
 rw[qVq]
 simp only[j0]
 cases kd c==1
 ·have e95:((c.toNat:Int)==95)=decide (c.toNat=95):=by rw[kE,kA,jA];omega
  simp only[jB,jG,kY,e95]
  by_cases h1:48≤c.toNat
  ·by_cases h2:c.toNat≤57
   ·rw[if_pos (by simp only[jA];omega),if_pos (by simp only[jA];omega)];simp[h1,h2]
   ·rw[if_pos (by simp only[jA];omega),if_neg (by simp only[jA];omega)];simp[h2]
  ·rw[if_neg (by simp only[jA];omega)];simp[h1]
 ·rfl
theorem qWm(c:UInt8):kd c=2↔48≤c.toNat∧c.toNat≤57:=by
 have h:=qTu (p:=fun c=>(kd c==2)==(decide (48≤c.toNat)&&decide (c.toNat≤57))) (by kernel_rfl) c
 rw[kA,kE] at h
 simpa using h
theorem zBd(c:UInt8):kd c=7↔c=34:=by
 have h:=qTu (p:=fun c=>(kd c==7)==(c==34)) (by kernel_rfl) c
 rw[kA,kE] at h
 simpa using h
def signs:List UInt8:=[59,44,40,41,43,45,42,47,37,60,61]
theorem zEj(c:UInt8):kd c=8↔signs.contains c=true:=by
 have h:=qTu (p:=fun c=>(kd c==8)==signs.contains c) (by kernel_rfl) c
 rw[kA,kE] at h
 simpa using h
theorem zHy(c:UInt8):inK [5] c=true↔c.toNat=32∨c.toNat=9∨c.toNat=10∨c.toNat=13:=by
 have h:=qTu (p:=fun c=>inK [5] c==(decide (c.toNat=32)||(decide (c.toNat=9)||(decide (c.toNat=10)||decide (c.toNat=13))))) (by kernel_rfl) c
 rw[kA,kE] at h
 simpa using h
theorem zCy(c:UInt8):kd c=6↔c.toNat=35:=by
 have h:=qTu (p:=fun c=>(kd c==6)==decide (c.toNat=35)) (by kernel_rfl) c
 rw[kA,kE] at h
 simpa using h
def numR(n:Int)(c:UInt8):Int:=if n≤9007199254740992 then n*10+((c.toNat:Int)-48) else n
theorem zIa(l:List UInt8)(c:UInt8):(l++[c]).foldl numR 0=numR (l.foldl numR 0) c:=by simp
theorem zKc:∀(n:Nat) (ds:List UInt8),ds.length=n→(∀c∈ds,kd c=2)→0≤ds.foldl numR 0∧ds.foldl numR 0≤90071992547409930∧numL ds=if ds.foldl numR 0>9007199254740992 then 9007199254740993 else ds.foldl numR 0
 |0,ds,h,_=>by obtain rfl:=fD.1 h;simp[numL]
 |n+1,ds,h,hd=>by
  obtain⟨l,c,rfl⟩:∃l c,ds=l++[c]:=by
   rcases fJ ds with e|⟨l,c,e⟩
   ·rw[e] at h;cases h
   ·exact⟨l,c,by simpa using e⟩
  obtain⟨h1,h2,h3⟩:=zKc n l (by simpa using h) (fun c hc=>hd c (k8 _ hc))
  have hc:=zKk c (hd c (by simp))
  rw[zIa,zIs]
  by_cases hu:l.foldl numR 0≤9007199254740992
  ·rw[if_neg (by omega)] at h3
   rw[h3]
   generalize l.foldl numR 0=u at h1 h2 hu
   have e1:numR u c=u*10+((c.toNat:Int)-48):=if_pos hu
   rw[e1]
   unfold numS
   refine⟨by omega,by omega,?_⟩
   by_cases h4:9007199254740993<10*u+((c.toNat:Int)-48)
   ·rw[if_pos h4,if_pos (by omega)]
   ·rw[if_neg h4]
    by_cases h5:u*10+((c.toNat:Int)-48)>9007199254740992
    ·rw[if_pos h5];omega
    ·rw[if_neg h5];omega
  ·rw[if_pos (by omega)] at h3
   rw[h3]
   generalize l.foldl numR 0=u at h1 h2 hu
   have e1:numR u c=u:=if_neg hu
   have e2:numS 9007199254740993 c=9007199254740993:=if_pos (by omega)
   rw[e1,e2,if_pos (by omega)]
   exact⟨h1,h2,rfl⟩
theorem inK2(c:UInt8):inK [2] c=decide (48≤c.toNat∧c.toNat≤57):=by
 rw[kE,jA,←qWm];simp[inK]
theorem qVt{N:Nat}{s:ByteArray}:∀(d i M:Nat) (n:Int),i+d=s.data.toList.length→s.data.toList.length<1000000→d<M→0≤n→n≤90071992547409930→
  qAq (qFb N s) M ((i:Int),n)=some (((tw (inK [2]) s.data.toList i:Nat):Int),((s.data.toList.drop i).takeWhile (inK [2])).foldl numR n)
 |d,i,0,n,_,_,h,_,_=>by omega
 |0,i,M+1,n,h1,hl,h2,h3,h4=>by
  have hs:=qCx s
  rw[zJe (by omega),jR (by omega)]
  simp only[qAq,qFb]
  rw[if_neg (by simp only[jA];omega)]
  rfl
 |d+1,i,M+1,n,h1,hl,h2,h3,h4=>by
  have hs:=qCx s
  have hi:i<s.data.toList.length:=by omega
  simp only[qAq,qFb]
  rw[if_pos (by simp only[jA];omega),qFy hi]
  simp only[j0]
  have hc:(if decide (((s.data.toList[i]).toNat:Int)≥48)=true then some (decide (((s.data.toList[i]).toNat:Int)≤57)) else some false)=some (inK [2] (s.data.toList[i])):=by
   rw[inK2]
   by_cases h48:48≤(s.data.toList[i]).toNat
   ·rw[if_pos (by simp only[jA];omega)];congr 1;exact decide_eq_decide.2 (by omega)
   ·rw[if_neg (by simp only[jA];omega)];congr 1;exact(jQ (by omega)).symm
  rw[hc]
  simp only[j0]
  rw[jP hi]
  cases hb:inK [2] (s.data.toList[i]) with
  |false=>
   rw[qVo hi hb,gT (by rw[hb];exact gG)]
   rfl
  |true=>
   have hd:48≤(s.data.toList[i]).toNat∧(s.data.toList[i]).toNat≤57:=by rw[inK2] at hb;simpa using hb
   rw[←qVx hi hb,gI hb,gY,if_pos rfl]
   have hn:(if decide (n≤9007199254740992)=true then some (IntKind.wrap .i64 (IntKind.wrap .i64 (n*10)+IntKind.wrap .i64 (IntKind.wrap .u8 (((s.data.toList[i]).toNat:Int)-48)))) else some n)=some (numR n (s.data.toList[i])):=by
    unfold numR
    by_cases hn:n≤9007199254740992
    ·rw[if_pos (by simpa using hn),if_pos hn,wu8 (by omega) (by omega),wi64 (x:=n*10) (by omega) (by omega),wi64 (x:=((s.data.toList[i]).toNat:Int)-48) (by omega) (by omega),wi64 (by omega) (by omega)]
    ·rw[if_neg (by simpa using hn),if_neg hn]
   rw[hn]
   simp only[j0]
   rw[wi64 (by omega) (by omega),←gU]
   exact qVt d (i+1) M _ (by omega) hl (by omega) (by unfold numR;split<;>omega) (by unfold numR;split<;>omega)
theorem zEg(c:UInt8):(if decide ((c.toNat:Int)≥32)=true then(if decide ((c.toNat:Int)≤126)=true then some ((c.toNat:Int) !=34) else some false) else some false)=some (qVe c):=by
 unfold qVe
 by_cases h1:32≤c.toNat
 ·rw[if_pos (by simp only[jA];omega)]
  by_cases h2:c.toNat≤126
  ·rw[if_pos (by simp only[jA];omega)]
   simp only[h1,h2,decide_true,gO]
   congr 1
   rw[kE,fY,fY]
   exact⟨fun h e=>h (by rw[e];rfl),fun h e=>h (UInt8.toNat_inj.1 (by show _=34;omega))⟩
  ·rw[if_neg (by simp only[jA];omega)];simp[h2]
 ·rw[if_neg (by simp only[jA];omega)];simp[h1]
theorem qZu{N:Nat}{s:ByteArray}(d i M:Nat)(h1:i+d=s.data.toList.length)(hl:s.data.toList.length<1000000)(h2:d<M):qAq (qDq N s) M (i:Int)=some ((tw qVe s.data.toList i:Nat):Int):=by
 have hs:=qCx s
 refine qTh (f:=qDq N s) (l:=s.data.toList) (p:=qVe) (fun e=>(e:Int)) (fun j hj hb=> ?_) (fun j hj hb=> ?_) ?_ d i M h1 h2
 ·simp only[qDq]
  rw[if_pos (by simp only[jA];omega),qFy hj]
  simp only[j0,zEg,hb]
  rw[if_pos trivial,wi64 (by omega) (by omega)]
 ·simp only[qDq]
  rw[if_pos (by simp only[jA];omega),qFy hj]
  simp only[j0,zEg,hb]
  rfl
 ·simp only[qDq]
  rw[if_neg (by simp only[jA];omega)]
  rfl
theorem zLx{N:Nat}{s:ByteArray}{p1 s6:Int}:qGq N s p1 s6=if(decide (s6<(signs.length:Int)))=true then((idx signs s6).bind fun x12=>(idxB s p1).bind fun x13=>if((x13.toNat:Int)==(x12.toNat:Int))=true then((subB s p1 (IntKind.wrap .i64 (p1+1))).bind fun s7=>some (.inr (.inr (((4,s7,0,p1),IntKind.wrap .i64 (p1+1),0))))) else(some (.inl (IntKind.wrap .i64 (s6+1))))) else(some (.inr (.inl ()))):=rfl
theorem qTw{N:Nat}{s:ByteArray}{i:Nat}(hi:i<s.data.toList.length)(hl:s.data.toList.length<1000000):∀(d j M:Nat),j+d=signs.length→d<M→
  qAq (qGq N s (i:Int)) M (j:Int)=some (if(signs.drop j).contains (s.data.toList[i])=true then .inr ((4,s.extract i (i+1),0,(i:Int)),((i+1:Nat):Int),0) else .inl ())
 |d,j,0,_,h=>by omega
 |0,j,M+1,h1,h2=>by
  simp only[qAq,zLx]
  rw[if_neg (by simp only[jA];omega),jR (by omega)]
  rfl
 |d+1,j,M+1,h1,h2=>by
  have hj:j<signs.length:=by omega
  have hls:signs.length=11:=rfl
  simp only[qAq,zLx]
  rw[if_pos (by simp only[jA];omega),qDf hj,qFy hi,jP hj]
  simp only[j0,List.contains_cons]
  by_cases he:s.data.toList[i]=signs[j]
  ·rw[if_pos (by rw[he];exact kS _),wi64 (x:=(i:Int)+1) (by omega) (by omega),←gU,qSm (by omega) (by omega)]
   simp only[j0]
   rw[if_pos (by rw[he];simp)]
  ·have hne:¬((s.data.toList[i]).toNat:Int)=((signs[j]).toNat:Int):=fun h=>he (UInt8.toNat_inj.1 (by omega))
   have hne2:(s.data.toList[i]==signs[j])=false:=beq_eq_false_iff_ne.2 he
   rw[if_neg (by simpa using hne),wi64 (by omega) (by omega),←gU]
   simp only[j0,hne2,kY]
   exact qTw hi hl d (j+1) M (by omega) (by omega)
def refP(s:ByteArray)(i:Nat):(Int×ByteArray×Int×Int)×Int×Int:=
 if(tokP s i).2.2=0 then(((tokP s i).1.1,(tokP s i).1.2.1,(tokP s i).1.2.2.1,(i:Int)),(tokP s i).2.1,0) else tokP s i
theorem zDd{N:Nat}{s:ByteArray}{i:Nat}(hi:i<s.data.toList.length)(hl:s.data.toList.length<1000000)(hN:s.data.toList.length+20<N):qHz N s (i:Int)=some (refP s i):=by
 have hs:=qCx s
 simp only[qHz,qFy hi,j0,qVq,refP,tokP,qJw hi,kA]
 by_cases h1:kd (s.data.toList[i])=1
 ·simp only[h1,jH]
  have hb:=qSv (p:=inK [1,2,3]) (l:=s.data.toList) (a:=i) (by omega)
  have key:=qTh (f:=qEc N s) (l:=s.data.toList) (p:=inK [1,2,3]) (fun e=>(e:Int)) (fun j hj hb=>by
   simp only[qEc]
   rw[if_pos (by simp only[jA];omega),qFy hj]
   simp only[j0,qSt,hb]
   rw[if_pos trivial,wi64 (by omega) (by omega)]) (fun j hj hb=>by
   simp only[qEc]
   rw[if_pos (by simp only[jA];omega),qFy hj]
   simp only[j0,qSt,hb]
   rfl) (by
   simp only[qEc]
   rw[if_neg (by simp only[jA];omega)]
   rfl) (s.data.toList.length-i) i N (by omega) (by omega)
  rw[key]
  simp only[j0]
  rw[wi64 (by omega) (by omega),qSm hb.1 hb.2]
  by_cases h:tw (inK [1,2,3]) s.data.toList i-i>24
  ·rw[if_pos (by simp only[jA];omega),if_pos h];rfl
  ·rw[if_neg (by simp only[jA];omega),if_neg h];rfl
 simp only[h1,jG]
 by_cases h2:kd (s.data.toList[i])=2
 ·simp only[h2,jH]
  have hd:=(qWm _).1 h2
  rw[if_pos (by simp only[jA];omega)]
  simp only[j0]
  obtain⟨n1,n2,n3⟩:=zKc _ _ rfl (fun c (hc:c∈(s.data.toList.drop i).takeWhile (inK [2]))=>by simpa[inK] using zJq hc)
  rw[if_pos (by simp only[jA];omega),qVt (s.data.toList.length-i) i N 0 (by omega) hl (by omega) (by omega) (by omega),n3]
  simp only[j0,jA]
  generalize ((s.data.toList.drop i).takeWhile (inK [2])).foldl numR 0=u at n1 n2
  by_cases h4:u>9007199254740992
  ·simp[h4,zDi]
  ·simp[h4]
 simp only[h2,jG]
 have hnd:¬(48≤(s.data.toList[i]).toNat∧(s.data.toList[i]).toNat≤57):=fun h=>h2 ((qWm _).2 h)
 have hdig:(if decide (((s.data.toList[i]).toNat:Int)≥48)=true then some (decide (((s.data.toList[i]).toNat:Int)≤57)) else some false)=some false:=by
  by_cases h48:48≤(s.data.toList[i]).toNat
  ·rw[if_pos (by simp only[jA];omega)];congr 1;rw[decide_eq_false_iff_not];omega
  ·rw[if_neg (by simp only[jA];omega)]
 rw[hdig]
 simp only[j0,jB,jG]
 by_cases h7:kd (s.data.toList[i])=7
 ·have hc:s.data.toList[i]=34:=(zBd _).1 h7
  simp only[h7,jH]
  rw[if_pos (by rw[hc];rfl),wi64 (x:=(i:Int)+1) (by omega) (by omega),←gU]
  have hb:=qSv (p:=qVe) (l:=s.data.toList) (a:=i+1) (by omega)
  rw[qZu (s.data.toList.length-(i+1)) (i+1) N (by omega) hl (by omega)]
  simp only[j0]
  generalize tw qVe s.data.toList (i+1)=e at hb
  by_cases he:e=s.data.toList.length
  ·rw[if_pos (by omega)]
   have:¬s.data.toList.getD e 0=34:=fun h=>by have:=qSd (l:=s.data.toList) (i:=e) (by rw[h];decide);omega
   rw[if_neg this]
   rfl
  ·have hlt:e<s.data.toList.length:=by omega
   rw[if_neg (by omega),qFy hlt,qJw hlt]
   simp only[j0]
   by_cases h34:s.data.toList[e]=34
   ·rw[if_pos h34,if_neg (by rw[h34];decide),qSm hb.1 hb.2]
    simp only[j0,jH]
    rw[wi64 (by omega) (by omega),←gU]
   ·have h34':¬((s.data.toList[e]).toNat:Int)=34:=fun h=>h34 (UInt8.toNat_inj.1 (by show _=34;omega))
    rw[if_neg h34,if_pos (by simpa using h34')]
    simp[zDi]
 have h34':¬((s.data.toList[i]).toNat:Int)=34:=fun h=>h7 ((zBd _).2 (UInt8.toNat_inj.1 (by show _=34;omega)))
 simp only[h7,jG,h34']
 have ho:(if((s.data.toList[i]).toNat:Int)=61 then(if decide (IntKind.wrap .i64 ((i:Int)+1)<(s.size:Int))=true then((idxB s (IntKind.wrap .i64 ((i:Int)+1))).bind fun x11=>some ((x11.toNat:Int)==61)) else some false) else some false)=some (decide (s.data.toList.getD i 0=61∧s.data.toList.getD (i+1) 0=61)):=by
  rw[qJw hi]
  by_cases h61:s.data.toList[i]=61
  ·rw[if_pos (by rw[h61];rfl),wi64 (by omega) (by omega),←gU]
   by_cases hlt:i+1<s.data.toList.length
   ·rw[if_pos (by simp only[jA];omega),qFy hlt,qJw hlt]
    simp only[j0]
    congr 1
    rw[kE,kA,jA]
    exact⟨fun h=>⟨h61,UInt8.toNat_inj.1 (by show _=61;omega)⟩,fun h=>by rw[h.2];rfl⟩
   ·rw[if_neg (by simp only[jA];omega)]
    congr 1
    refine(jQ fun h=> ?_).symm
    have:=qSd (l:=s.data.toList) (i:=i+1) (by rw[h.2];decide)
    omega
  ·rw[if_neg (fun h=>h61 (UInt8.toNat_inj.1 (by show _=61;omega)))]
   congr 1
   exact(jQ fun h=>h61 h.1).symm
 rw[ho]
 simp only[j0,jA]
 by_cases h61:s.data.toList.getD i 0=61∧s.data.toList.getD (i+1) 0=61
 ·have hlt:i+1<s.data.toList.length:=qSd (by rw[h61.2];decide)
  have h8:kd (s.data.toList[i])=8:=by rw[←qJw hi,h61.1];kernel_rfl
  have hE:zAu s.data.toList i=i+2:=by rw[zAu,if_pos h61]
  have hx:s.extract i (i+2)=(⟨#[61,61]⟩:ByteArray):=by
   apply Go.WideShapes.bytes_inj
   simp only[ByteArray.data_extract,Array.toList_extract,fO]
   rw[jP hi,jP hlt,←qJw hi,←qJw hlt,h61.1,h61.2,show i+2-i=2 by omega]
   rfl
  simp only[h61,and_self,jH,h8,hE,hx]
  rw[wi64 (by omega) (by omega)]
  simp
 ·have hE:zAu s.data.toList i=i+1:=by rw[zAu,if_neg h61]
  have key:=qTw (N:=N) hi hl 11 0 N rfl (by omega)
  rw[show((0:Nat):Int)=0 from rfl] at key
  rw[if_neg h61,key]
  by_cases h8:kd (s.data.toList[i])=8
  ·have:=(zEj _).1 h8
   simp only[h8,jH,k7,this,j0,hE]
  ·have:¬signs.contains (s.data.toList[i])=true:=fun h=>h8 ((zEj _).2 h)
   simp only[h8,jG,k7,this,j0]
   simp[zDi]
end
section
open Go Go.Dc
def qLy:Nat→List UInt8→Nat→Nat
 |0,_,i=>i
 |k+1,l,i=>
  if tw (inK [5]) l i=l.length then l.length
  else if kd (l.getD (tw (inK [5]) l i) 0)=6 then qLy k l (tw qNq l (tw (inK [5]) l i))
  else tw (inK [5]) l i
theorem zGf{N:Nat}{s:ByteArray}{i:Nat}(hi:i≤s.data.toList.length)(hl:s.data.toList.length<1000000)(hN:s.data.toList.length+10<N):qAq (qDw N s) N (i:Int)=some ((tw qNq s.data.toList i:Nat):Int):=by
 have hs:=qCx s
 have hn:∀c:UInt8,((c.toNat:Int) !=10)=qNq c:=fun c=>by
  rw[kE,fY,qNq,fY]
  exact⟨fun h e=>h (by rw[e];rfl),fun h e=>h (UInt8.toNat_inj.1 (by show _=10;omega))⟩
 refine qTh (f:=qDw N s) (l:=s.data.toList) (p:=qNq) (fun e=>(e:Int)) (fun j hj hb=> ?_) (fun j hj hb=> ?_) ?_ (s.data.toList.length-i) i N (by omega) (by omega)
 ·simp only[qDw]
  rw[if_pos (by simp only[jA];omega),qFy hj]
  simp only[j0,hn,hb]
  rw[if_pos trivial,wi64 (by omega) (by omega)]
 ·simp only[qDw]
  rw[if_pos (by simp only[jA];omega),qFy hj]
  simp only[j0,hn,hb]
  rfl
 ·simp only[qDw]
  rw[if_neg (by simp only[jA];omega)]
  rfl
theorem zFl{s:ByteArray}{i:Nat}(hi:i<s.data.toList.length):((idxB s (i:Int)).bind fun x1=>if((x1.toNat:Int)==32)=true then(some true) else((idxB s (i:Int)).bind fun x2=>if((x2.toNat:Int)==9)=true then(some true) else((idxB s (i:Int)).bind fun x3=>if((x3.toNat:Int)==10)=true then(some true) else((idxB s (i:Int)).bind fun x4=>some ((x4.toNat:Int)==13)))))=some (inK [5] (s.data.toList[i])):=by
 simp only[qFy hi,j0,kA]
 generalize s.data.toList[i]=c
 have hb:=zHy c
 by_cases h1:(c.toNat:Int)=32
 ·rw[if_pos h1,hb.2 (by omega)]
 rw[if_neg h1]
 by_cases h2:(c.toNat:Int)=9
 ·rw[if_pos h2,hb.2 (by omega)]
 rw[if_neg h2]
 by_cases h3:(c.toNat:Int)=10
 ·rw[if_pos h3,hb.2 (by omega)]
 rw[if_neg h3]
 congr 1
 rw[kE,kA,hb]
 omega
theorem zFy{N:Nat}{s:ByteArray}{i:Nat}(hi:i<s.data.toList.length)(hl:s.data.toList.length<1000000)(hN:s.data.toList.length+10<N):
  qEm N s (i:Int)=some (if inK [5] (s.data.toList[i])=true then .inl (((i+1:Nat)):Int) else if kd (s.data.toList[i])=6 then .inl ((tw qNq s.data.toList i:Nat):Int) else .inr (.inr (i:Int))):=by
 have hs:=qCx s
 simp only[qEm]
 rw[if_pos (by simp only[jA];omega),zFl hi]
 simp only[j0]
 by_cases h5:inK [5] (s.data.toList[i])=true
 ·rw[if_pos h5,if_pos h5,wi64 (by omega) (by omega),←gU]
 ·rw[if_neg h5,if_neg h5,qFy hi]
  simp only[j0,kA]
  have hc:=zCy (s.data.toList[i])
  by_cases h6:kd (s.data.toList[i])=6
  ·rw[if_pos (by have:=hc.1 h6;omega),if_pos h6,zGf (by omega) hl hN]
   rfl
  ·rw[if_neg (fun h=>h6 (hc.2 (by omega))),if_neg h6]
theorem qVn{N:Nat}{s:ByteArray}(hl:s.data.toList.length<1000000)(hN:s.data.toList.length+10<N):∀(d i k M:Nat),i+d=s.data.toList.length→d<k→d<M→∃z,qAq (qEm N s) M (i:Int)=some z∧(z= .inl ((qLy k s.data.toList i:Nat):Int)∨z= .inr ((qLy k s.data.toList i:Nat):Int))
 |d,i,k,0,_,_,h=>by omega
 |d,i,0,M,_,h,_=>by omega
 |0,i,k+1,M+1,h1,h2,h3=>by
  have hs:=qCx s
  refine⟨.inl ((s.data.toList.length:Nat):Int),?_,.inl ?_⟩
  ·simp only[qAq,qEm]
   rw[if_neg (by simp only[jA];omega)]
   simp only[j0]
   congr 2;omega
  ·simp only[qLy]
   rw[zJe (by omega),if_pos (by omega)]
 |d+1,i,k+1,M+1,h1,h2,h3=>by
  have hs:=qCx s
  have hi:i<s.data.toList.length:=by omega
  simp only[qAq]
  rw[zFy hi hl hN]
  simp only[j0]
  cases h5:inK [5] (s.data.toList[i]) with
  |true=>
   rw[if_pos rfl]
   have:=qVn hl hN d (i+1) (k+1) M (by omega) (by omega) (by omega)
   simp only[qLy,qVx hi h5] at this ⊢
   exact this
  |false=>
   rw[if_neg gG]
   by_cases h6:kd (s.data.toList[i])=6
   ·have hsk:qLy (k+1) s.data.toList i=qLy k s.data.toList (tw qNq s.data.toList i):=by
     simp only[qLy,qVo hi h5,qJw hi,h6,jH]
     rw[if_neg (by omega)]
    rw[hsk,if_pos h6]
    have hb2:=qSv (p:=qNq) (l:=s.data.toList) (a:=i) (by omega)
    have hpos:=qYg (p:=qNq) hi (by
     simp only[qNq,fY,ne_eq]
     intro e;rw[e] at h6;exact absurd h6 (by decide))
    exact qVn hl hN (s.data.toList.length-tw qNq s.data.toList i) _ k M (by omega) (by omega) (by omega)
   ·have hsk:qLy (k+1) s.data.toList i=i:=by
     simp only[qLy,qVo hi h5,qJw hi,h6,jG]
     rw[if_neg (by omega)]
    rw[hsk,if_neg h6]
    exact⟨_,rfl,.inr rfl⟩
theorem zHz{N:Nat}{s:ByteArray}{i k:Nat}(hi:i≤s.data.toList.length)(hl:s.data.toList.length<1000000)(hN:s.data.toList.length+10<N)(hk:s.data.toList.length<i+k):qHe N s (i:Int)=some ((qLy k s.data.toList i:Nat):Int):=by
 obtain⟨z,h1,h2⟩:=qVn hl hN (s.data.toList.length-i) i k N (by omega) (by omega) (by omega)
 unfold qHe
 rw[h1]
 rcases h2 with rfl|rfl<;>rfl
theorem zBe{s:ByteArray}:∀(k i:Nat),i≤s.data.toList.length→s.data.toList.length<i+k→i≤qLy k s.data.toList i∧qLy k s.data.toList i≤s.data.toList.length∧
  (qLy k s.data.toList i=s.data.toList.length→tokG k s i= .inr [(5,⟨#[]⟩,0,(s.data.toList.length:Int))])∧
  (qLy k s.data.toList i<s.data.toList.length→∃k',(∀b,qLy k s.data.toList i<b→s.data.toList.length<b+k')∧tokG k s i=
   if(tokP s (qLy k s.data.toList i)).2.2≠0 then .inl ((qLy k s.data.toList i:Nat),(tokP s (qLy k s.data.toList i)).2.2)
   else match tokG k' s (tokP s (qLy k s.data.toList i)).2.1.toNat with
    | .inl x=> .inl x
    | .inr r=> .inr (((tokP s (qLy k s.data.toList i)).1.1,(tokP s (qLy k s.data.toList i)).1.2.1,(tokP s (qLy k s.data.toList i)).1.2.2.1,((qLy k s.data.toList i:Nat):Int))::r))
 |0,i,h1,h2=>by omega
 |k+1,i,h1,h2=>by
  have hb:=qSv (p:=inK [5]) (l:=s.data.toList) (a:=i) h1
  simp only[qLy,tokG]
  by_cases he:tw (inK [5]) s.data.toList i=s.data.toList.length
  ·simp only[he,jH]
   exact⟨h1,jK _,fun _=>trivial,fun h=>absurd h (Nat.lt_irrefl _)⟩
  simp only[he,jG]
  have hlt:tw (inK [5]) s.data.toList i<s.data.toList.length:=by omega
  by_cases h6:kd (s.data.toList.getD (tw (inK [5]) s.data.toList i) 0)=6
  ·simp only[h6,jH]
   have hb2:=qSv (p:=qNq) (l:=s.data.toList) (a:=tw (inK [5]) s.data.toList i) (by omega)
   have hpos:=qYg (p:=qNq) hlt (by
    rw[qJw hlt] at h6
    simp only[qNq,fY,ne_eq]
    intro e;rw[e] at h6;exact absurd h6 (by decide))
   obtain⟨g1,g2,g3,g4⟩:=zBe k (tw qNq s.data.toList (tw (inK [5]) s.data.toList i)) hb2.2 (by omega)
   exact⟨by omega,g2,g3,g4⟩
  ·simp only[h6,jG]
   exact⟨hb.1,hb.2,fun h=>absurd h he,fun _=>⟨k,fun b hb'=>by omega,rfl⟩⟩
theorem qRl{N:Nat}{s:ByteArray}(hl:s.data.toList.length≤16384)(hN:s.data.toList.length+40<N):∀(d i k M:Nat) (acc:List Tok),i+d=s.data.toList.length→d<M→s.data.toList.length<i+k→acc.length≤i→
  ∃z,qAq (qFx N s) M (acc,((qLy k s.data.toList i:Nat):Int))=some z∧((∃o,z= .inl o∧o.length≤s.data.toList.length∧zCw acc (tokG k s i)=(o++[(5,⟨#[]⟩,0,(s.size:Int))],0,0))∨z= .inr (zCw acc (tokG k s i)))
 |d,i,k,0,acc,_,h,_,_=>by omega
 |d,i,k,M+1,acc,h1,h2,h3,h4=>by
  have hs:=qCx s
  obtain⟨g1,g2,g3,g4⟩:=zBe (s:=s) k i (by omega) h3
  generalize hA:qLy k s.data.toList i=a at g1 g2 g3 g4
  simp only[qAq,qFx]
  by_cases he:a=s.data.toList.length
  ·refine⟨.inl acc,?_,.inl ⟨acc,rfl,by omega,?_⟩⟩
   ·rw[if_neg (by simp only[jA];omega)]
    rfl
   ·rw[g3 he,←hs];rfl
  ·have hlt:a<s.data.toList.length:=by omega
   obtain⟨k',g5,g6⟩:=g4 hlt
   rw[if_pos (by simp only[jA];omega),zDd hlt (by omega) (by omega)]
   simp only[j0,refP]
   by_cases h0:(tokP s a).2.2=0
   ·obtain⟨e,he1,he2,he3,_⟩:=zDb hlt h0
    rw[if_pos h0]
    simp only[hY,jB,jG]
    rw[qDe (by simp only[jC,jE];omega) (by omega),he1]
    simp only[j0]
    rw[zHz (k:=k') he3 (by omega) (by omega) (g5 e he2)]
    simp only[j0]
    obtain⟨z,hz1,hz2⟩:=qRl hl hN (s.data.toList.length-e) e k' M (acc++[((tokP s a).1.1,(tokP s a).1.2.1,(tokP s a).1.2.2.1,(a:Int))]) (by omega) (by omega) (g5 e he2) (by simp;omega)
    have hj:zCw acc (tokG k s i)=zCw (acc++[((tokP s a).1.1,(tokP s a).1.2.1,(tokP s a).1.2.2.1,(a:Int))]) (tokG k' s e):=by
     rw[g6,if_neg (by simp[h0]),he1,jL]
     cases tokG k' s e with
     |inl x=>rfl
     |inr r=>simp[zCw]
    rw[hj]
    exact⟨z,hz1,hz2⟩
   ·rw[if_neg h0]
    have hb:((tokP s a).2.2 !=0)=true:=by simpa using h0
    simp only[hb,jH,j0]
    refine⟨_,rfl,.inr ?_⟩
    rw[g6,if_pos h0]
    rfl
theorem zAe{N:Nat}{s:ByteArray}(hN:20000<N):qHk N s=some (qIx s):=by
 have hs:=qCx s
 unfold qHk qIx
 by_cases h:s.data.toList.length>16384
 ·rw[if_pos (by simp only[jA];omega),if_pos h]
 ·rw[if_neg (by simp only[jA];omega),if_neg h]
  have h1:=zHz (N:=N) (s:=s) (i:=0) (k:=s.data.toList.length+1) (by omega) (by omega) (by omega) (by omega)
  rw[show((0:Nat):Int)=0 from rfl] at h1
  rw[h1]
  simp only[j0]
  obtain⟨z,hz1,hz2⟩:=qRl (N:=N) (s:=s) (by omega) (by omega) s.data.toList.length 0 (s.data.toList.length+1) N [] (by omega) (by omega) (by omega) (by simp)
  rw[hz1]
  rcases hz2 with ⟨o,rfl,ho,hj⟩|rfl
  ·simp only[j0]
   rw[qDe (by simp only[jC,jE];omega) (by omega),hj]
   rfl
  ·rfl
end
section
open Go Go.Dc
def qTl(s:ByteArray):Bool:=decide (1≤s.data.toList.length∧s.data.toList.length≤24∧kd (s.data.toList.getD 0 0)=1∧tw (inK [1,2,3]) s.data.toList 0=s.data.toList.length)
theorem qPi{s:ByteArray}(h:¬(1≤s.data.toList.length∧s.data.toList.length≤24∧kd (s.data.toList.getD 0 0)=1∧tw (inK [1,2,3]) s.data.toList 0=s.data.toList.length)):false=qTl s:=(jQ h).symm
theorem zJv{s:ByteArray}(h:1≤s.data.toList.length∧s.data.toList.length≤24∧kd (s.data.toList.getD 0 0)=1∧tw (inK [1,2,3]) s.data.toList 0=s.data.toList.length):true=qTl s:=(jU h).symm
theorem zHm{N:Nat}{s:ByteArray}(hN:100<N):qNf N s=some (qTl s):=by
 have hs:=qCx s
 simp only[qNf,zDp (show 30<N by omega),j0]
 by_cases h1:1≤s.data.toList.length
 ·by_cases h2:s.data.toList.length≤24
  ·rw[if_pos (by simp only[jA];omega),if_pos (by simp only[jA];omega)]
   have hi:=qFy (s:=s) (i:=0) (by omega)
   rw[show((0:Nat):Int)=0 from rfl] at hi
   rw[hi]
   simp only[j0,kd_def,kA]
   have hsp:=zIr (N:=N) (s:=s) (ks:=[1,2,3]) (i:=0) (by omega) (by omega) (by simp) (by omega)
   rw[show((0:Nat):Int)=0 from rfl] at hsp
   by_cases h3:kd (s.data.toList[0])=1
   ·rw[if_pos h3,hsp]
    simp only[j0]
    congr 1
    rw[kE,kA,qTl,jA,qJw (by omega)]
    exact⟨fun h=>⟨h1,h2,h3,by omega⟩,fun h=>by have:=h.2.2.2;omega⟩
   ·rw[if_neg h3]
    refine congrArg some (qPi fun h=> ?_)
    rw[qJw (by omega)] at h
    exact h3 h.2.2.1
  ·rw[if_pos (by simp only[jA];omega),if_neg (by simp only[jA];omega)]
   exact congrArg some (qPi fun h=>h2 h.2.1)
 ·rw[if_neg (by simp only[jA];omega)]
  exact congrArg some (qPi fun h=>h1 h.1)
theorem zFq{N:Nat}{s:ByteArray}(hN:100<N):qHg N s=some (qTl s):=by
 have hs:=qCx s
 simp only[qHg]
 by_cases h1:1≤s.data.toList.length
 ·by_cases h2:s.data.toList.length≤24
  ·rw[if_neg (by simp only[jA];omega),if_neg (by simp only[jA];omega)]
   have hi:=qFy (s:=s) (i:=0) (by omega)
   rw[show((0:Nat):Int)=0 from rfl] at hi
   rw[hi]
   simp only[j0,qVq]
   by_cases h3:kd (s.data.toList[0])=1
   ·rw[h3,if_neg (by simp)]
    have key:=qTh (f:=qEi N s) (l:=s.data.toList) (p:=inK [1,2,3]) (fun e=>if e=s.data.toList.length then .inl () else .inr false) (fun j hj hb=>by
     simp only[qEi]
     rw[if_pos (by simp only[jA];omega),qFy hj]
     simp only[j0,qSt,hb]
     rw[wi64 (by omega) (by omega)]
     rfl) (fun j hj hb=>by
     simp only[qEi]
     rw[if_pos (by simp only[jA];omega),qFy hj]
     simp only[j0,qSt,hb]
     rw[if_neg (show ¬j=s.data.toList.length by omega)]
     rfl) (by
     simp only[qEi]
     rw[if_neg (by simp only[jA];omega)]
     simp) s.data.toList.length 0 N (by omega) (by omega)
    rw[show((0:Nat):Int)=0 from rfl] at key
    rw[key]
    simp only[j0]
    by_cases h4:tw (inK [1,2,3]) s.data.toList 0=s.data.toList.length
    ·rw[if_pos h4]
     exact congrArg some (zJv ⟨h1,h2,by rw[qJw (by omega)];exact h3,h4⟩)
    ·rw[if_neg h4]
     exact congrArg some (qPi fun h=>h4 h.2.2.2)
   ·rw[if_pos (by rw[Bool.not_eq_true',beq_eq_false_iff_ne];exact h3)]
    refine congrArg some (qPi fun h=> ?_)
    rw[qJw (by omega)] at h
    exact h3 h.2.2.1
  ·rw[if_neg (by simp only[jA];omega),if_pos (by simp only[jA];omega)]
   simp only[j0,jH]
   exact congrArg some (qPi fun h=>h2 h.2.1)
 ·rw[if_pos (by simp only[jA];omega)]
  simp only[j0,jH]
  exact congrArg some (qPi fun h=>h1 h.1)
end
section
open Go Go.Dc
def sp:List UInt8→List (List UInt8)
 |[]=>[[]]
 |c::l=>if c=47 then[]::sp l else match sp l with
  |[]=>[[c]]
  |p::q=>(c::p)::q
theorem zFf:∀l:List UInt8,sp l≠[]
 |[]=>by simp[sp]
 |c::l=>by
  simp only[sp]
  split
  ·simp
  ·split<;>simp
theorem zJi:∀l:List UInt8,(sp l).length=l.count 47+1
 |[]=>rfl
 |c::l=>by
  simp only[sp]
  split
  ·rename_i h;subst h;simp[zJi l]
  ·rename_i h
   have:=zJi l
   split
   ·rename_i e;exact absurd e (zFf l)
   ·rename_i e
    rw[e] at this
    simp only[jC] at this ⊢
    rw[List.count_cons_of_ne h,←this]
def qMt(c:UInt8):Bool:=c !=47
theorem zIn:∀l:List UInt8,sp l=if(l.takeWhile qMt).length=l.length then[l] else l.takeWhile qMt::sp (l.drop ((l.takeWhile qMt).length+1))
 |[]=>rfl
 |c::l=>by
  have ih:=zIn l
  by_cases h:c=47
  ·subst h
   rw[gT (by decide)]
   simp[sp]
  ·have hc:qMt c=true:=by simpa[qMt] using h
   rw[gI hc]
   simp only[sp,h,jG,ih,jC,Nat.add_right_cancel_iff,List.drop_succ_cons]
   by_cases he:(l.takeWhile qMt).length=l.length
   ·simp[he]
   ·simp[he]
def qXe:Nat→Nat→List UInt8→Option (Nat×Nat)
 |a,b,[]=>some (a,b)
 |a,b,c::l=>if c=47 then(if b=0 then none else qXe (a+1) 0 l) else if inK [1,2,3,4] c=true then(if b+1>24 then none else qXe a (b+1) l) else none
def partOk(p:List UInt8):Prop:=1≤p.length∧p.length≤24∧∀c∈p,inK [1,2,3,4] c=true
theorem qVf:∀(l:List UInt8) (a b:Nat),b≤24→((∃x y,qXe a b l=some (x,y)∧0<y∧x≤8)↔
  ∃p q,sp l=p::q∧1≤b+p.length∧b+p.length≤24∧(∀c∈p,inK [1,2,3,4] c=true)∧(∀r∈q,partOk r)∧a+q.length≤8)
 |[],a,b,hb=>by
  constructor
  ·rintro⟨x,y,h,h1,h2⟩
   simp only[qXe,jI,Prod.mk.injEq] at h
   exact⟨[],[],rfl,by simp;omega,by simpa using hb,by simp,by simp,by simp;omega⟩
  ·rintro⟨p,q,h,h1,h2,_,_,h3⟩
   simp only[sp,kU] at h
   obtain⟨rfl,rfl⟩:=h
   simp only[jE] at h1 h3
   exact⟨a,b,rfl,by omega,by omega⟩
 |c::l,a,b,hb=>by
  by_cases hc:c=47
  ·have hsp:sp (c::l)=[]::sp l:=by simp[sp,hc]
   rw[hsp]
   simp only[qXe,hc,jH]
   by_cases h0:b=0
   ·subst h0
    simp only[jH]
    constructor
    ·rintro⟨x,y,h,_⟩;cases h
    ·rintro⟨p,q,h,h1,_⟩
     simp only[kU] at h
     rw[←h.1] at h1;simp at h1
   ·rw[if_neg h0]
    rw[qVf l (a+1) 0 (by omega)]
    constructor
    ·rintro⟨p,q,h,h1,h2,h3,h4,h5⟩
     refine⟨[],sp l,rfl,by simp;omega,by simpa using hb,by simp,?_,by rw[h];simp only[jC];omega⟩
     intro r hr
     rw[h] at hr
     rcases jM.1 hr with rfl|hr
     ·exact⟨by omega,by omega,h3⟩
     ·exact h4 r hr
    ·rintro⟨p,q,h,h1,h2,h3,h4,h5⟩
     simp only[kU] at h
     obtain⟨rfl,rfl⟩:=h
     obtain⟨p,q,hpq⟩:∃p q,sp l=p::q:=by
      cases he:sp l with
      |nil=>exact absurd he (zFf l)
      |cons p q=>exact⟨p,q,rfl⟩
     rw[hpq] at h4 h5
     obtain⟨g1,g2,g3⟩:=h4 p (jN ..)
     exact⟨p,q,hpq,by omega,by omega,g3,fun r hr=>h4 r (jX _ hr),by simp only[jC] at h5;omega⟩
  ·obtain⟨p0,q0,hpq⟩:∃p q,sp l=p::q:=by
    cases he:sp l with
    |nil=>exact absurd he (zFf l)
    |cons p q=>exact⟨p,q,rfl⟩
   have hsp:sp (c::l)=(c::p0)::q0:=by simp only[sp,hc,jG,hpq]
   rw[hsp]
   simp only[qXe,hc,jG]
   by_cases hk:inK [1,2,3,4] c=true
   ·rw[if_pos hk]
    by_cases h24:b+1>24
    ·rw[if_pos h24]
     constructor
     ·rintro⟨x,y,h,_⟩;cases h
     ·rintro⟨p,q,h,h1,h2,_⟩
      simp only[kU] at h
      rw[←h.1] at h2
      simp only[jC] at h2
      omega
    ·rw[if_neg h24,qVf l a (b+1) (by omega)]
     constructor
     ·rintro⟨p,q,h,h1,h2,h3,h4,h5⟩
      rw[hpq] at h
      simp only[kU] at h
      obtain⟨rfl,rfl⟩:=h
      refine⟨_,_,rfl,by simp only[jC];omega,by simp only[jC];omega,?_,h4,h5⟩
      intro d hd
      rcases jM.1 hd with rfl|hd
      ·exact hk
      ·exact h3 d hd
     ·rintro⟨p,q,h,h1,h2,h3,h4,h5⟩
      simp only[kU] at h
      obtain⟨rfl,rfl⟩:=h
      simp only[jC] at h1 h2
      exact⟨p0,q0,hpq,by omega,by omega,fun d hd=>h3 d (jX _ hd),h4,h5⟩
   ·rw[if_neg hk]
    constructor
    ·rintro⟨x,y,h,_⟩;cases h
    ·rintro⟨p,q,h,h1,h2,h3,_⟩
     simp only[kU] at h
     rw[←h.1] at h3
     exact absurd (h3 c (jN ..)) hk
theorem inK4{N:Nat}(c:UInt8):((qEk N (c.toNat:Int)).bind fun y1=>if y1=true then(some true) else(some ((c.toNat:Int)==46)))=some (inK [1,2,3,4] c):=by
 have h:=qTu (p:=fun c=>(inK [1,2,3] c||decide (c.toNat=46))==inK [1,2,3,4] c) (by kernel_rfl) c
 rw[kA] at h
 rw[←h,qSt]
 simp only[j0]
 have e:((c.toNat:Int)==46)=decide (c.toNat=46):=by rw[kE,kA,jA];omega
 rw[e]
 cases inK [1,2,3] c<;>simp
theorem qQh{N:Nat}{s:ByteArray}(hl:s.data.toList.length<1000000):∀(d i M a b:Nat),i+d=s.data.toList.length→d<M→a≤i+1→b≤24→
  qAq (qFl N s) M ((a:Int),(b:Int),(i:Int))=some (match qXe a b (s.data.toList.drop i) with|some z=> .inl ((z.1:Int),(z.2:Int))|none=> .inr false)
 |d,i,0,_,_,_,h,_,_=>by omega
 |0,i,M+1,a,b,h1,h2,h3,h4=>by
  have hs:=qCx s
  simp only[qAq,qFl]
  rw[if_neg (by simp only[jA];omega),jR (by omega)]
  rfl
 |d+1,i,M+1,a,b,h1,h2,h3,h4=>by
  have hs:=qCx s
  have hi:i<s.data.toList.length:=by omega
  simp only[qAq,qFl]
  rw[if_pos (by simp only[jA];omega),jP hi,qFy hi]
  simp only[j0,inK4,kA,qXe]
  by_cases hc:s.data.toList[i]=47
  ·rw[if_pos (show((s.data.toList[i]).toNat:Int)=47 by rw[hc];rfl),if_pos hc]
   by_cases hb:b=0
   ·rw[if_pos (show(b:Int)=0 by omega),if_pos hb]
    rfl
   ·rw[if_neg (show ¬(b:Int)=0 by omega),if_neg hb,wi64 (x:=(a:Int)+1) (by omega) (by omega)]
    simp only[j0]
    rw[if_neg (by simp),wi64 (by omega) (by omega)]
    have:=qQh (N:=N) hl d (i+1) M (a+1) 0 (by omega) (by omega) (by omega) (by omega)
    exact this
  ·have hc':¬((s.data.toList[i]).toNat:Int)=47:=fun h=>hc (UInt8.toNat_inj.1 (by show _=47;omega))
   rw[if_neg hc',if_neg hc]
   by_cases hk:inK [1,2,3,4] (s.data.toList[i])=true
   ·rw[if_pos hk,if_pos hk,wi64 (x:=(b:Int)+1) (by omega) (by omega)]
    simp only[j0]
    by_cases h24:b+1>24
    ·rw[if_pos (by simp only[jA];omega),if_pos h24]
     rfl
    ·rw[if_neg (by simp only[jA];omega),if_neg h24,wi64 (by omega) (by omega)]
     have:=qQh (N:=N) hl d (i+1) M a (b+1) (by omega) (by omega) (by omega) (by omega)
     exact this
   ·rw[if_neg hk,if_neg hk]
    rfl
def qRb(l:List UInt8):Bool:=decide (l.length≤80∧(sp l).length≤8∧∀p∈sp l,1≤p.length∧p.length≤24∧∀c∈p,inK [1,2,3,4] c=true)
theorem zAz(l:List UInt8):qRb l=true↔l.length≤80∧∃x y,qXe 1 0 l=some (x,y)∧0<y∧x≤8:=by
 rw[qVf l 1 0 (by omega)]
 simp only[qRb,jA]
 obtain⟨p,q,hpq⟩:∃p q,sp l=p::q:=by
  cases he:sp l with
  |nil=>exact absurd he (zFf l)
  |cons p q=>exact⟨p,q,rfl⟩
 constructor
 ·rintro⟨h1,h2,h3⟩
  rw[hpq] at h2 h3
  obtain⟨g1,g2,g3⟩:=h3 p (jN ..)
  exact⟨h1,p,q,hpq,by omega,by omega,g3,fun r hr=>h3 r (jX _ hr),by simp only[jC] at h2;omega⟩
 ·rintro⟨h1,p',q',h,h2,h3,h4,h5,h6⟩
  refine⟨h1,by rw[h];simp only[jC];omega,?_⟩
  intro r hr
  rw[h] at hr
  rcases jM.1 hr with rfl|hr
  ·exact⟨by omega,by omega,h4⟩
  ·exact h5 r hr
theorem zGb{N:Nat}{s:ByteArray}(hN:100<N):qIi N s=some (qRb s.data.toList):=by
 have hs:=qCx s
 simp only[qIi]
 by_cases h80:s.data.toList.length≤80
 ·rw[if_neg (by simp only[jA];omega)]
  have key:=qQh (N:=N) (s:=s) (by omega) s.data.toList.length 0 N 1 0 (by omega) (by omega) (by omega) (by omega)
  rw[show((0:Nat):Int)=0 from rfl,show((1:Nat):Int)=1 from rfl,k7] at key
  rw[key]
  have hp:=zAz s.data.toList
  cases hR:qXe 1 0 s.data.toList with
  |none=>
   simp only[j0]
   refine congrArg some ?_
   rw[kE,hp]
   constructor
   ·intro h;cases h
   ·rintro⟨_,x,y,h,_⟩;rw[hR] at h;cases h
  |some z=>
   obtain⟨x,y⟩:=z
   simp only[j0]
   by_cases hy:0<y
   ·rw[if_pos (by simp only[jA];omega)]
    simp only[j0]
    refine congrArg some ?_
    rw[kE,hp,jA]
    constructor
    ·intro h;exact⟨h80,x,y,hR,hy,by omega⟩
    ·rintro⟨_,x',y',h,_,h2⟩;rw[hR] at h;simp only[jI,Prod.mk.injEq] at h;omega
   ·rw[if_neg (by simp only[jA];omega)]
    simp only[j0]
    refine congrArg some ?_
    rw[kE,hp]
    constructor
    ·intro h;cases h
    ·rintro⟨_,x',y',h,h1,_⟩;rw[hR] at h;simp only[jI,Prod.mk.injEq] at h;omega
 ·rw[if_pos (by simp only[jA];omega)]
  refine congrArg some ?_
  rw[kE,zAz]
  exact⟨fun h=>(by cases h),fun h=>absurd h.1 h80⟩
end
section
open Go Go.Dc
theorem tw_is{p:UInt8→Bool}{l:List UInt8}{k:Nat}(hk:k<l.length)(h1:∀j,∀h:j<l.length,j<k→p l[j]=true)(h2:p l[k]=false):tw p l 0=k:=by
 have key:∀d j,j+d=k→tw p l j=k:=by
  intro d
  induction d with
  |zero=>
   intro j h
   have:j=k:=by omega
   subst this
   exact qVo hk h2
  |succ d ih=>intro j h;rw[←qVx (by omega) (h1 j (by omega) (by omega))];exact ih (j+1) (by omega)
 exact key k 0 (by omega)
theorem ix_eq(x:ByteArray):ixB x 47=if(x.data.toList.takeWhile qMt).length=x.data.toList.length then-1 else((x.data.toList.takeWhile qMt).length:Int):=by
 have hs:=qCx x
 have htw:tw qMt x.data.toList 0=(x.data.toList.takeWhile qMt).length:=by simp[tw]
 have hget:∀j,∀h:j<x.data.toList.length,x[j]! =x.data.toList[j]:=by
  intro j hj
  rw[getElem!_pos x j (by omega)]
  simp[ByteArray.getElem_eq_getElem_data]
 have h47:(47:Int).toNat.toUInt8=47:=rfl
 rw[←htw]
 unfold ixB
 rw[h47,←hs]
 cases hf:(List.range x.data.toList.length).find? (fun j=>x[j]! ==47) with
 |none=>
  rw[List.find?_eq_none] at hf
  simp only
  rw[if_pos]
  refine zLo fun c hc=> ?_
  obtain⟨j,hj,rfl⟩:=List.getElem_of_mem hc
  have:=hf j (fN.2 hj)
  rw[hget j hj] at this
  simpa[qMt] using this
 |some k=>
  have h1:=List.find?_some hf
  have hk:k<x.data.toList.length:=fN.1 (List.mem_of_find?_eq_some hf)
  rw[hget k hk] at h1
  have e:tw qMt x.data.toList 0=k:=by
   refine tw_is hk (fun j h hj=> ?_) (by simpa[qMt] using h1)
   have:=(List.find?_range_eq_some.1 hf).2.2 j hj
   rw[hget j h] at this
   simpa[qMt] using this
  simp only
  rw[e,if_neg (by omega)]
theorem zLa{N:Nat}(x:ByteArray):qKb N x (⟨#[47]⟩:ByteArray)=some (ixB x 47):=by
 have h1:idxB (⟨#[47]⟩:ByteArray) 0=some 47:=by kernel_rfl
 simp only[qKb,qGj,qEy,show(⟨#[47]⟩:ByteArray).size=1 from rfl,qEr]
 rw[if_neg (by decide)]
 simp only[j0,jA]
 by_cases h:(⟨#[47]⟩:ByteArray)=x
 ·have h0:ixB (⟨#[47]⟩:ByteArray) 47=0:=by kernel_rfl
  rw[if_pos h,←h,h0]
  rfl
 ·rw[if_neg h,if_pos (by decide),h1]
  rfl
theorem cnt_eq(x:ByteArray):cntB x 47=((x.data.toList.count 47:Nat):Int):=by
 unfold cntB
 rw[Go.Lib.foldl_data]
 have key:∀(l:List UInt8) (n:Int),l.foldl (fun n x=>if x==(47:Int).toNat.toUInt8 then n+1 else n) n=n+((l.count 47:Nat):Int):=by
  intro l
  induction l with
  |nil=>intro n;simp
  |cons c l ih=>
   intro n
   rw[gY,ih,List.count_cons]
   have h47:(47:Int).toNat.toUInt8=47:=rfl
   rw[h47]
   by_cases h:(c==47)=true
   ·simp only[h,jH];omega
   ·simp only[h,jB,jG];omega
 rw[key]
 omega
theorem zNh{α:Type}(l:List α)(k:Nat)(a b:α):(l++List.replicate (k+1) a).set l.length b=(l++[b])++List.replicate k a:=by
 rw[List.set_append_right _ _ (jK _)]
 simp[List.replicate_succ]
theorem qYk{N n:Nat}{s:ByteArray}(hn:n<1000000000)(hns:n≤s.size+1)(hs:s.size<1000000000):∀(r M:Nat) (x:ByteArray) (done:List ByteArray),(sp x.data.toList).length=r→done.length+r=n→r<M→x.size<1000000000→
  ∃y D,qAq (qHu N s (⟨#[47]⟩:ByteArray) 0 (n:Int)) M (x,(done.length:Int),done++List.replicate r (⟨#[]⟩:ByteArray))=some (y,((n-1:Nat):Int),D++[(⟨#[]⟩:ByteArray)])∧D.length=n-1∧D++[y]=done++(sp x.data.toList).map qMi
 |_,0,_,_,_,_,h,_=>by omega
 |0,_,x,_,h,_,_,_=>by exact absurd (fD.1 h) (zFf _)
 |r+1,M+1,x,done,h1,h2,h3,h4=>by
  have hxs:=qCx x
  have hmin:(if IntKind.wrap .i64 ((s.size:Int)+1)<(n:Int) then IntKind.wrap .i64 ((s.size:Int)+1) else(n:Int))=(n:Int):=by
   rw[wi64 (by omega) (by omega)];split<;>omega
  have hstep:=zIn x.data.toList
  simp only[qAq,qHu]
  rw[hmin,wi64 (x:=(n:Int)-1) (by omega) (by omega)]
  by_cases hlast:(x.data.toList.takeWhile qMt).length=x.data.toList.length
  ·rw[if_pos hlast] at hstep
   rw[hstep] at h1
   simp only[jC,jE] at h1
   have hr:r=0:=by omega
   subst hr
   rw[if_neg (by simp only[jA];omega)]
   refine⟨x,done,?_,by omega,?_⟩
   ·simp only[j0]
    rw[show(n-1:Nat)=done.length by omega]
    rfl
   ·rw[hstep];simp[qMi]
  ·rw[if_neg hlast] at hstep
   rw[hstep] at h1
   simp only[jC] at h1
   have hpos:0<(sp (x.data.toList.drop ((x.data.toList.takeWhile qMt).length+1))).length:=fC.2 (zFf _)
   have hle:(x.data.toList.takeWhile qMt).length≤x.data.toList.length:=(List.takeWhile_sublist _).length_le
   have hix:=ix_eq x
   rw[if_neg hlast] at hix
   rw[if_pos (by simp only[jA];omega),zLa,hix]
   simp only[j0,show(⟨#[47]⟩:ByteArray).size=1 from rfl]
   have he:(x.data.toList.takeWhile qMt)=x.data.toList.take (x.data.toList.takeWhile qMt).length:=List.prefix_iff_eq_take.1 (List.takeWhile_prefix _)
   have hx1:x.extract 0 (x.data.toList.takeWhile qMt).length=qMi (x.data.toList.takeWhile qMt):=by
    apply Go.WideShapes.bytes_inj
    simp only[ByteArray.data_extract,Array.toList_extract,fO,qMi,k7,Nat.sub_zero]
    exact he.symm
   have hx2:(x.extract ((x.data.toList.takeWhile qMt).length+1) x.data.toList.length).data.toList=x.data.toList.drop ((x.data.toList.takeWhile qMt).length+1):=by
    simp only[ByteArray.data_extract,Array.toList_extract,fO]
    exact gB (by simp only[kH];omega)
   generalize hk:(x.data.toList.takeWhile qMt).length=k at*
   rw[if_neg (by simp only[jA];omega),wi64 (x:=(k:Int)+0) (by omega) (by omega),Int.add_zero]
   have hsub0:subB x 0 (k:Int)=some (x.extract 0 k):=by
    have:=qSm (s:=x) (i:=0) (e:=k) (by omega) (by omega)
    simpa only[Int.natCast_zero] using this
   rw[hsub0]
   simp only[j0]
   rw[qDf (by simp),wi64 (x:=(k:Int)+((1:Nat):Int)) (by omega) (by omega),show((k:Int)+((1:Nat):Int))=((k+1:Nat):Int) by omega,zId (by omega)]
   simp only[j0,jL]
   rw[zNh,hx1,wi64 (by omega) (by omega)]
   have hxs2:=qCx (x.extract (k+1) x.data.toList.length)
   rw[hx2,kH] at hxs2
   obtain⟨y,D,g1,g2,g3⟩:=qYk (N:=N) hn hns hs r M (x.extract (k+1) x.data.toList.length) (done++[qMi (x.data.toList.takeWhile qMt)]) (by rw[hx2];omega) (by simp;omega) (by omega) (by omega)
   refine⟨y,D,?_,g2,?_⟩
   ·rw[←g1];simp
   ·rw[g3,hx2,hstep];simp
termination_by r=>r
theorem zLf{N:Nat}{s:ByteArray}(hl:s.size<100000000)(hN:2*s.size+1000<N):qLe N s (⟨#[47]⟩:ByteArray)=some ((sp s.data.toList).map qMi):=by
 have hs:=qCx s
 have hlen:=zJi s.data.toList
 have hc:s.data.toList.count 47≤s.data.toList.length:=List.count_le_length
 have h1:idxB (⟨#[47]⟩:ByteArray) 0=some 47:=by kernel_rfl
 have hcount:qLh N s (⟨#[47]⟩:ByteArray)=some ((s.data.toList.count 47:Nat):Int):=by
  simp only[qLh,show(⟨#[47]⟩:ByteArray).size=1 from rfl]
  rw[if_neg (by decide),if_pos (by decide),h1]
  simp only[j0]
  rw[←cnt_eq];rfl
 simp only[qLe,qKi,qEr,hcount,j0]
 rw[if_neg (by decide),if_neg (by decide),if_pos (by decide)]
 simp only[j0]
 rw[wi64 (x:=((s.data.toList.count 47:Nat):Int)+1) (by omega) (by omega),show((s.data.toList.count 47:Nat):Int)+1=(((sp s.data.toList).length:Nat):Int) by omega]
 generalize hn:(sp s.data.toList).length=n at*
 have hmin:(if IntKind.wrap .i64 ((s.size:Int)+1)<(n:Int) then IntKind.wrap .i64 ((s.size:Int)+1) else(n:Int))=(n:Int):=by
  rw[wi64 (by omega) (by omega)];split<;>omega
 rw[hmin]
 have hm:qTf 16 (⟨#[]⟩:ByteArray) (n:Int)=some (List.replicate n (⟨#[]⟩:ByteArray)):=by
  unfold qTf
  rw[if_pos (by simp only[maxLen];omega),jL]
 rw[hm]
 simp only[j0]
 obtain⟨y,D,g1,g2,g3⟩:=qYk (N:=N) (n:=n) (s:=s) (by omega) (by omega) (by omega) n N s [] hn (by simp) (by omega) (by omega)
 simp only[jE,kK] at g1 g3
 rw[show((0:Nat):Int)=0 from rfl] at g1
 rw[g1]
 simp only[j0]
 rw[qDf (by simp;omega)]
 simp only[j0,jL]
 have hset:(D++[(⟨#[]⟩:ByteArray)]).set (n-1) y=D++[y]:=by
  rw[←g2,List.set_append_right _ _ (jK _)];simp
 rw[hset,g3,wi64 (by omega) (by omega),show((n-1:Nat):Int)+1=(n:Int) by omega,qSc (by omega) (by omega) (by rw[g9,hn];omega)]
 simp only[j0,jL,Int.toNat_zero,k7]
 rw[gB (by rw[g9,hn];exact jK _)]
theorem zLw{p:UInt8→Bool}{l:List UInt8}:tw p l 0=l.length↔∀c∈l,p c=true:=by
 constructor
 ·intro h c hc
  have h1:(l.takeWhile p).length=l.length:=by simpa[tw] using h
  have h2:=(List.takeWhile_prefix p (l:=l)).eq_of_length h1
  rw[←h2] at hc
  exact zJq hc
 ·exact zLo
def zCz(x:ByteArray):Bool:=decide (1≤x.data.toList.length∧x.data.toList.length≤24∧∀c∈x.data.toList,inK [1,2,3,4] c=true)
theorem zAt(x:ByteArray):zCz x=true↔1≤x.data.toList.length∧x.data.toList.length≤24∧∀c∈x.data.toList,inK [1,2,3,4] c=true:=decide_eq_true_iff
theorem zMy{N:Nat}{x:ByteArray}(hN:100<N):(if(decide ((x.size:Int)<1))=true then(some true) else(if(decide ((x.size:Int)>24))=true then(some true) else((qLw N x 0 (some kdL) ([1,2,3,4])).bind fun y3=>some (y3 !=(x.size:Int)))))=some (!zCz x):=by
 have hs:=qCx x
 have hno:∀h:¬(1≤x.data.toList.length∧x.data.toList.length≤24∧∀c∈x.data.toList,inK [1,2,3,4] c=true),zCz x=false:=fun h=>jQ h
 by_cases h1:1≤x.data.toList.length
 ·rw[if_neg (by simp only[jA];omega)]
  by_cases h2:x.data.toList.length≤24
  ·rw[if_neg (by simp only[jA];omega)]
   have hsp:=zIr (N:=N) (s:=x) (ks:=[1,2,3,4]) (i:=0) (by omega) (by omega) (by simp) (by omega)
   rw[show((0:Nat):Int)=0 from rfl] at hsp
   rw[hsp]
   simp only[j0]
   refine congrArg some ?_
   by_cases h3:tw (inK [1,2,3,4]) x.data.toList 0=x.data.toList.length
   ·have:zCz x=true:=jU ⟨h1,h2,zLw.1 h3⟩
    rw[this,h3,hs]
    simp
   ·rw[hno fun h=>h3 (zLw.2 h.2.2)]
    simp only[kG,fY,ne_eq]
    omega
  ·rw[if_pos (by simp only[jA];omega),hno fun h=>h2 h.2.1]
   rfl
 ·rw[if_pos (by simp only[jA];omega),hno fun h=>h1 h.1]
  rfl
theorem zAo{N:Nat}{L:List ByteArray}(hL:L.length<1000)(hN:100<N):∀(d j M:Nat),j+d=L.length→d<M→qAq (qKc N L (some kdL)) M (j:Int)=some (if(L.drop j).all zCz=true then .inl () else .inr false)
 |d,j,0,_,h=>by omega
 |0,j,M+1,h1,h2=>by
  simp only[qAq,qKc]
  rw[if_neg (by simp only[jA];omega),jR (by omega)]
  rfl
 |d+1,j,M+1,h1,h2=>by
  have hj:j<L.length:=by omega
  simp only[qAq,qKc]
  rw[if_pos (by simp only[jA];omega),qDf hj]
  simp only[j0,zMy hN]
  rw[jP hj,List.all_cons]
  cases hp:zCz L[j] with
  |true=>
   rw[if_neg (by simp),wi64 (by omega) (by omega)]
   simp only[j0,gO]
   exact zAo hL hN d (j+1) M (by omega) (by omega)
  |false=>simp
theorem zHd{N:Nat}{s:ByteArray}(hl:s.size<100000000)(hN:2*s.size+1000<N):qKt N s=some (qRb s.data.toList):=by
 have hs:=qCx s
 have hno:∀h:¬(s.data.toList.length≤80∧(sp s.data.toList).length≤8∧∀p∈sp s.data.toList,1≤p.length∧p.length≤24∧∀c∈p,inK [1,2,3,4] c=true),qRb s.data.toList=false:=fun h=>jQ h
 simp only[qKt,zLf hl hN,j0,g9]
 by_cases h80:s.data.toList.length≤80
 ·rw[if_neg (by simp only[jA];omega)]
  by_cases h8:(sp s.data.toList).length≤8
  ·have e8:decide (((sp s.data.toList).length:Int)>8)=false:=jQ (by omega)
   simp only[j0,e8,jB,jG,zDp (show 30<N by omega)]
   have key:=zAo (N:=N) (L:=(sp s.data.toList).map qMi) (by rw[g9];omega) (by omega) _ 0 N (jW _) (by rw[g9];omega)
   rw[show((0:Nat):Int)=0 from rfl,k7] at key
   rw[key]
   simp only[j0]
   by_cases hp:((sp s.data.toList).map qMi).all zCz=true
   ·have:qRb s.data.toList=true:=jU ⟨h80,h8,fun p hp'=>by
     have:=(zAt _).1 (k0.1 hp (qMi p) (gK hp'))
     simpa[qMi] using this⟩
    rw[if_pos hp,this]
   ·rw[if_neg hp,hno fun h=>hp (k0.2 fun x hx=>by
     obtain⟨p,hp',rfl⟩:=fG.1 hx
     exact(zAt _).2 (by simpa[qMi] using h.2.2 p hp'))]
  ·have e8:decide (((sp s.data.toList).length:Int)>8)=true:=jU (by omega)
   simp only[j0,e8,jH]
   rw[hno fun h=>h8 h.2.1]
 ·rw[if_pos (by simp only[jA];omega)]
  simp only[j0,jH]
  rw[hno fun h=>h80 h.1]
end
section
open Go Go.Dc
def run{α τ β:Type}(step:τ→α→τ⊕β)(fin:τ→β):List α→τ→β
 |[],t=>fin t
 |x::l,t=>match step t x with
  | .inl t'=>run step fin l t'
  | .inr b=>b
theorem qUx{α τ σ β:Type}{L:List α}(enc:τ→Nat→σ){f:σ→Option (σ⊕β)}(step:τ→α→τ⊕β)(fin:τ→β)(I:Nat→τ→Prop)
  (hstep:∀t i,∀hi:i<L.length,I i t→f (enc t i)=some (match step t L[i] with| .inl t'=> .inl (enc t' (i+1))| .inr b=> .inr b))
  (hinv:∀t i,∀hi:i<L.length,∀t',I i t→step t L[i]= .inl t'→I (i+1) t')
  (hfin:∀t,I L.length t→f (enc t L.length)=some (.inr (fin t))):∀(d i M:Nat) (t:τ),i+d=L.length→d<M→I i t→qAq f M (enc t i)=some (run step fin (L.drop i) t)
 |_,_,0,_,_,h,_=>absurd h (kI _)
 |d,i,M+1,t,h1,h2,h3=>by
  cases d with
  |zero=>
   have hi:i=L.length:=by omega
   subst hi
   simp only[qAq,hfin t h3,j0,fF,run]
  |succ d=>
   have hi:i<L.length:=by omega
   have hd:L.drop i=L[i]::L.drop (i+1):=(hO hi).symm
   simp only[qAq,hstep t i hi h3,j0]
   rw[hd]
   simp only[run]
   cases hs:step t L[i] with
   |inl t'=>
    simp only
    exact qUx enc step fin I hstep hinv hfin d (i+1) M t' (by omega) (by omega) (hinv t i hi t' h3 hs)
   |inr b=>rfl
theorem qIz{α τ σ β:Type}{L:List α}(enc:τ→Nat→σ){f:σ→Option (σ⊕β)}(step:τ→α→τ⊕β)(fin:τ→β)(I:Nat→τ→Prop)
  (hstep:∀t i,∀hi:i<L.length,I i t→f (enc t i)=some (match step t L[i] with| .inl t'=> .inl (enc t' (i+1))| .inr b=> .inr b))
  (hinv:∀t i,∀hi:i<L.length,∀t',I i t→step t L[i]= .inl t'→I (i+1) t')
  (hfin:∀t,I L.length t→f (enc t L.length)=some (.inr (fin t))) {M:Nat} {t:τ} (hM:L.length<M) (h0:I 0 t):qAq f M (enc t 0)=some (run step fin L t):=by
 have:=qUx enc step fin I hstep hinv hfin L.length 0 M t (by omega) hM h0
 rw[k7] at this;exact this
theorem qSk{α τ β:Type}{step:τ→α→τ⊕β}{fin:τ→β}(g:τ→α→τ)(h:∀t x,step t x= .inl (g t x)):∀(l:List α) (t:τ),run step fin l t=fin (l.foldl g t)
 |[],_=>rfl
 |x::l,t=>by simp only[run,h,gY];exact qSk g h l _
theorem qTi{α β:Type}{step:Unit→α→Unit⊕β}{fin:Unit→β}{b:β}(p:α→Bool)(h:∀x,step () x=if p x=true then .inr b else .inl ()):∀l:List α,run step fin l ()=if l.any p=true then b else fin ()
 |[]=>rfl
 |x::l=>by
  have ih:=qTi (fin:=fin) p h l
  rw[gW]
  by_cases hp:p x=true
  ·have e:step () x= .inr b:=by rw[h,if_pos hp]
   simp only[run,e]
   rw[hp,fZ,if_pos rfl]
  ·have e:step () x= .inl ():=by rw[h,if_neg hp]
   simp only[run,e]
   rw[ih,show p x=false by simpa using hp,kY]
theorem qNh{α:Type}{l:List α}{i:Nat}(h:i<l.length):l.drop i=l[i]::l.drop (i+1):=(hO h).symm
theorem qUt{α:Type}{l:List α}{i:Nat}(h:i<l.length):l.take (i+1)=l.take i++[l[i]]:=kL h
end
section
open Go Go.Dc
instance decMemB(s:ByteArray)(l:List ByteArray):Decidable (s∈l):=@List.instDecidableMemOfLawfulBEq ByteArray instBEqOfDecidableEq inferInstance s l
abbrev Ex:=Int×Int×Int×ByteArray×List Int
abbrev Dl:=Int×ByteArray×List ByteArray×List Ex
abbrev Sr:=ByteArray×List ByteArray×List Dl
abbrev Flt:=Int×Int
abbrev Ps:=Nat×List Ex
abbrev PM(α:Type):=Flt⊕(Ps×α)
def tkAt(ts:List Tok)(i:Nat):Tok:=ts.getD i (5,⟨#[]⟩,0,0)
def qGv{α:Type}(t:Tok)(e:Int):Flt⊕α:= .inl (t.2.2.2,e)
def qCe{α β:Type}(x:Flt⊕α)(f:α→Flt⊕β):Flt⊕β:=
 match x with
 | .inl z=> .inl z
 | .inr a=>f a
def isC(ts:List Tok)(k:Int)(s:ByteArray)(i:Nat):Bool:=(tkAt ts i).1==k&&decide ((tkAt ts i).2.1=s)
def qGi(ts:List Tok)(s:ByteArray)(i:Nat):Flt⊕Nat:=if isC ts 4 s i then .inr (i+1) else qGv (tkAt ts i) 9
def zAy(ts:List Tok)(s:ByteArray)(i:Nat):Flt⊕Nat:=if isC ts 1 s i then .inr (i+1) else qGv (tkAt ts i) 9
def qOy(ts:List Tok)(k:Int)(i:Nat):Flt⊕(Nat×Tok):=if(tkAt ts i).1=k then .inr (i+1,tkAt ts i) else qGv (tkAt ts i) 9
def qUk:ByteArray:=⟨#[112,97,99,107,97,103,101]⟩
def qTj:ByteArray:=⟨#[105,109,112,111,114,116]⟩
def zKw:ByteArray:=⟨#[102,117,110,99]⟩
def zLe:ByteArray:=⟨#[116,101,115,116]⟩
def sGen:ByteArray:=⟨#[103,101,110]⟩
def sIf:ByteArray:=⟨#[105,102]⟩
def zLj:ByteArray:=⟨#[116,104,101,110]⟩
def zLb:ByteArray:=⟨#[101,108,115,101]⟩
def qVv:ByteArray:=⟨#[114,101,97,100]⟩
def qWu:ByteArray:=⟨#[115,105,122,101]⟩
def sHas:ByteArray:=⟨#[104,97,115]⟩
def sEnv:ByteArray:=⟨#[101,110,118]⟩
def qXa:ByteArray:=⟨#[102,108,105,112]⟩
def qRq:ByteArray:=⟨#[40]⟩
def qJe:ByteArray:=⟨#[41]⟩
def qOq:ByteArray:=⟨#[44]⟩
def qUy:ByteArray:=⟨#[59]⟩
def sEq:ByteArray:=⟨#[61]⟩
def zLp:ByteArray:=⟨#[45]⟩
def wordsR:List ByteArray:=[qUk,qTj,zKw,zLe,sGen,sIf,zLj,zLb,qVv,qWu,sHas,sEnv,qXa]
def resC(s:ByteArray):Bool:=decide (s∈wordsR)
def qPj(ts:List Tok)(i:Nat):Flt⊕(Nat×Tok):=qCe (qOy ts 1 i) fun p=>if resC p.2.2.1 then qGv p.2 9 else .inr p
def qRt(ts:List Tok)(i:Nat):Flt⊕(Nat×Tok):=qCe (qOy ts 3 i) fun p=>if qRb p.2.2.1.data.toList then .inr p else qGv p.2 9
def qWd(ts:List Tok)(i:Nat):Flt⊕(Nat×Tok):=qCe (qOy ts 3 i) fun p=>if qTl p.2.2.1 then .inr p else qGv p.2 9
def qNb(t:Tok)(x:Ex)(p:Ps):PM Nat:=if p.2.length=256 then qGv t 2 else .inr ((p.1,p.2++[x]),p.2.length)
def opsC:List (Int×ByteArray):=[(1,⟨#[43]⟩),(2,⟨#[45]⟩),(3,⟨#[42]⟩),(4,⟨#[47]⟩),(5,⟨#[37]⟩),(6,⟨#[60]⟩),(7,⟨#[61,61]⟩)]
def levP(op:Int):Nat:=if op=6∨op=7 then 1 else if op=1∨op=2 then 2 else 3
def isOp(ts:List Tok)(level:Nat)(i:Nat)(o:Int×ByteArray):Bool:=isC ts 4 o.2 i&&decide (levP o.1=level)
def opC(ts:List Tok)(level:Nat)(i:Nat):Int:=
 match opsC.find? (isOp ts level i) with
 |some o=>o.1
 |none=>0
section
variable (ts:List Tok) (params:List ByteArray) (E:Ps→PM Nat)
def zBi:Nat→List Int→Ps→PM (List Int)
 |0,_,p=>qGv (tkAt ts p.1) 9
 |n+1,l,p=>qCe (E p) fun q=>
  if isC ts 4 qOq q.1.1 then zBi n (l++[(q.2:Int)]) (q.1.1+1,q.1.2)
  else qCe (qGi ts qJe q.1.1) fun i=> .inr ((i,q.1.2),l++[(q.2:Int)])
def qQy(p:Ps):PM (List Int):=
 qCe (qGi ts qRq p.1) fun i=>if isC ts 4 qJe i then .inr ((i+1,p.2),[]) else zBi ts E (ts.length+1) [] (i,p.2)
def qOa(t:Tok)(p:Ps):PM Nat:=
 qCe (qGi ts qRq p.1) fun i=>
 qCe (if t.2.1=qVv then
   qCe (qRt ts i) fun a=>qCe (qGi ts qOq a.1) fun i=>qCe (E (i,p.2)) fun q=> .inr (q.1,((6,0,0,a.2.2.1,[(q.2:Int)]):Ex))
  else if t.2.1=qWu then qCe (qRt ts i) fun a=> .inr ((a.1,p.2),((7,0,0,a.2.2.1,[]):Ex))
  else if t.2.1=sHas then qCe (qRt ts i) fun a=> .inr ((a.1,p.2),((8,0,0,a.2.2.1,[]):Ex))
  else if t.2.1=sEnv then qCe (qWd ts i) fun a=> .inr ((a.1,p.2),((9,0,0,a.2.2.1,[]):Ex))
  else qCe (qOy ts 2 i) fun a=>if a.2.2.2.1≥64 then qGv a.2 9 else .inr ((a.1,p.2),((10,a.2.2.2.1,0,⟨#[]⟩,[]):Ex))) fun q=>
 qCe (qGi ts qJe q.1.1) fun i=>qNb t q.2 (i,q.1.2)
def qPx(p:Ps):PM Nat:=
 let t:=tkAt ts p.1
 if t.1=2 then qNb t (1,t.2.2.1,0,⟨#[]⟩,[]) (p.1+1,p.2)
 else if isC ts 4 zLp p.1 then qCe (qOy ts 2 (p.1+1)) fun a=>qNb t (1,IntKind.wrap .i64 (0-a.2.2.2.1),0,⟨#[]⟩,[]) (a.1,p.2)
 else if isC ts 4 qRq p.1 then qCe (E (p.1+1,p.2)) fun q=>qCe (qGi ts qJe q.1.1) fun i=> .inr ((i,q.1.2),q.2)
 else if t.1≠1 then qGv t 9
 else if t.2.1∈[qVv,qWu,sHas,sEnv,qXa] then qOa ts E t (p.1+1,p.2)
 else if resC t.2.1 then qGv t 9
 else if isC ts 4 qRq (p.1+1) then qCe (qQy ts E (p.1+1,p.2)) fun q=>qNb t (3,0,0,t.2.1,q.2) q.1
 else match params.findIdx? (fun x=>decide (x=t.2.1)) with
  |some i=>qNb t (2,(i:Int),0,⟨#[]⟩,[]) (p.1+1,p.2)
  |none=>qGv t 9
def qRg(level:Nat)(S:Ps→PM Nat):Nat→Nat→Ps→PM Nat
 |0,_,p=>qGv (tkAt ts p.1) 9
 |n+1,x,p=>
  if opC ts level p.1=0 then .inr (p,x)
  else qCe (S (p.1+1,p.2)) fun q=>qCe (qNb (tkAt ts p.1) (4,0,opC ts level p.1,⟨#[]⟩,[(x:Int),(q.2:Int)]) q.1) fun r=>
   if level=1 then .inr r else qRg level S n r.2 r.1
def qRk(level:Nat)(S:Ps→PM Nat)(p:Ps):PM Nat:=qCe (S p) fun q=>qRg ts level S (ts.length+1) q.2 q.1
def zMq:Ps→PM Nat:=qRk ts 3 (qPx ts params E)
def sumC:Ps→PM Nat:=qRk ts 2 (zMq ts params E)
def zEv:Ps→PM Nat:=qRk ts 1 (sumC ts params E)
end
def qJu(ts:List Tok)(params:List ByteArray):Nat→Ps→PM Nat
 |0,p=>qGv (tkAt ts p.1) 2
 |k+1,p=>
  if isC ts 1 sIf p.1 then
   qCe (qJu ts params k (p.1+1,p.2)) fun a=>qCe (zAy ts zLj a.1.1) fun i=>
   qCe (qJu ts params k (i,a.1.2)) fun b=>qCe (zAy ts zLb b.1.1) fun j=>
   qCe (qJu ts params k (j,b.1.2)) fun c=>qNb (tkAt ts p.1) (5,0,0,⟨#[]⟩,[(a.2:Int),(b.2:Int),(c.2:Int)]) c.1
  else zEv ts params (qJu ts params k) p
def qQl(ts:List Tok):Nat→List ByteArray→Nat→Flt⊕(Nat×List ByteArray)
 |0,_,i=>qGv (tkAt ts i) 9
 |n+1,l,i=>qCe (qPj ts i) fun a=>
  if l.length=8 then qGv a.2 2
  else if a.2.2.1∈l then qGv a.2 10
  else if isC ts 4 qOq a.1 then qQl ts n (l++[a.2.2.1]) (a.1+1)
  else qCe (qGi ts qJe a.1) fun j=> .inr (j,l++[a.2.2.1])
def qKl(ts:List Tok)(i:Nat):Flt⊕(Nat×List ByteArray):=
 qCe (qGi ts qRq i) fun j=>if isC ts 4 qJe j then .inr (j+1,[]) else qQl ts (ts.length+1) [] j
def zKd(s:ByteArray):Int:=if s=zKw then 1 else if s=zLe then 2 else if s=sGen then 3 else 0
def qRs(ts:List Tok)(before:List Dl)(i:Nat):Flt⊕(Nat×Dl):=
 let t:=tkAt ts i
 let k:=zKd t.2.1
 if t.1≠1∨k=0 then qGv t 9
 else if before.length=64 then qGv t 2
 else qCe (if k=3 then qRt ts (i+1) else qPj ts (i+1)) fun a=>
  if before.any (fun d=>d.1==k&&decide (d.2.1=a.2.2.1)) then qGv a.2 10
  else qCe (if k=1 then qKl ts a.1 else .inr (a.1,[])) fun b=>
   qCe (qGi ts sEq b.1) fun j=>qCe (qJu ts b.2 32 (j,[])) fun c=>
   qCe (qGi ts qUy c.1.1) fun m=> .inr (m,(k,a.2.2.1,b.2,c.1.2))
def qLa(ts:List Tok)(pkg:ByteArray):Nat→List ByteArray→Nat→Flt⊕(Nat×List ByteArray)
 |0,_,i=>qGv (tkAt ts i) 9
 |n+1,l,i=>
  if isC ts 1 qTj i then
   if l.length=8 then qGv (tkAt ts i) 2
   else qCe (qPj ts (i+1)) fun a=>
    if a.2.2.1=pkg∨a.2.2.1∈l then qGv a.2 10
    else qCe (qGi ts qUy a.1) fun j=>qLa ts pkg n (l++[a.2.2.1]) j
  else .inr (i,l)
def qSe(ts:List Tok):Nat→List Dl→Nat→Flt⊕List Dl
 |0,_,i=>qGv (tkAt ts i) 9
 |n+1,l,i=>if(tkAt ts i).1=5 then .inr l else qCe (qRs ts l i) fun a=>qSe ts n (l++[a.2]) a.1
def zGg(ts:List Tok):Flt⊕Sr:=
 qCe (zAy ts qUk 0) fun i=>qCe (qPj ts i) fun a=>qCe (qGi ts qUy a.1) fun j=>
 qCe (qLa ts a.2.2.1 (ts.length+1) [] j) fun b=>qCe (qSe ts (ts.length+1) [] b.1) fun l=> .inr (a.2.2.1,b.2,l)
def qVl:Sr:=(⟨#[]⟩,[],[])
def qZt(s:ByteArray):Sr×Int×Int:=
 if(qIx s).2.2≠0 then(qVl,(qIx s).2.1,(qIx s).2.2)
 else match zGg (qIx s).1 with
  | .inl z=>(qVl,z.1,z.2)
  | .inr f=>(f,0,0)
end
section
open Go Go.Dc
def OkT(ts:List Tok):Prop:=ts≠[]∧∀i,i<ts.length→((tkAt ts i).1=5↔i+1=ts.length)
theorem qBm{α β:Type}{x:Flt⊕α}{f:α→Flt⊕β}{b:β}(h:qCe x f= .inr b):∃a,x= .inr a∧f a= .inr b:=by
 cases x with
 |inl z=>cases h
 |inr a=>exact⟨a,rfl,h⟩
section
variable {ts:List Tok} {params:List ByteArray} {E S:Ps→PM Nat}
theorem OkT.next(h:OkT ts){i:Nat}(hi:i<ts.length)(hk:(tkAt ts i).1≠5):i+1<ts.length:=by
 have h3:¬i+1=ts.length:=fun e=>hk ((h.2 i hi).2 e)
 omega
theorem qZf{k:Int}{s:ByteArray}{i:Nat}(h:isC ts k s i=true):(tkAt ts i).1=k:=by
 simp only[isC,jJ,kA] at h;exact h.1
theorem qGm(h:OkT ts){k:Int}{s:ByteArray}{i:Nat}(hi:i<ts.length)(hk:k≠5)(h1:isC ts k s i=true):i+1<ts.length:=h.next hi (by rw[qZf h1];exact hk)
theorem qGk(h:OkT ts){s:ByteArray}{i j:Nat}(hi:i<ts.length)(h1:qGi ts s i= .inr j):j=i+1∧j<ts.length∧isC ts 4 s i=true:=by
 unfold qGi at h1
 split at h1
 ·rename_i h2
  obtain rfl:=Sum.inr.inj h1
  exact⟨rfl,qGm h hi (by decide) h2,h2⟩
 ·cases h1
theorem qYz(h:OkT ts){s:ByteArray}{i j:Nat}(hi:i<ts.length)(h1:zAy ts s i= .inr j):j=i+1∧j<ts.length∧isC ts 1 s i=true:=by
 unfold zAy at h1
 split at h1
 ·rename_i h2
  obtain rfl:=Sum.inr.inj h1
  exact⟨rfl,qGm h hi (by decide) h2,h2⟩
 ·cases h1
theorem qOw(h:OkT ts){k:Int}(hk:k≠5){i:Nat}{a:Nat×Tok}(hi:i<ts.length)(h1:qOy ts k i= .inr a):a=(i+1,tkAt ts i)∧i+1<ts.length∧(tkAt ts i).1=k:=by
 unfold qOy at h1
 split at h1
 ·rename_i h2
  obtain rfl:=Sum.inr.inj h1
  exact⟨rfl,h.next hi (by rw[h2];exact hk),h2⟩
 ·cases h1
theorem qNe(h:OkT ts){i:Nat}{a:Nat×Tok}(hi:i<ts.length)(h1:qPj ts i= .inr a):a=(i+1,tkAt ts i)∧i+1<ts.length∧(tkAt ts i).1=1∧resC (tkAt ts i).2.1=false:=by
 obtain⟨b,hb,h2⟩:=qBm h1
 obtain⟨rfl,g1,g2⟩:=qOw h (by decide) hi hb
 split at h2
 ·cases h2
 ·rename_i g3
  obtain rfl:=Sum.inr.inj h2
  exact⟨rfl,g1,g2,by simpa using g3⟩
theorem qNu(h:OkT ts){i:Nat}{a:Nat×Tok}(hi:i<ts.length)(h1:qRt ts i= .inr a):a=(i+1,tkAt ts i)∧i+1<ts.length∧(tkAt ts i).1=3∧qRb (tkAt ts i).2.1.data.toList=true:=by
 obtain⟨b,hb,h2⟩:=qBm h1
 obtain⟨rfl,g1,g2⟩:=qOw h (by decide) hi hb
 split at h2
 ·rename_i g3
  obtain rfl:=Sum.inr.inj h2
  exact⟨rfl,g1,g2,g3⟩
 ·cases h2
theorem zBq(h:OkT ts){i:Nat}{a:Nat×Tok}(hi:i<ts.length)(h1:qWd ts i= .inr a):a=(i+1,tkAt ts i)∧i+1<ts.length∧(tkAt ts i).1=3∧qTl (tkAt ts i).2.1=true:=by
 obtain⟨b,hb,h2⟩:=qBm h1
 obtain⟨rfl,g1,g2⟩:=qOw h (by decide) hi hb
 split at h2
 ·rename_i g3
  obtain rfl:=Sum.inr.inj h2
  exact⟨rfl,g1,g2,g3⟩
 ·cases h2
theorem zDr{t:Tok}{x:Ex}{p q:Ps}{i:Nat}(h:qNb t x p= .inr (q,i)):q=(p.1,p.2++[x])∧i=p.2.length∧p.2.length≠256:=by
 unfold qNb at h
 split at h
 ·cases h
 ·rename_i h1
  obtain⟨rfl,rfl⟩:=Prod.mk.inj (Sum.inr.inj h)
  exact⟨rfl,rfl,h1⟩
def Fwd(ts:List Tok)(p q:Ps):Prop:=p.1<q.1∧q.1<ts.length∧p.2.length≤q.2.length∧q.2.length≤256
def Adv(ts:List Tok)(S:Ps→PM Nat):Prop:=∀(p q:Ps) (x:Nat),p.1<ts.length→p.2.length≤256→S p= .inr (q,x)→Fwd ts p q∧x<q.2.length
theorem qNx{t:Tok}{x:Ex}{p r q:Ps}{i:Nat}(hp:p.1<r.1)(hr:r.1<ts.length)(hl:p.2.length≤r.2.length)(h256:r.2.length≤256)(h:qNb t x r= .inr (q,i)):Fwd ts p q∧i<q.2.length:=by
 obtain⟨rfl,rfl,g⟩:=zDr h
 refine⟨⟨hp,hr,?_,?_⟩,?_⟩<;>simp only[jD,jC,jE]<;>omega
theorem qWh(h:OkT ts)(hE:Adv ts E):∀(n:Nat) (l:List Int) (p q:Ps) (x:List Int),p.1<ts.length→p.2.length≤256→zBi ts E n l p= .inr (q,x)→Fwd ts p q
 |0,_,_,_,_,_,_,h1=>by cases h1
 |n+1,l,p,q,x,hp,hb,h1=>by
  obtain⟨a,ha,h2⟩:=qBm (show qCe (E p) _=_ from h1)
  obtain⟨⟨f1,f2,f3,f4⟩,f5⟩:=hE p a.1 a.2 hp hb ha
  split at h2
  ·rename_i hc
   have g:=qGm h f2 (by decide) hc
   obtain⟨k1,k2,k3,k4⟩:=qWh h hE n _ (a.1.1+1,a.1.2) q x g f4 h2
   exact⟨by simp only at k1;omega,k2,by simp only at k3;omega,k4⟩
  ·obtain⟨j,hj,h3⟩:=qBm h2
   obtain⟨rfl,g1,-⟩:=qGk h f2 hj
   obtain⟨rfl,-⟩:=Prod.mk.inj (Sum.inr.inj h3)
   exact⟨by simp only;omega,g1,f3,f4⟩
theorem qXf(h:OkT ts)(hE:Adv ts E){p q:Ps}{x:List Int}(hp:p.1<ts.length)(hb:p.2.length≤256)(h1:qQy ts E p= .inr (q,x)):Fwd ts p q:=by
 obtain⟨i,hi,h2⟩:=qBm h1
 obtain⟨rfl,g1,-⟩:=qGk h hp hi
 split at h2
 ·rename_i hc
  obtain⟨rfl,-⟩:=Prod.mk.inj (Sum.inr.inj h2)
  exact⟨by simp only;omega,qGm h g1 (by decide) hc,jK _,hb⟩
 ·obtain⟨k1,k2,k3,k4⟩:=qWh h hE _ _ (p.1+1,p.2) q x g1 hb h2
  exact⟨by simp only at k1;omega,k2,k3,k4⟩
theorem zAb(h:OkT ts)(hE:Adv ts E){t:Tok}{p q:Ps}{x:Nat}(hp:p.1<ts.length)(hb:p.2.length≤256)(h1:qOa ts E t p= .inr (q,x)):Fwd ts p q∧x<q.2.length:=by
 obtain⟨i,hi,h2⟩:=qBm h1
 obtain⟨rfl,g1,-⟩:=qGk h hp hi
 obtain⟨a,ha,h3⟩:=qBm h2
 obtain⟨j,hj,h4⟩:=qBm h3
 have key:Fwd ts (p.1+1,p.2) a.1:=by
  split at ha
  ·obtain⟨b,hb1,hb2⟩:=qBm ha
   obtain⟨rfl,k1,-⟩:=qNu h g1 hb1
   obtain⟨c,hc1,hc2⟩:=qBm hb2
   obtain⟨rfl,k2,-⟩:=qGk h k1 hc1
   obtain⟨d,hd1,hd2⟩:=qBm hc2
   obtain⟨⟨f1,f2,f3,f4⟩,-⟩:=hE (p.1+1+1+1,p.2) d.1 d.2 k2 hb hd1
   obtain rfl:=Sum.inr.inj hd2
   exact⟨by simp only at f1 ⊢;omega,f2,f3,f4⟩
  ·split at ha
   ·obtain⟨b,hb1,hb2⟩:=qBm ha
    obtain⟨rfl,k1,-⟩:=qNu h g1 hb1
    obtain rfl:=Sum.inr.inj hb2
    exact⟨by simp only;omega,k1,jK _,hb⟩
   ·split at ha
    ·obtain⟨b,hb1,hb2⟩:=qBm ha
     obtain⟨rfl,k1,-⟩:=qNu h g1 hb1
     obtain rfl:=Sum.inr.inj hb2
     exact⟨by simp only;omega,k1,jK _,hb⟩
    ·split at ha
     ·obtain⟨b,hb1,hb2⟩:=qBm ha
      obtain⟨rfl,k1,-⟩:=zBq h g1 hb1
      obtain rfl:=Sum.inr.inj hb2
      exact⟨by simp only;omega,k1,jK _,hb⟩
     ·obtain⟨b,hb1,hb2⟩:=qBm ha
      obtain⟨rfl,k1,-⟩:=qOw h (by decide) g1 hb1
      split at hb2
      ·cases hb2
      ·obtain rfl:=Sum.inr.inj hb2
       exact⟨by simp only;omega,k1,jK _,hb⟩
 obtain⟨f1,f2,f3,f4⟩:=key
 obtain⟨rfl,g2,-⟩:=qGk h f2 hj
 exact qNx (r:=(a.1.1+1,a.1.2)) (by simp only at f1 ⊢;omega) g2 f3 f4 h4
theorem qVz(h:OkT ts)(hE:Adv ts E):Adv ts (qPx ts params E):=by
 intro p q x hp hb h1
 unfold qPx at h1
 dsimp only at h1
 split at h1
 ·rename_i hk
  exact qNx (r:=(p.1+1,p.2)) (by simp only;omega) (h.next hp (by rw[hk];decide)) (jK _) hb h1
 split at h1
 ·rename_i hc
  have g:=qGm h hp (by decide) hc
  obtain⟨a,ha,h2⟩:=qBm h1
  obtain⟨rfl,g1,-⟩:=qOw h (by decide) g ha
  exact qNx (r:=(p.1+1+1,p.2)) (by simp only;omega) g1 (jK _) hb h2
 split at h1
 ·rename_i hc
  have g:=qGm h hp (by decide) hc
  obtain⟨a,ha,h2⟩:=qBm h1
  obtain⟨⟨f1,f2,f3,f4⟩,f5⟩:=hE (p.1+1,p.2) a.1 a.2 g hb ha
  obtain⟨j,hj,h3⟩:=qBm h2
  obtain⟨rfl,g1,-⟩:=qGk h f2 hj
  obtain⟨rfl,rfl⟩:=Prod.mk.inj (Sum.inr.inj h3)
  exact⟨⟨by simp only at f1 ⊢;omega,g1,f3,f4⟩,f5⟩
 split at h1
 ·cases h1
 rename_i hk
 have g:=h.next hp (show(tkAt ts p.1).1≠5 by simp only[ne_eq,Decidable.not_not] at hk;rw[hk];decide)
 split at h1
 ·obtain⟨⟨f1,f2,f3,f4⟩,f5⟩:=zAb h hE (p:=(p.1+1,p.2)) g hb h1
  exact⟨⟨by simp only at f1;omega,f2,f3,f4⟩,f5⟩
 split at h1
 ·cases h1
 split at h1
 ·obtain⟨a,ha,h2⟩:=qBm h1
  obtain⟨f1,f2,f3,f4⟩:=qXf h hE (p:=(p.1+1,p.2)) g hb ha
  exact qNx (by simp only at f1;omega) f2 f3 f4 h2
 split at h1
 ·exact qNx (r:=(p.1+1,p.2)) (by simp only;omega) g (jK _) hb h1
 ·cases h1
theorem zBs(h:OkT ts){level:Nat}(hS:Adv ts S):∀(n x:Nat) (p q:Ps) (y:Nat),p.1<ts.length→p.2.length≤256→x<p.2.length→qRg ts level S n x p= .inr (q,y)→p.1≤q.1∧q.1<ts.length∧p.2.length≤q.2.length∧q.2.length≤256∧y<q.2.length
 |0,_,_,_,_,_,_,_,h1=>by cases h1
 |n+1,x,p,q,y,hp,hb,hx,h1=>by
  unfold qRg at h1
  split at h1
  ·obtain⟨rfl,rfl⟩:=Prod.mk.inj (Sum.inr.inj h1)
   exact⟨jK _,hp,jK _,hb,hx⟩
  ·rename_i hop
   have hk:(tkAt ts p.1).1≠5:=by
    intro hk
    apply hop
    unfold opC
    have:opsC.find? (isOp ts level p.1)=none:=by
     rw[List.find?_eq_none]
     intro o _ ho
     simp only[isOp,jJ] at ho
     have:=qZf ho.1
     omega
    rw[this]
   have g:=h.next hp hk
   obtain⟨a,ha,h2⟩:=qBm h1
   obtain⟨⟨f1,f2,f3,f4⟩,f5⟩:=hS (p.1+1,p.2) a.1 a.2 g hb ha
   obtain⟨r,hr,h3⟩:=qBm h2
   obtain⟨⟨k1,k2,k3,k4⟩,k5⟩:=qNx (ts:=ts) (p:=p) (by simp only at f1;omega) f2 f3 f4 hr
   split at h3
   ·obtain⟨rfl,rfl⟩:=Prod.mk.inj (Sum.inr.inj h3)
    exact⟨by omega,k2,k3,k4,k5⟩
   ·obtain⟨j1,j2,j3,j4,j5⟩:=zBs h hS n _ _ q y k2 k4 k5 h3
    exact⟨by omega,j2,by omega,j4,j5⟩
theorem qOn(h:OkT ts){level:Nat}(hS:Adv ts S):Adv ts (qRk ts level S):=by
 intro p q x hp hb h1
 obtain⟨a,ha,h2⟩:=qBm h1
 obtain⟨⟨f1,f2,f3,f4⟩,f5⟩:=hS p a.1 a.2 hp hb ha
 obtain⟨j1,j2,j3,j4,j5⟩:=zBs h hS _ _ _ q x f2 f4 f5 h2
 exact⟨⟨by omega,j2,by omega,j4⟩,j5⟩
theorem qMf(h:OkT ts):∀k,Adv ts (qJu ts params k)
 |0=>fun _ _ _ _ _ h1=>by cases h1
 |k+1=>by
  intro p q x hp hb h1
  unfold qJu at h1
  split at h1
  ·rename_i hc
   have g:=qGm h hp (by decide) hc
   obtain⟨a,ha,h2⟩:=qBm h1
   obtain⟨⟨a1,a2,a3,a4⟩,-⟩:=qMf h k (p.1+1,p.2) a.1 a.2 g hb ha
   obtain⟨i,hi,h3⟩:=qBm h2
   obtain⟨rfl,g1,-⟩:=qYz h a2 hi
   obtain⟨b,hb1,h4⟩:=qBm h3
   obtain⟨⟨b1,b2,b3,b4⟩,-⟩:=qMf h k (a.1.1+1,a.1.2) b.1 b.2 g1 a4 hb1
   obtain⟨j,hj,h5⟩:=qBm h4
   obtain⟨rfl,g2,-⟩:=qYz h b2 hj
   obtain⟨c,hc1,h6⟩:=qBm h5
   obtain⟨⟨c1,c2,c3,c4⟩,-⟩:=qMf h k (b.1.1+1,b.1.2) c.1 c.2 g2 b4 hc1
   simp only at a1 a3 b1 b3 c1 c3
   exact qNx (by omega) c2 (by omega) c4 h6
  ·exact qOn h (qOn h (qOn h (qVz h (qMf h k)))) p q x hp hb h1
end
end
section
open Go Go.Dc
theorem idx_tk{ts:List Tok}{i:Nat}(hi:i<ts.length):idx ts (i:Int)=some (tkAt ts i):=by
 rw[qDf hi]
 simp[tkAt,kV,hi]
theorem qPo{i:Nat}(h:i<1000000):IntKind.wrap .i64 ((i:Int)+1)=((i+1:Nat):Int):=by rw[wi64 (by omega) (by omega)];omega
section
variable {N:Nat} {ts:List Tok} {pr:List ByteArray} {b:List Ex} {i:Nat}
theorem orS(a b:Bool):(if a=true then some a else some b)=some (a||b):=by
 cases a<;>simp
theorem someB(b:Bool):(if b=true then some true else some false)=some b:=by cases b<;>simp
theorem zCq(s:ByteArray):qJv N s=some (resC s):=by
 simp only[qJv,qEr,resC,wordsR,qUk,qTj,zKw,zLe,sGen,sIf,zLj,zLb,qVv,qWu,sHas,sEnv,qXa,jM,gN,or_false]
 simp only[orS,j0,someB,jI]
 simp only[Bool.decide_or]
end
end
section
open Go Go.Dc
end
section
open Go Go.Dc
end
section
open Go Go.Dc
end
section
open Go Go.Dc
section
variable {N:Nat} {ts:List Tok} {pr:List ByteArray} {b:List Ex}
theorem qRu(h:OkT ts):∀(n:Nat) (l:List ByteArray) (i:Nat) (a:Nat×List ByteArray),i<ts.length→l.length≤8→qQl ts n l i= .inr a→i<a.1∧a.1<ts.length∧a.2.length≤8
 |0,_,_,_,_,_,h1=>by cases h1
 |n+1,l,i,a,hi,hl,h1=>by
  obtain⟨x,hx,h2⟩:=qBm (show qCe (qPj ts i) _=_ from h1)
  obtain⟨rfl,g1,-⟩:=qNe h hi hx
  split at h2
  ·cases h2
  rename_i k1
  split at h2
  ·cases h2
  split at h2
  ·rename_i k3
   have g2:=qGm h g1 (by decide) k3
   obtain⟨j1,j2,j3⟩:=qRu h n _ _ a g2 (by simp only[jD,jC,jE];omega) h2
   exact⟨by omega,j2,j3⟩
  ·obtain⟨j,hj,h3⟩:=qBm h2
   obtain⟨rfl,g2,-⟩:=qGk h g1 hj
   obtain rfl:=Sum.inr.inj h3
   exact⟨by simp only;omega,g2,by simp only[jD,jC,jE];omega⟩
theorem qQp(h:OkT ts){i:Nat}{a:Nat×List ByteArray}(hi:i<ts.length)(h1:qKl ts i= .inr a):i<a.1∧a.1<ts.length∧a.2.length≤8:=by
 obtain⟨j,hj,h2⟩:=qBm h1
 obtain⟨rfl,g,-⟩:=qGk h hi hj
 split at h2
 ·rename_i k
  obtain rfl:=Sum.inr.inj h2
  exact⟨by simp only;omega,qGm h g (by decide) k,by simp⟩
 ·obtain⟨j1,j2,j3⟩:=qRu h _ _ _ a g (by simp) h2
  exact⟨by omega,j2,j3⟩
theorem qVi(h:OkT ts){before:List Dl}{i:Nat}{a:Nat×Dl}(hi:i<ts.length)(h1:qRs ts before i= .inr a):i<a.1∧a.1<ts.length∧before.length≠64:=by
 unfold qRs at h1
 dsimp only at h1
 split at h1
 ·cases h1
 rename_i k1
 split at h1
 ·cases h1
 rename_i k2
 have g:=h.next hi (show(tkAt ts i).1≠5 by intro e;apply k1;left;rw[e];decide)
 obtain⟨x,hx,h2⟩:=qBm h1
 have gx:x.1=i+1+1∧x.1<ts.length:=by
  split at hx
  ·obtain⟨rfl,g1,-⟩:=qNu h g hx;exact⟨rfl,g1⟩
  ·obtain⟨rfl,g1,-⟩:=qNe h g hx;exact⟨rfl,g1⟩
 split at h2
 ·cases h2
 obtain⟨y,hy,h3⟩:=qBm h2
 have gy:x.1≤y.1∧y.1<ts.length:=by
  split at hy
  ·obtain⟨g1,g2,-⟩:=qQp h gx.2 hy;exact⟨by omega,g2⟩
  ·obtain rfl:=Sum.inr.inj hy;exact⟨jK _,gx.2⟩
 obtain⟨j,hj,h4⟩:=qBm h3
 obtain⟨rfl,g3,-⟩:=qGk h gy.2 hj
 obtain⟨c,hc,h5⟩:=qBm h4
 obtain⟨⟨f1,f2,f3,f4⟩,-⟩:=qMf h 32 (y.1+1,[]) c.1 c.2 g3 (by simp) hc
 obtain⟨m,hm,h6⟩:=qBm h5
 obtain⟨rfl,g4,-⟩:=qGk h f2 hm
 obtain rfl:=Sum.inr.inj h6
 exact⟨by simp only at f1 ⊢;omega,g4,k2⟩
end
end
section
open Go Go.Dc
section
variable {N:Nat} {ts:List Tok} {pr:List ByteArray} {b:List Ex}
theorem qQr(h:OkT ts){pkg:ByteArray}:∀(n:Nat) (l:List ByteArray) (i:Nat) (a:Nat×List ByteArray),i<ts.length→l.length≤8→qLa ts pkg n l i= .inr a→i≤a.1∧a.1<ts.length∧a.2.length≤8
 |0,_,_,_,_,_,h1=>by cases h1
 |n+1,l,i,a,hi,hl,h1=>by
  unfold qLa at h1
  split at h1
  ·rename_i k
   have g:=qGm h hi (by decide) k
   split at h1
   ·cases h1
   rename_i k2
   obtain⟨x,hx,h2⟩:=qBm h1
   obtain⟨rfl,g1,-⟩:=qNe h g hx
   split at h2
   ·cases h2
   obtain⟨j,hj,h3⟩:=qBm h2
   obtain⟨rfl,g2,-⟩:=qGk h g1 hj
   obtain⟨j1,j2,j3⟩:=qQr h n _ _ a g2 (by simp only[jD,jC,jE];omega) h3
   exact⟨by omega,j2,j3⟩
  ·obtain rfl:=Sum.inr.inj h1
   exact⟨jK _,hi,hl⟩
end
theorem zDu{s:ByteArray}:∀(l:List Tok) (e:Int),0≤e→zMl s e l→∀i,i<l.length→((tkAt l i).1=5↔i+1=l.length)∧((tkAt l i).2.1.size:Int)≤s.size∧0≤(tkAt l i).2.2.2
 |[],_,_,_,i,hi=>by simp at hi
 |t::r,e,he,h,i,hi=>by
  obtain⟨h1,h2,h3,h4,h5⟩:=h
  have hend:0≤endT t:=by unfold endT;split<;>omega
  cases i with
  |zero=>
   refine⟨?_,?_,?_⟩
   ·show t.1=5↔0+1=r.length+1
    rw[h3,←fD];omega
   ·show((t.2.1.size:Nat):Int)≤s.size
    omega
   ·show 0≤t.2.2.2
    omega
  |succ i=>
   have:=zDu r _ hend h5 i (by simpa using hi)
   have e:tkAt (t::r) (i+1)=tkAt r i:=by simp[tkAt]
   rw[e,jC]
   exact⟨⟨fun h=>by have:=this.1.1 h;omega,fun h=>this.1.2 (by omega)⟩,this.2⟩
theorem qXm{s:ByteArray}(h:(qIx s).2.2=0):OkT (qIx s).1∧(qIx s).1.length≤16385∧∀j,(tkAt (qIx s).1 j).2.1.size<100000:=by
 unfold qIx at h ⊢
 split at h
 ·simp at h
 rename_i hs
 rw[if_neg hs]
 cases hG:tokG (s.data.toList.length+1) s 0 with
 |inl x=>
  obtain⟨_,_,h3⟩:=qZp _ 0 x (by omega) (by omega) hG
  rw[hG] at h
  exact absurd h h3
 |inr r=>
  obtain⟨g1,g2,g3⟩:=qSy _ 0 0 r (by omega) (by omega) (by omega) hG
  simp only[zCw,kK]
  have hc:=zDu r 0 (by omega) g1
  refine⟨⟨g2,fun i hi=>(hc i hi).1⟩,by omega,fun j=> ?_⟩
  rcases d4 j r.length with hj|hj
  ·have:=(hc j hj).2.1
   have hs2:=qCx s
   omega
  ·have e:tkAt r j=(5,⟨#[]⟩,0,0):=by simp[tkAt,kV,List.getElem?_eq_none hj]
   rw[e];decide
end
section
open Go Go.Dc
abbrev RT:=List Tok×Int×Int×Int×List ByteArray×List Ex×List Int
def gR(ts:List Tok)(pr:List ByteArray)(p:Ps):RT:=(ts,(p.1:Int),0,0,pr,p.2,[])
def bR(ts:List Tok)(z:Flt)(i:Nat)(pr:List ByteArray)(b:List Ex):RT:=(ts,(i:Int),z.1,z.2,pr,b,[])
section
variable {N:Nat} {ts:List Tok} {pr:List ByteArray} {b:List Ex} {i:Nat} {z:Flt}
theorem rnow{st:Int×Int×List ByteArray×List Ex×List Int}(hi:i<ts.length):qAj N (ts,(i:Int),st.1,st.2.1,st.2.2.1,st.2.2.2.1,st.2.2.2.2)=some ((ts,(i:Int),st.1,st.2.1,st.2.2.1,st.2.2.2.1,st.2.2.2.2),tkAt ts i):=by
 simp only[qAj,idx_tk hi,j0]
theorem qIq(p:Ps)(hi:p.1<ts.length):qAj N (gR ts pr p)=some (gR ts pr p,tkAt ts p.1):=rnow (st:=(0,0,pr,p.2,[])) hi
theorem qNz(hi:i<ts.length):qAj N (bR ts z i pr b)=some (bR ts z i pr b,tkAt ts i):=rnow (st:=(z.1,z.2,pr,b,[])) hi
theorem qKo(p:Ps)(hi:p.1<ts.length)(hl:ts.length<1000000)(s:ByteArray):qBd N (gR ts pr p) s=some (if isC ts 1 s p.1 then(gR ts pr (p.1+1,p.2),true) else(gR ts pr p,false)):=by
 have h0:qAj N (ts,(p.1:Int),0,0,pr,p.2,[])=some ((ts,(p.1:Int),0,0,pr,p.2,[]),tkAt ts p.1):=qIq p hi
 simp only[qBd,gR,h0,j0,qEr,isC,kS,jH]
 by_cases h1:(tkAt ts p.1).1=1<;>by_cases h2:(tkAt ts p.1).2.1=s<;>simp[h1,h2,qPo (show p.1<1000000 by omega)]
theorem zCv(hz:z.2≠0)(s:ByteArray):qBd N (bR ts z i pr b) s=some (bR ts z i pr b,false):=by
 simp[qBd,bR,hz]
theorem qJs(p:Ps)(hi:p.1<ts.length)(hl:ts.length<1000000)(s:ByteArray):qBe N (gR ts pr p) s=some (if isC ts 4 s p.1 then(gR ts pr (p.1+1,p.2),true) else(gR ts pr p,false)):=by
 have h0:qAj N (ts,(p.1:Int),0,0,pr,p.2,[])=some ((ts,(p.1:Int),0,0,pr,p.2,[]),tkAt ts p.1):=qIq p hi
 simp only[qBe,gR,h0,j0,qEr,isC,kS,jH]
 by_cases h1:(tkAt ts p.1).1=4<;>by_cases h2:(tkAt ts p.1).2.1=s<;>simp[h1,h2,qPo (show p.1<1000000 by omega)]
theorem qYt(hz:z.2≠0)(s:ByteArray):qBe N (bR ts z i pr b) s=some (bR ts z i pr b,false):=by
 simp[qBe,bR,hz]
theorem qJi(p:Ps)(a e:Int):qAk N (gR ts pr p) a e=some (bR ts (a,e) p.1 pr p.2):=by
 simp[qAk,gR,bR]
theorem qLu(hz:z.2≠0)(a e:Int):qAk N (bR ts z i pr b) a e=some (bR ts z i pr b):=by
 simp[qAk,bR,hz]
theorem qMa(p:Ps)(hi:p.1<ts.length)(hl:ts.length<1000000)(s:ByteArray):qAg N (gR ts pr p) s=some (match qGi ts s p.1 with| .inl z=>bR ts z p.1 pr p.2| .inr j=>gR ts pr (j,p.2)):=by
 have h1:=qJs (N:=N) (pr:=pr) p hi hl s
 have h2:=qIq (N:=N) (pr:=pr) p hi
 have h3:=qJi (N:=N) (ts:=ts) (pr:=pr) p (tkAt ts p.1).2.2.2 9
 simp only[gR] at h1 h2 h3
 simp only[qAg,gR,h1,j0,qGi]
 rcases qEg (isC ts 4 s p.1) with h|h
 ·simp only[h,jH,kQ,jB,jG]
 ·simp only[h,jH,kG,jB,jG,h2,j0,h3,qGv]
theorem qLi(hz:z.2≠0)(hi:i<ts.length)(s:ByteArray):qAg N (bR ts z i pr b) s=some (bR ts z i pr b):=by
 have h1:=qYt (N:=N) (ts:=ts) (i:=i) (pr:=pr) (b:=b) hz s
 have h2:=qNz (N:=N) (ts:=ts) (i:=i) (pr:=pr) (b:=b) (z:=z) hi
 have h3:=qLu (N:=N) (ts:=ts) (i:=i) (pr:=pr) (b:=b) hz (tkAt ts i).2.2.2 9
 simp only[bR] at h1 h2 h3
 simp only[qAg,bR,h1,j0,kG,jH,h2,h3]
theorem qZr{s:ByteArray}:∀(d k M:Nat),k+d=wordsR.length→d<M→qAq (qDo N s) M (k:Int)=some (if s∈wordsR.drop k then .inr true else .inl ())
 |d,k,0,_,h=>by omega
 |0,k,M+1,h,_=>by
  have:wordsR.drop k=[]:=jR (by omega)
  simp only[qAq,qDo,this]
  rw[if_neg (by simp only[jA];have:wordsR.length=13:=rfl;simp only[jC,jE];omega)]
  rfl
 |d+1,k,M+1,h,hM=>by
  have hk:k<wordsR.length:=by omega
  have ih:=qZr (s:=s) d (k+1) M (by omega) (by omega)
  simp only[qAq]
  have e:qDo N s (k:Int)=some (if s=wordsR[k] then .inr (.inr true) else .inl (((k+1:Nat):Int))):=by
   have h13:wordsR.length=13:=rfl
   have hx:idx ([(⟨#[112,97,99,107,97,103,101]⟩:ByteArray),(⟨#[105,109,112,111,114,116]⟩:ByteArray),(⟨#[102,117,110,99]⟩:ByteArray),(⟨#[116,101,115,116]⟩:ByteArray),(⟨#[103,101,110]⟩:ByteArray),(⟨#[105,102]⟩:ByteArray),(⟨#[116,104,101,110]⟩:ByteArray),(⟨#[101,108,115,101]⟩:ByteArray),(⟨#[114,101,97,100]⟩:ByteArray),(⟨#[115,105,122,101]⟩:ByteArray),(⟨#[104,97,115]⟩:ByteArray),(⟨#[101,110,118]⟩:ByteArray),(⟨#[102,108,105,112]⟩:ByteArray)]) (k:Int)=some wordsR[k]:=qDf (l:=wordsR) hk
   simp only[qDo]
   rw[if_pos (by simp only[jA,jC,jE];omega),hx]
   simp only[j0,qEr,jA,qPo (show k<1000000 by omega)]
   split<;>rfl
  rw[e,jP hk]
  simp only[j0,jM]
  by_cases hs:s=wordsR[k]
  ·rw[if_pos hs,if_pos (.inl hs)]
  ·rw[if_neg hs]
   simp only[ih]
   by_cases h2:s∈wordsR.drop (k+1)
   ·rw[if_pos h2,if_pos (.inr h2)]
   ·rw[if_neg h2,if_neg (fun h=>h.elim hs h2)]
theorem rres(hN:100<N)(s:ByteArray):qGo N s=some (resC s):=by
 have h:=qZr (N:=N) (s:=s) 13 0 N rfl (by omega)
 simp only[k7] at h
 simp only[qGo]
 rw[show(0:Int)=((0:Nat):Int) from rfl,h]
 simp only[resC,j0]
 by_cases h2:s∈wordsR
 ·rw[if_pos h2,jU h2]
 ·rw[if_neg h2,jQ h2]
theorem qTg(p:Ps)(hi:p.1<ts.length)(hl:ts.length<1000000)(hN:100<N):qAz N (gR ts pr p)=some (match qPj ts p.1 with| .inl z=>(bR ts z p.1 pr p.2,⟨#[]⟩)| .inr a=>(gR ts pr (a.1,p.2),a.2.2.1)):=by
 have h2:=qIq (N:=N) (pr:=pr) p hi
 have h3:=qJi (N:=N) (ts:=ts) (pr:=pr) p (tkAt ts p.1).2.2.2 9
 simp only[gR] at h2 h3
 simp only[qAz,gR,h2,j0,rres hN,qPj,qOy,hY,jB,jG]
 by_cases k1:(tkAt ts p.1).1=1
 ·have k1':((tkAt ts p.1).1 !=1)=false:=by simp[k1]
  simp only[k1',jB,jG,j0,if_pos k1,qCe]
  rcases qEg (resC (tkAt ts p.1).2.1) with k2|k2
  ·simp only[k2,jH,h3,j0,qGv]
  ·simp only[k2,jB,jG,qPo (show p.1<1000000 by omega)]
 ·have k1':((tkAt ts p.1).1 !=1)=true:=by simp[k1]
  simp only[k1',jH,j0,if_neg k1,qCe,h3,qGv]
theorem qYo(hz:z.2≠0)(hi:i<ts.length):qAz N (bR ts z i pr b)=some (bR ts z i pr b,⟨#[]⟩):=by
 have h2:=qNz (N:=N) (ts:=ts) (i:=i) (pr:=pr) (b:=b) (z:=z) hi
 have h3:=qLu (N:=N) (ts:=ts) (i:=i) (pr:=pr) (b:=b) hz (tkAt ts i).2.2.2 9
 have hz':(z.2 !=0)=true:=by simpa using hz
 simp only[bR] at h2 h3
 simp only[qAz,bR,h2,j0,hz',jH,h3]
theorem qUu(p:Ps)(hi:p.1<ts.length)(hl:ts.length<1000000):qCh N (gR ts pr p)=some (match qOy ts 2 p.1 with| .inl z=>(bR ts z p.1 pr p.2,0)| .inr a=>(gR ts pr (a.1,p.2),a.2.2.2.1)):=by
 have h2:=qIq (N:=N) (pr:=pr) p hi
 have h3:=qJi (N:=N) (ts:=ts) (pr:=pr) p (tkAt ts p.1).2.2.2 9
 simp only[gR] at h2 h3
 simp only[qCh,gR,h2,j0,qOy,hY,jB,jG]
 by_cases k1:(tkAt ts p.1).1=2
 ·have k1':((tkAt ts p.1).1 !=2)=false:=by simp[k1]
  simp only[k1',jB,jG,if_pos k1,qPo (show p.1<1000000 by omega)]
 ·have k1':((tkAt ts p.1).1 !=2)=true:=by simp[k1]
  simp only[k1',jH,if_neg k1,h3,j0,qGv]
theorem zGr(hz:z.2≠0)(hi:i<ts.length):qCh N (bR ts z i pr b)=some (bR ts z i pr b,0):=by
 have h2:=qNz (N:=N) (ts:=ts) (i:=i) (pr:=pr) (b:=b) (z:=z) hi
 have h3:=qLu (N:=N) (ts:=ts) (i:=i) (pr:=pr) (b:=b) hz (tkAt ts i).2.2.2 9
 have hz':(z.2 !=0)=true:=by simpa using hz
 simp only[bR] at h2 h3
 simp only[qCh,bR,h2,j0,hz',jH,h3]
theorem zHr(t:Tok)(x:Ex)(p:Ps)(hb:p.2.length≤256):∃v,qAl N (gR ts pr p) x t.2.2.2=some (match qNb t x p with| .inl z=>(bR ts z p.1 pr p.2,v)| .inr q=>(gR ts pr q.1,(q.2:Int))):=by
 refine⟨IntKind.wrap .i64 ((p.2.length:Int)-1),?_⟩
 have h3:=qJi (N:=N) (ts:=ts) (pr:=pr) p t.2.2.2 2
 simp only[gR] at h3
 simp only[qAl,gR,kS,jH,j0,qNb]
 by_cases k1:p.2.length=256
 ·have k1':((p.2.length:Int)==256)=true:=by simp;omega
  simp only[k1',jH,h3,j0,bR]
  simp[k1,qGv]
 ·have k1':((p.2.length:Int)==256)=false:=by simp;omega
  have hw:IntKind.wrap .i64 (((p.2.length+1:Nat):Int)-1)=(p.2.length:Int):=by rw[wi64 (by omega) (by omega)];omega
  simp only[k1',jB,jG,j0,if_neg k1,kS,jH]
  rw[qDe (by simp only[jC,jE];omega) (by omega)]
  simp only[j0,jD,jC,jE,jW,hw]
theorem zGy(hz:z.2≠0)(x:Ex)(a:Int):∃v,qAl N (bR ts z i pr b) x a=some (bR ts z i pr b,v):=by
 refine⟨IntKind.wrap .i64 ((b.length:Int)-1),?_⟩
 have hz':(z.2==0)=false:=by simpa using hz
 simp only[qAl,bR,hz',jB,jG,j0]
end
end
section
open Go Go.Dc
section
variable {N:Nat} {ts:List Tok} {pr:List ByteArray} {b:List Ex} {i:Nat} {z:Flt}
theorem zCf(p:Ps)(hi:p.1<ts.length)(hl:ts.length<1000000)(hN:100<N)(pth:Bool):qBn N (gR ts pr p) pth=some (match(if pth=true then qRt ts p.1 else qWd ts p.1) with| .inl z=>(bR ts z p.1 pr p.2,⟨#[]⟩)| .inr a=>(gR ts pr (a.1,p.2),a.2.2.1)):=by
 have h2:=qIq (N:=N) (pr:=pr) p hi
 have h3:=qJi (N:=N) (ts:=ts) (pr:=pr) p (tkAt ts p.1).2.2.2 9
 simp only[gR] at h2 h3
 simp only[qBn,gR,h2,j0,zGb hN,zFq hN,qRt,qWd,qOy,hY,jB,jG]
 by_cases k1:(tkAt ts p.1).1=3
 ·have k1':((tkAt ts p.1).1 !=3)=false:=by simp[k1]
  simp only[k1',jB,jG,j0,if_pos k1,qCe]
  cases pth with
  |true=>
   simp only[jH,kQ,jB,jG]
   rcases qEg (qRb (tkAt ts p.1).2.1.data.toList) with k2|k2
   ·simp only[k2,kQ,jB,jG,j0,jH,qPo (show p.1<1000000 by omega)]
   ·simp only[k2,kG,jB,jG,j0,jH,h3,qGv]
  |false=>
   simp only[jH,kG,jB,jG]
   rcases qEg (qTl (tkAt ts p.1).2.1) with k2|k2
   ·simp only[k2,kQ,jB,jG,j0,jH,qPo (show p.1<1000000 by omega)]
   ·simp only[k2,kG,jB,jG,j0,jH,h3,qGv]
 ·have k1':((tkAt ts p.1).1 !=3)=true:=by simp[k1]
  simp only[k1',jH,j0,if_neg k1,qCe,h3,qGv]
  cases pth<;>rfl
theorem zCi(hz:z.2≠0)(hi:i<ts.length)(pth:Bool):qBn N (bR ts z i pr b) pth=some (bR ts z i pr b,⟨#[]⟩):=by
 have h2:=qNz (N:=N) (ts:=ts) (i:=i) (pr:=pr) (b:=b) (z:=z) hi
 have h3:=qLu (N:=N) (ts:=ts) (i:=i) (pr:=pr) (b:=b) hz (tkAt ts i).2.2.2 9
 have hz':(z.2 !=0)=true:=by simpa using hz
 simp only[bR] at h2 h3
 simp only[qBn,bR,h2,j0,hz',jH,h3]
theorem zBn{s:ByteArray}{l:List ByteArray}(hl:l.length<1000000):∀(d i M:Nat),i+d=l.length→d<M→
  qAq (qGd N l s) M (i:Int)=some (if s∈l.drop i then .inr true else .inl ())
 |d,i,0,_,h=>by omega
 |0,i,M+1,h,_=>by
  have:l.drop i=[]:=jR (by omega)
  simp only[qAq,qGd,this]
  rw[if_neg (by simp only[jA];omega)]
  rfl
 |d+1,i,M+1,h,hM=>by
  have hi:i<l.length:=by omega
  have ih:=zBn (s:=s) hl d (i+1) M (by omega) (by omega)
  simp only[qAq,qGd]
  rw[if_pos (by simp only[jA];omega),qDf hi,jP hi]
  simp only[j0,qEr,jA,jM]
  by_cases hs:l[i]=s
  ·rw[if_pos hs,if_pos (.inl hs.symm)];rfl
  ·rw[if_neg hs]
   simp only[j0,qPo (show i<1000000 by omega),ih]
   by_cases h2:s∈l.drop (i+1)
   ·rw[if_pos h2,if_pos (.inr h2)]
   ·rw[if_neg h2,if_neg (fun h=>h.elim (fun e=>hs e.symm) h2)]
theorem rhas{s:ByteArray}{l:List ByteArray}(hl:l.length<1000000)(hN:l.length<N):qCv N l s=some (decide (s∈l)):=by
 have h:=zBn (N:=N) (s:=s) hl l.length 0 N (by omega) hN
 simp only[k7] at h
 simp only[qCv]
 rw[show(0:Int)=((0:Nat):Int) from rfl,h]
 simp only[j0]
 by_cases h2:s∈l
 ·rw[if_pos h2,jU h2]
 ·rw[if_neg h2,jQ h2]
theorem andS(a b:Bool):(if a=true then some b else some false)=some (a&&b):=by cases a<;>rfl
theorem qWw{s:ByteArray}{k:Int}{f:Sr}(hl:f.2.2.length<1000000):∀(d i M:Nat),i+d=f.2.2.length→d<M→
  qAq (qFd N f k s) M (i:Int)=some (if(f.2.2.drop i).any (fun d=>d.1==k&&decide (d.2.1=s))=true then .inr true else .inl ())
 |d,i,0,_,h=>by omega
 |0,i,M+1,h,_=>by
  have:f.2.2.drop i=[]:=jR (by omega)
  simp only[qAq,qFd,this]
  rw[if_neg (by simp only[jA];omega)]
  rfl
 |d+1,i,M+1,h,hM=>by
  have hi:i<f.2.2.length:=by omega
  have ih:=qWw (s:=s) (k:=k) hl d (i+1) M (by omega) (by omega)
  simp only[qAq,qFd]
  rw[if_pos (by simp only[jA];omega),qDf hi,jP hi,gW]
  simp only[j0,qEr,qPo (show i<1000000 by omega),andS]
  rcases qEg (f.2.2[i].1==k&&decide (f.2.2[i].2.1=s)) with h1|h1
  ·simp only[h1,jH,j0,fZ]
  ·simp only[h1,jB,jG,j0,ih,kY]
theorem rtaken{s:ByteArray}{k:Int}{f:Sr}(hl:f.2.2.length<1000000)(hN:f.2.2.length<N):qEj N f k s=some (f.2.2.any fun d=>d.1==k&&decide (d.2.1=s)):=by
 have h:=qWw (N:=N) (s:=s) (k:=k) hl f.2.2.length 0 N (by omega) hN
 simp only[k7] at h
 simp only[qEj]
 rw[show(0:Int)=((0:Nat):Int) from rfl,h]
 simp only[j0]
 rcases qEg (f.2.2.any fun d=>d.1==k&&decide (d.2.1=s)) with h2|h2
 ·rw[if_pos h2,h2]
 ·rw[if_neg (by rw[h2];decide),h2]
theorem op_3:opC ts 3 i=if isC ts 4 ⟨#[42]⟩ i=true then 3 else if isC ts 4 ⟨#[47]⟩ i=true then 4 else if isC ts 4 ⟨#[37]⟩ i=true then 5 else 0:=by
 unfold opC opsC
 simp only[List.find?,isOp,levP]
 rcases qEg (isC ts 4 ⟨#[42]⟩ i) with h1|h1<;>rcases qEg (isC ts 4 ⟨#[47]⟩ i) with h2|h2<;>rcases qEg (isC ts 4 ⟨#[37]⟩ i) with h3|h3<;>simp[h1,h2,h3]
theorem op_2:opC ts 2 i=if isC ts 4 ⟨#[43]⟩ i=true then 1 else if isC ts 4 ⟨#[45]⟩ i=true then 2 else 0:=by
 unfold opC opsC
 simp only[List.find?,isOp,levP]
 rcases qEg (isC ts 4 ⟨#[43]⟩ i) with h1|h1<;>rcases qEg (isC ts 4 ⟨#[45]⟩ i) with h2|h2<;>simp[h1,h2]
theorem op_1:opC ts 1 i=if isC ts 4 ⟨#[60]⟩ i=true then 6 else if isC ts 4 ⟨#[61,61]⟩ i=true then 7 else 0:=by
 unfold opC opsC
 simp only[List.find?,isOp,levP]
 rcases qEg (isC ts 4 ⟨#[60]⟩ i) with h1|h1<;>rcases qEg (isC ts 4 ⟨#[61,61]⟩ i) with h2|h2<;>simp[h1,h2]
theorem qTe{α:Type}{t:Tok}{e:Int}(he:e≠0)(h:(qGv t e:Flt⊕α)= .inl z):z.2≠0:=by
 obtain rfl:=Sum.inl.inj h;exact he
theorem qKj{s:ByteArray}(h:qGi ts s i= .inl z):z.2≠0:=by
 unfold qGi at h;split at h
 ·cases h
 ·exact qTe (by decide) h
theorem qVj{k:Int}(h:qOy ts k i= .inl z):z.2≠0:=by
 unfold qOy at h;split at h
 ·cases h
 ·exact qTe (by decide) h
theorem zDg{α β:Type}{x:Flt⊕α}{f:α→Flt⊕β}(h:qCe x f= .inl z):x= .inl z∨∃a,x= .inr a∧f a= .inl z:=by
 cases x with
 |inl y=>obtain rfl:=Sum.inl.inj h;exact .inl rfl
 |inr a=>exact .inr ⟨a,rfl,h⟩
theorem qZb(h:qPj ts i= .inl z):z.2≠0:=by
 rcases zDg h with h|⟨a,_,h⟩
 ·exact qVj h
 ·split at h
  ·exact qTe (by decide) h
  ·cases h
theorem qZl(h:qRt ts i= .inl z):z.2≠0:=by
 rcases zDg h with h|⟨a,_,h⟩
 ·exact qVj h
 ·split at h
  ·cases h
  ·exact qTe (by decide) h
theorem zKq(h:qWd ts i= .inl z):z.2≠0:=by
 rcases zDg h with h|⟨a,_,h⟩
 ·exact qVj h
 ·split at h
  ·cases h
  ·exact qTe (by decide) h
theorem zCt{t:Tok}{x:Ex}{p:Ps}(h:qNb t x p= .inl z):z.2≠0:=by
 unfold qNb at h;split at h
 ·exact qTe (by decide) h
 ·cases h
end
end
section
open Go Go.Dc
def Bad(ts:List Tok)(z:Flt)(st:RT):Prop:=z.2≠0∧∃(i:Nat) (pr:List ByteArray) (b:List Ex),i<ts.length∧st=bR ts z i pr b
def relR(ts:List Tok)(pr:List ByteArray)(r:PM Nat)(o:RT×Int):Prop:=
 match r with
 | .inl z=>Bad ts z o.1
 | .inr q=>o=(gR ts pr q.1,(q.2:Int))
section
variable {N:Nat} {ts:List Tok} {pr:List ByteArray} {E S:Ps→PM Nat} {d:Int}
variable {r1 r2 r3 r4:RT→Int→Option (RT×Int)}
theorem qLs{z:Flt}{i:Nat}{pr':List ByteArray}{b:List Ex}{v:Int}(hz:z.2≠0)(hi:i<ts.length):relR ts pr (.inl z) (bR ts z i pr' b,v):=⟨hz,i,pr',b,hi,rfl⟩
theorem qOt(t:Tok)(x:Ex)(p:Ps)(hp:p.1<ts.length)(hb:p.2.length≤256):∃o,qAl N (gR ts pr p) x t.2.2.2=some o∧relR ts pr (qNb t x p) o:=by
 obtain⟨v,h⟩:=zHr (N:=N) (ts:=ts) (pr:=pr) t x p hb
 cases hn:qNb t x p with
 |inl z=>rw[hn] at h;exact⟨_,h,qLs (zCt hn) hp⟩
 |inr q=>rw[hn] at h;exact⟨_,h,rfl⟩
theorem qQx{z:Flt}{i:Nat}{pr':List ByteArray}{b:List Ex}(hz:z.2≠0)(hi:i<ts.length)(x:Ex)(a:Int):∃o,qAl N (bR ts z i pr' b) x a=some o∧relR ts pr (.inl z) o:=by
 obtain⟨v,h⟩:=zGy (N:=N) (ts:=ts) (pr:=pr') (b:=b) (i:=i) hz x a
 exact⟨_,h,qLs hz hi⟩
theorem qUw(t:Tok)(x:Ex)(p:Ps)(hok:OkT ts)(hl:ts.length<1000000)(hp:p.1<ts.length)(hb:p.2.length≤256):∃o,
  ((qAg N (gR ts pr p) (⟨#[41]⟩:ByteArray)).bind fun y=>qAl N y x t.2.2.2)=some o∧relR ts pr (qCe (qGi ts qJe p.1) fun i=>qNb t x (i,p.2)) o:=by
 have e:=qMa (N:=N) (pr:=pr) p hp hl ⟨#[41]⟩
 simp only[e,j0,qJe]
 cases h:qGi ts ⟨#[41]⟩ p.1 with
 |inl z=>exact qQx (qKj h) hp x _
 |inr j=>
  obtain⟨rfl,g,-⟩:=qGk hok hp h
  exact qOt t x (p.1+1,p.2) g hb
theorem qNj{z:Flt}{i:Nat}{pr':List ByteArray}{b:List Ex}(hz:z.2≠0)(hi:i<ts.length)(x:Ex)(a:Int):∃o,
  ((qAg N (bR ts z i pr' b) (⟨#[41]⟩:ByteArray)).bind fun y=>qAl N y x a)=some o∧relR ts pr (.inl z) o:=by
 simp only[qLi hz hi,j0]
 exact qQx hz hi x a
variable (hEg:∀p:Ps,p.1<ts.length→p.2.length≤256→∃o,r4 (gR ts pr p) (IntKind.wrap .i64 (d+1))=some o∧relR ts pr (E p) o)
variable (hEb:∀(z:Flt) (i:Nat) (pr':List ByteArray) (b:List Ex),z.2≠0→i<ts.length→∃v,r4 (bR ts z i pr' b) (IntKind.wrap .i64 (d+1))=some (bR ts z i pr' b,v))
def zEd(ts:List Tok)(E:Ps→PM Nat)(n:Nat)(l:List Int)(p:Ps):PM (List Int):=
 if isC ts 4 qOq p.1 then zBi ts E n l (p.1+1,p.2) else qCe (qGi ts qJe p.1) fun i=> .inr ((i,p.2),l)
theorem qUj(n:Nat)(l:List Int)(p:Ps):zBi ts E (n+1) l p=qCe (E p) fun q=>zEd ts E n (l++[(q.2:Int)]) q.1:=rfl
def relL(ts:List Tok)(pr:List ByteArray)(r:PM (List Int))(o:List Int×RT):Prop:=
 match r with
 | .inl z=>Bad ts z o.2
 | .inr q=>o=(q.2,gR ts pr q.1)
theorem qUn{z:Flt}{i:Nat}{pr':List ByteArray}{b:List Ex}(hz:z.2≠0)(M:Nat)(l:List Int):qAq (qCc N r4 d) (M+1) (l,bR ts z i pr' b)=some (l,bR ts z i pr' b):=by
 have hz':(z.2==0)=false:=by simpa using hz
 simp only[qAq,qCc,bR,hz',jB,jG,j0]
include hEg hEb in
theorem qYi(hok:OkT ts)(hl:ts.length<1000000)(hA:Adv ts E):∀(n M:Nat) (l:List Int) (p:Ps),l≠[]→p.1<ts.length→p.2.length≤256→l.length≤p.1→ts.length<p.1+n→ts.length+2<p.1+M→
  ∃o,qAq (qCc N r4 d) M (l,gR ts pr p)=some o∧relL ts pr (zEd ts E n l p) o
 |0,M,l,p,_,hp,_,_,h,_=>by omega
 |n+1,0,l,p,_,hp,_,_,_,h=>by omega
 |n+1,M+1,l,p,hne,hp,hb,hll,hn,hM=>by
  have hs:=qJs (N:=N) (pr:=pr) p hp hl ⟨#[41]⟩
  have hpos:decide ((l.length:Int)>0)=true:=by
   have:=fC.2 hne
   exact jU (by omega)
  have g0:((gR ts pr p).2.2.2.1==0)=true:=rfl
  simp only[qAq,qCc,Prod.eta,g0,jH,hs,j0]
  rcases qEg (isC ts 4 ⟨#[41]⟩ p.1) with c1|c1
  ·simp only[c1,jH,kQ,jB,jG]
   refine⟨_,rfl,?_⟩
   have c2:isC ts 4 qOq p.1=false:=by
    simp only[isC,jJ,jA] at c1
    simp[isC,c1.2,qOq]
   have c3:qGi ts qJe p.1= .inr (p.1+1):=by simp[qGi,qJe,c1]
   simp only[zEd,c2,jB,jG,c3,qCe]
   rfl
  ·simp only[c1,jB,jG,kG,jH,hpos,Prod.eta,qMa p hp hl,j0]
   have hcc:isC ts 4 qOq p.1=isC ts 4 ⟨#[44]⟩ p.1:=rfl
   simp only[zEd,hcc,qGi]
   rcases qEg (isC ts 4 ⟨#[44]⟩ p.1) with c2|c2
   ·have g:=qGm hok hp (by decide) c2
    simp only[c2,jH]
    obtain⟨o,ho,hr⟩:=hEg (p.1+1,p.2) g hb
    simp only[ho,j0]
    cases hE:E (p.1+1,p.2) with
    |inl z=>
     rw[hE] at hr
     obtain⟨hz,i,pr',b,hi,ho1⟩:=hr
     rw[qDe (by simp only[jC,jE];omega) (by omega)]
     simp only[j0,ho1]
     cases M with
     |zero=>omega
     |succ M=>
      refine⟨_,qUn hz M _,?_⟩
      rw[qUj,hE]
      exact⟨hz,i,pr',b,hi,rfl⟩
    |inr q=>
     rw[hE] at hr
     obtain⟨⟨f1,f2,f3,f4⟩,f5⟩:=hA (p.1+1,p.2) q.1 q.2 g hb hE
     simp only at f1
     rw[qDe (by simp only[jC,jE];omega) (by omega)]
     have hr':o=(gR ts pr q.1,(q.2:Int)):=hr
     simp only[j0,hr']
     rw[qUj,hE]
     exact qYi hok hl hA n M (l++[(q.2:Int)]) q.1 (by simp) f2 f4 (by simp only[jD,jC,jE];omega) (by omega) (by omega)
   ·simp only[c2,jB,jG]
    have c3:isC ts 4 qJe p.1=false:=c1
    simp only[c3,jB,jG,qGv,qCe]
    obtain⟨v,hv⟩:=hEb ((tkAt ts p.1).2.2.2,9) p.1 pr p.2 (show(9:Int)≠0 by decide) hp
    simp only[hv,j0]
    rw[qDe (by simp only[jC,jE];omega) (by omega)]
    simp only[j0]
    cases M with
    |zero=>omega
    |succ M=>exact⟨_,qUn (z:=((tkAt ts p.1).2.2.2,9)) (show(9:Int)≠0 by decide) M _,show(9:Int)≠0 by decide,p.1,pr,p.2,hp,rfl⟩
include hEg hEb in
theorem rargs(hok:OkT ts)(hl:ts.length<1000000)(hN:1000002<N)(hA:Adv ts E)(p:Ps)(hp:p.1<ts.length)(hb:p.2.length≤256):
  ∃o,qAq (qCc N r4 d) N ([],gR ts pr p)=some o∧relL ts pr (if isC ts 4 qJe p.1 then .inr ((p.1+1,p.2),[]) else zBi ts E (ts.length+1) [] p) o:=by
 obtain⟨M,rfl⟩:∃M,N=M+1:=⟨N-1,by omega⟩
 have hs:=qJs (N:=M+1) (pr:=pr) p hp hl ⟨#[41]⟩
 have g0:((gR ts pr p).2.2.2.1==0)=true:=rfl
 have hnil:decide ((([]:List Int).length:Int)>0)=false:=rfl
 simp only[qAq,qCc,Prod.eta,g0,jH,hs,j0,qJe]
 rcases qEg (isC ts 4 ⟨#[41]⟩ p.1) with c1|c1
 ·simp only[c1,jH,kQ,jB,jG]
  exact⟨_,rfl,rfl⟩
 ·simp only[c1,jB,jG,kG,jH,hnil,Prod.eta,j0]
  obtain⟨o,ho,hr⟩:=hEg p hp hb
  simp only[ho,j0]
  cases hE:E p with
  |inl z=>
   rw[hE] at hr
   obtain⟨hz,i,pr',b,hi,ho1⟩:=hr
   rw[qDe (by simp) (by omega)]
   simp only[j0,ho1]
   cases M with
   |zero=>omega
   |succ M=>
    refine⟨_,qUn hz M _,?_⟩
    rw[qUj,hE]
    exact⟨hz,i,pr',b,hi,rfl⟩
  |inr q=>
   rw[hE] at hr
   obtain⟨⟨f1,f2,f3,f4⟩,f5⟩:=hA p q.1 q.2 hp hb hE
   rw[qDe (by simp) (by omega)]
   have hr':o=(gR ts pr q.1,(q.2:Int)):=hr
   simp only[j0,hr']
   rw[qUj,hE]
   exact qYi hEg hEb hok hl hA ts.length M ([]++[(q.2:Int)]) q.1 (by simp) f2 f4 (by simp only[jD,jC,jE];omega) (by omega) (by omega)
end
end
section
open Go Go.Dc
section
variable {N:Nat} {ts:List Tok} {pr:List ByteArray} {E S:Ps→PM Nat} {d:Int}
variable {r1 r2 r3 r4:RT→Int→Option (RT×Int)}
theorem zDz{y1:RT×Tok}{y31:RT×ByteArray}{p:Ps}(hpr:pr.length<1000):∀(k i M:Nat),i+k=pr.length→k<M→
  qAq (qCd N y1 y31 (gR ts pr p,false)) M (i:Int)=(match(pr.drop i).findIdx? (fun x=>decide (x=y31.2)) with
   |some j=>(qAl N (gR ts pr p) (2,((i+j:Nat):Int),0,⟨#[]⟩,[]) y1.2.2.2.2).bind fun y=>some (.inr y)
   |none=>some (.inl ()))
 |k,i,0,_,h=>by omega
 |0,i,M+1,h,_=>by
  have:pr.drop i=[]:=jR (by omega)
  have c:decide ((i:Int)<((gR ts pr p).2.2.2.2.1.length:Int))=false:=jQ (by simp only[gR];omega)
  simp only[qAq,qCd,this,List.findIdx?_nil,c,jB,jG,j0]
 |k+1,i,M+1,h,hM=>by
  have hi:i<pr.length:=by omega
  have ih:=zDz (y1:=y1) (y31:=y31) (p:=p) hpr k (i+1) M (by omega) (by omega)
  have c:decide ((i:Int)<((gR ts pr p).2.2.2.2.1.length:Int))=true:=jU (by simp only[gR];omega)
  have x:idx (gR ts pr p).2.2.2.2.1 (i:Int)=some pr[i]:=qDf hi
  have g0:((gR ts pr p).2.2.2.1==0)=true:=rfl
  rw[jP hi,List.findIdx?_cons]
  simp only[qAq,qCd,g0,Prod.eta,c,x,jH,j0,qEr,jA]
  by_cases hs:pr[i]=y31.2
  ·simp only[if_pos hs,jH,j0,gE]
   cases qAl N (gR ts pr p) (2,(i:Int),0,⟨#[]⟩,[]) y1.2.2.2.2<;>rfl
  ·simp only[if_neg hs,j0,jB,jG,qPo (show i<1000000 by omega),ih]
   cases(pr.drop (i+1)).findIdx? (fun x=>decide (x=y31.2)) with
   |none=>rfl
   |some j=>simp only[kW];rw[show i+1+j=i+(j+1) by omega]
theorem qYr{y1:RT×Tok}{y31:RT×ByteArray}{z:Flt}{j:Nat}{pr':List ByteArray}{b:List Ex}(hz:z.2≠0)(hpr:pr'.length<1000):∀(k i M:Nat),i+k=pr'.length→k<M→
  qAq (qCd N y1 y31 (bR ts z j pr' b,false)) M (i:Int)=some (.inl ())
 |k,i,0,_,h=>by omega
 |0,i,M+1,h,_=>by
  have c:decide ((i:Int)<((bR ts z j pr' b).2.2.2.2.1.length:Int))=false:=jQ (by simp only[bR];omega)
  simp only[qAq,qCd,c,jB,jG,j0]
 |k+1,i,M+1,h,hM=>by
  have hi:i<pr'.length:=by omega
  have ih:=qYr (y1:=y1) (y31:=y31) (j:=j) (b:=b) hz hpr k (i+1) M (by omega) (by omega)
  have c:decide ((i:Int)<((bR ts z j pr' b).2.2.2.2.1.length:Int))=true:=jU (by simp only[bR];omega)
  have x:idx (bR ts z j pr' b).2.2.2.2.1 (i:Int)=some pr'[i]:=qDf hi
  have g0:((bR ts z j pr' b).2.2.2.1==0)=false:=by simpa[bR] using hz
  simp only[qAq,qCd,g0,Prod.eta,c,x,jH,j0,qEr,jA]
  have:((if pr'[i]=y31.2 then some false else some false):Option Bool)=some false:=by split<;>rfl
  simp only[this,j0,jB,jG,qPo (show i<1000000 by omega),ih]
variable (hEg:∀p:Ps,p.1<ts.length→p.2.length≤256→∃o,r4 (gR ts pr p) (IntKind.wrap .i64 (d+1))=some o∧relR ts pr (E p) o)
variable (hEb:∀(z:Flt) (i:Nat) (pr':List ByteArray) (b:List Ex),z.2≠0→i<ts.length→∃v,r4 (bR ts z i pr' b) (IntKind.wrap .i64 (d+1))=some (bR ts z i pr' b,v))
include hEg hEb in
theorem zNe(hok:OkT ts)(hl:ts.length<1000000)(hN:100<N)(hA:Adv ts E)(t:Tok)(p:Ps)(hp:p.1<ts.length)(hb:p.2.length≤256):∃o,
  ((qAg N (gR ts pr p) (⟨#[40]⟩:ByteArray)).bind fun y11=>(qBn N y11 true).bind fun y12=>(qAg N y12.1 (⟨#[44]⟩:ByteArray)).bind fun y13=>(r4 y13 (IntKind.wrap .i64 (d+1))).bind fun y14=>(qAg N y14.1 (⟨#[41]⟩:ByteArray)).bind fun y15=>qAl N y15 (6,0,0,y12.2,[y14.2]) t.2.2.2)=some o∧
  relR ts pr (qCe (qGi ts qRq p.1) fun i=>qCe (qCe (qRt ts i) fun a=>qCe (qGi ts qOq a.1) fun i=>qCe (E (i,p.2)) fun q=>(.inr (q.1,((6,0,0,a.2.2.1,[(q.2:Int)]):Ex)):Flt⊕(Ps×Ex))) fun q=>qCe (qGi ts qJe q.1.1) fun i=>qNb t q.2 (i,q.1.2)) o:=by
 have bad:∀{z:Flt} {i:Nat} {pr':List ByteArray} {b:List Ex} (x:ByteArray),z.2≠0→i<ts.length→∃o,((r4 (bR ts z i pr' b) (IntKind.wrap .i64 (d+1))).bind fun y14=>(qAg N y14.1 (⟨#[41]⟩:ByteArray)).bind fun y15=>qAl N y15 (6,0,0,x,[y14.2]) t.2.2.2)=some o∧relR ts pr (.inl z) o:=by
  intro z i pr' b x hz hi
  obtain⟨v,hv⟩:=hEb z i pr' b hz hi
  simp only[hv,j0]
  exact qNj hz hi _ _
 simp only[qMa p hp hl,j0,qRq]
 cases h1:qGi ts ⟨#[40]⟩ p.1 with
 |inl z=>
  simp only[zCi (qKj h1) hp,qLi (qKj h1) hp,j0]
  exact bad _ (qKj h1) hp
 |inr i=>
  obtain⟨rfl,g1,-⟩:=qGk hok hp h1
  simp only[zCf (p.1+1,p.2) g1 hl hN,j0,jH,qCe]
  cases h2:qRt ts (p.1+1) with
  |inl z=>
   simp only[qLi (qZl h2) g1,j0]
   exact bad _ (qZl h2) g1
  |inr a=>
   obtain⟨rfl,g2,-⟩:=qNu hok g1 h2
   simp only[qMa (p.1+1+1,p.2) g2 hl,j0,qOq]
   cases h3:qGi ts ⟨#[44]⟩ (p.1+1+1) with
   |inl z=>exact bad _ (qKj h3) g2
   |inr j=>
    obtain⟨rfl,g3,-⟩:=qGk hok g2 h3
    obtain⟨o,ho,hr⟩:=hEg (p.1+1+1+1,p.2) g3 hb
    simp only[ho,j0]
    cases h4:E (p.1+1+1+1,p.2) with
    |inl z=>
     rw[h4] at hr
     obtain⟨hz,i,pr',b,hi,ho1⟩:=hr
     simp only[ho1]
     exact qNj hz hi _ _
    |inr q=>
     rw[h4] at hr
     obtain⟨⟨f1,f2,f3,f4⟩,f5⟩:=hA (p.1+1+1+1,p.2) q.1 q.2 g3 hb h4
     have hr':o=(gR ts pr q.1,(q.2:Int)):=hr
     simp only[hr']
     exact qUw t _ q.1 hok hl f2 f4
theorem zHk(hok:OkT ts)(hl:ts.length<1000000)(hN:100<N)(k:Int)(pth:Bool)(t:Tok)(p:Ps)(hp:p.1<ts.length)(hb:p.2.length≤256):∃o,
  ((qAg N (gR ts pr p) (⟨#[40]⟩:ByteArray)).bind fun y20=>(qBn N y20 pth).bind fun y21=>(qAg N y21.1 (⟨#[41]⟩:ByteArray)).bind fun y22=>qAl N y22 (k,0,0,y21.2,[]) t.2.2.2)=some o∧
  relR ts pr (qCe (qGi ts qRq p.1) fun i=>qCe (qCe (if pth=true then qRt ts i else qWd ts i) fun a=>(.inr ((a.1,p.2),((k,0,0,a.2.2.1,[]):Ex)):Flt⊕(Ps×Ex))) fun q=>qCe (qGi ts qJe q.1.1) fun i=>qNb t q.2 (i,q.1.2)) o:=by
 simp only[qMa p hp hl,j0,qRq]
 cases h1:qGi ts ⟨#[40]⟩ p.1 with
 |inl z=>
  simp only[zCi (qKj h1) hp,j0]
  exact qNj (qKj h1) hp _ _
 |inr i=>
  obtain⟨rfl,g1,-⟩:=qGk hok hp h1
  simp only[zCf (p.1+1,p.2) g1 hl hN,j0,qCe]
  cases h2:(if pth=true then qRt ts (p.1+1) else qWd ts (p.1+1)) with
  |inl z=>
   have hz:z.2≠0:=by
    split at h2
    ·exact qZl h2
    ·exact zKq h2
   exact qNj hz g1 _ _
  |inr a=>
   have g2:a=(p.1+1+1,tkAt ts (p.1+1))∧p.1+1+1<ts.length:=by
    split at h2
    ·obtain⟨e,g2,-⟩:=qNu hok g1 h2;exact⟨e,g2⟩
    ·obtain⟨e,g2,-⟩:=zBq hok g1 h2;exact⟨e,g2⟩
   obtain⟨rfl,g2⟩:=g2
   exact qUw t _ (p.1+1+1,p.2) hok hl g2 hb
theorem zMs(hok:OkT ts)(hl:ts.length<1000000)(t:Tok)(p:Ps)(hp:p.1<ts.length)(hb:p.2.length≤256):∃o,
  ((qAg N (gR ts pr p) (⟨#[40]⟩:ByteArray)).bind fun y25=>(qAj N y25).bind fun y26=>(qCh N y26.1).bind fun y27=>(if(decide (y27.2≥64))=true then((qAk N y27.1 y26.2.2.2.2 9).bind fun y28=>some y28) else(some y27.1):Option RT).bind fun o3=>(qAg N o3 (⟨#[41]⟩:ByteArray)).bind fun y29=>qAl N y29 (10,y27.2,0,⟨#[]⟩,[]) t.2.2.2)=some o∧
  relR ts pr (qCe (qGi ts qRq p.1) fun i=>qCe (qCe (qOy ts 2 i) fun a=>if a.2.2.2.1≥64 then qGv a.2 9 else(.inr ((a.1,p.2),((10,a.2.2.2.1,0,⟨#[]⟩,[]):Ex)):Flt⊕(Ps×Ex))) fun q=>qCe (qGi ts qJe q.1.1) fun i=>qNb t q.2 (i,q.1.2)) o:=by
 have h64:¬decide ((0:Int)≥64)=true:=by decide
 simp only[qMa p hp hl,j0,qRq]
 cases h1:qGi ts ⟨#[40]⟩ p.1 with
 |inl z=>
  simp only[qNz hp,zGr (qKj h1) hp,j0,if_neg h64]
  exact qNj (qKj h1) hp _ _
 |inr i=>
  obtain⟨rfl,g1,-⟩:=qGk hok hp h1
  simp only[qIq (p.1+1,p.2) g1,qUu (p.1+1,p.2) g1 hl,j0,qCe]
  cases h2:qOy ts 2 (p.1+1) with
  |inl z=>
   simp only[if_neg h64,j0]
   exact qNj (qVj h2) g1 _ _
  |inr a=>
   obtain⟨rfl,g2,-⟩:=qOw hok (by decide) g1 h2
   by_cases k:(tkAt ts (p.1+1)).2.2.1≥64
   ·simp only[if_pos k,jA,jH,qJi,j0]
    exact qNj (show(9:Int)≠0 by decide) g2 _ _
   ·simp only[if_neg k,jA,j0]
    exact qUw t _ (p.1+1+1,p.2) hok hl g2 hb
end
end
section
open Go Go.Dc
section
variable {N:Nat} {ts:List Tok} {pr:List ByteArray} {E S:Ps→PM Nat} {d:Int}
variable {r1 r2 r3 r4:RT→Int→Option (RT×Int)}
theorem zDv{s:ByteArray}{i:Nat}(h:(tkAt ts i).1=1):isC ts 1 s i=decide ((tkAt ts i).2.1=s):=by simp[isC,h]
theorem zMa{k:Int}{s:ByteArray}{i:Nat}(h:(tkAt ts i).1≠k):isC ts k s i=false:=by simp[isC,h]
theorem obs{α:Type}(x:Option α):(x.bind fun y=>some y)=x:=by cases x<;>rfl
theorem zIw{z:Flt}{i:Nat}{pr':List ByteArray}{b:List Ex}(hz:z.2≠0)(hi:i<ts.length):qCw N r1 r2 r3 r4 (bR ts z i pr' b) d=some (bR ts z i pr' b,0):=by
 have g0:((bR ts z i pr' b).2.2.2.1 !=0)=true:=by simpa[bR] using hz
 simp only[qCw,Prod.eta,qNz hi,j0,g0,jH]
variable (hEg:∀p:Ps,p.1<ts.length→p.2.length≤256→∃o,r4 (gR ts pr p) (IntKind.wrap .i64 (d+1))=some o∧relR ts pr (E p) o)
variable (hEb:∀(z:Flt) (i:Nat) (pr':List ByteArray) (b:List Ex),z.2≠0→i<ts.length→∃v,r4 (bR ts z i pr' b) (IntKind.wrap .i64 (d+1))=some (bR ts z i pr' b,v))
include hEg hEb in
theorem zMb(hok:OkT ts)(hl:ts.length<1000000)(hpr:pr.length<1000)(hN:1000002<N)(hA:Adv ts E)(p:Ps)(hp:p.1<ts.length)(hb:p.2.length≤256):
  ∃o,qCw N r1 r2 r3 r4 (gR ts pr p) d=some o∧relR ts pr (qPx ts pr E p) o:=by
 have g0:((gR ts pr p).2.2.2.1 !=0)=false:=rfl
 simp only[qCw,Prod.eta,qIq p hp,j0,g0,jB,jG]
 unfold qPx
 dsimp only
 by_cases k1:(tkAt ts p.1).1=2
 ·have k1':((tkAt ts p.1).1==2)=true:=by simpa using k1
  have g:=hok.next hp (show(tkAt ts p.1).1≠5 by rw[k1];decide)
  rw[if_pos k1]
  simp only[k1',jH,qUu p hp hl,qOy,if_pos k1,j0]
  obtain⟨o,ho,hr⟩:=qOt (N:=N) (pr:=pr) (tkAt ts p.1) (1,(tkAt ts p.1).2.2.1,0,⟨#[]⟩,[]) (p.1+1,p.2) g hb
  simp only[ho,j0]
  exact⟨_,rfl,hr⟩
 have k1':((tkAt ts p.1).1==2)=false:=by simpa using k1
 rw[if_neg k1]
 simp only[k1',jB,jG,qJs p hp hl,j0]
 rcases qEg (isC ts 4 zLp p.1) with c1|c1
 ·have c1':isC ts 4 ⟨#[45]⟩ p.1=true:=c1
  have g:=qGm hok hp (by decide) c1
  simp only[c1,c1',jH,qUu (p.1+1,p.2) g hl,j0]
  cases h:qOy ts 2 (p.1+1) with
  |inl z=>
   obtain⟨o,ho,hr⟩:=qQx (N:=N) (pr:=pr) (pr':=pr) (b:=p.2) (qVj h) g (1,IntKind.wrap .i64 (0-0),0,⟨#[]⟩,[]) (tkAt ts p.1).2.2.2
   simp only[ho,j0]
   exact⟨_,rfl,hr⟩
  |inr a=>
   obtain⟨rfl,g2,-⟩:=qOw hok (by decide) g h
   obtain⟨o,ho,hr⟩:=qOt (N:=N) (pr:=pr) (tkAt ts p.1) (1,IntKind.wrap .i64 (0-(tkAt ts (p.1+1)).2.2.1),0,⟨#[]⟩,[]) (p.1+1+1,p.2) g2 hb
   simp only[ho,j0,qCe]
   exact⟨_,rfl,hr⟩
 have c1':isC ts 4 ⟨#[45]⟩ p.1=false:=c1
 simp only[c1,c1',jB,jG,qJs p hp hl,j0]
 rcases qEg (isC ts 4 qRq p.1) with c2|c2
 ·have c2':isC ts 4 ⟨#[40]⟩ p.1=true:=c2
  have g:=qGm hok hp (by decide) c2
  obtain⟨o,ho,hr⟩:=hEg (p.1+1,p.2) g hb
  simp only[c2,c2',jH,ho,j0]
  cases h:E (p.1+1,p.2) with
  |inl z=>
   rw[h] at hr
   obtain⟨hz,i,pr',b,hi,ho1⟩:=hr
   simp only[ho1,qLi hz hi,j0,qCe]
   exact⟨_,rfl,qLs hz hi⟩
  |inr q=>
   rw[h] at hr
   obtain⟨⟨f1,f2,f3,f4⟩,f5⟩:=hA (p.1+1,p.2) q.1 q.2 g hb h
   have hr':o=(gR ts pr q.1,(q.2:Int)):=hr
   simp only[hr',qMa q.1 f2 hl,j0,qCe,qJe]
   cases hj:qGi ts ⟨#[41]⟩ q.1.1 with
   |inl z=>exact⟨_,rfl,qLs (qKj hj) f2⟩
   |inr j=>exact⟨_,rfl,rfl⟩
 have c2':isC ts 4 ⟨#[40]⟩ p.1=false:=c2
 simp only[c2,c2',jB,jG,qKo p hp hl,j0]
 by_cases k2:(tkAt ts p.1).1=1
 rotate_left
 ·-- no name
  rw[if_pos k2]
  have n:∀s,isC ts 1 s p.1=false:=fun s=>zMa k2
  have hname:qPj ts p.1= .inl ((tkAt ts p.1).2.2.2,9):=by simp[qPj,qOy,k2,qCe,qGv]
  simp only[n,jB,jG,qKo p hp hl,j0,qTg p hp hl (by omega:100<N),hname]
  have hz:(((tkAt ts p.1).2.2.2,(9:Int)):Flt).2≠0:=show(9:Int)≠0 by decide
  have hp0:=qYr (N:=N) (ts:=ts) (y1:=(gR ts pr p,tkAt ts p.1)) (y31:=(bR ts ((tkAt ts p.1).2.2.2,9) p.1 pr p.2,(⟨#[]⟩:ByteArray))) (j:=p.1) (pr':=pr) (b:=p.2) hz hpr pr.length 0 N (by omega) (by omega)
  rw[show((0:Nat):Int)=0 from rfl] at hp0
  simp only[qYt hz,j0,kG,jH,hp0,qLu hz]
  exact⟨_,rfl,qLs hz hp⟩
 rw[if_neg (show ¬(tkAt ts p.1).1≠1 by simpa using k2)]
 have g:=hok.next hp (show(tkAt ts p.1).1≠5 by rw[k2];decide)
 have n:∀s,isC ts 1 s p.1=decide ((tkAt ts p.1).2.1=s):=fun s=>zDv k2
 simp only[n,qKo p hp hl,j0]
 by_cases w1:(tkAt ts p.1).2.1=qVv
 ·rw[if_pos (show(tkAt ts p.1).2.1∈[qVv,qWu,sHas,sEnv,qXa] by rw[w1];simp)]
  have w1':decide ((tkAt ts p.1).2.1=(⟨#[114,101,97,100]⟩:ByteArray))=true:=jU w1
  simp only[w1',jH]
  obtain⟨o,ho,hr⟩:=zNe (N:=N) hEg hEb hok hl (by omega) hA (tkAt ts p.1) (p.1+1,p.2) g hb
  refine⟨o,Eq.trans ?_ ho,?_⟩
  ·simp only[obs]
  ·simp only[qOa,if_pos w1]
   exact hr
 have w1':decide ((tkAt ts p.1).2.1=(⟨#[114,101,97,100]⟩:ByteArray))=false:=jQ w1
 simp only[w1',jB,jG,qKo p hp hl,j0,n]
 by_cases w2:(tkAt ts p.1).2.1=qWu
 ·rw[if_pos (show(tkAt ts p.1).2.1∈[qVv,qWu,sHas,sEnv,qXa] by rw[w2];simp)]
  have w2':decide ((tkAt ts p.1).2.1=(⟨#[115,105,122,101]⟩:ByteArray))=true:=jU w2
  have wx:((tkAt ts p.1).2.1.toList==(⟨#[104,97,115]⟩:ByteArray).toList)=false:=by rw[qEr,w2];decide
  have wy:((tkAt ts p.1).2.1.toList==(⟨#[101,110,118]⟩:ByteArray).toList)=false:=by rw[qEr,w2];decide
  simp only[w2',jH,j0,wx,wy,jB,jG]
  obtain⟨o,ho,hr⟩:=zHk (N:=N) (pr:=pr) hok hl (by omega) 7 true (tkAt ts p.1) (p.1+1,p.2) g hb
  refine⟨o,Eq.trans ?_ ho,?_⟩
  ·simp only[obs];rfl
  ·simp only[qOa,if_neg w1,if_pos w2]
   exact hr
 have w2':decide ((tkAt ts p.1).2.1=(⟨#[115,105,122,101]⟩:ByteArray))=false:=jQ w2
 simp only[w2',jB,jG,qKo p hp hl,j0,n]
 by_cases w3:(tkAt ts p.1).2.1=sHas
 ·rw[if_pos (show(tkAt ts p.1).2.1∈[qVv,qWu,sHas,sEnv,qXa] by rw[w3];simp)]
  have w3':decide ((tkAt ts p.1).2.1=(⟨#[104,97,115]⟩:ByteArray))=true:=jU w3
  have wx:((tkAt ts p.1).2.1.toList==(⟨#[104,97,115]⟩:ByteArray).toList)=true:=by rw[qEr,w3']
  simp only[w3',jH,j0,wx]
  obtain⟨o,ho,hr⟩:=zHk (N:=N) (pr:=pr) hok hl (by omega) 8 true (tkAt ts p.1) (p.1+1,p.2) g hb
  refine⟨o,Eq.trans ?_ ho,?_⟩
  ·simp only[obs];rfl
  ·simp only[qOa,if_neg w1,if_neg w2,if_pos w3]
   exact hr
 have w3':decide ((tkAt ts p.1).2.1=(⟨#[104,97,115]⟩:ByteArray))=false:=jQ w3
 simp only[w3',jB,jG,qKo p hp hl,j0,n]
 by_cases w4:(tkAt ts p.1).2.1=sEnv
 ·rw[if_pos (show(tkAt ts p.1).2.1∈[qVv,qWu,sHas,sEnv,qXa] by rw[w4];simp)]
  have w4':decide ((tkAt ts p.1).2.1=(⟨#[101,110,118]⟩:ByteArray))=true:=jU w4
  have wx:((tkAt ts p.1).2.1.toList==(⟨#[104,97,115]⟩:ByteArray).toList)=false:=by rw[qEr,w4];decide
  have wy:((tkAt ts p.1).2.1.toList==(⟨#[101,110,118]⟩:ByteArray).toList)=true:=by rw[qEr,w4']
  simp only[w4',jH,j0,wx,wy,jB,jG]
  obtain⟨o,ho,hr⟩:=zHk (N:=N) (pr:=pr) hok hl (by omega) 9 false (tkAt ts p.1) (p.1+1,p.2) g hb
  refine⟨o,Eq.trans ?_ ho,?_⟩
  ·simp only[obs];rfl
  ·simp only[qOa,if_neg w1,if_neg w2,if_neg w3,if_pos w4]
   exact hr
 have w4':decide ((tkAt ts p.1).2.1=(⟨#[101,110,118]⟩:ByteArray))=false:=jQ w4
 simp only[w4',jB,jG,qKo p hp hl,j0,n]
 by_cases w5:(tkAt ts p.1).2.1=qXa
 ·rw[if_pos (show(tkAt ts p.1).2.1∈[qVv,qWu,sHas,sEnv,qXa] by rw[w5];simp)]
  have w5':decide ((tkAt ts p.1).2.1=(⟨#[102,108,105,112]⟩:ByteArray))=true:=jU w5
  simp only[w5',jH]
  obtain⟨o,ho,hr⟩:=zMs (N:=N) (pr:=pr) hok hl (tkAt ts p.1) (p.1+1,p.2) g hb
  refine⟨o,Eq.trans ?_ ho,?_⟩
  ·simp only[obs]
  ·simp only[qOa,if_neg w1,if_neg w2,if_neg w3,if_neg w4]
   exact hr
 have w5':decide ((tkAt ts p.1).2.1=(⟨#[102,108,105,112]⟩:ByteArray))=false:=jQ w5
 rw[if_neg (show ¬(tkAt ts p.1).2.1∈[qVv,qWu,sHas,sEnv,qXa] by simp[w1,w2,w3,w4,w5])]
 simp only[w5',jB,jG,qTg p hp hl (by omega:100<N),j0,qPj,qOy,if_pos k2,qCe]
 rcases qEg (resC (tkAt ts p.1).2.1) with c3|c3
 ·simp only[c3,jH,qGv]
  have hz:(((tkAt ts p.1).2.2.2,(9:Int)):Flt).2≠0:=show(9:Int)≠0 by decide
  have hp0:=qYr (N:=N) (ts:=ts) (y1:=(gR ts pr p,tkAt ts p.1)) (y31:=(bR ts ((tkAt ts p.1).2.2.2,9) p.1 pr p.2,(⟨#[]⟩:ByteArray))) (j:=p.1) (pr':=pr) (b:=p.2) hz hpr pr.length 0 N (by omega) (by omega)
  rw[show((0:Nat):Int)=0 from rfl] at hp0
  simp only[qYt hz,j0,kG,jH,hp0,qLu hz]
  exact⟨_,rfl,qLs hz hp⟩
 simp only[c3,jB,jG,qJs (p.1+1,p.2) g hl,j0]
 rcases qEg (isC ts 4 qRq (p.1+1)) with c4|c4
 ·have c4':isC ts 4 ⟨#[40]⟩ (p.1+1)=true:=c4
  have g2:=qGm hok g (by decide) c4
  simp only[c4,c4',jH,kQ,jB,jG]
  have hs:qGi ts qRq (p.1+1)= .inr (p.1+1+1):=by simp[qGi,c4]
  simp only[qQy,hs,qCe]
  obtain⟨o,ho,hr⟩:=rargs (N:=N) hEg hEb hok hl (by omega) hA (p.1+1+1,p.2) g2 hb
  simp only[ho,j0]
  cases ha:(if isC ts 4 qJe (p.1+1+1)=true then .inr ((p.1+1+1+1,p.2),[]) else zBi ts E (ts.length+1) [] (p.1+1+1,p.2):PM (List Int)) with
  |inl z=>
   rw[ha] at hr
   obtain⟨hz,i,pr',b,hi,ho1⟩:=hr
   simp only[ho1]
   obtain⟨o2,ho2,hr2⟩:=qQx (N:=N) (pr:=pr) (pr':=pr') (b:=b) hz hi (3,0,0,(tkAt ts p.1).2.1,o.1) (tkAt ts p.1).2.2.2
   simp only[ho2,j0]
   exact⟨_,rfl,hr2⟩
  |inr q=>
   rw[ha] at hr
   have hr':o=(q.2,gR ts pr q.1):=hr
   have hq:q.1.1<ts.length∧q.1.2.length≤256:=by
    split at ha
    ·rename_i hc
     obtain rfl:=Sum.inr.inj ha
     exact⟨qGm hok g2 (by decide) hc,hb⟩
    ·obtain⟨f1,f2,f3,f4⟩:=qWh hok hA _ _ (p.1+1+1,p.2) q.1 q.2 g2 hb ha
     exact⟨f2,f4⟩
   simp only[hr']
   obtain⟨o2,ho2,hr2⟩:=qOt (N:=N) (pr:=pr) (tkAt ts p.1) (3,0,0,(tkAt ts p.1).2.1,q.2) q.1 hq.1 hq.2
   simp only[ho2,j0]
   exact⟨_,rfl,hr2⟩
 have c4':isC ts 4 ⟨#[40]⟩ (p.1+1)=false:=c4
 simp only[c4,c4',jB,jG,kG,jH]
 have hp0:=zDz (N:=N) (ts:=ts) (pr:=pr) (y1:=(gR ts pr p,tkAt ts p.1)) (y31:=(gR ts pr (p.1+1,p.2),(tkAt ts p.1).2.1)) (p:=(p.1+1,p.2)) hpr pr.length 0 N (by omega) (by omega)
 rw[show((0:Nat):Int)=0 from rfl] at hp0
 simp only[hp0,k7,jW]
 cases hi:pr.findIdx? (fun x=>decide (x=(tkAt ts p.1).2.1)) with
 |none=>
  simp only[j0,qJi]
  exact⟨_,rfl,qLs (show(9:Int)≠0 by decide) g⟩
 |some j=>
  obtain⟨o2,ho2,hr2⟩:=qOt (N:=N) (pr:=pr) (tkAt ts p.1) (2,(j:Int),0,⟨#[]⟩,[]) (p.1+1,p.2) g hb
  simp only[ho2,j0]
  exact⟨_,rfl,hr2⟩
end
end
section
open Go Go.Dc
section
variable {N:Nat} {ts:List Tok} {pr:List ByteArray} {E S:Ps→PM Nat} {d:Int}
variable {r r1 r2 r3 r4:RT→Int→Option (RT×Int)}
theorem zJt{L i:Nat}(h:opC ts L i≠0):(tkAt ts i).1=4:=by
 apply Decidable.byContradiction
 intro hk
 apply h
 unfold opC
 have:opsC.find? (isOp ts L i)=none:=by
  rw[List.find?_eq_none]
  intro o _ ho
  simp only[isOp,jJ] at ho
  exact hk (qZf ho.1)
 rw[this]
theorem rmore{f:Int×RT→Option ((Int×RT)⊕(Int×RT))}{L:Nat}(hok:OkT ts)(hS:Adv ts S)
  (hSg:∀p:Ps,p.1<ts.length→p.2.length≤256→∃o,r (gR ts pr p) d=some o∧relR ts pr (S p) o)
  (hSb:∀(z:Flt) (i:Nat) (pr':List ByteArray) (b:List Ex),z.2≠0→i<ts.length→∃v,r (bR ts z i pr' b) d=some (bR ts z i pr' b,v))
  (hfb:∀(z:Flt) (i:Nat) (pr':List ByteArray) (b:List Ex) (v:Int),z.2≠0→f (v,bR ts z i pr' b)=some (.inr (v,bR ts z i pr' b)))
  {n M x:Nat} {p:Ps} (hp:p.1<ts.length) (hb:p.2.length≤256) (hM:0<M) (hL:L≠1) (hop:opC ts L p.1≠0)
  (ih:∀(x:Nat) (q:Ps),q.1<ts.length→p.1<q.1→q.2.length≤256→x<q.2.length→∃o,qAq f M ((x:Int),gR ts pr q)=some o∧relR ts pr (qRg ts L S n x q) (o.2,o.1)):
  ∃o,((r (gR ts pr (p.1+1,p.2)) d).bind fun y6=>(qAl N y6.1 (4,0,opC ts L p.1,⟨#[]⟩,[(x:Int),y6.2]) (tkAt ts p.1).2.2.2).bind fun y7=>qAq f M (y7.2,y7.1))=some o∧relR ts pr (qRg ts L S (n+1) x p) (o.2,o.1):=by
 have g:=hok.next hp (show(tkAt ts p.1).1≠5 by rw[zJt hop];decide)
 obtain⟨o,ho,hr⟩:=hSg (p.1+1,p.2) g hb
 obtain⟨M',rfl⟩:∃M',M=M'+1:=⟨M-1,by omega⟩
 have bad:∀(z:Flt) (i:Nat) (pr':List ByteArray) (b:List Ex) (v:Int),z.2≠0→qAq f (M'+1) (v,bR ts z i pr' b)=some (v,bR ts z i pr' b):=by
  intro z i pr' b v hz
  simp only[qAq,hfb z i pr' b v hz,j0]
 simp only[ho,j0,qRg]
 rw[if_neg hop]
 cases h:S (p.1+1,p.2) with
 |inl z=>
  rw[h] at hr
  obtain⟨hz,i,pr',b,hi,ho1⟩:=hr
  simp only[ho1,qCe]
  obtain⟨v,hv⟩:=zGy (N:=N) (ts:=ts) (pr:=pr') (b:=b) (i:=i) hz (4,0,opC ts L p.1,⟨#[]⟩,[(x:Int),o.2]) (tkAt ts p.1).2.2.2
  simp only[hv,j0,bad _ _ _ _ _ hz]
  exact⟨_,rfl,qLs hz hi⟩
 |inr q=>
  rw[h] at hr
  obtain⟨⟨f1,f2,f3,f4⟩,f5⟩:=hS (p.1+1,p.2) q.1 q.2 g hb h
  have hr':o=(gR ts pr q.1,(q.2:Int)):=hr
  simp only[hr',qCe]
  obtain⟨v,hv⟩:=zHr (N:=N) (ts:=ts) (pr:=pr) (tkAt ts p.1) (4,0,opC ts L p.1,⟨#[]⟩,[(x:Int),(q.2:Int)]) q.1 f4
  simp only[hv,j0]
  cases hn:qNb (tkAt ts p.1) (4,0,opC ts L p.1,⟨#[]⟩,[(x:Int),(q.2:Int)]) q.1 with
  |inl z=>
   simp only[bad _ _ _ _ _ (zCt hn)]
   exact⟨_,rfl,qLs (zCt hn) f2⟩
  |inr s=>
   obtain⟨⟨k1,k2,k3,k4⟩,k5⟩:=qNx (ts:=ts) (p:=p) (r:=q.1) (by simp only at f1;omega) f2 f3 f4 hn
   simp only[if_neg hL]
   exact ih s.2 s.1 k2 k1 k4 k5
theorem rstop{L n x:Nat}{p:Ps}(hop:opC ts L p.1=0):relR ts pr (qRg ts L S (n+1) x p) (gR ts pr p,(x:Int)):=by
 simp only[qRg]
 rw[if_pos hop]
 rfl
theorem qZi(z:Flt)(i:Nat)(pr':List ByteArray)(b:List Ex)(v:Int)(hz:z.2≠0):qBz N r d (v,bR ts z i pr' b)=some (.inr (v,bR ts z i pr' b)):=by
 have g0:((bR ts z i pr' b).2.2.2.1==0)=false:=by simpa[bR] using hz
 simp only[qBz,g0,jB,jG,Prod.eta]
theorem zCk(z:Flt)(i:Nat)(pr':List ByteArray)(b:List Ex)(v:Int)(hz:z.2≠0):qCg N r d (v,bR ts z i pr' b)=some (.inr (v,bR ts z i pr' b)):=by
 have g0:((bR ts z i pr' b).2.2.2.1==0)=false:=by simpa[bR] using hz
 simp only[qCg,g0,jB,jG,Prod.eta]
theorem qXl(hok:OkT ts)(hl:ts.length<1000000)(hS:Adv ts S)
  (hSg:∀p:Ps,p.1<ts.length→p.2.length≤256→∃o,r (gR ts pr p) d=some o∧relR ts pr (S p) o)
  (hSb:∀(z:Flt) (i:Nat) (pr':List ByteArray) (b:List Ex),z.2≠0→i<ts.length→∃v,r (bR ts z i pr' b) d=some (bR ts z i pr' b,v)):
  ∀(n M x:Nat) (p:Ps),p.1<ts.length→p.2.length≤256→x<p.2.length→ts.length<p.1+n→ts.length+1<p.1+M→
  ∃o,qAq (qBz N r d) M ((x:Int),gR ts pr p)=some o∧relR ts pr (qRg ts 3 S n x p) (o.2,o.1)
 |0,M,x,p,hp,_,_,h,_=>by omega
 |n+1,0,x,p,hp,_,_,_,h=>by omega
 |n+1,M+1,x,p,hp,hb,hx,hn,hM=>by
  have g0:((gR ts pr p).2.2.2.1==0)=true:=rfl
  have ih:∀(x:Nat) (q:Ps),q.1<ts.length→p.1<q.1→q.2.length≤256→x<q.2.length→∃o,qAq (qBz N r d) M ((x:Int),gR ts pr q)=some o∧relR ts pr (qRg ts 3 S n x q) (o.2,o.1):=
   fun x q h1 h2 h3 h4=>qXl hok hl hS hSg hSb n M x q h1 h3 h4 (by omega) (by omega)
  have go:=fun hop=>rmore (N:=N) (n:=n) (x:=x) hok hS hSg hSb (qZi (N:=N) (r:=r) (d:=d)) hp hb (show 0<M by omega) (show 3≠1 by decide) hop ih
  have h3:=op_3 (ts:=ts) (i:=p.1)
  rcases qEg (isC ts 4 ⟨#[42]⟩ p.1) with c1|c1
  ·simp only[c1,jH] at h3
   obtain⟨o,ho,hr⟩:=go (by rw[h3];decide)
   refine⟨o,Eq.trans ?_ ho,hr⟩
   simp only[qAq,qBz,Prod.eta,g0,jH,qIq p hp,qJs p hp hl,j0,c1,h3]
   cases r (gR ts pr (p.1+1,p.2)) d with
   |none=>rfl
   |some y=>simp only[j0];cases qAl N y.1 (4,0,3,⟨#[]⟩,[(x:Int),y.2]) (tkAt ts p.1).2.2.2<;>rfl
  rcases qEg (isC ts 4 ⟨#[47]⟩ p.1) with c2|c2
  ·simp only[c1,c2,jH,jB,jG] at h3
   obtain⟨o,ho,hr⟩:=go (by rw[h3];decide)
   refine⟨o,Eq.trans ?_ ho,hr⟩
   simp only[qAq,qBz,Prod.eta,g0,jH,qIq p hp,qJs p hp hl,j0,c1,c2,h3,jB,jG]
   cases r (gR ts pr (p.1+1,p.2)) d with
   |none=>rfl
   |some y=>simp only[j0];cases qAl N y.1 (4,0,4,⟨#[]⟩,[(x:Int),y.2]) (tkAt ts p.1).2.2.2<;>rfl
  rcases qEg (isC ts 4 ⟨#[37]⟩ p.1) with c3|c3
  ·simp only[c1,c2,c3,jH,jB,jG] at h3
   obtain⟨o,ho,hr⟩:=go (by rw[h3];decide)
   refine⟨o,Eq.trans ?_ ho,hr⟩
   simp only[qAq,qBz,Prod.eta,g0,jH,qIq p hp,qJs p hp hl,j0,c1,c2,c3,h3,jB,jG]
   cases r (gR ts pr (p.1+1,p.2)) d with
   |none=>rfl
   |some y=>simp only[j0];cases qAl N y.1 (4,0,5,⟨#[]⟩,[(x:Int),y.2]) (tkAt ts p.1).2.2.2<;>rfl
  simp only[c1,c2,c3,jB,jG] at h3
  simp only[qAq,qBz,Prod.eta,g0,jH,qIq p hp,qJs p hp hl,j0,c1,c2,c3,jB,jG]
  exact⟨_,rfl,rstop h3⟩
theorem zBa(hok:OkT ts)(hl:ts.length<1000000)(hS:Adv ts S)
  (hSg:∀p:Ps,p.1<ts.length→p.2.length≤256→∃o,r (gR ts pr p) d=some o∧relR ts pr (S p) o)
  (hSb:∀(z:Flt) (i:Nat) (pr':List ByteArray) (b:List Ex),z.2≠0→i<ts.length→∃v,r (bR ts z i pr' b) d=some (bR ts z i pr' b,v)):
  ∀(n M x:Nat) (p:Ps),p.1<ts.length→p.2.length≤256→x<p.2.length→ts.length<p.1+n→ts.length+1<p.1+M→
  ∃o,qAq (qCg N r d) M ((x:Int),gR ts pr p)=some o∧relR ts pr (qRg ts 2 S n x p) (o.2,o.1)
 |0,M,x,p,hp,_,_,h,_=>by omega
 |n+1,0,x,p,hp,_,_,_,h=>by omega
 |n+1,M+1,x,p,hp,hb,hx,hn,hM=>by
  have g0:((gR ts pr p).2.2.2.1==0)=true:=rfl
  have ih:∀(x:Nat) (q:Ps),q.1<ts.length→p.1<q.1→q.2.length≤256→x<q.2.length→∃o,qAq (qCg N r d) M ((x:Int),gR ts pr q)=some o∧relR ts pr (qRg ts 2 S n x q) (o.2,o.1):=
   fun x q h1 h2 h3 h4=>zBa hok hl hS hSg hSb n M x q h1 h3 h4 (by omega) (by omega)
  have go:=fun hop=>rmore (N:=N) (n:=n) (x:=x) hok hS hSg hSb (zCk (N:=N) (r:=r) (d:=d)) hp hb (show 0<M by omega) (show 2≠1 by decide) hop ih
  have h3:=op_2 (ts:=ts) (i:=p.1)
  rcases qEg (isC ts 4 ⟨#[43]⟩ p.1) with c1|c1
  ·simp only[c1,jH] at h3
   obtain⟨o,ho,hr⟩:=go (by rw[h3];decide)
   refine⟨o,Eq.trans ?_ ho,hr⟩
   simp only[qAq,qCg,Prod.eta,g0,jH,qIq p hp,qJs p hp hl,j0,c1,h3]
   cases r (gR ts pr (p.1+1,p.2)) d with
   |none=>rfl
   |some y=>simp only[j0];cases qAl N y.1 (4,0,1,⟨#[]⟩,[(x:Int),y.2]) (tkAt ts p.1).2.2.2<;>rfl
  rcases qEg (isC ts 4 ⟨#[45]⟩ p.1) with c2|c2
  ·simp only[c1,c2,jH,jB,jG] at h3
   obtain⟨o,ho,hr⟩:=go (by rw[h3];decide)
   refine⟨o,Eq.trans ?_ ho,hr⟩
   simp only[qAq,qCg,Prod.eta,g0,jH,qIq p hp,qJs p hp hl,j0,c1,c2,h3,jB,jG]
   cases r (gR ts pr (p.1+1,p.2)) d with
   |none=>rfl
   |some y=>simp only[j0];cases qAl N y.1 (4,0,2,⟨#[]⟩,[(x:Int),y.2]) (tkAt ts p.1).2.2.2<;>rfl
  simp only[c1,c2,jB,jG] at h3
  simp only[qAq,qCg,Prod.eta,g0,jH,qIq p hp,qJs p hp hl,j0,c1,c2,jB,jG]
  exact⟨_,rfl,rstop h3⟩
theorem rterm(hok:OkT ts)(hl:ts.length<1000000)(hN:1000002<N)(hS:Adv ts S)
  (h1:∀p:Ps,p.1<ts.length→p.2.length≤256→∃o,r1 (gR ts pr p) d=some o∧relR ts pr (S p) o)
  (h1b:∀(z:Flt) (i:Nat) (pr':List ByteArray) (b:List Ex),z.2≠0→i<ts.length→∃v,r1 (bR ts z i pr' b) d=some (bR ts z i pr' b,v))
  (p:Ps) (hp:p.1<ts.length) (hb:p.2.length≤256):∃o,qDb N r1 r2 r3 r4 (gR ts pr p) d=some o∧relR ts pr (qRk ts 3 S p) o:=by
 obtain⟨o,ho,hr⟩:=h1 p hp hb
 simp only[qDb,Prod.eta,ho,j0,qRk]
 cases h:S p with
 |inl z=>
  rw[h] at hr
  obtain⟨hz,i,pr',b,hi,ho1⟩:=hr
  obtain⟨M,rfl⟩:∃M,N=M+1:=⟨N-1,by omega⟩
  simp only[ho1,qCe,qAq,qZi z i pr' b _ hz,j0]
  exact⟨_,rfl,qLs hz hi⟩
 |inr q=>
  rw[h] at hr
  obtain⟨⟨f1,f2,f3,f4⟩,f5⟩:=hS p q.1 q.2 hp hb h
  have hr':o=(gR ts pr q.1,(q.2:Int)):=hr
  obtain⟨o2,ho2,hr2⟩:=qXl (N:=N) hok hl hS h1 h1b (ts.length+1) N q.2 q.1 f2 f4 f5 (by omega) (by omega)
  simp only[hr',qCe,ho2,j0]
  exact⟨_,rfl,hr2⟩
theorem zNd(h1b:∀(z:Flt) (i:Nat) (pr':List ByteArray) (b:List Ex),z.2≠0→i<ts.length→∃v,r1 (bR ts z i pr' b) d=some (bR ts z i pr' b,v))(hN:0<N)
  (z:Flt) (i:Nat) (pr':List ByteArray) (b:List Ex) (hz:z.2≠0) (hi:i<ts.length):∃v,qDb N r1 r2 r3 r4 (bR ts z i pr' b) d=some (bR ts z i pr' b,v):=by
 obtain⟨v,hv⟩:=h1b z i pr' b hz hi
 obtain⟨M,rfl⟩:∃M,N=M+1:=⟨N-1,by omega⟩
 simp only[qDb,Prod.eta,hv,j0,qAq,qZi z i pr' b _ hz]
 exact⟨_,rfl⟩
theorem rsum(hok:OkT ts)(hl:ts.length<1000000)(hN:1000002<N)(hS:Adv ts S)
  (h2:∀p:Ps,p.1<ts.length→p.2.length≤256→∃o,r2 (gR ts pr p) d=some o∧relR ts pr (S p) o)
  (h2b:∀(z:Flt) (i:Nat) (pr':List ByteArray) (b:List Ex),z.2≠0→i<ts.length→∃v,r2 (bR ts z i pr' b) d=some (bR ts z i pr' b,v))
  (p:Ps) (hp:p.1<ts.length) (hb:p.2.length≤256):∃o,qDg N r1 r2 r3 r4 (gR ts pr p) d=some o∧relR ts pr (qRk ts 2 S p) o:=by
 obtain⟨o,ho,hr⟩:=h2 p hp hb
 simp only[qDg,Prod.eta,ho,j0,qRk]
 cases h:S p with
 |inl z=>
  rw[h] at hr
  obtain⟨hz,i,pr',b,hi,ho1⟩:=hr
  obtain⟨M,rfl⟩:∃M,N=M+1:=⟨N-1,by omega⟩
  simp only[ho1,qCe,qAq,zCk z i pr' b _ hz,j0]
  exact⟨_,rfl,qLs hz hi⟩
 |inr q=>
  rw[h] at hr
  obtain⟨⟨f1,f2,f3,f4⟩,f5⟩:=hS p q.1 q.2 hp hb h
  have hr':o=(gR ts pr q.1,(q.2:Int)):=hr
  obtain⟨o2,ho2,hr2⟩:=zBa (N:=N) hok hl hS h2 h2b (ts.length+1) N q.2 q.1 f2 f4 f5 (by omega) (by omega)
  simp only[hr',qCe,ho2,j0]
  exact⟨_,rfl,hr2⟩
theorem rsum_b(h2b:∀(z:Flt) (i:Nat) (pr':List ByteArray) (b:List Ex),z.2≠0→i<ts.length→∃v,r2 (bR ts z i pr' b) d=some (bR ts z i pr' b,v))(hN:0<N)
  (z:Flt) (i:Nat) (pr':List ByteArray) (b:List Ex) (hz:z.2≠0) (hi:i<ts.length):∃v,qDg N r1 r2 r3 r4 (bR ts z i pr' b) d=some (bR ts z i pr' b,v):=by
 obtain⟨v,hv⟩:=h2b z i pr' b hz hi
 obtain⟨M,rfl⟩:∃M,N=M+1:=⟨N-1,by omega⟩
 simp only[qDg,Prod.eta,hv,j0,qAq,zCk z i pr' b _ hz]
 exact⟨_,rfl⟩
theorem zMv(z:Flt)(i:Nat)(pr':List ByteArray)(b:List Ex)(hz:z.2≠0)(hi:i<ts.length):qCl N r1 r2 r3 r4 (bR ts z i pr' b) d=some (bR ts z i pr' b,0):=by
 have g0:((bR ts z i pr' b).2.2.2.1 !=0)=true:=by simpa[bR] using hz
 simp only[qCl,Prod.eta,qNz hi,j0,qLu hz]
 have:((if decide (d>32)=true then some (bR ts z i pr' b) else some (bR ts z i pr' b)):Option RT)=some (bR ts z i pr' b):=by split<;>rfl
 simp only[this,j0,g0,jH]
theorem zMo(hd:d>32)(p:Ps)(hp:p.1<ts.length):∃o,qCl N r1 r2 r3 r4 (gR ts pr p) d=some o∧relR ts pr (qJu ts pr 0 p) o:=by
 have hd':decide (d>32)=true:=by simpa using hd
 simp only[qCl,Prod.eta,qIq p hp,j0,hd',jH,qJi]
 have g0:((bR ts ((tkAt ts p.1).2.2.2,2) p.1 pr p.2).2.2.2.1 !=0)=true:=by rfl
 simp only[g0,jH]
 exact⟨_,rfl,qLs (show(2:Int)≠0 by decide) hp⟩
theorem rexpr{k:Nat}(hok:OkT ts)(hl:ts.length<1000000)(hd:d+k=32)(hA:Adv ts (qJu ts pr k))(hS:Adv ts (sumC ts pr (qJu ts pr k)))
  (hEg:∀p:Ps,p.1<ts.length→p.2.length≤256→∃o,r4 (gR ts pr p) (IntKind.wrap .i64 (d+1))=some o∧relR ts pr (qJu ts pr k p) o)
  (hEb:∀(z:Flt) (i:Nat) (pr':List ByteArray) (b:List Ex),z.2≠0→i<ts.length→∃v,r4 (bR ts z i pr' b) (IntKind.wrap .i64 (d+1))=some (bR ts z i pr' b,v))
  (h3:∀p:Ps,p.1<ts.length→p.2.length≤256→∃o,r3 (gR ts pr p) d=some o∧relR ts pr (sumC ts pr (qJu ts pr k) p) o)
  (h3b:∀(z:Flt) (i:Nat) (pr':List ByteArray) (b:List Ex),z.2≠0→i<ts.length→∃v,r3 (bR ts z i pr' b) d=some (bR ts z i pr' b,v))
  (p:Ps) (hp:p.1<ts.length) (hb:p.2.length≤256):∃o,qCl N r1 r2 r3 r4 (gR ts pr p) d=some o∧relR ts pr (qJu ts pr (k+1) p) o:=by
 have hd':decide (d>32)=false:=jQ (by omega)
 have g0:((gR ts pr p).2.2.2.1 !=0)=false:=rfl
 simp only[qCl,Prod.eta,qIq p hp,j0,hd',jB,jG,g0,qKo p hp hl,qJu]
 rcases qEg (isC ts 1 sIf p.1) with c1|c1
 rotate_left
 ·have c1':isC ts 1 ⟨#[105,102]⟩ p.1=false:=c1
  simp only[c1,c1',jB,jG]
  obtain⟨o,ho,hr⟩:=h3 p hp hb
  simp only[ho,j0,zEv,qRk]
  cases h:sumC ts pr (qJu ts pr k) p with
  |inl z=>
   rw[h] at hr
   obtain⟨hz,i,pr',b,hi,ho1⟩:=hr
   simp only[ho1,qNz hi,qYt hz,j0,jB,jG,qCe]
   exact⟨_,rfl,qLs hz hi⟩
  |inr q=>
   rw[h] at hr
   obtain⟨⟨f1,f2,f3,f4⟩,f5⟩:=hS p q.1 q.2 hp hb h
   have hr':o=(gR ts pr q.1,(q.2:Int)):=hr
   simp only[hr',qIq q.1 f2,qJs q.1 f2 hl,j0,qCe,qRg]
   have go:∀op,op≠0→opC ts 1 q.1.1=op→∃o,((r3 (gR ts pr (q.1.1+1,q.1.2)) d).bind fun y18=>(qAl N y18.1 (4,0,op,⟨#[]⟩,[(q.2:Int),y18.2]) (tkAt ts q.1.1).2.2.2).bind fun y19=>some y19)=some o∧
     relR ts pr (if opC ts 1 q.1.1=0 then .inr (q.1,q.2) else qCe (sumC ts pr (qJu ts pr k) (q.1.1+1,q.1.2)) fun a=>qCe (qNb (tkAt ts q.1.1) (4,0,opC ts 1 q.1.1,⟨#[]⟩,[(q.2:Int),(a.2:Int)]) a.1) fun r=> .inr r) o:=by
    intro op hne hop
    have g:=hok.next f2 (show(tkAt ts q.1.1).1≠5 by rw[zJt (L:=1) (by rw[hop];exact hne)];decide)
    obtain⟨o2,ho2,hr2⟩:=h3 (q.1.1+1,q.1.2) g f4
    rw[hop,if_neg hne]
    simp only[ho2,j0,obs]
    cases h2:sumC ts pr (qJu ts pr k) (q.1.1+1,q.1.2) with
    |inl z=>
     rw[h2] at hr2
     obtain⟨hz,i,pr',b,hi,ho1⟩:=hr2
     simp only[ho1,qCe]
     exact qQx hz hi _ _
    |inr a=>
     rw[h2] at hr2
     obtain⟨⟨j1,j2,j3,j4⟩,j5⟩:=hS (q.1.1+1,q.1.2) a.1 a.2 g f4 h2
     have hr2':o2=(gR ts pr a.1,(a.2:Int)):=hr2
     simp only[hr2',qCe]
     obtain⟨o3,ho3,hr3⟩:=qOt (N:=N) (pr:=pr) (tkAt ts q.1.1) (4,0,op,⟨#[]⟩,[(q.2:Int),(a.2:Int)]) a.1 j2 j4
     refine⟨o3,ho3,?_⟩
     cases hn:qNb (tkAt ts q.1.1) (4,0,op,⟨#[]⟩,[(q.2:Int),(a.2:Int)]) a.1<;>rw[hn] at hr3<;>exact hr3
   have h1:=op_1 (ts:=ts) (i:=q.1.1)
   rcases qEg (isC ts 4 ⟨#[60]⟩ q.1.1) with c2|c2
   ·simp only[c2,jH] at h1
    obtain⟨o4,ho4,hr4⟩:=go 6 (by decide) h1
    simp only[c2,jH,j0]
    exact⟨o4,ho4,by simpa only[qCe] using hr4⟩
   rcases qEg (isC ts 4 ⟨#[61,61]⟩ q.1.1) with c3|c3
   ·simp only[c2,c3,jH,jB,jG] at h1
    obtain⟨o4,ho4,hr4⟩:=go 7 (by decide) h1
    simp only[c2,c3,jH,j0,jB,jG,qJs q.1 f2 hl]
    exact⟨o4,ho4,by simpa only[qCe] using hr4⟩
   ·simp only[c2,c3,jB,jG] at h1
    simp only[c2,c3,j0,jB,jG,qJs q.1 f2 hl]
    rw[if_pos h1]
    exact⟨_,rfl,rfl⟩
 have c1':isC ts 1 ⟨#[105,102]⟩ p.1=true:=c1
 have g:=qGm hok hp (by decide) c1
 simp only[c1,c1',jH]
 -- behind an error
 have badN:∀{z:Flt} {i:Nat} {pr':List ByteArray} {b:List Ex} (x y w:Int),z.2≠0→i<ts.length→∃o,((qAl N (bR ts z i pr' b) (5,0,0,⟨#[]⟩,[x,y,w]) (tkAt ts p.1).2.2.2).bind fun y13=>some y13)=some o∧relR ts pr (.inl z) o:=by
  intro z i pr' b x y w hz hi
  simp only[obs]
  exact qQx hz hi _ _
 have nf:∀b:Bool,(if(!b)=true then(0:Nat) else 1)=if b=true then 1 else 0:=by intro b;cases b<;>rfl
 obtain⟨oa,hoa,hra⟩:=hEg (p.1+1,p.2) g hb
 simp only[hoa,j0]
 cases ha:qJu ts pr k (p.1+1,p.2) with
 |inl z=>
  rw[ha] at hra
  obtain⟨hz,i,pr',b,hi,ho1⟩:=hra
  obtain⟨v,hv⟩:=hEb z i pr' b hz hi
  simp only[ho1,zCv hz,j0,kG,jH,qNz hi,qLu hz,hv,qCe]
  exact badN _ _ _ hz hi
 |inr a=>
  rw[ha] at hra
  obtain⟨⟨a1,a2,a3,a4⟩,a5⟩:=hA (p.1+1,p.2) a.1 a.2 g hb ha
  have hra':oa=(gR ts pr a.1,(a.2:Int)):=hra
  have hth:zAy ts zLj a.1.1=if isC ts 1 ⟨#[116,104,101,110]⟩ a.1.1=true then .inr (a.1.1+1) else qGv (tkAt ts a.1.1) 9:=rfl
  simp only[hra',qKo a.1 a2 hl,j0,qCe,hth]
  rcases qEg (isC ts 1 ⟨#[116,104,101,110]⟩ a.1.1) with c2|c2
  rotate_left
  ·have hz:(((tkAt ts a.1.1).2.2.2,(9:Int)):Flt).2≠0:=show(9:Int)≠0 by decide
   obtain⟨v,hv⟩:=hEb ((tkAt ts a.1.1).2.2.2,9) a.1.1 pr a.1.2 hz a2
   simp only[c2,jB,jG,kG,jH,qIq a.1 a2,qJi,j0,hv,zCv hz,qNz a2,qLu hz,qGv]
   exact badN _ _ _ hz a2
  have g1:=qGm hok a2 (by decide) c2
  obtain⟨ob,hob,hrb⟩:=hEg (a.1.1+1,a.1.2) g1 a4
  simp only[c2,jH,kQ,jB,jG,j0,hob]
  cases hb1:qJu ts pr k (a.1.1+1,a.1.2) with
  |inl z=>
   rw[hb1] at hrb
   obtain⟨hz,i,pr',b,hi,ho1⟩:=hrb
   obtain⟨v,hv⟩:=hEb z i pr' b hz hi
   simp only[ho1,zCv hz,j0,kG,jH,qNz hi,qLu hz,hv]
   exact badN _ _ _ hz hi
  |inr b=>
   rw[hb1] at hrb
   obtain⟨⟨b1,b2,b3,b4⟩,b5⟩:=hA (a.1.1+1,a.1.2) b.1 b.2 g1 a4 hb1
   have hrb':ob=(gR ts pr b.1,(b.2:Int)):=hrb
   have hel:zAy ts zLb b.1.1=if isC ts 1 ⟨#[101,108,115,101]⟩ b.1.1=true then .inr (b.1.1+1) else qGv (tkAt ts b.1.1) 9:=rfl
   simp only[hrb',qKo b.1 b2 hl,j0,hel]
   rcases qEg (isC ts 1 ⟨#[101,108,115,101]⟩ b.1.1) with c3|c3
   rotate_left
   ·have hz:(((tkAt ts b.1.1).2.2.2,(9:Int)):Flt).2≠0:=show(9:Int)≠0 by decide
    obtain⟨v,hv⟩:=hEb ((tkAt ts b.1.1).2.2.2,9) b.1.1 pr b.1.2 hz b2
    simp only[c3,jB,jG,kG,jH,qIq b.1 b2,qJi,j0,hv,qGv]
    exact badN _ _ _ hz b2
   have g2:=qGm hok b2 (by decide) c3
   obtain⟨oc,hoc,hrc⟩:=hEg (b.1.1+1,b.1.2) g2 b4
   simp only[c3,jH,kQ,jB,jG,j0,hoc]
   cases hc1:qJu ts pr k (b.1.1+1,b.1.2) with
   |inl z=>
    rw[hc1] at hrc
    obtain⟨hz,i,pr',b',hi,ho1⟩:=hrc
    simp only[ho1]
    exact badN _ _ _ hz hi
   |inr c=>
    rw[hc1] at hrc
    obtain⟨⟨c1,c2,c3,c4⟩,c5⟩:=hA (b.1.1+1,b.1.2) c.1 c.2 g2 b4 hc1
    have hrc':oc=(gR ts pr c.1,(c.2:Int)):=hrc
    simp only[hrc',obs]
    exact qOt (N:=N) (pr:=pr) (tkAt ts p.1) (5,0,0,⟨#[]⟩,[(a.2:Int),(b.2:Int),(c.2:Int)]) c.1 c2 c4
end
end
section
open Go Go.Dc
section
variable {N:Nat} {ts:List Tok} {pr:List ByteArray}
theorem qZd(D:Nat)(hD:1≤D)(d:Int)(z:Flt)(i:Nat)(pr':List ByteArray)(b:List Ex)(hz:z.2≠0)(hi:i<ts.length):∃v,(qAe N D).2.2.2 (bR ts z i pr' b) d=some (bR ts z i pr' b,v):=by
 obtain⟨D',rfl⟩:∃D',D=D'+1:=⟨D-1,by omega⟩
 simp only[qAe]
 exact⟨_,zMv z i pr' b hz hi⟩
theorem qXw(D:Nat)(hD:1≤D)(d:Int)(z:Flt)(i:Nat)(pr':List ByteArray)(b:List Ex)(hz:z.2≠0)(hi:i<ts.length):∃v,(qAe N D).1 (bR ts z i pr' b) d=some (bR ts z i pr' b,v):=by
 obtain⟨D',rfl⟩:∃D',D=D'+1:=⟨D-1,by omega⟩
 simp only[qAe]
 exact⟨_,zIw hz hi⟩
theorem zDo(hN:0<N)(D:Nat)(hD:2≤D)(d:Int)(z:Flt)(i:Nat)(pr':List ByteArray)(b:List Ex)(hz:z.2≠0)(hi:i<ts.length):∃v,(qAe N D).2.1 (bR ts z i pr' b) d=some (bR ts z i pr' b,v):=by
 obtain⟨D',rfl⟩:∃D',D=D'+1:=⟨D-1,by omega⟩
 simp only[qAe]
 exact zNd (fun z i pr' b hz hi=>qXw D' (by omega) d z i pr' b hz hi) hN z i pr' b hz hi
theorem zMg(hN:0<N)(D:Nat)(hD:3≤D)(d:Int)(z:Flt)(i:Nat)(pr':List ByteArray)(b:List Ex)(hz:z.2≠0)(hi:i<ts.length):∃v,(qAe N D).2.2.1 (bR ts z i pr' b) d=some (bR ts z i pr' b,v):=by
 obtain⟨D',rfl⟩:∃D',D=D'+1:=⟨D-1,by omega⟩
 simp only[qAe]
 exact rsum_b (fun z i pr' b hz hi=>zDo hN D' (by omega) d z i pr' b hz hi) hN z i pr' b hz hi
theorem zGu(hok:OkT ts)(hl:ts.length<1000000)(hpr:pr.length<1000)(hN:1000002<N):∀(k D:Nat),k≤32→4*k+1≤D→∀p:Ps,p.1<ts.length→p.2.length≤256→
  ∃o,(qAe N D).2.2.2 (gR ts pr p) (33-(k:Int))=some o∧relR ts pr (qJu ts pr k p) o
 |0,0,_,h,_,_,_=>by omega
 |0,D+1,_,_,p,hp,_=>by simp only[qAe];exact zMo (by omega) p hp
 |k+1,D,hk,hD,p,hp,hb=>by
  have hA:=qMf (ts:=ts) (params:=pr) hok k
  have hF:=qVz (params:=pr) hok hA
  have hT:Adv ts (zMq ts pr (qJu ts pr k)):=qOn hok hF
  have hS:Adv ts (sumC ts pr (qJu ts pr k)):=qOn hok hT
  have hE:∀D,4*k+1≤D→∀p:Ps,p.1<ts.length→p.2.length≤256→∃o,(qAe N D).2.2.2 (gR ts pr p) (IntKind.wrap .i64 (32-(k:Int)+1))=some o∧relR ts pr (qJu ts pr k p) o:=by
   intro D hD p hp hb
   rw[wi64 (by omega) (by omega),show 32-(k:Int)+1=33-(k:Int) by omega]
   exact zGu hok hl hpr hN k D (by omega) hD p hp hb
  have h1:∀D,4*k+2≤D→∀p:Ps,p.1<ts.length→p.2.length≤256→∃o,(qAe N D).1 (gR ts pr p) (32-(k:Int))=some o∧relR ts pr (qPx ts pr (qJu ts pr k) p) o:=by
   intro D hD p hp hb
   obtain⟨D',rfl⟩:∃D',D=D'+1:=⟨D-1,by omega⟩
   simp only[qAe]
   exact zMb (hE D' (by omega)) (fun z i pr' b hz hi=>qZd D' (by omega) _ z i pr' b hz hi) hok hl hpr hN hA p hp hb
  have h2:∀D,4*k+3≤D→∀p:Ps,p.1<ts.length→p.2.length≤256→∃o,(qAe N D).2.1 (gR ts pr p) (32-(k:Int))=some o∧relR ts pr (zMq ts pr (qJu ts pr k) p) o:=by
   intro D hD p hp hb
   obtain⟨D',rfl⟩:∃D',D=D'+1:=⟨D-1,by omega⟩
   simp only[qAe]
   exact rterm hok hl hN hF (h1 D' (by omega)) (fun z i pr' b hz hi=>qXw D' (by omega) _ z i pr' b hz hi) p hp hb
  have h3:∀D,4*k+4≤D→∀p:Ps,p.1<ts.length→p.2.length≤256→∃o,(qAe N D).2.2.1 (gR ts pr p) (32-(k:Int))=some o∧relR ts pr (sumC ts pr (qJu ts pr k) p) o:=by
   intro D hD p hp hb
   obtain⟨D',rfl⟩:∃D',D=D'+1:=⟨D-1,by omega⟩
   simp only[qAe]
   exact rsum hok hl hN hT (h2 D' (by omega)) (fun z i pr' b hz hi=>zDo (by omega) D' (by omega) _ z i pr' b hz hi) p hp hb
  obtain⟨D',rfl⟩:∃D',D=D'+1:=⟨D-1,by omega⟩
  rw[show(33:Int)-((k+1:Nat):Int)=32-(k:Int) by omega]
  simp only[qAe]
  exact rexpr hok hl (by omega) hA hS (hE D' (by omega)) (fun z i pr' b hz hi=>qZd D' (by omega) _ z i pr' b hz hi) (h3 D' (by omega)) (fun z i pr' b hz hi=>zMg (by omega) D' (by omega) _ z i pr' b hz hi) p hp hb
theorem zLd(hok:OkT ts)(hl:ts.length<1000000)(hpr:pr.length<1000)(hN:1000002<N)(p:Ps)(hp:p.1<ts.length)(hb:p.2.length≤256):
 ∃o,qCy N (gR ts pr p) 1=some o∧relR ts pr (qJu ts pr 32 p) o:=zGu hok hl hpr hN 32 N (by omega) (by omega) p hp hb
theorem qWl(hN:1≤N)(z:Flt)(i:Nat)(pr':List ByteArray)(b:List Ex)(hz:z.2≠0)(hi:i<ts.length):∃v,qCy N (bR ts z i pr' b) 1=some (bR ts z i pr' b,v):=qZd N hN 1 z i pr' b hz hi
abbrev RL:=List Tok×Int×Int×Int×List ByteArray×List Ex×List Int×List ByteArray
def addL(st:RT)(l:List ByteArray):RL:=(st.1,st.2.1,st.2.2.1,st.2.2.2.1,st.2.2.2.2.1,st.2.2.2.2.2.1,st.2.2.2.2.2.2,l)
def zBw(ts:List Tok)(n:Nat)(l:List ByteArray)(i:Nat):Flt⊕(Nat×List ByteArray):=
 if isC ts 4 qOq i then qQl ts n l (i+1) else qCe (qGi ts qJe i) fun j=> .inr (j,l)
theorem zGe(n:Nat)(l:List ByteArray)(i:Nat):qQl ts (n+1) l i=qCe (qPj ts i) fun a=>if l.length=8 then qGv a.2 2 else if a.2.2.1∈l then qGv a.2 10 else zBw ts n (l++[a.2.2.1]) a.1:=rfl
def relP(ts:List Tok)(pr:List ByteArray)(b:List Ex)(r:Flt⊕(Nat×List ByteArray))(o:RL):Prop:=
 match r with
 | .inl z=>∃st l,Bad ts z st∧o=addL st l
 | .inr q=>o=addL (gR ts pr (q.1,b)) q.2
theorem qNo{z:Flt}{i:Nat}{pr':List ByteArray}{b:List Ex}(hz:z.2≠0)(M:Nat)(l:List ByteArray):qAq (qAs N) (M+1) (addL (bR ts z i pr' b) l)=some (addL (bR ts z i pr' b) l):=by
 have hz':((addL (bR ts z i pr' b) l).2.2.2.1==0)=false:=by simpa[bR,addL] using hz
 simp only[qAq,qAs,hz',jB,jG,j0]
theorem qXy(hl:ts.length<1000000)(hN:1000002<N){i:Nat}{b:List Ex}{l:List ByteArray}(hi:i<ts.length)(hl8:l.length≤8){G:RL→Option RL}{n:Nat}
  (hbad:∀(z:Flt) (i:Nat) (pr':List ByteArray) (b:List Ex) (l:List ByteArray),z.2≠0→G (addL (bR ts z i pr' b) l)=some (addL (bR ts z i pr' b) l))
  (hok:OkT ts)
  (ih:∀(s:ByteArray),i+1<ts.length→l.length<8→∃o,G (addL (gR ts pr (i+1,b)) (l++[s]))=some o∧relP ts pr b (zBw ts n (l++[s]) (i+1)) o):
  ∃o,((qAj N (gR ts pr (i,b))).bind fun y15=>(qAz N y15.1).bind fun y16=>(if((l.length:Int)==8)=true then((qAk N y16.1 y15.2.2.2.2 2).bind fun y17=>some y17) else(some y16.1):Option RT).bind fun o10=>(qCv N l y16.2).bind fun y18=>(if y18=true then((qAk N o10 y15.2.2.2.2 10).bind fun y19=>some y19) else(some o10):Option RT).bind fun o11=>(qCm 16 l ([y16.2])).bind fun l1=>G (addL o11 l1))=some o∧
   relP ts pr b (qQl ts (n+1) l i) o:=by
 rw[zGe]
 simp only[qIq (i,b) hi,j0,qTg (i,b) hi hl (by omega:100<N),obs]
 have happ:∀s:ByteArray,qCm 16 l [s]=some (l++[s]):=fun s=>qDe (by simp only[jC,jE];omega) (by omega)
 have hhas:∀s,qCv N l s=some (decide (s∈l)):=fun s=>rhas (by omega) (by omega)
 -- behind an error
 have hb2:∀(z:Flt) (i:Nat) (pr':List ByteArray) (b':List Ex) (s:ByteArray) (a:Int),z.2≠0→i<ts.length→∃o,((qCv N l s).bind fun y18=>(if y18=true then qAk N (bR ts z i pr' b') a 10 else(some (bR ts z i pr' b')):Option RT).bind fun o11=>(qCm 16 l ([s])).bind fun l1=>G (addL o11 l1))=some o∧relP ts pr b (.inl z) o:=by
  intro z i pr' b' s a hz hi
  simp only[hhas,j0,qLu hz]
  have:((if decide (s∈l)=true then some (bR ts z i pr' b') else some (bR ts z i pr' b')):Option RT)=some (bR ts z i pr' b'):=by split<;>rfl
  simp only[this,j0,happ,hbad _ _ _ _ _ hz]
  exact⟨_,rfl,bR ts z i pr' b',_,⟨hz,i,pr',b',hi,rfl⟩,rfl⟩
 cases hx:qPj ts i with
 |inl z=>
  have hz:=qZb hx
  have:((if((l.length:Int)==8)=true then qAk N (bR ts z i pr b) (tkAt ts i).2.2.2 2 else some (bR ts z i pr b)):Option RT)=some (bR ts z i pr b):=by
   rw[qLu hz];split<;>rfl
  simp only[this,j0,qCe]
  exact hb2 z i pr b _ _ hz hi
 |inr x=>
  obtain⟨rfl,g1,-⟩:=qNe hok hi hx
  simp only[qCe]
  by_cases k1:l.length=8
  ·have k1':((l.length:Int)==8)=true:=by simp;omega
   rw[if_pos k1]
   simp only[k1',jH,qJi,j0,qGv]
   exact hb2 _ _ _ _ _ _ (show(2:Int)≠0 by decide) g1
  have k1':((l.length:Int)==8)=false:=by simp;omega
  rw[if_neg k1]
  simp only[k1',jB,jG,j0,hhas]
  by_cases k2:(tkAt ts i).2.1∈l
  ·rw[if_pos k2]
   simp only[jU k2,jH,qJi,j0,happ,qGv]
   refine⟨_,hbad _ _ _ _ _ (show(10:Int)≠0 by decide),bR ts ((tkAt ts i).2.2.2,10) (i+1) pr b,_,⟨show(10:Int)≠0 by decide,i+1,pr,b,g1,rfl⟩,rfl⟩
  ·rw[if_neg k2]
   simp only[jQ k2,jB,jG,j0,happ]
   exact ih _ g1 (by omega)
theorem zCh(hN:1000002<N){b:List Ex}{l:List ByteArray}(hl8:l.length≤8){G:RL→Option RL}
  (hbad:∀(z:Flt) (i:Nat) (pr':List ByteArray) (b:List Ex) (l:List ByteArray),z.2≠0→G (addL (bR ts z i pr' b) l)=some (addL (bR ts z i pr' b) l))
  {z:Flt} {i:Nat} {pr':List ByteArray} {b':List Ex} (hz:z.2≠0) (hi:i<ts.length):
  ∃o,((qAj N (bR ts z i pr' b')).bind fun y15=>(qAz N y15.1).bind fun y16=>(if((l.length:Int)==8)=true then((qAk N y16.1 y15.2.2.2.2 2).bind fun y17=>some y17) else(some y16.1):Option RT).bind fun o10=>(qCv N l y16.2).bind fun y18=>(if y18=true then((qAk N o10 y15.2.2.2.2 10).bind fun y19=>some y19) else(some o10):Option RT).bind fun o11=>(qCm 16 l ([y16.2])).bind fun l1=>G (addL o11 l1))=some o∧
   relP ts pr b (.inl z) o:=by
 have happ:∀s:ByteArray,qCm 16 l [s]=some (l++[s]):=fun s=>qDe (by simp only[jC,jE];omega) (by omega)
 have hhas:∀s,qCv N l s=some (decide (s∈l)):=fun s=>rhas (by omega) (by omega)
 have e3:((if((l.length:Int)==8)=true then some (bR ts z i pr' b') else some (bR ts z i pr' b')):Option RT)=some (bR ts z i pr' b'):=by split<;>rfl
 have e4:((if decide ((⟨#[]⟩:ByteArray)∈l)=true then some (bR ts z i pr' b') else some (bR ts z i pr' b')):Option RT)=some (bR ts z i pr' b'):=by split<;>rfl
 simp only[qNz hi,j0,qYo hz hi,obs,qLu hz,e3,hhas,e4,happ,hbad _ _ _ _ _ hz]
 exact⟨_,rfl,bR ts z i pr' b',_,⟨hz,i,pr',b',hi,rfl⟩,rfl⟩
theorem qTp(hok:OkT ts)(hl:ts.length<1000000)(hN:1000002<N){b:List Ex}:∀(n M:Nat) (l:List ByteArray) (i:Nat),l≠[]→i<ts.length→l.length≤8→ts.length<i+n→ts.length+2<i+M→
  ∃o,qAq (qAs N) M (addL (gR ts pr (i,b)) l)=some o∧relP ts pr b (zBw ts n l i) o
 |0,M,l,i,_,hi,_,h,_=>by omega
 |n+1,0,l,i,_,hi,_,_,h=>by omega
 |n+1,M+1,l,i,hne,hi,hl8,hn,hM=>by
  have hs:=qJs (N:=N) (pr:=pr) (i,b) hi hl ⟨#[41]⟩
  have hpos:decide ((l.length:Int)>0)=true:=by
   have:=fC.2 hne
   exact jU (by omega)
  have g0:((addL (gR ts pr (i,b)) l).2.2.2.1==0)=true:=rfl
  have e1:∀st:RT,∀l,((addL st l).1,(addL st l).2.1,(addL st l).2.2.1,(addL st l).2.2.2.1,(addL st l).2.2.2.2.1,(addL st l).2.2.2.2.2.1,(addL st l).2.2.2.2.2.2.1)=st:=fun _ _=>rfl
  have e2:∀st:RT,∀l,(addL st l).2.2.2.2.2.2.2=l:=fun _ _=>rfl
  simp only[qAq,qAs,g0,jH,e1,e2,hs,j0,hpos]
  rcases qEg (isC ts 4 ⟨#[41]⟩ i) with c1|c1
  ·simp only[c1,jH,kQ,jB,jG]
   refine⟨_,rfl,?_⟩
   have c2:isC ts 4 qOq i=false:=by
    simp only[isC,jJ,jA] at c1
    simp[isC,c1.2,qOq]
   have c3:qGi ts qJe i= .inr (i+1):=by simp[qGi,qJe,c1]
   simp only[zBw,c2,jB,jG,c3,qCe]
   rfl
  ·have hcc:isC ts 4 qOq i=isC ts 4 ⟨#[44]⟩ i:=rfl
   simp only[c1,jB,jG,kG,jH,Prod.eta,qMa (i,b) hi hl,j0,zBw,hcc,qGi]
   rcases qEg (isC ts 4 ⟨#[44]⟩ i) with c2|c2
   ·have g:=qGm hok hi (by decide) c2
    simp only[c2,jH]
    obtain⟨o,ho,hr⟩:=qXy (N:=N) (pr:=pr) (b:=b) (l:=l) (n:=n) (G:=qAq (qAs N) M) hl hN g hl8 (fun z i pr' b l hz=>by
     obtain⟨M',rfl⟩:∃M',M=M'+1:=⟨M-1,by omega⟩
     exact qNo hz M' l) hok (fun s g2 g3=>qTp hok hl hN n M (l++[s]) (i+1+1) (by simp) g2 (by simp only[jD,jC,jE];omega) (by omega) (by omega))
    refine⟨o,Eq.trans ?_ ho,hr⟩
    simp only[gP,j0]
    rfl
   ·have c1':isC ts 4 qJe i=false:=c1
    simp only[c2,c1',jB,jG,qGv,qCe]
    obtain⟨o,ho,hr⟩:=zCh (N:=N) (pr:=pr) (b:=b) (l:=l) (z:=((tkAt ts i).2.2.2,9)) (i:=i) (pr':=pr) (b':=b) (G:=qAq (qAs N) M) hN hl8 (fun z i pr' b l hz=>by
     obtain⟨M',rfl⟩:∃M',M=M'+1:=⟨M-1,by omega⟩
     exact qNo hz M' l) (show(9:Int)≠0 by decide) hi
    refine⟨o,Eq.trans ?_ ho,hr⟩
    simp only[gP,j0]
    rfl
theorem zMt(hok:OkT ts)(hl:ts.length<1000000)(hN:1000005<N){b:List Ex}(i:Nat)(hi:i<ts.length):
  ∃o,qAq (qAs N) N (addL (gR ts pr (i,b)) [])=some o∧relP ts pr b (if isC ts 4 qJe i then .inr (i+1,[]) else qQl ts (ts.length+1) [] i) o:=by
 obtain⟨M,hM⟩:∃M,N=M+1:=⟨N-1,by omega⟩
 have hs:=qJs (N:=N) (pr:=pr) (i,b) hi hl ⟨#[41]⟩
 have g0:((addL (gR ts pr (i,b)) []).2.2.2.1==0)=true:=rfl
 have hnil:decide ((([]:List ByteArray).length:Int)>0)=false:=rfl
 have e1:∀st:RT,∀l,((addL st l).1,(addL st l).2.1,(addL st l).2.2.1,(addL st l).2.2.2.1,(addL st l).2.2.2.2.1,(addL st l).2.2.2.2.2.1,(addL st l).2.2.2.2.2.2.1)=st:=fun _ _=>rfl
 have e2:∀st:RT,∀l,(addL st l).2.2.2.2.2.2.2=l:=fun _ _=>rfl
 have e0:qAq (qAs N) N (addL (gR ts pr (i,b)) [])=qAq (qAs N) (M+1) (addL (gR ts pr (i,b)) []):=by rw[←hM]
 rw[e0]
 simp only[qAq,qAs,g0,jH,e1,e2,hs,j0,hnil,qJe]
 rcases qEg (isC ts 4 ⟨#[41]⟩ i) with c1|c1
 ·simp only[c1,jH,kQ,jB,jG]
  exact⟨_,rfl,rfl⟩
 ·simp only[c1,jB,jG,kG,jH,Prod.eta,j0]
  obtain⟨o,ho,hr⟩:=qXy (N:=N) (pr:=pr) (b:=b) (l:=[]) (n:=ts.length) (G:=qAq (qAs N) M) hl (by omega) hi (by simp) (fun z i pr' b l hz=>by
   obtain⟨M',rfl⟩:∃M',M=M'+1:=⟨M-1,by omega⟩
   exact qNo hz M' l) hok (fun s g2 g3=>qTp hok hl (by omega) ts.length M ([]++[s]) (i+1) (by simp) g2 (by simp) (by omega) (by omega))
  refine⟨o,Eq.trans ?_ ho,hr⟩
  simp only[gP,j0]
  rfl
end
end
section
open Go Go.Dc
section
variable {N:Nat} {ts:List Tok} {pr:List ByteArray}
def relD(ts:List Tok)(r:Flt⊕(Nat×Dl))(o:RT×Dl):Prop:=
 match r with
 | .inl z=>Bad ts z o.1
 | .inr a=>o=(gR ts a.2.2.2.1 (a.1,a.2.2.2.2),a.2)
def qOh(N:Nat)(st:RT)(k:Int)(nm:ByteArray):Option (RT×Dl):=
 ((if(k==1)=true then((qAg N st (⟨#[40]⟩:ByteArray)).bind fun y12=>qAq (qAs N) N (addL y12 [])) else(some (addL st [])):Option RL)).bind fun o6=>
 (qAg N (o6.1,o6.2.1,o6.2.2.1,o6.2.2.2.1,o6.2.2.2.2.2.2.2,o6.2.2.2.2.2.1,o6.2.2.2.2.2.2.1) (⟨#[61]⟩:ByteArray)).bind fun y20=>
 (qCy N y20 1).bind fun y21=>(qAg N y21.1 (⟨#[59]⟩:ByteArray)).bind fun y22=>some (y22,(k,nm,o6.2.2.2.2.2.2.2,y22.2.2.2.2.2.1))
theorem qVg(hN:1000005<N){z:Flt}{i:Nat}{b:List Ex}(hz:z.2≠0)(hi:i<ts.length)(k:Int)(nm:ByteArray):∃o,qOh N (bR ts z i pr b) k nm=some o∧Bad ts z o.1:=by
 have tail:∀(i:Nat) (pr:List ByteArray) (b:List Ex) (l:List ByteArray),i<ts.length→∃o,((qAg N ((addL (bR ts z i pr b) l).1,(addL (bR ts z i pr b) l).2.1,(addL (bR ts z i pr b) l).2.2.1,(addL (bR ts z i pr b) l).2.2.2.1,(addL (bR ts z i pr b) l).2.2.2.2.2.2.2,(addL (bR ts z i pr b) l).2.2.2.2.2.1,(addL (bR ts z i pr b) l).2.2.2.2.2.2.1) (⟨#[61]⟩:ByteArray)).bind fun y20=>
   (qCy N y20 1).bind fun y21=>(qAg N y21.1 (⟨#[59]⟩:ByteArray)).bind fun y22=>some (y22,(k,nm,(addL (bR ts z i pr b) l).2.2.2.2.2.2.2,y22.2.2.2.2.2.1)))=some o∧Bad ts z o.1:=by
  intro i pr b l hi
  have e:((addL (bR ts z i pr b) l).1,(addL (bR ts z i pr b) l).2.1,(addL (bR ts z i pr b) l).2.2.1,(addL (bR ts z i pr b) l).2.2.2.1,(addL (bR ts z i pr b) l).2.2.2.2.2.2.2,(addL (bR ts z i pr b) l).2.2.2.2.2.1,(addL (bR ts z i pr b) l).2.2.2.2.2.2.1)=bR ts z i l b:=rfl
  obtain⟨v,hv⟩:=qWl (N:=N) (by omega) z i l b hz hi
  simp only[e,qLi hz hi,j0,hv]
  exact⟨_,rfl,hz,i,l,b,hi,rfl⟩
 obtain⟨M,hM⟩:∃M,N=M+1:=⟨N-1,by omega⟩
 have hb:qAq (qAs N) N (addL (bR ts z i pr b) [])=some (addL (bR ts z i pr b) []):=by
  have e0:qAq (qAs N) N (addL (bR ts z i pr b) [])=qAq (qAs N) (M+1) (addL (bR ts z i pr b) []):=by rw[←hM]
  rw[e0];exact qNo hz M []
 unfold qOh
 rcases qEg (k==1) with c|c
 ·simp only[c,jH,qLi hz hi,j0,hb]
  exact tail i pr b [] hi
 ·simp only[c,jB,jG,j0]
  exact tail i pr b [] hi
theorem zJj(hok:OkT ts)(hl:ts.length<1000000)(hN:1000005<N)(i:Nat)(hi:i<ts.length)(k:Int)(nm:ByteArray):∃o,qOh N (gR ts pr (i,[])) k nm=some o∧
  relD ts (qCe (if k=1 then qKl ts i else .inr (i,[])) fun bq=>qCe (qGi ts sEq bq.1) fun j=>qCe (qJu ts bq.2 32 (j,[])) fun c=>qCe (qGi ts qUy c.1.1) fun m=> .inr (m,(k,nm,bq.2,c.1.2))) o:=by
 have badt:∀(z:Flt) (st:RT) (l:List ByteArray),Bad ts z st→∃o,((qAg N ((addL st l).1,(addL st l).2.1,(addL st l).2.2.1,(addL st l).2.2.2.1,(addL st l).2.2.2.2.2.2.2,(addL st l).2.2.2.2.2.1,(addL st l).2.2.2.2.2.2.1) (⟨#[61]⟩:ByteArray)).bind fun y20=>
   (qCy N y20 1).bind fun y21=>(qAg N y21.1 (⟨#[59]⟩:ByteArray)).bind fun y22=>some (y22,(k,nm,(addL st l).2.2.2.2.2.2.2,y22.2.2.2.2.2.1)))=some o∧Bad ts z o.1:=by
  rintro z st l ⟨hz,i,pr,b,hi,rfl⟩
  have e:((addL (bR ts z i pr b) l).1,(addL (bR ts z i pr b) l).2.1,(addL (bR ts z i pr b) l).2.2.1,(addL (bR ts z i pr b) l).2.2.2.1,(addL (bR ts z i pr b) l).2.2.2.2.2.2.2,(addL (bR ts z i pr b) l).2.2.2.2.2.1,(addL (bR ts z i pr b) l).2.2.2.2.2.2.1)=bR ts z i l b:=rfl
  obtain⟨v,hv⟩:=qWl (N:=N) (by omega) z i l b hz hi
  simp only[e,qLi hz hi,j0,hv]
  exact⟨_,rfl,hz,i,l,b,hi,rfl⟩
 have goodt:∀(q:Nat×List ByteArray),q.1<ts.length→q.2.length≤8→∃o,((qAg N ((addL (gR ts pr (q.1,[])) q.2).1,(addL (gR ts pr (q.1,[])) q.2).2.1,(addL (gR ts pr (q.1,[])) q.2).2.2.1,(addL (gR ts pr (q.1,[])) q.2).2.2.2.1,(addL (gR ts pr (q.1,[])) q.2).2.2.2.2.2.2.2,(addL (gR ts pr (q.1,[])) q.2).2.2.2.2.2.1,(addL (gR ts pr (q.1,[])) q.2).2.2.2.2.2.2.1) (⟨#[61]⟩:ByteArray)).bind fun y20=>
   (qCy N y20 1).bind fun y21=>(qAg N y21.1 (⟨#[59]⟩:ByteArray)).bind fun y22=>some (y22,(k,nm,(addL (gR ts pr (q.1,[])) q.2).2.2.2.2.2.2.2,y22.2.2.2.2.2.1)))=some o∧
   relD ts (qCe (qGi ts sEq q.1) fun j=>qCe (qJu ts q.2 32 (j,[])) fun c=>qCe (qGi ts qUy c.1.1) fun m=> .inr (m,(k,nm,q.2,c.1.2))) o:=by
  intro q hq hq8
  have e:((addL (gR ts pr (q.1,[])) q.2).1,(addL (gR ts pr (q.1,[])) q.2).2.1,(addL (gR ts pr (q.1,[])) q.2).2.2.1,(addL (gR ts pr (q.1,[])) q.2).2.2.2.1,(addL (gR ts pr (q.1,[])) q.2).2.2.2.2.2.2.2,(addL (gR ts pr (q.1,[])) q.2).2.2.2.2.2.1,(addL (gR ts pr (q.1,[])) q.2).2.2.2.2.2.2.1)=gR ts q.2 (q.1,[]):=rfl
  have e2:(addL (gR ts pr (q.1,[])) q.2).2.2.2.2.2.2.2=q.2:=rfl
  rw[e]
  simp only[e2,qMa (q.1,[]) hq hl,j0,sEq]
  cases hj:qGi ts ⟨#[61]⟩ q.1 with
  |inl z=>
   have hz:=qKj hj
   obtain⟨v,hv⟩:=qWl (N:=N) (by omega) z q.1 q.2 [] hz hq
   simp only[hv,j0,qLi hz hq,qCe]
   exact⟨_,rfl,hz,q.1,q.2,[],hq,rfl⟩
  |inr j=>
   obtain⟨rfl,g3,-⟩:=qGk hok hq hj
   obtain⟨o,ho,hr⟩:=zLd (N:=N) (pr:=q.2) hok hl (by omega) (by omega) (q.1+1,[]) g3 (by simp)
   simp only[ho,j0,qCe]
   cases hc:qJu ts q.2 32 (q.1+1,[]) with
   |inl z=>
    rw[hc] at hr
    obtain⟨hz,i,pr',b,hi,ho1⟩:=hr
    simp only[ho1,qLi hz hi,j0]
    exact⟨_,rfl,hz,i,pr',b,hi,rfl⟩
   |inr c=>
    rw[hc] at hr
    obtain⟨⟨f1,f2,f3,f4⟩,-⟩:=qMf hok 32 (q.1+1,[]) c.1 c.2 g3 (by simp) hc
    have hr':o=(gR ts q.2 c.1,(c.2:Int)):=hr
    simp only[hr',qMa c.1 f2 hl,j0,qUy]
    cases hm:qGi ts ⟨#[59]⟩ c.1.1 with
    |inl z=>exact⟨_,rfl,qKj hm,c.1.1,q.2,c.1.2,f2,rfl⟩
    |inr m=>exact⟨_,rfl,rfl⟩
 unfold qOh
 by_cases c:k=1
 ·have c':(k==1)=true:=by simpa using c
  simp only[c',jH,qMa (i,[]) hi hl,j0,if_pos c,qKl,qRq]
  cases h1:qGi ts ⟨#[40]⟩ i with
  |inl z=>
   have hz:=qKj h1
   obtain⟨M,hM⟩:∃M,N=M+1:=⟨N-1,by omega⟩
   have hb:qAq (qAs N) N (addL (bR ts z i pr []) [])=some (addL (bR ts z i pr []) []):=by
    have e0:qAq (qAs N) N (addL (bR ts z i pr []) [])=qAq (qAs N) (M+1) (addL (bR ts z i pr []) []):=by rw[←hM]
    rw[e0];exact qNo hz M []
   simp only[hb,j0,qCe]
   exact badt z _ [] ⟨hz,i,pr,[],hi,rfl⟩
  |inr j=>
   obtain⟨rfl,g1,-⟩:=qGk hok hi h1
   obtain⟨o,ho,hr⟩:=zMt (N:=N) (pr:=pr) (b:=[]) hok hl hN (i+1) g1
   simp only[ho,j0,qCe]
   cases hP:(if isC ts 4 qJe (i+1)=true then .inr (i+1+1,[]) else qQl ts (ts.length+1) [] (i+1):Flt⊕(Nat×List ByteArray)) with
   |inl z=>
    rw[hP] at hr
    obtain⟨st,l,hbad,rfl⟩:=hr
    exact badt z st l hbad
   |inr q=>
    rw[hP] at hr
    have hr':o=addL (gR ts pr (q.1,[])) q.2:=hr
    have hq:q.1<ts.length∧q.2.length≤8:=by
     split at hP
     ·rename_i hc
      obtain rfl:=Sum.inr.inj hP
      exact⟨qGm hok g1 (by decide) hc,by simp⟩
     ·obtain⟨_,f2,f3⟩:=qRu hok _ _ _ q g1 (by simp) hP
      exact⟨f2,f3⟩
    rw[hr']
    exact goodt q hq.1 hq.2
 ·have c':(k==1)=false:=by simpa using c
  simp only[c',jB,jG,j0,if_neg c]
  exact goodt (i,[]) hi (by simp)
def qSg(N:Nat)(f:Sr)(t:Tok)(st:RT)(k:Int):Option (RT×Dl):=
 ((if((List.length f.2.2:Int)==64)=true then qAk N st t.2.2.2 2 else some st):Option RT).bind fun o2=>(qAj N o2).bind fun y7=>
 ((if(k==3)=true then qBn N y7.1 true else qAz N y7.1):Option (RT×ByteArray)).bind fun o3=>
 ((if(o3.1.2.2.2.1==0)=true then qEj N f k o3.2 else some false):Option Bool).bind fun o4=>
 ((if o4=true then qAk N o3.1 y7.2.2.2.2 10 else some o3.1):Option RT).bind fun o5=>qOh N o5 k o3.2
theorem zFp(hN:1000005<N){f:Sr}{t:Tok}{z:Flt}{i:Nat}{b:List Ex}(hz:z.2≠0)(hi:i<ts.length)(k:Int):∃o,
  ((qAj N (bR ts z i pr b)).bind fun y7=>((if(k==3)=true then qBn N y7.1 true else qAz N y7.1):Option (RT×ByteArray)).bind fun o3=>
   ((if(o3.1.2.2.2.1==0)=true then qEj N f k o3.2 else some false):Option Bool).bind fun o4=>
   ((if o4=true then qAk N o3.1 y7.2.2.2.2 10 else some o3.1):Option RT).bind fun o5=>qOh N o5 k o3.2)=some o∧Bad ts z o.1:=by
 have hz':((bR ts z i pr b).2.2.2.1==0)=false:=by simpa[bR] using hz
 have e:((if(k==3)=true then qBn N (bR ts z i pr b) true else qAz N (bR ts z i pr b)):Option (RT×ByteArray))=some (bR ts z i pr b,⟨#[]⟩):=by
  rw[zCi hz hi,qYo hz hi];split<;>rfl
 simp only[qNz hi,j0,e,hz',jB,jG]
 exact qVg hN hz hi k _
theorem zFw(hok:OkT ts)(hl:ts.length<1000000)(hN:1000005<N){f:Sr}(hf:f.2.2.length≤64)(t:Tok)(i:Nat)(hi:i<ts.length)(k:Int):∃o,qSg N f t (gR ts pr (i,[])) k=some o∧
  relD ts (if f.2.2.length=64 then qGv t 2 else qCe (if k=3 then qRt ts i else qPj ts i) fun a=>
   if f.2.2.any (fun d=>d.1==k&&decide (d.2.1=a.2.2.1)) then qGv a.2 10
   else qCe (if k=1 then qKl ts a.1 else .inr (a.1,[])) fun b=>
    qCe (qGi ts sEq b.1) fun j=>qCe (qJu ts b.2 32 (j,[])) fun c=>
    qCe (qGi ts qUy c.1.1) fun m=> .inr (m,(k,a.2.2.1,b.2,c.1.2))) o:=by
 unfold qSg
 by_cases k1:f.2.2.length=64
 ·have k1':((f.2.2.length:Int)==64)=true:=by simp;omega
  rw[if_pos k1]
  simp only[k1',jH,qJi,j0,qGv]
  exact zFp (t:=t) hN (show(2:Int)≠0 by decide) hi k
 have k1':((f.2.2.length:Int)==64)=false:=by simp;omega
 rw[if_neg k1]
 simp only[k1',jB,jG,j0,qIq (i,[]) hi]
 have e:((if(k==3)=true then qBn N (gR ts pr (i,[])) true else qAz N (gR ts pr (i,[]))):Option (RT×ByteArray))=
   some (match(if k=3 then qRt ts i else qPj ts i) with| .inl z=>(bR ts z i pr [],⟨#[]⟩)| .inr a=>(gR ts pr (a.1,[]),a.2.2.1)):=by
  by_cases k3:k=3
  ·have k3':(k==3)=true:=by simpa using k3
   rw[if_pos k3',if_pos k3,zCf (i,[]) hi hl (by omega)]<;>rfl
  ·have k3':(k==3)=false:=by simpa using k3
   rw[if_neg (by rw[k3'];decide),if_neg k3,qTg (i,[]) hi hl (by omega)]<;>rfl
 rw[e]
 simp only[j0]
 cases hX:(if k=3 then qRt ts i else qPj ts i) with
 |inl z=>
  have hz:z.2≠0:=by
   split at hX
   ·exact qZl hX
   ·exact qZb hX
  have hz':((bR ts z i pr []).2.2.2.1==0)=false:=by simpa[bR] using hz
  simp only[hz',jB,jG,j0,qCe]
  exact qVg hN hz hi k _
 |inr a=>
  have ga:a=(i+1,tkAt ts i)∧i+1<ts.length:=by
   split at hX
   ·obtain⟨e,g1,-⟩:=qNu hok hi hX;exact⟨e,g1⟩
   ·obtain⟨e,g1,-⟩:=qNe hok hi hX;exact⟨e,g1⟩
  obtain⟨rfl,g1⟩:=ga
  have g0:((gR ts pr (i+1,[])).2.2.2.1==0)=true:=rfl
  simp only[g0,jH,rtaken (N:=N) (f:=f) (k:=k) (s:=(tkAt ts i).2.1) (by omega) (by omega),j0]
  rw[show qCe (Sum.inr (i+1,tkAt ts i)) (fun a:Nat×Tok=>if f.2.2.any (fun d=>d.1==k&&decide (d.2.1=a.2.2.1))=true then qGv a.2 10
   else qCe (if k=1 then qKl ts a.1 else .inr (a.1,[])) fun b=>
    qCe (qGi ts sEq b.1) fun j=>qCe (qJu ts b.2 32 (j,[])) fun c=>
    qCe (qGi ts qUy c.1.1) fun m=>(.inr (m,(k,a.2.2.1,b.2,c.1.2)):Flt⊕(Nat×Dl)))=(if f.2.2.any (fun d=>d.1==k&&decide (d.2.1=(tkAt ts i).2.1))=true then qGv (tkAt ts i) 10
   else qCe (if k=1 then qKl ts (i+1) else .inr (i+1,[])) fun b=>
    qCe (qGi ts sEq b.1) fun j=>qCe (qJu ts b.2 32 (j,[])) fun c=>
    qCe (qGi ts qUy c.1.1) fun m=>(.inr (m,(k,(tkAt ts i).2.1,b.2,c.1.2)):Flt⊕(Nat×Dl))) from rfl]
  rcases qEg (f.2.2.any fun d=>d.1==k&&decide (d.2.1=(tkAt ts i).2.1)) with k4|k4
  ·rw[if_pos k4]
   simp only[k4,jH,qJi,j0,qGv]
   exact qVg hN (show(10:Int)≠0 by decide) g1 k _
  ·rw[if_neg (by rw[k4];decide)]
   simp only[k4,jB,jG,j0]
   exact zJj hok hl hN (i+1) g1 k _
end
end
end Go.Proofs.YtcdpbapbpcpflaaGreatDoor
