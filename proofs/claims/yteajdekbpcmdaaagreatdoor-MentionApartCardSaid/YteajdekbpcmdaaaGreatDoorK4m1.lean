/- No condition but those of each theorem. -/
import Derived.Test.YteajdekbpcmdaaaGreatDoorProg
import Derived.WalkKit
import Derived.Deep.LoopGhost
import Derived.KernelRfl
import Derived.OrdersHeld
import Derived.OrdersIn
import Derived.LoopNIn
import Derived.Sort.LoopGhostIn
import Derived.Laws.AppendOwn
import Derived.RangeFuncLeaves
import Derived.RangeFuncRecord
import Derived.MapKept
import Derived.Maps.RangeRun
import Derived.ChangeKeysEq
import Derived.HandedShaped
import Derived.ChangeStays
import Derived.ChangeSame
import Derived.OpenShut
import Derived.WideShapes
import Derived.JoinedOf
import Derived.ReadAgain
import Derived.ChangeAt
import Derived.RowKit
import Derived.Lib.Overlaps
import Derived.Shelf.Sort.Plain
import Derived.Shelf.Slices.In.SortNone
import Derived.WalkSmall
import Derived.Recover
import Derived.Lib.Builder
import Derived.Lib.UnsafeStr
import Derived.Shelf.Strconv.Itoa3
import Derived.Room.Shelf.Join48
import Derived.Lib.Bytealg
import Derived.Test.YteajdekbpcmdaaaGreatDoorK3m1
namespace Go.Proofs.YteajdekbpcmdaaaGreatDoor
section
open Go Go.Dc
set_option maxHeartbeats 4000000
set_option maxRecDepth 100000
variable {N bp0 c1 c2 c3:Nat} {m:Mem} {O:List Piece} {w:World} {a1 a2 a3:Option Addr}
def qQg(N:Nat):Option (Option T1d):=
 (qNa (some []:Option T1d) 1 (⟨#[43]⟩:ByteArray)).bind fun mp1=>(qNa mp1 2 (⟨#[45]⟩:ByteArray)).bind fun mp2=>(qNa mp2 3 (⟨#[42]⟩:ByteArray)).bind fun mp3=>(qNa mp3 4 (⟨#[47]⟩:ByteArray)).bind fun mp4=>(qNa mp4 5 (⟨#[37]⟩:ByteArray)).bind fun mp5=>(qNa mp5 6 (⟨#[60]⟩:ByteArray)).bind fun mp6=>(qNa mp6 7 (⟨#[61,61]⟩:ByteArray)).bind fun mp7=>some mp7
theorem qZe{r:Option T1d}(g:St m (O) w)(i:qQg N=some r):Calls Tryz.prog 120 #[] w fun e w'=>∃rq1 re1 rk1 m',e= .returned (.map rq1)∧m.le m'∧St m' (qHw rq1 re1 rk1::O) w'∧MapQ (fun n:Int=>Value.int .i64 n) cStr false m' rq1 re1 rk1 r:=by
 unfold qQg at i;have q:=m.le_refl;refine W_cA Tryz.func120 rfl Tryz.ntmps120 ?_;refine W_sr (qAd 1 [] (W_sr (qAb rfl (qRl (d:=1) (t:=146) kr rfl g fun b1 w1 g=> ?_))));have⟨mp1,d1,i⟩:=qAv i;refine qAb rfl (qGe (ek:=(fun n:Int=>Value.int .i64 n)) (c:=cStr) (agg:=false) (k:=1) (yv:=bz) (cs:=[vT bz]) (z:=(vT eB)) (v:=(vT bz)) (kt:=3) (et:=9) (t:=146) (x:=(.tmp 1)) (y:=(.const (vI 1))) (u:=(.const (vT bz))) kr (ev (.map (some b1))) (ev (vI 1)) (ev (vT bz)) kr (qLp kr) g (MapQ.new (fun n:Int=>Value.int .i64 n) cStr false _ _) rfl rfl d1 fun es1 ck1 w2 g r1=> ?_);have⟨mp2,d2,i⟩:=qAv i;refine qAb rfl (qGe (ek:=(fun n:Int=>Value.int .i64 n)) (c:=cStr) (agg:=false) (k:=2) (yv:=b16) (cs:=[vT b16]) (z:=(vT eB)) (v:=(vT b16)) (kt:=3) (et:=9) (t:=146) (x:=(.tmp 1)) (y:=(.const (vI 2))) (u:=(.const (vT b16))) kr (ev (.map (some b1))) (ev (vI 2)) (ev (vT b16)) kr (qLp kr) g r1 rfl rfl d2 fun es2 ck2 w3 g r2=> ?_);have⟨mp3,d3,i⟩:=qAv i;refine qAb rfl (qGe (ek:=(fun n:Int=>Value.int .i64 n)) (c:=cStr) (agg:=false) (k:=3) (yv:=b17) (cs:=[vT b17]) (z:=(vT eB)) (v:=(vT b17)) (kt:=3) (et:=9) (t:=146) (x:=(.tmp 1)) (y:=(.const (vI 3))) (u:=(.const (vT b17))) kr (ev (.map (some b1))) (ev (vI 3)) (ev (vT b17)) kr (qLp kr) g r2 rfl rfl d3 fun es3 ck3 w4 g r3=> ?_);have⟨mp4,d4,i⟩:=qAv i
 refine qAb rfl (qGe (ek:=(fun n:Int=>Value.int .i64 n)) (c:=cStr) (agg:=false) (k:=4) (yv:=b18) (cs:=[vT b18]) (z:=(vT eB)) (v:=(vT b18)) (kt:=3) (et:=9) (t:=146) (x:=(.tmp 1)) (y:=(.const (vI 4))) (u:=(.const (vT b18))) kr (ev (.map (some b1))) (ev (vI 4)) (ev (vT b18)) kr (qLp kr) g r3 rfl rfl d4 fun es4 ck4 w5 g r4=> ?_);have⟨mp5,d5,i⟩:=qAv i;refine qAb rfl (qGe (ek:=(fun n:Int=>Value.int .i64 n)) (c:=cStr) (agg:=false) (k:=5) (yv:=b19) (cs:=[vT b19]) (z:=(vT eB)) (v:=(vT b19)) (kt:=3) (et:=9) (t:=146) (x:=(.tmp 1)) (y:=(.const (vI 5))) (u:=(.const (vT b19))) kr (ev (.map (some b1))) (ev (vI 5)) (ev (vT b19)) kr (qLp kr) g r4 rfl rfl d5 fun es5 ck5 w6 g r5=> ?_);have⟨mp6,d6,i⟩:=qAv i;refine qAb rfl (qGe (ek:=(fun n:Int=>Value.int .i64 n)) (c:=cStr) (agg:=false) (k:=6) (yv:=b1a) (cs:=[vT b1a]) (z:=(vT eB)) (v:=(vT b1a)) (kt:=3) (et:=9) (t:=146) (x:=(.tmp 1)) (y:=(.const (vI 6))) (u:=(.const (vT b1a))) kr (ev (.map (some b1))) (ev (vI 6)) (ev (vT b1a)) kr (qLp kr) g r5 rfl rfl d6 fun es6 ck6 w7 g r6=> ?_);have⟨mp7,d7,i⟩:=qAv i
 refine qAb rfl (qGe (ek:=(fun n:Int=>Value.int .i64 n)) (c:=cStr) (agg:=false) (k:=7) (yv:=b1b) (cs:=[vT b1b]) (z:=(vT eB)) (v:=(vT b1b)) (kt:=3) (et:=9) (t:=146) (x:=(.tmp 1)) (y:=(.const (vI 7))) (u:=(.const (vT b1b))) kr (ev (.map (some b1))) (ev (vI 7)) (ev (vT b1b)) kr (qLp kr) g r6 rfl rfl d7 fun es7 ck7 w8 g r7=>(qAd 2 [(0,.map (some b1))] (qAz ?_)));obtain rfl:=sI i;exact X_rt [0] [.map (some b1)] ⟨(some b1),es7,ck7,m,rfl,q,g,r7⟩
def qJu(N:Nat)(R8:T1i→(Int)→(Int)→(Int)→T1j)(p3:Int)(x1:Tn)(s3:T1l):Option (T1l⊕T1k):=
 if(decide (s3.1<(List.length ([(⟨#[105,102,32]⟩:ByteArray),(⟨#[32,116,104,101,110,32]⟩:ByteArray),(⟨#[32,101,108,115,101,32]⟩:ByteArray)]):Int)))=true then((idx ([(⟨#[105,102,32]⟩:ByteArray),(⟨#[32,116,104,101,110,32]⟩:ByteArray),(⟨#[32,101,108,115,101,32]⟩:ByteArray)]) s3.1).bind fun x5=>(qCn 1 s3.2.2.1 x5.data.toList).bind fun l6=>(idx x1.2.2.2.2 s3.1).bind fun x6=>(R8 ((true,l6),s3.2.2.2.1,s3.2.2.2.2.1,s3.2.2.2.2.2) x6 0 (IntKind.wrap .i64 (p3+1))).bind fun y8=>some (.inl (IntKind.wrap .i64 (s3.1+1),y8.1.1,y8.1.2,y8.2.1,y8.2.2.1,y8.2.2.2))) else(some (.inr s3.2))
def qGn(N:Nat)(R8:T1i→(Int)→(Int)→(Int)→T1j)(p3:Int)(x1:Tn)(s5:T1l):Option (T1l⊕T1k):=
 if(decide (s5.1<(List.length x1.2.2.2.2:Int)))=true then((idx x1.2.2.2.2 s5.1).bind fun x7=>(if(decide (s5.1>0))=true then((qCn 1 s5.2.2.1 ((⟨#[44,32]⟩:ByteArray).data.toList)).bind fun l8=>some (true,l8)) else(some (s5.2.1,s5.2.2.1)):Option (Bool×T1b)).bind fun o4=>(R8 (o4,s5.2.2.2.1,s5.2.2.2.2.1,s5.2.2.2.2.2) x7 0 (IntKind.wrap .i64 (p3+1))).bind fun y9=>some (.inl (IntKind.wrap .i64 (s5.1+1),y9.1.1,y9.1.2,y9.2.1,y9.2.2.1,y9.2.2.2))) else(some (.inr s5.2))
def qFo(N:Nat)(R8:T1i→(Int)→(Int)→(Int)→T1j)(p0:T1i)(p1:Int)(p2:Int)(p3:Int):T1j:=
 (idx p0.2.1 p1).bind fun x1=>(qKg N x1).bind fun y1=>if(decide (y1<p2))=true then((qCn 1 p0.1.2 ([(40:UInt8)])).bind fun l1=>(R8 ((true,l1),p0.2.1,p0.2.2.1,p0.2.2.2) p1 0 (IntKind.wrap .i64 (p3+1))).bind fun y2=>(qCn 1 y2.1.2 ([(41:UInt8)])).bind fun l2=>some ((true,l2),y2.2.1,y2.2.2.1,y2.2.2.2)) else(if(x1.1==1)=true then((strconv_Itoa N x1.2.1).bind fun y3=>(qCn 1 p0.1.2 y3.data.toList).bind fun l3=>some ((true,l3),p0.2.1,p0.2.2.1,if p3>p0.2.2.2 then p3 else p0.2.2.2)) else(if(x1.1==2)=true then((idx p0.2.2.1 x1.2.1).bind fun x2=>(qCn 1 p0.1.2 x2.data.toList).bind fun l4=>some ((true,l4),p0.2.1,p0.2.2.1,if p3>p0.2.2.2 then p3 else p0.2.2.2)) else(if(x1.1==4)=true then((qKg N x1).bind fun y4=>(if(y4==1)=true then(some (IntKind.wrap .i64 (y4+1))) else(some y4):T8).bind fun o1=>(idx x1.2.2.2.2 0).bind fun x3=>(R8 (p0.1,p0.2.1,p0.2.2.1,if p3>p0.2.2.2 then p3 else p0.2.2.2) x3 o1 p3).bind fun y5=>(qQg N).bind fun y6=>(catB (⟨#[32]⟩:ByteArray) ((qPg y6 x1.2.2.1).getD (⟨#[]⟩:ByteArray))).bind fun s1=>(catB s1 (⟨#[32]⟩:ByteArray)).bind fun s2=>(qCn 1 y5.1.2 s2.data.toList).bind fun l5=>(idx x1.2.2.2.2 1).bind fun x4=>(R8 ((true,l5),y5.2.1,y5.2.2.1,y5.2.2.2) x4 (IntKind.wrap .i64 (y4+1)) p3).bind fun y7=>some (y7.1,y7.2.1,y7.2.2.1,y7.2.2.2)) else(if(x1.1==5)=true then((qAs (qJu N R8 p3 x1) N (0,p0.1.1,p0.1.2,p0.2.1,p0.2.2.1,if p3>p0.2.2.2 then p3 else p0.2.2.2)).bind fun o2=>some ((o2.1,o2.2.1),o2.2.2.1,o2.2.2.2.1,o2.2.2.2.2)) else(if(x1.1==3)=true then((catB x1.2.2.2.1 (⟨#[40]⟩:ByteArray)).bind fun s4=>(qCn 1 p0.1.2 s4.data.toList).bind fun l7=>(qAs (qGn N R8 p3 x1) N (0,true,l7,p0.2.1,p0.2.2.1,if p3>p0.2.2.2 then p3 else p0.2.2.2)).bind fun o3=>(qCn 1 o3.2.1 ([(41:UInt8)])).bind fun l9=>some ((true,l9),o3.2.2.1,o3.2.2.2.1,o3.2.2.2.2)) else(if(x1.1==6)=true then((catB (⟨#[114,101,97,100,40,34]⟩:ByteArray) x1.2.2.2.1).bind fun s6=>(catB s6 (⟨#[34,44,32]⟩:ByteArray)).bind fun s7=>(qCn 1 p0.1.2 s7.data.toList).bind fun l10=>(idx x1.2.2.2.2 0).bind fun x8=>(R8 ((true,l10),p0.2.1,p0.2.2.1,if p3>p0.2.2.2 then p3 else p0.2.2.2) x8 0 (IntKind.wrap .i64 (p3+1))).bind fun y10=>(qCn 1 y10.1.2 ([(41:UInt8)])).bind fun l11=>some ((true,l11),y10.2.1,y10.2.2.1,y10.2.2.2)) else(if(x1.1==10)=true then((strconv_Itoa N x1.2.1).bind fun y11=>(catB (⟨#[102,108,105,112,40]⟩:ByteArray) y11).bind fun s8=>(catB s8 (⟨#[41]⟩:ByteArray)).bind fun s9=>(qCn 1 p0.1.2 s9.data.toList).bind fun l12=>some ((true,l12),p0.2.1,p0.2.2.1,if p3>p0.2.2.2 then p3 else p0.2.2.2)) else((qNa (some []:Option T1d) 7 (⟨#[115,105,122,101]⟩:ByteArray)).bind fun mp1=>(qNa mp1 8 (⟨#[104,97,115]⟩:ByteArray)).bind fun mp2=>(qNa mp2 9 (⟨#[101,110,118]⟩:ByteArray)).bind fun mp3=>(catB ((qPg mp3 x1.1).getD (⟨#[]⟩:ByteArray)) (⟨#[40,34]⟩:ByteArray)).bind fun s10=>(catB s10 x1.2.2.2.1).bind fun s11=>(catB s11 (⟨#[34,41]⟩:ByteArray)).bind fun s12=>(qCn 1 p0.1.2 s12.data.toList).bind fun l13=>some ((true,l13),p0.2.1,p0.2.2.1,if p3>p0.2.2.2 then p3 else p0.2.2.2)))))))))
def qEj(N:Nat):Nat→(T1i→(Int)→(Int)→(Int)→T1j)
 |0=>(fun _ _ _ _=>none)
 |D+1=>qFo N (qEj N D)
def qMt(N:Nat)(p0:T1i)(p1:Int)(p2:Int)(p3:Int):T1j:=(qEj N N) p0 p1 p2 p3
abbrev qTi(F:T1i→(Int)→(Int)→(Int)→T1j):Prop:=∀{m:Mem} {O:List Piece} {w:World} {p0:T1i} {p1:Int} {p2:Int} {p3:Int} {bp0:Nat} {a1:Option Addr} {c1:Nat} {a2:Option Addr} {c2:Nat} {a3:Option Addr} {c3:Nat} {r:T1i} (g:St m (kB bp0 #[.pointer (qEc p0.1.1 bp0),vS a1 p0.1.2 c1,vS a2 p0.2.1 c2,vS a3 p0.2.2.1 c3,vI p0.2.2.2] 115::kR a1 p0.1.2 c1 5 1::O) w) (r1:RepS cU8 m a1 c1 p0.1.2) (r2:RepS C3 m a2 c2 p0.2.1) (r3:RepS cStr m a3 c3 p0.2.2.1) (i:F p0 p1 p2 p3=some r),Calls Tryz.prog 80 #[vP bp0 0,vI p1,vI p2,vI p3] w fun e w'=>∃ra1 rc1 ra2 rc2 ra3 rc3 m',e= .returned (.tuple #[])∧m.le m'∧St m' (kB bp0 #[.pointer (qEc r.1.1 bp0),vS ra1 r.1.2 rc1,vS ra2 r.2.1 rc2,vS ra3 r.2.2.1 rc3,vI r.2.2.2] 115::kR ra1 r.1.2 rc1 5 1::O) w'∧P6 m' ra1 rc1 ra2 rc2 ra3 rc3 r
theorem qRz{R8:T1i→(Int)→(Int)→(Int)→T1j}(ih_source_writer_expr:qTi R8){p0:T1i}{p1:Int}{p2:Int}{p3:Int}{r:T1i}(g:St m (kB bp0 #[.pointer (qEc p0.1.1 bp0),vS a1 p0.1.2 c1,vS a2 p0.2.1 c2,vS a3 p0.2.2.1 c3,vI p0.2.2.2] 115::kR a1 p0.1.2 c1 5 1::O) w)(r1:RepS cU8 m a1 c1 p0.1.2)(r2:RepS C3 m a2 c2 p0.2.1)(r3:RepS cStr m a3 c3 p0.2.2.1)(i:qFo N R8 p0 p1 p2 p3=some r):Calls Tryz.prog 80 #[vP bp0 0,vI p1,vI p2,vI p3] w fun e w'=>∃ra1 rc1 ra2 rc2 ra3 rc3 m',e= .returned (.tuple #[])∧m.le m'∧St m' (kB bp0 #[.pointer (qEc r.1.1 bp0),vS ra1 r.1.2 rc1,vS ra2 r.2.1 rc2,vS ra3 r.2.2.1 rc3,vI r.2.2.2] 115::kR ra1 r.1.2 rc1 5 1::O) w'∧P6 m' ra1 rc1 ra2 rc2 ra3 rc3 r:=by
 unfold qFo at i;have q:=m.le_refl;refine W_cA Tryz.func80 rfl Tryz.ntmps80 ?_;refine W_sr (qCx 3 19 46 18 2 (vS a2 p0.2.1 c2) g.h (qAa 1 [(20,vI p1)] (qAb rfl (qCy 21 46 73 19 20 r2 i ?_))));rintro x1 i b1 f1 cs1 ⟨_,_,rfl,rfl,⟨_,_,rfl,rfl,⟨_,_,rfl,rfl,⟨_,_,rfl,rfl,⟨a4,c4,rfl,r4⟩⟩⟩⟩⟩ hq1;refine qDu 22 73 21 f1 (.agg (V8 x1 a4 c4)) g hq1 (qAb rfl (qJg 8 73 (.agg #[vI 0,vI 0,vI 0,vT eB,v7]) g fun b2 w1 g=>(qAb rfl (qGo 73 8 22 (.agg (V8 x1 a4 c4)) g fun w2 g=>(WO_e (qAr (W_sr (qAb rfl (qBx 23 73 8 0 (.agg (V8 x1 a4 c4)) g.h (qAl 24 i (fun _ h=>qTc (p0:=x1) g r4 h) ?_))))))))));rintro y1 i _ w3 ⟨m1,rfl,e1,g⟩;have q:=q.t e1;have r4:=r4.mono e1;have r1:=r1.mono e1;have r2:=r2.mono e1;have r3:=r3.mono e1;refine qAd 2 [(26,vB (decide (y1<p2)))] (W_if i ?_ ?_)
 ·intro A i;refine W_sr (qAa 3 [(29,vP bp0 0)] (qAb rfl (qDt 30 118 #[vP bp0 0,.int .u8 40] kr rfl (W_cA Tryz.func118 rfl Tryz.ntmps118 (W_sr (qAd 1 [] (W_sr (qAa 1 [(5,vP bp0 0)] ?_))))))));have g:=g.f1;refine qAb rfl (qDt 6 79 #[vP bp0 0] kr rfl ((qBw (c0:=(qEc p0.1.1 bp0)) (R:=[vS a1 p0.1.2 c1,vS a2 p0.2.1 c2,vS a3 p0.2.2.1 c3,vI p0.2.2.2]) (qIr p0.1.1 bp0 kr) g).mono ?_));rintro _ w4 ⟨m2,rfl,e2,g⟩;refine⟨_,rfl,?_⟩;have g:St m2 (kB bp0 #[.pointer (qEc true bp0),vS a1 p0.1.2 c1,vS a2 p0.2.1 c2,vS a3 p0.2.2.1 c3,vI p0.2.2.2] 115::kB b2 (V8 x1 a4 c4) 73::kR a1 p0.1.2 c1 5 1::O) w4:=g;refine WO_e (W_sr (qAa 4 [(7,vP bp0 0),(10,vP bp0 1)] (qAb rfl (qBx 11 58 10 1 (vS a1 p0.1.2 c1) g.h (qAa 1 [(12,.int .u8 40)] (qAb rfl (qBe (d:=13) (t:=58) (e:=5) (len:=1) (parts:= #[(0,(.tmp 12))]) cU8 (xs:=[(40:UInt8)]) [.int .u8 40] kr rfl (fun _=>qBd kr _) rfl rfl g ⟨[.int .u8 40],_,rfl,rfl,rfl⟩ fun b3 m3 w5 e3 g r5=>(qAb rfl (qGu 14 58 58 5 1 11 13 g.f3 (.inl kr) ((r1.mono e2).mono e3) r5.src i fun l1 i a5 c5 m4 w6 e4 g r6=>(qAa 2 [(16,vP bp0 1)] (qAb rfl (qEx 58 16 14 1 (vS a5 l1 c5) #[.pointer (qEc true bp0),vS a5 l1 c5,vS a2 p0.2.1 c2,vS a3 p0.2.2.1 c3,vI p0.2.2.2] g.f2 fun w7 g=>(qBa rfl ?_)))))))))))));have g:=g.f2.t;refine qAg (W_sr (qAd 1 [(4,.nilIface)] (qAz (X_rt [4] [.nilIface] (⟨_,rfl,?_⟩)))))
  refine WO_e (W_sr (qAa 4 [(31,vP bp0 0),(32,vI p1),(34,vI (wr (p3+1)))] (qAl 35 i (fun _ h=>ih_source_writer_expr (p0:=((true,l1),p0.2.1,p0.2.2.1,p0.2.2.2)) g.f1.f1 r6 (((r2.mono e2).mono e3).mono e4) (((r3.mono e2).mono e3).mono e4) h) ?_)));rintro y2 i _ w8 ⟨a6,c6,a7,c7,a8,c8,m5,rfl,e5,g,r7,r8,r9⟩;refine WO_e (W_sr (qAa 3 [(38,vP bp0 0)] (qAb rfl (qDt 39 118 #[vP bp0 0,.int .u8 41] kr rfl (W_cA Tryz.func118 rfl Tryz.ntmps118 (W_sr (qAd 1 [] (W_sr (qAa 1 [(5,vP bp0 0)] (qAb rfl (qDt 6 79 #[vP bp0 0] kr rfl ((qBw (c0:=(qEc y2.1.1 bp0)) (R:=[vS a6 y2.1.2 c6,vS a7 y2.2.1 c7,vS a8 y2.2.2.1 c8,vI y2.2.2.2]) (qIr y2.1.1 bp0 kr) g).mono ?_))))))))))));rintro _ w9 ⟨m6,rfl,e6,g⟩;refine⟨_,rfl,?_⟩;have g:St m6 (kB bp0 #[.pointer (qEc true bp0),vS a6 y2.1.2 c6,vS a7 y2.2.1 c7,vS a8 y2.2.2.1 c8,vI y2.2.2.2] 115::kR a6 y2.1.2 c6 5 1::kB b2 (V8 x1 a4 c4) 73::O) w9:=g
  refine WO_e (W_sr (qAa 4 [(7,vP bp0 0),(10,vP bp0 1)] (qAb rfl (qBx 11 58 10 1 (vS a6 y2.1.2 c6) g.h (qAa 1 [(12,.int .u8 41)] (qAb rfl (qBe (d:=13) (t:=58) (e:=5) (len:=1) (parts:= #[(0,(.tmp 12))]) cU8 (xs:=[(41:UInt8)]) [.int .u8 41] kr rfl (fun _=>qBd kr _) rfl rfl g ⟨[.int .u8 41],_,rfl,rfl,rfl⟩ fun b4 m7 w10 e7 g r10=>(qAb rfl (qGu 14 58 58 5 1 11 13 g.f2 (.inl kr) ((r7.mono e6).mono e7) r10.src i fun l2 i a9 c9 m8 w11 e8 g r11=>(qAa 2 [(16,vP bp0 1)] (qAb rfl (qEx 58 16 14 1 (vS a9 l2 c9) #[.pointer (qEc true bp0),vS a9 l2 c9,vS a7 y2.2.1 c7,vS a8 y2.2.2.1 c8,vI y2.2.2.2] g.f2 fun w12 g=>(qBa rfl ?_)))))))))))));have g:=g.f2.t;refine qAg (W_sr (qAd 1 [(4,.nilIface)] (qAz (X_rt [4] [.nilIface] (⟨_,rfl,?_⟩)))));refine WO_e (qAz (qAc ?_));cases i;exact qRy [] [] rfl ResAll.nil ⟨a9,c9,a7,c7,a8,c8,m8,rfl,((((((q.t e2).t e3).t e4).t e5).t e6).t e7).t e8,g.f2.t.f1.f1,r11,((r8.mono e6).mono e7).mono e8,((r9.mono e6).mono e7).mono e8⟩
 ·intro A i;refine qAp (qAg (W_sr (qAa 4 [(40,vP bp0 0),(43,vP bp0 4)] (qAb rfl (qBx 44 3 43 4 (vI p0.2.2.2) g.t.h (qAa 4 [(46,vI (if p3>p0.2.2.2 then p3 else p0.2.2.2)),(48,vP bp0 4)] (qAb rfl (qEx 3 48 46 4 (vI (if p3>p0.2.2.2 then p3 else p0.2.2.2)) #[.pointer (qEc p0.1.1 bp0),vS a1 p0.1.2 c1,vS a2 p0.2.1 c2,vS a3 p0.2.2.1 c3,vI (if p3>p0.2.2.2 then p3 else p0.2.2.2)] g.f1 fun w13 g=>(WO_e (W_sr (qCx 1 50 3 49 0 (vI x1.1) g.t.h (WO_e (qAt (W_sr (qAd 2 [(66,vB (x1.1==1))] (W_if i ?_ ?_))))))))))))))))
  ·intro A i;refine qGk [(7,fun w'=>Inv m1 w'∧Piece.holds m1 w' (kB b2 (V8 x1 a4 c4) 73)∧True)] kr g fun w14 _ g=> ?_;have hmS1:=m1.le_refl;refine⟨⟨.inr ⟨Inv.anti g.inv hmS1,Piece.holds_anti g.t.h hmS1,trivial⟩,trivial⟩,?_⟩;refine qBn 0 68 (vP bp0 0) (.head _) (qBn 1 69 (vP bp0 0) (.head _) (qBn 2 70 (vP bp0 0) (.head _) (qBn 3 71 (vP b2 1) (.head _) (qIs 3 71 4 72 1 (vI x1.2.1) (.head _) (fun _ h=>h.2.1) (qDi 5 kr (qIb 73 i (fun _ h=>qSr g h) ?_))))));rintro y3 i _ w15 ⟨m9,rfl,e9,g⟩;refine⟨_,rfl,?_⟩;have hmS1:=Mem.le_trans hmS1 e9;refine⟨⟨.inr ⟨Inv.anti g.inv hmS1,Piece.holds_anti g.t.h hmS1,trivial⟩,trivial⟩,?_⟩;refine qDi 6 kr (qDt 74 32 #[vP bp0 0,vT y3] kr rfl (W_cA Tryz.func32 rfl Tryz.ntmps32 (W_sr (qAd 2 [] (W_sr (qAa 1 [(6,vP bp0 0)] (qAb rfl (qDt 7 79 #[vP bp0 0] kr rfl ((qBw (c0:=(qEc p0.1.1 bp0)) (R:=[vS a1 p0.1.2 c1,vS a2 p0.2.1 c2,vS a3 p0.2.2.1 c3,vI (if p3>p0.2.2.2 then p3 else p0.2.2.2)]) (qIr p0.1.1 bp0 kr) g).mono ?_)))))))));rintro _ w16 ⟨m10,rfl,e10,g⟩;refine⟨_,rfl,?_⟩;have hmS1:=Mem.le_trans hmS1 e10;have g:St m10 (kB bp0 #[.pointer (qEc true bp0),vS a1 p0.1.2 c1,vS a2 p0.2.1 c2,vS a3 p0.2.2.1 c3,vI (if p3>p0.2.2.2 then p3 else p0.2.2.2)] 115::kB b2 (V8 x1 a4 c4) 73::kR a1 p0.1.2 c1 5 1::O) w16:=g
   refine WO_e (W_sr (qAa 4 [(8,vP bp0 0),(11,vP bp0 1)] (qAb rfl (qBx 12 58 11 1 (vS a1 p0.1.2 c1) g.h (qAa 1 [(13,vT y3)] (qAb rfl (qGu 14 58 9 5 1 12 13 g.f2 (.inr kr) ((r1.mono e9).mono e10) (Gives.str _) i fun l3 i a10 c10 m11 w17 e11 g r12=> ?_)))))));have hmS1:=Mem.le_trans hmS1 e11;refine qAa 2 [(16,vP bp0 1)] (qAb rfl (qEx 58 16 14 1 (vS a10 l3 c10) #[.pointer (qEc true bp0),vS a10 l3 c10,vS a2 p0.2.1 c2,vS a3 p0.2.2.1 c3,vI (if p3>p0.2.2.2 then p3 else p0.2.2.2)] g.f1 fun w18 g=>(WO_e (W_sr (qAd 4 [(4,vI (y3.size:Int)),(5,.nilIface)] (qAz (X_rt [4,5] [vI (y3.size:Int),.nilIface] (⟨_,rfl,?_⟩))))))));refine⟨⟨.inr ⟨Inv.anti g.inv hmS1,Piece.holds_anti g.t.t.h hmS1,trivial⟩,trivial⟩,?_⟩;refine qDm kr ?_;refine qBj ?_;cases i;exact qQd [] [] rfl ResAll.nil ⟨a10,c10,a2,c2,a3,c3,m11,rfl,((q.t e9).t e10).t e11,g.f2.t.f1.f1,r12,((r2.mono e9).mono e10).mono e11,((r3.mono e9).mono e10).mono e11⟩
  ·intro A i;refine W_sr (qAd 2 [(75,vB (x1.1==2))] (W_if i ?_ ?_))
   ·intro A i;refine qGk [(12,fun w'=>Inv m1 w'∧Piece.holds m1 w' (kB b2 (V8 x1 a4 c4) 73)∧True),(11,fun w'=>Inv m1 w'∧Piece.holds m1 w' (kB bp0 #[.pointer (qEc p0.1.1 bp0),vS a1 p0.1.2 c1,vS a2 p0.2.1 c2,vS a3 p0.2.2.1 c3,vI (if p3>p0.2.2.2 then p3 else p0.2.2.2)] 115)∧True)] kr g fun w19 _ g=> ?_;have hmS2:=m1.le_refl;refine⟨⟨.inr ⟨Inv.anti g.inv hmS2,Piece.holds_anti g.t.h hmS2,trivial⟩,⟨.inr ⟨Inv.anti g.inv hmS2,Piece.holds_anti g.h hmS2,trivial⟩,trivial⟩⟩,?_⟩;refine qBn 0 77 (vP bp0 0) (.head _) (qBn 1 78 (vP bp0 0) (.head _) (qBn 2 79 (vP bp0 0) (.head _) (qBn 3 80 (vP bp0 0) (.head _) (qBn 4 81 (vP bp0 0) (.head _) (qBn 5 82 (vP bp0 3) (.head _) (qBn 7 84 (vP b2 1) (.head _) (qIs 3 84 8 85 1 (vI x1.2.1) (.head _) (fun _ h=>h.2.1) (qDi 6 kr (qBx 83 22 82 3 (vS a3 p0.2.2.1 c3) g.h (⟨⟨.inr ⟨Inv.anti g.inv hmS2,Piece.holds_anti g.t.h hmS2,trivial⟩,⟨.inr ⟨Inv.anti g.inv hmS2,Piece.holds_anti g.h hmS2,trivial⟩,trivial⟩⟩,?_⟩))))))))));have⟨x2,d8,i⟩:=qAv i;refine qHy (t:=22) (e:=9) (x:=(.tmp 83)) (y:=(.tmp 85)) 9 86 cStr kr rfl kr (.head _) (qBq qFg) (ev (vS a3 p0.2.2.1 c3)) (ev (vI x1.2.1)) kr r3 d8 ?_;rintro b5 f2 cs2 rfl hq2
    refine qLw 9 86 10 87 f2 (vT x2) (.head _) (fun _ h=>h.1) hq2 (qDi 11 kr (qDt 88 32 #[vP bp0 0,vT x2] kr rfl (W_cA Tryz.func32 rfl Tryz.ntmps32 (W_sr (qAd 2 [] (W_sr (qAa 1 [(6,vP bp0 0)] (qAb rfl (qDt 7 79 #[vP bp0 0] kr rfl ((qBw (c0:=(qEc p0.1.1 bp0)) (R:=[vS a1 p0.1.2 c1,vS a2 p0.2.1 c2,vS a3 p0.2.2.1 c3,vI (if p3>p0.2.2.2 then p3 else p0.2.2.2)]) (qIr p0.1.1 bp0 kr) g).mono ?_))))))))));rintro _ w20 ⟨m12,rfl,e12,g⟩;refine⟨_,rfl,?_⟩;have hmS2:=Mem.le_trans hmS2 e12;have g:St m12 (kB bp0 #[.pointer (qEc true bp0),vS a1 p0.1.2 c1,vS a2 p0.2.1 c2,vS a3 p0.2.2.1 c3,vI (if p3>p0.2.2.2 then p3 else p0.2.2.2)] 115::kB b2 (V8 x1 a4 c4) 73::kR a1 p0.1.2 c1 5 1::O) w20:=g;refine WO_e (W_sr (qAa 4 [(8,vP bp0 0),(11,vP bp0 1)] (qAb rfl (qBx 12 58 11 1 (vS a1 p0.1.2 c1) g.h (qAa 1 [(13,vT x2)] (qAb rfl (qGu 14 58 9 5 1 12 13 g.f2 (.inr kr) (r1.mono e12) (Gives.str _) i fun l4 i a11 c11 m13 w21 e13 g r13=> ?_)))))));have hmS2:=Mem.le_trans hmS2 e13;refine qAa 2 [(16,vP bp0 1)] (qAb rfl (qEx 58 16 14 1 (vS a11 l4 c11) #[.pointer (qEc true bp0),vS a11 l4 c11,vS a2 p0.2.1 c2,vS a3 p0.2.2.1 c3,vI (if p3>p0.2.2.2 then p3 else p0.2.2.2)] g.f1 fun w22 g=>(WO_e (W_sr (qAd 4 [(4,vI (x2.size:Int)),(5,.nilIface)] (qAz (X_rt [4,5] [vI (x2.size:Int),.nilIface] (⟨_,rfl,?_⟩))))))))
    refine⟨⟨.inr ⟨Inv.anti g.inv hmS2,Piece.holds_anti g.t.t.h hmS2,trivial⟩,⟨.inl rfl,trivial⟩⟩,?_⟩;refine qDm kr ?_;refine qBj ?_;cases i;exact qQd [] [] rfl ResAll.nil ⟨a11,c11,a2,c2,a3,c3,m13,rfl,(q.t e12).t e13,g.f2.t.f1.f1,r13,(r2.mono e12).mono e13,(r3.mono e12).mono e13⟩
   ·intro A i;refine W_sr (qAd 2 [(89,vB (x1.1==4))] (W_if i ?_ ?_))
    ·intro A i;refine W_sr (qAb rfl (qBx 91 73 8 0 (.agg (V8 x1 a4 c4)) g.t.h (qAl 92 i (fun _ h=>qTc (p0:=x1) g r4 h) ?_)));rintro y4 i _ w23 ⟨m14,rfl,e14,g⟩;have r4:=r4.mono e14;have r1:=r1.mono e14;have r2:=r2.mono e14;have r3:=r3.mono e14;refine qAd 1 [(9,vI y4)] (W_sr (qAd 2 [(10,vI y4)] (qAr (W_sr (qAd 2 [(95,vB (y4==1))] ?_)))));have⟨o1,i,j1⟩:=qAv i;refine qCl .normal (fun L' w'=>∃m15,L'=[(0,vP bp0 0),(3,vI p3),(8,vP b2 0),(9,vI y4),(10,vI o1)]∧m.le m15∧St m15 (kB bp0 #[.pointer (qEc p0.1.1 bp0),vS a1 p0.1.2 c1,vS a2 p0.2.1 c2,vS a3 p0.2.2.1 c3,vI (if p3>p0.2.2.2 then p3 else p0.2.2.2)] 115::kB b2 (V8 x1 a4 c4) 73::kR a1 p0.1.2 c1 5 1::O) w'∧RepS cU8 m15 a1 c1 p0.1.2∧RepS C3 m15 a2 c2 p0.2.1∧RepS cStr m15 a3 c3 p0.2.2.1∧RepS (cInt .i64) m15 a4 c4 x1.2.2.2.2) ?_ ?_
     ·have i:=j1;rintro _ w24 ⟨m15,rfl,q,g,r1,r2,r3,r4⟩;refine qAg (W_sr (qAa 2 [(98,vP bp0 0),(99,vP b2 4)] (qAb rfl (qBx 100 32 99 4 (vS a4 x1.2.2.2.2 c4) g.t.h (qAb rfl (qCy 101 32 3 100 ((.const (vI 0))) r4 i ?_))))));rintro x3 i b6 f3 cs3 rfl hq3;refine qDu 102 3 101 f3 (vI x3) g hq3 (qAa 2 [(103,vI o1),(104,vI p3)] (qAl 105 i (fun _ h=>ih_source_writer_expr (p0:=(p0.1,p0.2.1,p0.2.2.1,if p3>p0.2.2.2 then p3 else p0.2.2.2)) g.f2.f1 r1 r2 r3 h) ?_));rintro y5 i _ w25 ⟨a12,c12,a13,c13,a14,c14,m16,rfl,e15,g,r14,r15,r16⟩;refine WO_e (qAr (qGk [(10,fun w'=>Inv m16 w'∧Piece.holds m16 w' (kB b2 (V8 x1 a4 c4) 73)∧True)] kr g fun w26 _ g=> ?_));have hmS3:=m16.le_refl;refine⟨⟨.inr ⟨Inv.anti g.inv hmS3,Piece.holds_anti g.t.t.h hmS3,trivial⟩,trivial⟩,?_⟩;refine qBn 0 106 (vP bp0 0) (.head _) (qBn 1 107 (vP bp0 0) (.head _) (qBn 2 108 (vP bp0 0) (.head _) (qBn 4 110 (vP b2 2) (.head _) (qIs 3 110 5 111 2 (vI x1.2.2.1) (.head _) (fun _ h=>h.2.1) (qDi 3 kr (qIb 109 i (fun _ h=>qZe g h) ?_))))));rintro y6 i _ w27 ⟨q1,es1,ck1,m17,rfl,e16,g,r17⟩;refine⟨_,rfl,?_⟩;have hmS3:=Mem.le_trans hmS3 e16;refine⟨⟨.inr ⟨Inv.anti g.inv hmS3,Piece.holds_anti g.t.t.t.h hmS3,trivial⟩,trivial⟩,?_⟩
      refine qDi 6 kr (qTx (ek:=(fun n:Int=>Value.int .i64 n)) (c:=cStr) (agg:=false) (k:=x1.2.2.1) (zx:=eB) (zcs:=[vT eB]) (z:=(vT eB)) (kt:=3) (et:=9) (d:=112) (t:=146) (x:=(.tmp 109)) (y:=(.tmp 111)) (ok:=false) kr rfl (ev (.map q1)) (ev (vI x1.2.2.1)) kr (qLp kr) g.h r17 rfl rfl ?_);rintro cs4 rfl;refine⟨⟨.inr ⟨Inv.anti g.inv hmS3,Piece.holds_anti g.t.t.t.h hmS3,trivial⟩,trivial⟩,?_⟩;refine qHe 9 9 ((.const (vT (⟨#[32]⟩:ByteArray)))) 112 7 113 (.head _) i fun s1 i=> ?_;refine qHe 9 9 113 ((.const (vT (⟨#[32]⟩:ByteArray)))) 8 114 (.head _) i fun s2 i=> ?_;refine qDi 9 kr (qDt 115 32 #[vP bp0 0,vT s2] kr rfl (W_cA Tryz.func32 rfl Tryz.ntmps32 (W_sr (qAd 2 [] (W_sr (qAa 1 [(6,vP bp0 0)] ?_))))));have g:=g.f1;refine qAb rfl (qDt 7 79 #[vP bp0 0] kr rfl ((qBw (c0:=(qEc y5.1.1 bp0)) (R:=[vS a12 y5.1.2 c12,vS a13 y5.2.1 c13,vS a14 y5.2.2.1 c14,vI y5.2.2.2]) (qIr y5.1.1 bp0 kr) g).mono ?_));rintro _ w28 ⟨m18,rfl,e17,g⟩;refine⟨_,rfl,?_⟩;have hmS3:=Mem.le_trans hmS3 e17;have g:St m18 (kB bp0 #[.pointer (qEc true bp0),vS a12 y5.1.2 c12,vS a13 y5.2.1 c13,vS a14 y5.2.2.1 c14,vI y5.2.2.2] 115::qHw q1 es1 ck1::kR a12 y5.1.2 c12 5 1::kB b2 (V8 x1 a4 c4) 73::O) w28:=g
      refine WO_e (W_sr (qAa 4 [(8,vP bp0 0),(11,vP bp0 1)] (qAb rfl (qBx 12 58 11 1 (vS a12 y5.1.2 c12) g.h (qAa 1 [(13,vT s2)] (qAb rfl (qGu 14 58 9 5 1 12 13 g.f2 (.inr kr) ((r14.mono e16).mono e17) (Gives.str _) i fun l5 i a15 c15 m19 w29 e18 g r18=> ?_)))))));have hmS3:=Mem.le_trans hmS3 e18;refine qAa 2 [(16,vP bp0 1)] (qAb rfl (qEx 58 16 14 1 (vS a15 l5 c15) #[.pointer (qEc true bp0),vS a15 l5 c15,vS a13 y5.2.1 c13,vS a14 y5.2.2.1 c14,vI y5.2.2.2] g.f1 fun w30 g=>(WO_e (W_sr (qAd 4 [(4,vI (s2.size:Int)),(5,.nilIface)] (qAz (X_rt [4,5] [vI (s2.size:Int),.nilIface] (⟨_,rfl,?_⟩))))))));refine⟨⟨.inr ⟨Inv.anti g.inv hmS3,Piece.holds_anti g.t.t.t.h hmS3,trivial⟩,trivial⟩,?_⟩;refine qDm kr ?_;refine qAg (qAo (qAa 2 [(116,vP bp0 0),(117,vP b2 4)] (qAb rfl (qBx 118 32 117 4 (vS a4 x1.2.2.2.2 c4) g.t.t.t.h (qAb rfl (qCy 119 32 3 118 ((.const (vI 1))) ((((r4.mono e15).mono e16).mono e17).mono e18) i ?_))))));rintro x4 i b7 f4 cs5 rfl hq4;refine qDu 120 3 119 f4 (vI x4) g hq4 (qAa 3 [(122,vI (wr (y4+1))),(123,vI p3)] (qAl 124 i (fun _ h=>ih_source_writer_expr (p0:=((true,l5),y5.2.1,y5.2.2.1,y5.2.2.2)) g.f1.f1 r18 (((r15.mono e16).mono e17).mono e18) (((r16.mono e16).mono e17).mono e18) h) ?_));rintro y7 i _ w31 ⟨a16,c16,a17,c17,a18,c18,m20,rfl,e19,g,r19,r20,r21⟩;refine qBa rfl (qBj ?_);cases i
      exact qQd [] [] rfl ResAll.nil ⟨a16,c16,a17,c17,a18,c18,m20,rfl,((((q.t e15).t e16).t e17).t e18).t e19,g.f2.t.f2.t.f1.f1,r19,r20,r21⟩
     ·intro Ku1;refine W_if i ?_ ?_
      ·intro A i;refine qAo (qAa 3 [(10,vI (wr (y4+1)))] (qBa rfl ?_));cases i;exact xE (Ku1 _ _ ⟨m14,rfl,q.t e14,g.f2.f2.f2,r1,r2,r3,r4⟩)
      ·intro A i;refine qAp ?_;cases i;exact xE (Ku1 _ _ ⟨m14,rfl,q.t e14,g.f2.f2.f2,r1,r2,r3,r4⟩)
    ·intro A i;refine W_sr (qAd 2 [(125,vB (x1.1==5))] (W_if i ?_ ?_))
     ·intro A i;refine W_sr (qAb rfl (qBe (d:=127) (t:=22) (e:=9) (len:=3) (parts:= #[(0,(.const (vT bw))),(1,(.const (vT bx))),(2,(.const (vT b24)))]) cStr (xs:=[bw,bx,b24]) [vT bw,vT bx,vT b24] kr rfl (fun _=>qBd kr _) rfl rfl g ⟨[vT bw],_,rfl,rfl,⟨[vT bx],_,rfl,rfl,⟨[vT b24],_,rfl,rfl,rfl⟩⟩⟩ fun b8 m21 w32 e20 g r22=>(qAd 2 [(128,vI (List.length ([bw,bx,b24]):Int)),(129,vI 0)] (qAt ?_))));have⟨out1,i,j2⟩:=qAv i;refine qCl (.exit 1) (fun L' w'=>∃(o2:T1k),∃a19 c19 a20 c20 a21 c21 m22,o2=out1∧L'=[]∧m.le m22∧St m22 (kB bp0 #[.pointer (qEc o2.1 bp0),vS a19 o2.2.1 c19,vS a20 o2.2.2.1 c20,vS a21 o2.2.2.2.1 c21,vI o2.2.2.2.2] 115::kB b2 (V8 x1 a4 c4) 73:: .room (aP b8) (List.length ([bw,bx,b24])) 3 9 1::kR a19 o2.2.1 c19 5 1::O) w'∧RepS cU8 m22 a19 c19 o2.2.1∧RepS C3 m22 a20 c20 o2.2.2.1∧RepS cStr m22 a21 c21 o2.2.2.2.1∧RepS (cInt .i64) m22 a4 c4 x1.2.2.2.2) ?_ ?_
      ·rintro _ w33 ⟨o2,a19,c19,a20,c20,a21,c21,m22,rfl,rfl,q,g,r23,r24,r25,r4⟩;have i:=j2;refine qBg (qBj ?_);cases i;exact qQd [] [] rfl ResAll.nil ⟨a19,c19,a20,c20,a21,c21,m22,rfl,q,g.f1.t.f1.t.f1.f1,r23,r24,r25⟩
      intro K1_u2;refine qFh _ kr (qCz (fun k1 L' w'=>∃(s3:T1l),∃a22 c22 a23 c23 a24 c24 m23,qAs (qJu N R8 p3 x1) k1 s3=some out1∧L'=[(0,vP bp0 0),(3,vI p3),(8,vP b2 0),(127,.slice (aP b8) (List.length ([bw,bx,b24])) 3),(128,vI (List.length ([bw,bx,b24]):Int)),(129,vI s3.1)]∧m.le m23∧St m23 (kB bp0 #[.pointer (qEc s3.2.1 bp0),vS a22 s3.2.2.1 c22,vS a23 s3.2.2.2.1 c23,vS a24 s3.2.2.2.2.1 c24,vI s3.2.2.2.2.2] 115::kB b2 (V8 x1 a4 c4) 73:: .room (aP b8) (List.length ([bw,bx,b24])) 3 9 1::kR a22 s3.2.2.1 c22 5 1::O) w'∧RepS cStr m23 (aP b8) 3 ([bw,bx,b24])∧RepS cU8 m23 a22 c22 s3.2.2.1∧RepS C3 m23 a23 c23 s3.2.2.2.1∧RepS cStr m23 a24 c24 s3.2.2.2.2.1∧RepS (cInt .i64) m23 a4 c4 x1.2.2.2.2) N ⟨(0,p0.1.1,p0.1.2,p0.2.1,p0.2.2.1,if p3>p0.2.2.2 then p3 else p0.2.2.2),a1,c1,a2,c2,a3,c3,m21,i,rfl,q.t e20,g.f3.f1.f3.f3,r22,r1.mono e20,r2.mono e20,r3.mono e20,r4.mono e20⟩ ?_);rintro k1 _ w34 ⟨s3,a22,c22,a23,c23,a24,c24,m23,hL,rfl,q,g,r22,r26,r27,r28,r4⟩;rcases k1 with _|k1
      ·exact qBh hL
      ·obtain⟨qu2,i,hSu2,hBu2⟩:=qBf hL;clear hL;unfold qJu at i;refine W_sr (qAd 1 [(130,vB (decide (s3.1<(List.length ([bw,bx,b24]):Int))))] (qAr (W_if i ?_ ?_)))
       ·intro A i;refine qAp (qAg (qAr (qAt (W_sr (qAa 1 [(131,vI s3.1)] (qAb rfl (qCy 132 22 9 127 129 r22 i ?_)))))));rintro x5 i b9 f5 cs6 rfl hq5;refine qDu 133 9 132 f5 (vT x5) g hq5 (qAd 2 [(11,vI s3.1),(12,vT x5)] (W_sr (qAa 4 [(136,vP bp0 0),(137,vT x5)] (qAb rfl (qDt 138 32 #[vP bp0 0,vT x5] kr rfl (W_cA Tryz.func32 rfl Tryz.ntmps32 (W_sr (qAd 2 [] (W_sr (qAa 1 [(6,vP bp0 0)] (qAb rfl (qDt 7 79 #[vP bp0 0] kr rfl ((qBw (c0:=(qEc s3.2.1 bp0)) (R:=[vS a22 s3.2.2.1 c22,vS a23 s3.2.2.2.1 c23,vS a24 s3.2.2.2.2.1 c24,vI s3.2.2.2.2.2]) (qIr s3.2.1 bp0 kr) g).mono ?_)))))))))))));rintro _ w35 ⟨m24,rfl,e21,g⟩;refine⟨_,rfl,?_⟩;have g:St m24 (kB bp0 #[.pointer (qEc true bp0),vS a22 s3.2.2.1 c22,vS a23 s3.2.2.2.1 c23,vS a24 s3.2.2.2.2.1 c24,vI s3.2.2.2.2.2] 115::kB b2 (V8 x1 a4 c4) 73:: .room (aP b8) (List.length ([bw,bx,b24])) 3 9 1::kR a22 s3.2.2.1 c22 5 1::O) w35:=g;refine WO_e (W_sr (qAa 4 [(8,vP bp0 0),(11,vP bp0 1)] (qAb rfl (qBx 12 58 11 1 (vS a22 s3.2.2.1 c22) g.h (qAa 1 [(13,vT x5)] (qAb rfl (qGu 14 58 9 5 1 12 13 g.f3 (.inr kr) (r26.mono e21) (Gives.str _) i fun l6 i a25 c25 m25 w36 e22 g r29=> ?_)))))));have r4:=(r4.mono e21).mono e22
        refine qAa 2 [(16,vP bp0 1)] (qAb rfl (qEx 58 16 14 1 (vS a25 l6 c25) #[.pointer (qEc true bp0),vS a25 l6 c25,vS a23 s3.2.2.2.1 c23,vS a24 s3.2.2.2.2.1 c24,vI s3.2.2.2.2.2] g.f1 fun w37 g=>(WO_e (W_sr (qAd 4 [(4,vI (x5.size:Int)),(5,.nilIface)] (qAz (X_rt [4,5] [vI (x5.size:Int),.nilIface] (⟨_,rfl,?_⟩))))))));refine WO_e (qAo (qAa 2 [(139,vP bp0 0),(140,vP b2 4)] (qAb rfl (qBx 141 32 140 4 (vS a4 x1.2.2.2.2 c4) g.t.t.h (qAa 1 [(142,vI s3.1)] (qAb rfl (qCy 143 32 3 141 142 r4 i ?_)))))));rintro x6 i b10 f6 cs7 rfl hq6;refine qDu 144 3 143 f6 (vI x6) g hq6 (qAa 2 [(146,vI (wr (p3+1)))] (qAl 147 i (fun _ h=>ih_source_writer_expr (p0:=((true,l6),s3.2.2.2.1,s3.2.2.2.2.1,s3.2.2.2.2.2)) g.f1.f1 r29 ((r27.mono e21).mono e22) ((r28.mono e21).mono e22) h) ?_));rintro y8 i _ w38 ⟨a26,c26,a27,c27,a28,c28,m26,rfl,e23,g,r30,r31,r32⟩;refine qBa rfl (qBj (qAg (qAo (qAa 2 [(129,vI (wr (s3.1+1)))] (qBa rfl ?_)))));obtain rfl:=sI i;have hL:=hSu2 _ rfl;exact xE (qCg k1 (jG _) ⟨(wr (s3.1+1),y8.1.1,y8.1.2,y8.2.1,y8.2.2.1,y8.2.2.2),a26,c26,a27,c27,a28,c28,m26,hL,rfl,((q.t e21).t e22).t e23,g.f1.f3.f3.f3,((r22.mono e21).mono e22).mono e23,r30,r31,r32,r4.mono e23⟩)
       ·intro A i;refine qCt (qAf ?_);cases i;have ho:=hBu2 _ rfl;have g:=g.f3.f3.f3.f3;refine qAf ?_;exact xE (K1_u2 _ _ ⟨s3.2,a22,c22,a23,c23,a24,c24,m23,ho,rfl,q,g,r26,r27,r28,r4⟩)
     ·intro A i;refine W_sr (qAd 2 [(149,vB (x1.1==3))] (W_if i ?_ ?_))
      ·intro A i;refine qAr (qGk [(7,fun w'=>Inv m1 w'∧Piece.holds m1 w' (kB b2 (V8 x1 a4 c4) 73)∧True)] kr g fun w39 _ g=> ?_);have hmS4:=m1.le_refl;refine⟨⟨.inr ⟨Inv.anti g.inv hmS4,Piece.holds_anti g.t.h hmS4,trivial⟩,trivial⟩,?_⟩;refine qBn 0 151 (vP bp0 0) (.head _) (qBn 1 152 (vP bp0 0) (.head _) (qBn 2 153 (vP bp0 0) (.head _) (qBn 3 154 (vP b2 3) (.head _) (qIs 9 154 4 155 3 (vT x1.2.2.2.1) (.head _) (fun _ h=>h.2.1) (qHe 9 9 155 ((.const (vT bu))) 5 156 (.head _) i fun s4 i=>(qDi 6 kr (qDt 157 32 #[vP bp0 0,vT s4] kr rfl (W_cA Tryz.func32 rfl Tryz.ntmps32 (W_sr (qAd 2 [] (W_sr (qAa 1 [(6,vP bp0 0)] (qAb rfl (qDt 7 79 #[vP bp0 0] kr rfl ((qBw (c0:=(qEc p0.1.1 bp0)) (R:=[vS a1 p0.1.2 c1,vS a2 p0.2.1 c2,vS a3 p0.2.2.1 c3,vI (if p3>p0.2.2.2 then p3 else p0.2.2.2)]) (qIr p0.1.1 bp0 kr) g).mono ?_)))))))))))))));rintro _ w40 ⟨m27,rfl,e24,g⟩;refine⟨_,rfl,?_⟩;have hmS4:=Mem.le_trans hmS4 e24;have g:St m27 (kB bp0 #[.pointer (qEc true bp0),vS a1 p0.1.2 c1,vS a2 p0.2.1 c2,vS a3 p0.2.2.1 c3,vI (if p3>p0.2.2.2 then p3 else p0.2.2.2)] 115::kB b2 (V8 x1 a4 c4) 73::kR a1 p0.1.2 c1 5 1::O) w40:=g;refine WO_e (W_sr (qAa 4 [(8,vP bp0 0),(11,vP bp0 1)] (qAb rfl (qBx 12 58 11 1 (vS a1 p0.1.2 c1) g.h (qAa 1 [(13,vT s4)] (qAb rfl (qGu 14 58 9 5 1 12 13 g.f2 (.inr kr) (r1.mono e24) (Gives.str _) i fun l7 i a29 c29 m28 w41 e25 g r33=> ?_)))))))
       have hmS4:=Mem.le_trans hmS4 e25;refine qAa 2 [(16,vP bp0 1)] (qAb rfl (qEx 58 16 14 1 (vS a29 l7 c29) #[.pointer (qEc true bp0),vS a29 l7 c29,vS a2 p0.2.1 c2,vS a3 p0.2.2.1 c3,vI (if p3>p0.2.2.2 then p3 else p0.2.2.2)] g.f1 fun w42 g=>(WO_e (W_sr (qAd 4 [(4,vI (s4.size:Int)),(5,.nilIface)] (qAz (X_rt [4,5] [vI (s4.size:Int),.nilIface] (⟨_,rfl,?_⟩))))))));refine⟨⟨.inr ⟨Inv.anti g.inv hmS4,Piece.holds_anti g.t.t.h hmS4,trivial⟩,trivial⟩,?_⟩;refine qDm kr ?_;refine qAg (qAr (W_sr (qCx 1 159 32 158 4 (vS a4 x1.2.2.2.2 c4) g.t.t.h (qAd 2 [(160,vI (x1.2.2.2.2.length:Int)),(161,vI 0)] (qAt ?_)))));have⟨out2,i,j3⟩:=qAv i;refine qCl (.exit 3) (fun L' w'=>∃(o3:T1k),∃a30 c30 a31 c31 a32 c32 m29,o3=out2∧L'=[(0,vP bp0 0)]∧m.le m29∧St m29 (kB bp0 #[.pointer (qEc o3.1 bp0),vS a30 o3.2.1 c30,vS a31 o3.2.2.1 c31,vS a32 o3.2.2.2.1 c32,vI o3.2.2.2.2] 115::kB b2 (V8 x1 a4 c4) 73::kR a30 o3.2.1 c30 5 1::O) w'∧RepS cU8 m29 a30 c30 o3.2.1∧RepS C3 m29 a31 c31 o3.2.2.1∧RepS cStr m29 a32 c32 o3.2.2.2.1∧RepS (cInt .i64) m29 a4 c4 x1.2.2.2.2) ?_ ?_
       ·rintro _ w43 ⟨o3,a30,c30,a31,c31,a32,c32,m29,rfl,rfl,q,g,r34,r35,r36,r4⟩;have i:=j3;refine qBg (qAg (qAo (qAa 3 [(180,vP bp0 0)] (qAb rfl (qDt 181 118 #[vP bp0 0,.int .u8 41] kr rfl (W_cA Tryz.func118 rfl Tryz.ntmps118 (W_sr (qAd 1 [] (W_sr (qAa 1 [(5,vP bp0 0)] (qAb rfl (qDt 6 79 #[vP bp0 0] kr rfl ((qBw (c0:=(qEc o3.1 bp0)) (R:=[vS a30 o3.2.1 c30,vS a31 o3.2.2.1 c31,vS a32 o3.2.2.2.1 c32,vI o3.2.2.2.2]) (qIr o3.1 bp0 kr) g).mono ?_)))))))))))));rintro _ w50 ⟨m35,rfl,e29,g⟩;refine⟨_,rfl,?_⟩;have g:St m35 (kB bp0 #[.pointer (qEc true bp0),vS a30 o3.2.1 c30,vS a31 o3.2.2.1 c31,vS a32 o3.2.2.2.1 c32,vI o3.2.2.2.2] 115::kB b2 (V8 x1 a4 c4) 73::kR a30 o3.2.1 c30 5 1::O) w50:=g
        refine WO_e (W_sr (qAa 4 [(7,vP bp0 0),(10,vP bp0 1)] (qAb rfl (qBx 11 58 10 1 (vS a30 o3.2.1 c30) g.h (qAa 1 [(12,.int .u8 41)] (qAb rfl (qBe (d:=13) (t:=58) (e:=5) (len:=1) (parts:= #[(0,(.tmp 12))]) cU8 (xs:=[(41:UInt8)]) [.int .u8 41] kr rfl (fun _=>qBd kr _) rfl rfl g ⟨[.int .u8 41],_,rfl,rfl,rfl⟩ fun b12 m36 w51 e30 g r45=>(qAb rfl (qGu 14 58 58 5 1 11 13 g.f3 (.inl kr) ((r34.mono e29).mono e30) r45.src i fun l9 i a41 c41 m37 w52 e31 g r46=>(qAa 2 [(16,vP bp0 1)] (qAb rfl (qEx 58 16 14 1 (vS a41 l9 c41) #[.pointer (qEc true bp0),vS a41 l9 c41,vS a31 o3.2.2.1 c31,vS a32 o3.2.2.2.1 c32,vI o3.2.2.2.2] g.f2 fun w53 g=>(qBa rfl ?_)))))))))))));have g:=g.f2.t;refine qAg (W_sr (qAd 1 [(4,.nilIface)] (qAz (X_rt [4] [.nilIface] (⟨_,rfl,?_⟩)))));refine qBa rfl (qBj ?_);cases i;exact qQd [] [] rfl ResAll.nil ⟨a41,c41,a31,c31,a32,c32,m37,rfl,((q.t e29).t e30).t e31,g.f2.t.f1.f1,r46,((r35.mono e29).mono e30).mono e31,((r36.mono e29).mono e30).mono e31⟩
       intro K3_u3;refine qFh _ kr (qCz (fun k2 L' w'=>∃(s5:T1l),∃a33 c33 a34 c34 a35 c35 m30,qAs (qGn N R8 p3 x1) k2 s5=some out2∧L'=[(0,vP bp0 0),(3,vI p3),(159,vS a4 x1.2.2.2.2 c4),(160,vI (x1.2.2.2.2.length:Int)),(161,vI s5.1)]∧m.le m30∧St m30 (kB bp0 #[.pointer (qEc s5.2.1 bp0),vS a33 s5.2.2.1 c33,vS a34 s5.2.2.2.1 c34,vS a35 s5.2.2.2.2.1 c35,vI s5.2.2.2.2.2] 115::kB b2 (V8 x1 a4 c4) 73::kR a33 s5.2.2.1 c33 5 1::O) w'∧RepS (cInt .i64) m30 a4 c4 x1.2.2.2.2∧RepS cU8 m30 a33 c33 s5.2.2.1∧RepS C3 m30 a34 c34 s5.2.2.2.1∧RepS cStr m30 a35 c35 s5.2.2.2.2.1) N ⟨(0,true,l7,p0.2.1,p0.2.2.1,if p3>p0.2.2.2 then p3 else p0.2.2.2),a29,c29,a2,c2,a3,c3,m28,i,rfl,(q.t e24).t e25,g.f1.f2.f2,(r4.mono e24).mono e25,r33,(r2.mono e24).mono e25,(r3.mono e24).mono e25⟩ ?_);rintro k2 _ w44 ⟨s5,a33,c33,a34,c34,a35,c35,m30,hL,rfl,q,g,r4,r37,r38,r39⟩;rcases k2 with _|k2
       ·exact qBh hL
       ·obtain⟨qu3,i,hSu3,hBu3⟩:=qBf hL;clear hL;unfold qGn at i;refine W_sr (qAd 1 [(162,vB (decide (s5.1<(x1.2.2.2.2.length:Int))))] (qAr (W_if i ?_ ?_)))
        ·intro A i;refine qAp (qAg (qAr (qAt (W_sr (qAa 1 [(163,vI s5.1)] (qAb rfl (qCy 164 32 3 159 161 r4 i ?_)))))));rintro x7 i b11 f7 cs8 rfl hq7;refine qDu 165 3 164 f7 (vI x7) g hq7 (qAd 2 [(13,vI s5.1),(14,vI x7)] (qAr (W_sr (qAd 2 [(167,vB (decide (s5.1>0)))] ?_))));have⟨o4,i,j4⟩:=qAv i;refine qCl .normal (fun L' w'=>∃a36 c36 m31,L'=[(0,vP bp0 0),(3,vI p3),(14,vI x7),(159,vS a4 x1.2.2.2.2 c4),(160,vI (x1.2.2.2.2.length:Int)),(161,vI s5.1)]∧m.le m31∧St m31 (kB bp0 #[.pointer (qEc o4.1 bp0),vS a36 o4.2 c36,vS a34 s5.2.2.2.1 c34,vS a35 s5.2.2.2.2.1 c35,vI s5.2.2.2.2.2] 115::kB b2 (V8 x1 a4 c4) 73::kR a36 o4.2 c36 5 1::O) w'∧RepS (cInt .i64) m31 a4 c4 x1.2.2.2.2∧RepS cU8 m31 a36 c36 o4.2∧RepS C3 m31 a34 c34 s5.2.2.2.1∧RepS cStr m31 a35 c35 s5.2.2.2.2.1) ?_ ?_
         ·have i:=j4;rintro _ w45 ⟨a36,c36,m31,rfl,q,g,r4,r40,r38,r39⟩;refine qAg (qAo (qAa 4 [(172,vP bp0 0),(173,vI x7),(175,vI (wr (p3+1)))] (qAl 176 i (fun _ h=>ih_source_writer_expr (p0:=(o4,s5.2.2.2.1,s5.2.2.2.2.1,s5.2.2.2.2.2)) g.f2.f1 r40 r38 r39 h) ?_)));rintro y9 i _ w49 ⟨a38,c38,a39,c39,a40,c40,m34,rfl,e28,g,r42,r43,r44⟩;refine qBa rfl (qBj (qAg (qAo (qAa 2 [(161,vI (wr (s5.1+1)))] (qBa rfl ?_)))));obtain rfl:=sI i;have hL:=hSu3 _ rfl;exact xE (qCg k2 (jG _) ⟨(wr (s5.1+1),y9.1.1,y9.1.2,y9.2.1,y9.2.2.1,y9.2.2.2),a38,c38,a39,c39,a40,c40,m34,hL,rfl,q.t e28,g.f1.f2.f2,r4.mono e28,r42,r43,r44⟩)
         ·intro Ku4;refine W_if i ?_ ?_
          ·intro A i;refine qAo (qAa 3 [(170,vP bp0 0)] (qAb rfl (qDt 171 32 #[vP bp0 0,vT bv] kr rfl (W_cA Tryz.func32 rfl Tryz.ntmps32 (W_sr (qAd 2 [] (W_sr (qAa 1 [(6,vP bp0 0)] (qAb rfl (qDt 7 79 #[vP bp0 0] kr rfl ((qBw (c0:=(qEc s5.2.1 bp0)) (R:=[vS a33 s5.2.2.1 c33,vS a34 s5.2.2.2.1 c34,vS a35 s5.2.2.2.2.1 c35,vI s5.2.2.2.2.2]) (qIr s5.2.1 bp0 kr) g).mono ?_)))))))))));rintro _ w46 ⟨m32,rfl,e26,g⟩;refine⟨_,rfl,?_⟩;have g:St m32 (kB bp0 #[.pointer (qEc true bp0),vS a33 s5.2.2.1 c33,vS a34 s5.2.2.2.1 c34,vS a35 s5.2.2.2.2.1 c35,vI s5.2.2.2.2.2] 115::kB b2 (V8 x1 a4 c4) 73::kR a33 s5.2.2.1 c33 5 1::O) w46:=g;refine WO_e (W_sr (qAa 4 [(8,vP bp0 0),(11,vP bp0 1)] (qAb rfl (qBx 12 58 11 1 (vS a33 s5.2.2.1 c33) g.h (qAa 1 [(13,vT bv)] (qAb rfl (qGu 14 58 9 5 1 12 13 g.f2 (.inr kr) (r37.mono e26) (Gives.str _) i fun l8 i a37 c37 m33 w47 e27 g r41=>(qAa 2 [(16,vP bp0 1)] (qAb rfl (qEx 58 16 14 1 (vS a37 l8 c37) #[.pointer (qEc true bp0),vS a37 l8 c37,vS a34 s5.2.2.2.1 c34,vS a35 s5.2.2.2.2.1 c35,vI s5.2.2.2.2.2] g.f1 fun w48 g=>(WO_e (W_sr (qAd 4 [(4,vI (bv.size:Int)),(5,.nilIface)] (qAz (X_rt [4,5] [vI (bv.size:Int),.nilIface] (⟨_,rfl,?_⟩))))))))))))))));refine qBa rfl ?_;cases i;exact xE (Ku4 _ _ ⟨a37,c37,m33,rfl,(q.t e26).t e27,g.f1.f2.f2,(r4.mono e26).mono e27,r41,(r38.mono e26).mono e27,(r39.mono e26).mono e27⟩)
          ·intro A i;refine qAp ?_;cases i;exact xE (Ku4 _ _ ⟨a33,c33,m30,rfl,q,g.f2.f2.f2,r4,r37,r38,r39⟩)
        ·intro A i;refine qCt (qAf ?_);cases i;have ho:=hBu3 _ rfl;have g:=g.f2.f2.f2;refine qAf ?_;exact xE (K3_u3 _ _ ⟨s5.2,a33,c33,a34,c34,a35,c35,m30,ho,rfl,q,g,r37,r38,r39,r4⟩)
      ·intro A i;refine W_sr (qAd 2 [(182,vB (x1.1==6))] (W_if i ?_ ?_))
       ·intro A i;refine qAr (qGk [(8,fun w'=>Inv m1 w'∧Piece.holds m1 w' (kB b2 (V8 x1 a4 c4) 73)∧True)] kr g fun w54 _ g=> ?_);have hmS5:=m1.le_refl;refine⟨⟨.inr ⟨Inv.anti g.inv hmS5,Piece.holds_anti g.t.h hmS5,trivial⟩,trivial⟩,?_⟩;refine qBn 0 184 (vP bp0 0) (.head _) (qBn 1 185 (vP bp0 0) (.head _) (qBn 2 186 (vP bp0 0) (.head _) (qBn 3 187 (vP b2 3) (.head _) (qIs 9 187 4 188 3 (vT x1.2.2.2.1) (.head _) (fun _ h=>h.2.1) (qHe 9 9 ((.const (vT (⟨#[114,101,97,100,40,34]⟩:ByteArray)))) 188 5 189 (.head _) i fun s6 i=>(qHe 9 9 189 ((.const (vT (⟨#[34,44,32]⟩:ByteArray)))) 6 190 (.head _) i fun s7 i=>(qDi 7 kr (qDt 191 32 #[vP bp0 0,vT s7] kr rfl (W_cA Tryz.func32 rfl Tryz.ntmps32 (W_sr (qAd 2 [] (W_sr (qAa 1 [(6,vP bp0 0)] (qAb rfl (qDt 7 79 #[vP bp0 0] kr rfl ((qBw (c0:=(qEc p0.1.1 bp0)) (R:=[vS a1 p0.1.2 c1,vS a2 p0.2.1 c2,vS a3 p0.2.2.1 c3,vI (if p3>p0.2.2.2 then p3 else p0.2.2.2)]) (qIr p0.1.1 bp0 kr) g).mono ?_))))))))))))))));rintro _ w55 ⟨m38,rfl,e32,g⟩;refine⟨_,rfl,?_⟩;have hmS5:=Mem.le_trans hmS5 e32;have g:St m38 (kB bp0 #[.pointer (qEc true bp0),vS a1 p0.1.2 c1,vS a2 p0.2.1 c2,vS a3 p0.2.2.1 c3,vI (if p3>p0.2.2.2 then p3 else p0.2.2.2)] 115::kB b2 (V8 x1 a4 c4) 73::kR a1 p0.1.2 c1 5 1::O) w55:=g
        refine WO_e (W_sr (qAa 4 [(8,vP bp0 0),(11,vP bp0 1)] (qAb rfl (qBx 12 58 11 1 (vS a1 p0.1.2 c1) g.h (qAa 1 [(13,vT s7)] (qAb rfl (qGu 14 58 9 5 1 12 13 g.f2 (.inr kr) (r1.mono e32) (Gives.str _) i fun l10 i a42 c42 m39 w56 e33 g r47=> ?_)))))));have hmS5:=Mem.le_trans hmS5 e33;refine qAa 2 [(16,vP bp0 1)] (qAb rfl (qEx 58 16 14 1 (vS a42 l10 c42) #[.pointer (qEc true bp0),vS a42 l10 c42,vS a2 p0.2.1 c2,vS a3 p0.2.2.1 c3,vI (if p3>p0.2.2.2 then p3 else p0.2.2.2)] g.f1 fun w57 g=>(WO_e (W_sr (qAd 4 [(4,vI (s7.size:Int)),(5,.nilIface)] (qAz (X_rt [4,5] [vI (s7.size:Int),.nilIface] (⟨_,rfl,?_⟩))))))));refine⟨⟨.inr ⟨Inv.anti g.inv hmS5,Piece.holds_anti g.t.t.h hmS5,trivial⟩,trivial⟩,?_⟩;refine qDm kr ?_;refine qAg (W_sr (qAa 2 [(192,vP bp0 0),(193,vP b2 4)] (qAb rfl (qBx 194 32 193 4 (vS a4 x1.2.2.2.2 c4) g.t.t.h (qAb rfl (qCy 195 32 3 194 ((.const (vI 0))) ((r4.mono e32).mono e33) i ?_))))));rintro x8 i b13 f8 cs9 rfl hq8;refine qDu 196 3 195 f8 (vI x8) g hq8 (qAa 2 [(198,vI (wr (p3+1)))] (qAl 199 i (fun _ h=>ih_source_writer_expr (p0:=((true,l10),p0.2.1,p0.2.2.1,if p3>p0.2.2.2 then p3 else p0.2.2.2)) g.f1.f1 r47 ((r2.mono e32).mono e33) ((r3.mono e32).mono e33) h) ?_));rintro y10 i _ w58 ⟨a43,c43,a44,c44,a45,c45,m40,rfl,e34,g,r48,r49,r50⟩
        refine WO_e (qAo (qAa 3 [(202,vP bp0 0)] (qAb rfl (qDt 203 118 #[vP bp0 0,.int .u8 41] kr rfl (W_cA Tryz.func118 rfl Tryz.ntmps118 (W_sr (qAd 1 [] (W_sr (qAa 1 [(5,vP bp0 0)] (qAb rfl (qDt 6 79 #[vP bp0 0] kr rfl ((qBw (c0:=(qEc y10.1.1 bp0)) (R:=[vS a43 y10.1.2 c43,vS a44 y10.2.1 c44,vS a45 y10.2.2.1 c45,vI y10.2.2.2]) (qIr y10.1.1 bp0 kr) g).mono ?_))))))))))));rintro _ w59 ⟨m41,rfl,e35,g⟩;refine⟨_,rfl,?_⟩;have g:St m41 (kB bp0 #[.pointer (qEc true bp0),vS a43 y10.1.2 c43,vS a44 y10.2.1 c44,vS a45 y10.2.2.1 c45,vI y10.2.2.2] 115::kR a43 y10.1.2 c43 5 1::kB b2 (V8 x1 a4 c4) 73::O) w59:=g;refine WO_e (W_sr (qAa 4 [(7,vP bp0 0),(10,vP bp0 1)] (qAb rfl (qBx 11 58 10 1 (vS a43 y10.1.2 c43) g.h (qAa 1 [(12,.int .u8 41)] (qAb rfl (qBe (d:=13) (t:=58) (e:=5) (len:=1) (parts:= #[(0,(.tmp 12))]) cU8 (xs:=[(41:UInt8)]) [.int .u8 41] kr rfl (fun _=>qBd kr _) rfl rfl g ⟨[.int .u8 41],_,rfl,rfl,rfl⟩ fun b14 m42 w60 e36 g r51=>(qAb rfl (qGu 14 58 58 5 1 11 13 g.f2 (.inl kr) ((r48.mono e35).mono e36) r51.src i fun l11 i a46 c46 m43 w61 e37 g r52=>(qAa 2 [(16,vP bp0 1)] (qAb rfl (qEx 58 16 14 1 (vS a46 l11 c46) #[.pointer (qEc true bp0),vS a46 l11 c46,vS a44 y10.2.1 c44,vS a45 y10.2.2.1 c45,vI y10.2.2.2] g.f2 fun w62 g=>(qBa rfl ?_)))))))))))));have g:=g.f2.t
        refine qAg (W_sr (qAd 1 [(4,.nilIface)] (qAz (X_rt [4] [.nilIface] (⟨_,rfl,?_⟩)))));refine qBa rfl (qBj ?_);cases i;exact qQd [] [] rfl ResAll.nil ⟨a46,c46,a44,c44,a45,c45,m43,rfl,(((((q.t e32).t e33).t e34).t e35).t e36).t e37,g.f2.t.f1.f1,r52,((r49.mono e35).mono e36).mono e37,((r50.mono e35).mono e36).mono e37⟩
       ·intro A i;refine W_sr (qAd 2 [(204,vB (x1.1==10))] (W_if i ?_ ?_))
        ·intro A i;refine qGk [(9,fun w'=>Inv m1 w'∧Piece.holds m1 w' (kB b2 (V8 x1 a4 c4) 73)∧True)] kr g fun w63 _ g=> ?_;have hmS6:=m1.le_refl;refine⟨⟨.inr ⟨Inv.anti g.inv hmS6,Piece.holds_anti g.t.h hmS6,trivial⟩,trivial⟩,?_⟩;refine qBn 0 206 (vP bp0 0) (.head _) (qBn 1 207 (vP bp0 0) (.head _) (qBn 2 208 (vP bp0 0) (.head _) (qBn 3 209 (vP b2 1) (.head _) (qIs 3 209 4 210 1 (vI x1.2.1) (.head _) (fun _ h=>h.2.1) (qDi 5 kr (qIb 211 i (fun _ h=>qSr g h) ?_))))));rintro y11 i _ w64 ⟨m44,rfl,e38,g⟩;refine⟨_,rfl,?_⟩;have hmS6:=Mem.le_trans hmS6 e38;refine⟨⟨.inr ⟨Inv.anti g.inv hmS6,Piece.holds_anti g.t.h hmS6,trivial⟩,trivial⟩,?_⟩;refine qHe 9 9 ((.const (vT (⟨#[102,108,105,112,40]⟩:ByteArray)))) 211 6 212 (.head _) i fun s8 i=> ?_;refine qHe 9 9 212 ((.const (vT bt))) 7 213 (.head _) i fun s9 i=> ?_;refine qDi 8 kr (qDt 214 32 #[vP bp0 0,vT s9] kr rfl (W_cA Tryz.func32 rfl Tryz.ntmps32 (W_sr (qAd 2 [] (W_sr (qAa 1 [(6,vP bp0 0)] (qAb rfl (qDt 7 79 #[vP bp0 0] kr rfl ((qBw (c0:=(qEc p0.1.1 bp0)) (R:=[vS a1 p0.1.2 c1,vS a2 p0.2.1 c2,vS a3 p0.2.2.1 c3,vI (if p3>p0.2.2.2 then p3 else p0.2.2.2)]) (qIr p0.1.1 bp0 kr) g).mono ?_)))))))));rintro _ w65 ⟨m45,rfl,e39,g⟩;refine⟨_,rfl,?_⟩;have hmS6:=Mem.le_trans hmS6 e39
         have g:St m45 (kB bp0 #[.pointer (qEc true bp0),vS a1 p0.1.2 c1,vS a2 p0.2.1 c2,vS a3 p0.2.2.1 c3,vI (if p3>p0.2.2.2 then p3 else p0.2.2.2)] 115::kB b2 (V8 x1 a4 c4) 73::kR a1 p0.1.2 c1 5 1::O) w65:=g;refine WO_e (W_sr (qAa 4 [(8,vP bp0 0),(11,vP bp0 1)] (qAb rfl (qBx 12 58 11 1 (vS a1 p0.1.2 c1) g.h (qAa 1 [(13,vT s9)] (qAb rfl (qGu 14 58 9 5 1 12 13 g.f2 (.inr kr) ((r1.mono e38).mono e39) (Gives.str _) i fun l12 i a47 c47 m46 w66 e40 g r53=> ?_)))))));have hmS6:=Mem.le_trans hmS6 e40;refine qAa 2 [(16,vP bp0 1)] (qAb rfl (qEx 58 16 14 1 (vS a47 l12 c47) #[.pointer (qEc true bp0),vS a47 l12 c47,vS a2 p0.2.1 c2,vS a3 p0.2.2.1 c3,vI (if p3>p0.2.2.2 then p3 else p0.2.2.2)] g.f1 fun w67 g=>(WO_e (W_sr (qAd 4 [(4,vI (s9.size:Int)),(5,.nilIface)] (qAz (X_rt [4,5] [vI (s9.size:Int),.nilIface] (⟨_,rfl,?_⟩))))))));refine⟨⟨.inr ⟨Inv.anti g.inv hmS6,Piece.holds_anti g.t.t.h hmS6,trivial⟩,trivial⟩,?_⟩;refine qDm kr ?_;refine qBj ?_;cases i;exact qQd [] [] rfl ResAll.nil ⟨a47,c47,a2,c2,a3,c3,m46,rfl,((q.t e38).t e39).t e40,g.f2.t.f1.f1,r53,((r2.mono e38).mono e39).mono e40,((r3.mono e38).mono e39).mono e40⟩
        ·intro A i;refine W_sr (qAb rfl (qRl (d:=51) (t:=146) kr rfl g fun b15 w68 g=> ?_));have⟨mp1,d39,i⟩:=qAv i;refine qAb rfl (qGe (ek:=(fun n:Int=>Value.int .i64 n)) (c:=cStr) (agg:=false) (k:=7) (yv:=b1u) (cs:=[vT b1u]) (z:=(vT eB)) (v:=(vT b1u)) (kt:=3) (et:=9) (t:=146) (x:=(.tmp 51)) (y:=(.const (vI 7))) (u:=(.const (vT b1u))) kr (ev (.map (some b15))) (ev (vI 7)) (ev (vT b1u)) kr (qLp kr) g (MapQ.new (fun n:Int=>Value.int .i64 n) cStr false _ _) rfl rfl d39 fun es2 ck2 w69 g r54=> ?_);have⟨mp2,d40,i⟩:=qAv i;refine qAb rfl (qGe (ek:=(fun n:Int=>Value.int .i64 n)) (c:=cStr) (agg:=false) (k:=8) (yv:=b1v) (cs:=[vT b1v]) (z:=(vT eB)) (v:=(vT b1v)) (kt:=3) (et:=9) (t:=146) (x:=(.tmp 51)) (y:=(.const (vI 8))) (u:=(.const (vT b1v))) kr (ev (.map (some b15))) (ev (vI 8)) (ev (vT b1v)) kr (qLp kr) g r54 rfl rfl d40 fun es3 ck3 w70 g r55=> ?_);have⟨mp3,d41,i⟩:=qAv i
         refine qAb rfl (qGe (ek:=(fun n:Int=>Value.int .i64 n)) (c:=cStr) (agg:=false) (k:=9) (yv:=b1w) (cs:=[vT b1w]) (z:=(vT eB)) (v:=(vT b1w)) (kt:=3) (et:=9) (t:=146) (x:=(.tmp 51)) (y:=(.const (vI 9))) (u:=(.const (vT b1w))) kr (ev (.map (some b15))) (ev (vI 9)) (ev (vT b1w)) kr (qLp kr) g r55 rfl rfl d41 fun es4 ck4 w71 g r56=>(qAa 2 [(52,.map (some b15)),(53,vP b2 0)] (qAb rfl (qBx 54 3 53 0 (vI x1.1) g.t.t.h (qAb rfl (qTx (ek:=(fun n:Int=>Value.int .i64 n)) (c:=cStr) (agg:=false) (k:=x1.1) (zx:=eB) (zcs:=[vT eB]) (z:=(vT eB)) (kt:=3) (et:=9) (d:=55) (t:=146) (x:=(.tmp 52)) (y:=(.tmp 54)) (ok:=false) kr rfl (ev (.map (some b15))) (ev (vI x1.1)) kr (qLp kr) g.h r56 rfl rfl ?_))))));rintro cs10 rfl;refine qAd 1 [(15,vT ((qPg mp3 x1.1).getD eB))] (qGk [(10,fun w'=>Inv m1 w'∧Piece.holds m1 w' (kB b2 (V8 x1 a4 c4) 73)∧True)] kr g fun w72 _ g=> ?_);have hmS7:=m1.le_refl;refine⟨⟨.inr ⟨Inv.anti g.inv hmS7,Piece.holds_anti g.t.t.h hmS7,trivial⟩,trivial⟩,?_⟩
         refine qBn 0 56 (vP bp0 0) (.head _) (qBn 1 57 (vP bp0 0) (.head _) (qBn 2 58 (vP bp0 0) (.head _) (qBn 3 59 (vT ((qPg mp3 x1.1).getD eB)) (.head _) (qHe 9 9 59 ((.const (vT (⟨#[40,34]⟩:ByteArray)))) 4 60 (.head _) i fun s10 i=>(qBn 5 61 (vP b2 3) (.head _) (qIs 9 61 6 62 3 (vT x1.2.2.2.1) (.head _) (fun _ h=>h.2.1) (qHe 9 9 60 62 7 63 (.head _) i fun s11 i=>(qHe 9 9 63 ((.const (vT bs))) 8 64 (.head _) i fun s12 i=>(qDi 9 kr (qDt 65 32 #[vP bp0 0,vT s12] kr rfl (W_cA Tryz.func32 rfl Tryz.ntmps32 (W_sr (qAd 2 [] (W_sr (qAa 1 [(6,vP bp0 0)] ?_)))))))))))))));have g:=g.f1;refine qAb rfl (qDt 7 79 #[vP bp0 0] kr rfl ((qBw (c0:=(qEc p0.1.1 bp0)) (R:=[vS a1 p0.1.2 c1,vS a2 p0.2.1 c2,vS a3 p0.2.2.1 c3,vI (if p3>p0.2.2.2 then p3 else p0.2.2.2)]) (qIr p0.1.1 bp0 kr) g).mono ?_));rintro _ w73 ⟨m47,rfl,e41,g⟩;refine⟨_,rfl,?_⟩;have hmS7:=Mem.le_trans hmS7 e41;have g:St m47 (kB bp0 #[.pointer (qEc true bp0),vS a1 p0.1.2 c1,vS a2 p0.2.1 c2,vS a3 p0.2.2.1 c3,vI (if p3>p0.2.2.2 then p3 else p0.2.2.2)] 115::qHw (some b15) es4 ck4::kB b2 (V8 x1 a4 c4) 73::kR a1 p0.1.2 c1 5 1::O) w73:=g;refine WO_e (W_sr (qAa 4 [(8,vP bp0 0),(11,vP bp0 1)] (qAb rfl (qBx 12 58 11 1 (vS a1 p0.1.2 c1) g.h (qAa 1 [(13,vT s12)] (qAb rfl (qGu 14 58 9 5 1 12 13 g.f3 (.inr kr) (r1.mono e41) (Gives.str _) i fun l13 i a48 c48 m48 w74 e42 g r57=> ?_)))))))
         have hmS7:=Mem.le_trans hmS7 e42;refine qAa 2 [(16,vP bp0 1)] (qAb rfl (qEx 58 16 14 1 (vS a48 l13 c48) #[.pointer (qEc true bp0),vS a48 l13 c48,vS a2 p0.2.1 c2,vS a3 p0.2.2.1 c3,vI (if p3>p0.2.2.2 then p3 else p0.2.2.2)] g.f1 fun w75 g=>(WO_e (W_sr (qAd 4 [(4,vI (s12.size:Int)),(5,.nilIface)] (qAz (X_rt [4,5] [vI (s12.size:Int),.nilIface] (⟨_,rfl,?_⟩))))))));refine⟨⟨.inr ⟨Inv.anti g.inv hmS7,Piece.holds_anti g.t.t.t.h hmS7,trivial⟩,trivial⟩,?_⟩;refine qDm kr ?_;refine qBj ?_;cases i;exact qQd [] [] rfl ResAll.nil ⟨a48,c48,a2,c2,a3,c3,m48,rfl,(q.t e41).t e42,g.f2.t.f2.t.f1.f1,r57,(r2.mono e41).mono e42,(r3.mono e41).mono e42⟩
theorem qNi(N:Nat):∀D:Nat,(∀{m:Mem} {O:List Piece} {w:World} {p0:T1i} {p1:Int} {p2:Int} {p3:Int} {bp0:Nat} {a1:Option Addr} {c1:Nat} {a2:Option Addr} {c2:Nat} {a3:Option Addr} {c3:Nat} {r:T1i} (g:St m (kB bp0 #[.pointer (qEc p0.1.1 bp0),vS a1 p0.1.2 c1,vS a2 p0.2.1 c2,vS a3 p0.2.2.1 c3,vI p0.2.2.2] 115::kR a1 p0.1.2 c1 5 1::O) w) (r1:RepS cU8 m a1 c1 p0.1.2) (r2:RepS C3 m a2 c2 p0.2.1) (r3:RepS cStr m a3 c3 p0.2.2.1) (i:(qEj N D) p0 p1 p2 p3=some r),Calls Tryz.prog 80 #[vP bp0 0,vI p1,vI p2,vI p3] w fun e w'=>∃ra1 rc1 ra2 rc2 ra3 rc3 m',e= .returned (.tuple #[])∧m.le m'∧St m' (kB bp0 #[.pointer (qEc r.1.1 bp0),vS ra1 r.1.2 rc1,vS ra2 r.2.1 rc2,vS ra3 r.2.2.1 rc3,vI r.2.2.2] 115::kR ra1 r.1.2 rc1 5 1::O) w'∧P6 m' ra1 rc1 ra2 rc2 ra3 rc3 r)
 |0=>fun _ _ _ _ i=>(by cases i)
 |D+1=>fun g r1 r2 r3 i=>qRz (qNi N D) g r1 r2 r3 i
theorem qTh{p0:T1i}{p1:Int}{p2:Int}{p3:Int}{r:T1i}(g:St m (kB bp0 #[.pointer (qEc p0.1.1 bp0),vS a1 p0.1.2 c1,vS a2 p0.2.1 c2,vS a3 p0.2.2.1 c3,vI p0.2.2.2] 115::kR a1 p0.1.2 c1 5 1::O) w)(r1:RepS cU8 m a1 c1 p0.1.2)(r2:RepS C3 m a2 c2 p0.2.1)(r3:RepS cStr m a3 c3 p0.2.2.1)(i:qMt N p0 p1 p2 p3=some r):Calls Tryz.prog 80 #[vP bp0 0,vI p1,vI p2,vI p3] w fun e w'=>∃ra1 rc1 ra2 rc2 ra3 rc3 m',e= .returned (.tuple #[])∧m.le m'∧St m' (kB bp0 #[.pointer (qEc r.1.1 bp0),vS ra1 r.1.2 rc1,vS ra2 r.2.1 rc2,vS ra3 r.2.2.1 rc3,vI r.2.2.2] 115::kR ra1 r.1.2 rc1 5 1::O) w'∧P6 m' ra1 rc1 ra2 rc2 ra3 rc3 r:=
 (qNi N N) g r1 r2 r3 i
def qLm(N:Nat)(p0:To)(p1:T6):Option Tj:=
 (qMt N ((false,([]:T1b)),p0,p1,0) (IntKind.wrap .i64 ((List.length p0:Int)-1)) 0 1).bind fun y1=>(nonE y1.1.2).bind fun u1=>some (qKl y1.1.2,y1.2.2.2)
theorem qZi{p0:To}{p1:T6}{r:Tj}(g:St m (O) w)(r1:RepS C3 m a1 c1 p0)(r2:RepS cStr m a2 c2 p1)(i:qLm N p0 p1=some r):Calls Tryz.prog 33 #[vS a1 p0 c1,vS a2 p1 c2] w fun e w'=>∃m',e= .returned (.tuple #[vT r.1,vI r.2])∧m.le m'∧St m' (O) w':=by
 unfold qLm at i;have q:=m.le_refl;refine W_cA Tryz.func33 rfl Tryz.ntmps33 ?_;refine W_sr (qAd 2 [] (W_sr (qAa 3 [(9,.agg #[.pointer none,vc,vS a1 p0 c1,vS a2 p1 c2,vI 0])] (qAb rfl (qYd 10 115 9 (.agg #[.pointer none,vc,vS a1 p0 c1,vS a2 p1 c2,vI 0]) g fun b1 w1 g=>(qAd 1 [(6,vP b1 0)] (W_sr (qAa 4 [(11,vP b1 0),(14,vI (wr ((p0.length:Int)-1)))] ?_))))))));have g:=(g.nilroom 5 1).front1;refine qAl 15 i (fun _ h=>qTh (p0:=((false,([]:T1b)),p0,p1,0)) g (RepS.nil _ _) r1 r2 h) ?_;rintro y1 i _ w2 ⟨a3,c3,a4,c4,a5,c5,m2,rfl,e2,g,r3,r4,r5⟩;refine WO_e (qAr (qGk [(10,fun w'=>Inv m2 w'∧Piece.holds m2 w' (kB b1 #[.pointer (qEc y1.1.1 b1),vS a3 y1.1.2 c3,vS a4 y1.2.1 c4,vS a5 y1.2.2.1 c5,vI y1.2.2.2] 115)∧True)] kr g fun w3 _ g=> ?_));have hmS1:=m2.le_refl;refine⟨⟨.inr ⟨Inv.anti g.inv hmS1,Piece.holds_anti g.h hmS1,trivial⟩,trivial⟩,?_⟩
 refine qBn 0 16 (vP b1 0) (.head _) (qBn 1 17 (vP b1 0) (.head _) (qBn 2 18 (vP b1 0) (.head _) (qBn 4 20 (vP b1 0) (.head _) (qBn 5 21 (vP b1 0) (.head _) (qBn 6 22 (vP b1 4) (.head _) (qIs 3 22 7 23 4 (vI y1.2.2.2) (.head _) (fun _ h=>h.2.1) (qDi 3 kr (qDt 19 36 #[vP b1 0] kr rfl (W_cA Tryz.func36 rfl Tryz.ntmps36 (W_sr (qAd 1 [] (qAr (qGk [(12,fun w'=>Inv m2 w'∧Piece.holds m2 w' (kB b1 #[.pointer (qEc y1.1.1 b1),vS a3 y1.1.2 c3,vS a4 y1.2.1 c4,vS a5 y1.2.2.1 c5,vI y1.2.2.2] 115)∧True)] kr g fun w4 _ g=> ?_)))))))))))));have hmS2:=m2.le_refl;refine⟨⟨.inr ⟨Inv.anti g.inv hmS2,Piece.holds_anti g.h hmS2,trivial⟩,trivial⟩,?_⟩;refine qBn 0 3 (vP b1 0) (.head _) (qBn 1 4 (vP b1 0) (.head _) (qBn 2 5 (vP b1 1) (.head _) (qIs 58 5 3 6 1 (vS a3 y1.1.2 c3) (.head _) (fun _ h=>h.2.1) (qBn 5 8 (vP b1 0) (.head _) (qBn 6 9 (vP b1 0) (.head _) (qBn 7 10 (vP b1 1) (.head _) (qIs 58 10 8 11 1 (vS a3 y1.1.2 c3) (.head _) (fun _ h=>h.2.1) (qBn 9 12 (vI (y1.1.2.length:Int)) (.head _) ?_))))))));have⟨u1,d2,i⟩:=qAv i;have hne1:=zQd d2;refine qDi 4 kr (qVe (d:=7) (t:=58) (x:=(.tmp 6)) kr rfl (ev (vS a3 y1.1.2 c3)) r3 hne1 (⟨⟨.inr ⟨Inv.anti g.inv hmS2,Piece.holds_anti g.h hmS2,trivial⟩,trivial⟩,?_⟩))
 refine qDi 10 kr (qSf (d:=13) (pt:=118) (it:=3) (e:=5) (x:=(.tmp 7)) (y:=(.tmp 12)) kr rfl (ev (.pointer a3)) (ev (vI (y1.1.2.length:Int))) g.f1 r3 hne1 kr kr fun w5 g=>(⟨⟨.inr ⟨Inv.anti g.inv hmS2,Piece.holds_anti g.h hmS2,trivial⟩,trivial⟩,?_⟩));refine qBn 11 2 (vT (qKl y1.1.2)) (.head _) (qDm kr (qAg (qAz (X_rt [2] [vT (qKl y1.1.2)] (⟨_,rfl,?_⟩)))));refine⟨⟨.inr ⟨Inv.anti g.inv hmS1,Piece.holds_anti g.h hmS1,trivial⟩,trivial⟩,?_⟩;refine qBn 8 4 (vT (qKl y1.1.2)) (.head _) (qBn 9 5 (vI y1.2.2.2) (.head _) (qDm kr (qAg (qAz ?_))));obtain rfl:=sI i;exact X_rt [4,5] [vT (qKl y1.1.2),vI y1.2.2.2] ⟨m2,rfl,q.t e2,g.t⟩
def qMk(N:Nat)(p0:To)(p1:T6):Option Tj:=
 (qHg N ((⟨#[112]⟩:ByteArray),([]:T6),[(1,(⟨#[102]⟩:ByteArray),p1,p0)])).bind fun y1=>if(y1 !=0)=true then(some ((⟨#[]⟩:ByteArray),y1)) else((qLm N p0 p1).bind fun y2=>some (y2.1,0))
theorem zAv{p0:To}{p1:T6}{r:Tj}(g:St m (O) w)(r1:RepS C3 m a1 c1 p0)(r2:RepS cStr m a2 c2 p1)(i:qMk N p0 p1=some r):Calls Tryz.prog 25 #[vS a1 p0 c1,vS a2 p1 c2] w fun e w'=>∃m',e= .returned (.tuple #[vT r.1,vI r.2])∧m.le m'∧St m' (O) w':=by
 unfold qMk at i;have q:=m.le_refl;refine W_cA Tryz.func25 rfl Tryz.ntmps25 ?_;refine W_sr (qAd 2 [] (qAr (W_sr (qAa 3 [(11,.agg #[vI 1,vT bo,vS a2 p1 c2,vS a1 p0 c1])] (qAb rfl (qBe (d:=12) (t:=23) (e:=48) (len:=1) (parts:= #[(0,(.tmp 11))]) C4 (xs:=[(1,bo,p1,p0)]) [vI 1,vT bo,vS a2 p1 c2,vS a1 p0 c1] kr rfl (fun _=>qBd kr _) rfl rfl g ⟨[vI 1,vT bo,vS a2 p1 c2,vS a1 p0 c1],_,rfl,⟨_,_,rfl,rfl,⟨_,_,rfl,rfl,⟨_,_,rfl,(zFr r2),(zFr r1)⟩⟩⟩,rfl⟩ fun b1 m1 w1 e1 g r3=>(qAa 1 [(13,.agg #[vT ba,v1,.slice (aP b1) (List.length ([(1,bo,p1,p0)])) 1])] (qAl 14 i (fun _ h=>qTk (p0:=(ba,([]:T6),[(1,bo,p1,p0)])) g (RepS.nil _ _) r3 h) ?_))))))));rintro y1 i _ w2 ⟨m2,rfl,e2,g⟩;refine qAa 1 [(6,vI y1)] (qBa rfl ?_);have g:=g.t;refine qAg (W_sr (qAd 2 [(16,vB (y1 !=0))] (W_if i ?_ ?_)))
 ·intro A i;refine W_sr (qAd 3 [(4,vT eB),(5,vI y1)] (qAz (qAc ?_)));obtain rfl:=sI i;exact X_rt [4,5] [vT eB,vI y1] ⟨m2,rfl,(q.t e1).t e2,g⟩
 ·intro A i;refine qAp (qAg (W_sr (qAa 2 [(19,vS a1 p0 c1),(20,vS a2 p1 c2)] (qAl 21 i (fun _ h=>qZi g ((r1.mono e1).mono e2) ((r2.mono e1).mono e2) h) ?_))));rintro y2 i _ w3 ⟨m3,rfl,e3,g⟩;refine qAd 5 [(7,vT y2.1)] (W_sr (qAd 3 [(4,vT y2.1),(5,vI 0)] (qAz ?_)));cases i;exact X_rt [4,5] [vT y2.1,vI 0] ⟨m3,rfl,((q.t e1).t e2).t e3,g⟩
def qPj(N:Nat)(p0:T6)(p1:ByteArray):Tf:=
 if((List.length p0:Int)==0)=true then(some (⟨#[]⟩:ByteArray)) else(if((List.length p0:Int)==1)=true then((idx p0 0).bind fun x1=>some x1) else none)
def qJt(N:Nat)(p0:T6)(p1:ByteArray):Tf:=
 if 2≤List.length p0 then zSv p0 p1 else qPj N p0 p1
theorem qXl{p0:T6}{p1:ByteArray}{r:ByteArray}(g:St m (O) w)(r1:RepS cStr m a1 c1 p0)(i:qPj N p0 p1=some r):Calls Tryz.prog 34 #[vS a1 p0 c1,vT p1] w fun e w'=>∃m',e= .returned (vT r)∧m.le m'∧St m' (O) w':=by
 unfold qPj at i;have q:=m.le_refl;refine W_cA Tryz.func34 rfl Tryz.ntmps34 ?_;refine W_sr (qAd 1 [] (qAr (W_sr (qAd 2 [(12,vI (p0.length:Int))] (qAt (W_sr (qAd 2 [(13,vB ((p0.length:Int)==0))] (W_if i ?_ ?_))))))))
 ·intro A i;refine W_sr (qAd 1 [(4,vT eB)] (qAz (qAe (qAc ?_))));cases i;exact X_rt [4] [vT eB] ⟨m,rfl,q,g⟩
 ·intro A i;refine W_sr (qAd 2 [(15,vB ((p0.length:Int)==1))] (W_if i ?_ ?_))
  ·intro A i;refine W_sr (qAa 1 [(17,vS a1 p0 c1)] (qAb rfl (qCy 18 22 9 17 ((.const (vI 0))) r1 i ?_)));rintro x1 i b1 f1 cs1 rfl hq1;refine qDu 19 9 18 f1 (vT x1) g hq1 (qAd 1 [(4,vT x1)] (qAz (qAe (qAc ?_))));obtain rfl:=sI i;exact X_rt [4] [vT x1] ⟨m,rfl,q,g⟩
  ·intro A i;cases i
def qVu:Go.Shelf.Ren:=⟨fun|156=>34|165=>81|166=>32|169=>36|240=>79|241=>121|276=>116|277=>149|n=>n,fun|31=>22|9=>9|3=>3|4=>4|0=>0|20=>20|72=>60|76=>63|70=>57|37=>58|75=>62|127=>118|164=>143|5=>5|80=>69|n=>n,fun|n=>n⟩
theorem zMl:Go.Proofs.Lays.n156 Tryz.prog qVu where
 mixed:=kr
 f156:=Tryz.func34.trans (congrArg some kr)
 f165:=Tryz.func81.trans (congrArg some kr)
 f166:=Tryz.func32.trans (congrArg some kr)
 f169:=Tryz.func36.trans (congrArg some kr)
 f240:=Tryz.func79.trans (congrArg some kr)
 f241:=Tryz.func121.trans (congrArg some kr)
 f276:=Tryz.func116.trans (congrArg some kr)
 f277:=Tryz.func149.trans (congrArg some kr)
 t0:=Tryz.underlying0
 a0:=Tryz.isAgg0
 z0:=Tryz.sizeOf0
 v0:=Tryz.zeroValue0
 t3:=Tryz.underlying3
 a3:=Tryz.isAgg3
 z3:=Tryz.sizeOf3
 v3:=Tryz.zeroValue3
 t4:=Tryz.underlying4
 a4:=Tryz.isAgg4
 z4:=Tryz.sizeOf4
 v4:=Tryz.zeroValue4
 t9:=Tryz.underlying9
 a9:=Tryz.isAgg9
 z9:=Tryz.sizeOf9
 v9:=Tryz.zeroValue9
 t20:=Tryz.underlying20
 a20:=Tryz.isAgg20
 z20:=Tryz.sizeOf20
 v20:=Tryz.zeroValue20
 t31:=Tryz.underlying22
 a31:=Tryz.isAgg22
 z31:=Tryz.sizeOf22
 v31:=Tryz.zeroValue22
 t37:=Tryz.underlying58
 a37:=Tryz.isAgg58
 z37:=Tryz.sizeOf58
 v37:=Tryz.zeroValue58
 t70:=Tryz.underlying57
 a70:=Tryz.isAgg57
 z70:=Tryz.sizeOf57
 v70:=Tryz.zeroValue57
 t72:=Tryz.underlying60
 a72:=Tryz.isAgg60
 z72:=Tryz.sizeOf60
 v72:=Tryz.zeroValue60
 t75:=Tryz.underlying62
 a75:=Tryz.isAgg62
 z75:=Tryz.sizeOf62
 v75:=Tryz.zeroValue62
 t76:=Tryz.underlying63
 a76:=Tryz.isAgg63
 z76:=Tryz.sizeOf63
 v76:=Tryz.zeroValue63
 t127:=Tryz.underlying118
 a127:=Tryz.isAgg118
 z127:=Tryz.sizeOf118
 v127:=Tryz.zeroValue118
 t164:=Tryz.underlying143
 a164:=Tryz.isAgg143
 z164:=Tryz.sizeOf143
 v164:=Tryz.zeroValue143
theorem zTv:Go.Proofs.Builder.Extra Tryz.prog qVu where
 sizeBuilder:=kr
 liesBuilder:=kr
 t5:=Tryz.underlying5
 a5:=Tryz.isAgg5
 z5:=Tryz.sizeOf5
 v5:=Tryz.zeroValue5
 infoByte:=kr
 cellsByte:=kr
 sizeByte:=kr
 neB5:=by decide
theorem qZp{p0:T6}{p1:ByteArray}{r:ByteArray}(g:St m (O) w)(r1:RepS cStr m a1 c1 p0)(i:qJt N p0 p1=some r):Calls Tryz.prog 34 #[vS a1 p0 c1,vT p1] w fun e w'=>∃m',e= .returned (vT r)∧m.le m'∧St m' (O) w':=by
 unfold qJt at i
 split at i
 ·rename_i h2
  exact zLy zMl zTv g r1 h2 i
 ·exact qXl g r1 i
def qJe(N:Nat)(p0:Tx)(s3:Int×T1b):Option (Int×T1b⊕T1b):=
 if(decide (s3.1<(List.length p0.2.1:Int)))=true then((idx p0.2.1 s3.1).bind fun x2=>(catB (⟨#[105,109,112,111,114,116,32]⟩:ByteArray) x2).bind fun s4=>(catB s4 (⟨#[59,10]⟩:ByteArray)).bind fun s5=>(qCn 1 s3.2 s5.data.toList).bind fun l2=>some (.inl (IntKind.wrap .i64 (s3.1+1),l2))) else(some (.inr s3.2))
def qJq(N:Nat)(p0:Tx)(p1:Int):Option Tj:=
 (qHg N p0).bind fun y1=>if(y1 !=0)=true then(some ((⟨#[]⟩:ByteArray),y1)) else((if(decide (p1<0))=true then(some true) else(some (decide (p1≥(List.length p0.2.2:Int)))):Te).bind fun o1=>if o1=true then(some ((⟨#[]⟩:ByteArray),3)) else((idx p0.2.2 p1).bind fun x1=>(qMk N x1.2.2.2 x1.2.2.1).bind fun y2=>if(y2.2 !=0)=true then(some ((⟨#[]⟩:ByteArray),y2.2)) else((catB (⟨#[112,97,99,107,97,103,101,32]⟩:ByteArray) p0.1).bind fun s1=>(catB s1 (⟨#[59,10]⟩:ByteArray)).bind fun s2=>(qCn 1 ([]:T1b) s2.data.toList).bind fun l1=>(qAs (qJe N p0) N (0,l1)).bind fun o2=>(if(x1.1==1)=true then((catB (⟨#[102,117,110,99,32]⟩:ByteArray) x1.2.1).bind fun s6=>(catB s6 (⟨#[40]⟩:ByteArray)).bind fun s7=>(qJt N x1.2.2.1 (⟨#[44,32]⟩:ByteArray)).bind fun y3=>(catB s7 y3).bind fun s8=>(catB s8 (⟨#[41,32,61,32]⟩:ByteArray)).bind fun s9=>(qCn 1 o2 s9.data.toList).bind fun l3=>some l3) else(if(x1.1==2)=true then((catB (⟨#[116,101,115,116,32]⟩:ByteArray) x1.2.1).bind fun s10=>(catB s10 (⟨#[32,61,32]⟩:ByteArray)).bind fun s11=>(qCn 1 o2 s11.data.toList).bind fun l4=>some l4) else((catB (⟨#[103,101,110,32,34]⟩:ByteArray) x1.2.1).bind fun s12=>(catB s12 (⟨#[34,32,61,32]⟩:ByteArray)).bind fun s13=>(qCn 1 o2 s13.data.toList).bind fun l5=>some l5)):Option T1b).bind fun o3=>(catB y2.1 (⟨#[59,10]⟩:ByteArray)).bind fun s14=>(qCn 1 o3 s14.data.toList).bind fun l6=>(nonE l6).bind fun u3=>some (qKl l6,0))))
theorem qPv{p0:Tx}{p1:Int}{r:Tj}(g:St m (O) w)(r1:RepS cStr m a1 c1 p0.2.1)(r2:RepS C4 m a2 c2 p0.2.2)(i:qJq N p0 p1=some r):Calls Tryz.prog 21 #[.agg (V6 p0 a1 c1 a2 c2),vI p1] w fun e w'=>∃m',e= .returned (.tuple #[vT r.1,vI r.2])∧m.le m'∧St m' (O) w':=by
 unfold qJq at i;have q:=m.le_refl;refine W_cA Tryz.func21 rfl Tryz.ntmps21 ?_;refine W_sr (qAb rfl (qKv 2 25 0 (.agg (V6 p0 a1 c1 a2 c2)) g fun b1 m1 w1 e1 g hb1=> ?_));have r1:=r1.mono e1;have r2:=r2.mono e1;refine qAd 2 [] (qAr (W_sr (qDu 13 25 2 0 (.agg (V6 p0 a1 c1 a2 c2)) g hb1 (qAl 14 i (fun _ h=>qTk (p0:=p0) g r1 r2 h) ?_))));rintro y1 i _ w2 ⟨m2,rfl,e2,g⟩;have q:=(q.t e1).t e2;have hb1:=hb1.mono e2;refine qAd 1 [(6,vI y1)] (W_sr (qAd 2 [(16,vB (y1 !=0))] (W_if i ?_ ?_)))
 ·intro A i;refine W_sr (qAd 3 [(4,vT eB),(5,vI y1)] (qAz (qAc ?_)));obtain rfl:=sI i;exact X_rt [4,5] [vT eB,vI y1] ⟨m2,rfl,q,g⟩
 ·intro A i;refine qAp (qAg (qAr (W_sr ?_)));have⟨o1,i,J⟩:=qAv i;refine qCw (j:=9) (fun L' w'=>∃m3,L'=[(1,vI p1),(2,vP b1 0),(26,vB o1)]∧m.le m3∧St m3 (O) w'∧MRow m3 b1 0 (Va p0 a1 c1 a2 c2)∧P5 m3 a1 c1 a2 c2 p0.2) ?_ ?_
  ·have i:=J;rintro _ w3 ⟨m3,rfl,q,g,hb1,r1,r2⟩;refine WO_e (W_if i ?_ ?_)
   ·intro A i;refine W_sr (qAd 2 [(4,vT eB),(5,vI 3)] (qAz (qAc ?_)));cases i;exact X_rt [4,5] [vT eB,vI 3] ⟨m3,rfl,q,g⟩
   ·intro A i;refine qAp (qAg (W_sr (qAa 1 [(27,vP b1 2)] (qAb rfl (qAn (d:=28) (t:=23) (x:=(.tmp 27)) (vS a2 p0.2.2 c2) kr rfl (ev (vP b1 2)) g (hb1.drop 2) kr (qAa 1 [(29,vI p1)] (qAb rfl (qCy 30 23 48 28 29 r2 i ?_))))))));rintro x1 i b2 f1 cs1 ⟨_,_,rfl,rfl,⟨_,_,rfl,rfl,⟨_,_,rfl,⟨a3,c3,rfl,r3⟩,⟨a4,c4,rfl,r4⟩⟩⟩⟩ hq1;refine qDu 31 48 30 f1 (.agg (V7 x1 a3 c3 a4 c4)) g hq1 (qAb rfl (qJg 7 48 (.agg #[vI 0,vT eB,v7,v7]) g fun b3 w4 g=>(qAb rfl (qGo 48 7 31 (.agg (V7 x1 a3 c3 a4 c4)) g fun w5 g=>(WO_e (W_sr (qCx 1 34 46 33 3 (vS a4 x1.2.2.2 c4) g.h (qCx 1 36 22 35 2 (vS a3 x1.2.2.1 c3) g.h (qAl 37 i (fun _ h=>zAv g r4 r3 h) ?_)))))))));rintro y2 i _ w6 ⟨m4,rfl,e3,g⟩;refine qAd 5 [(8,vT y2.1),(9,vI y2.2)] (qAr (W_sr (qAd 2 [(41,vB (y2.2 !=0))] (W_if i ?_ ?_))))
    ·intro A i;refine W_sr (qAd 3 [(4,vT eB),(5,vI y2.2)] (qAz (qAc ?_)));cases i;exact X_rt [4,5] [vT eB,vI y2.2] ⟨m4,rfl,q.t e3,g.t⟩
    ·intro A i;refine qAp (qAg (W_sr (qAb rfl (qJg 10 60 (.agg #[.pointer none,v7]) g fun b4 w7 g=>(WO_e (W_sr (qAa 1 [(43,vP b1 0)] (qDu 44 9 43 0 (vT p0.1) g (hb1.mono e3) (qAb rfl (qDo 45 9 9 ((.const (vT b1f))) 44 i fun s1 i=>(qAb rfl (qDo 46 9 9 45 ((.const (vT b1c))) i fun s2 i=>(qAb rfl (qDt 47 32 #[vP b4 0,vT s2] kr rfl (W_cA Tryz.func32 rfl Tryz.ntmps32 (W_sr (qAd 2 [] (W_sr (qAa 1 [(6,vP b4 0)] (qAb rfl (qDt 7 79 #[vP b4 0] kr rfl ((qBw (c0:=(qEc false b4)) (R:=[vc]) (qIr false b4 kr) g).mono ?_))))))))))))))))))))));rintro _ w8 ⟨m5,rfl,e4,g⟩;refine⟨_,rfl,?_⟩;have g:St m5 (kB b4 #[.pointer (qEc true b4),vc] 60::kB b3 (V7 x1 a3 c3 a4 c4) 48::O) w8:=g;refine WO_e (W_sr (qAa 4 [(8,vP b4 0),(11,vP b4 1)] (qAb rfl (qBx 12 58 11 1 (vc) g.h (qAa 1 [(13,vT s2)] (qAb rfl (qGu 14 58 9 5 1 12 13 (g.nilroom 5 1) (.inr kr) (RepS.nil _ _) (Gives.str _) i fun l1 i a5 c5 m6 w9 e5 g r5=>(qAa 2 [(16,vP b4 1)] (qAb rfl (qEx 58 16 14 1 (vS a5 l1 c5) #[.pointer (qEc true b4),vS a5 l1 c5] g.f1 fun w10 g=>(WO_e (W_sr (qAd 4 [(4,vI (s2.size:Int)),(5,.nilIface)] (qAz (X_rt [4,5] [vI (s2.size:Int),.nilIface] (⟨_,rfl,?_⟩))))))))))))))))
     refine WO_e (qAr (W_sr (qAa 1 [(48,vP b1 1)] (qAb rfl (qAn (d:=49) (t:=22) (x:=(.tmp 48)) (vS a1 p0.2.1 c1) kr rfl (ev (vP b1 1)) g ((((hb1.mono e3).mono e4).mono e5).drop 1) kr (qAd 2 [(50,vI (p0.2.1.length:Int)),(51,vI 0)] (qAt ?_)))))));have⟨out1,i,j1⟩:=qAv i;refine qCl (.exit 0) (fun L' w'=>∃(o2:T1b),∃a6 c6 m7,o2=out1∧L'=[(7,vP b3 0),(8,vT y2.1),(10,vP b4 0)]∧m.le m7∧St m7 (kB b4 #[.pointer (qEc true b4),vS a6 o2 c6] 60::kB b3 (V7 x1 a3 c3 a4 c4) 48::kR a6 o2 c6 5 1::O) w'∧RepS cU8 m7 a6 c6 o2∧P2 m7 a3 c3 a4 c4 x1.2.2) ?_ ?_
     ·rintro _ w11 ⟨o2,a6,c6,m7,rfl,rfl,q,g,r6,r3,r4⟩;have i:=j1;refine qBg (qAg (qAr (W_sr (qCx 1 61 3 60 0 (vI x1.1) g.t.h (WO_e ?_)))));have⟨o3,i,j2⟩:=qAv i;refine qCl .normal (fun L' w'=>∃a9 c9 m11,L'=[(8,vT y2.1),(10,vP b4 0)]∧m.le m11∧St m11 (kB b4 #[.pointer (qEc true b4),vS a9 o3 c9] 60::kB b3 (V7 x1 a3 c3 a4 c4) 48::kR a9 o3 c9 5 1::O) w'∧RepS cU8 m11 a9 c9 o3∧P2 m11 a3 c3 a4 c4 x1.2.2) ?_ ?_
      ·have i:=j2;rintro _ w16 ⟨a9,c9,m11,rfl,q,g,r9,r3,r4⟩;refine qAg (W_sr (qAa 1 [(86,vT y2.1)] (qAb rfl (qDo 87 9 9 86 ((.const (vT b1c))) i fun s14 i=>(qAb rfl (qDt 88 32 #[vP b4 0,vT s14] kr rfl (W_cA Tryz.func32 rfl Tryz.ntmps32 (W_sr (qAd 2 [] (W_sr (qAa 1 [(6,vP b4 0)] (qAb rfl (qDt 7 79 #[vP b4 0] kr rfl ((qBw (c0:=(qEc true b4)) (R:=[vS a9 o3 c9]) (qIr true b4 kr) g).mono ?_))))))))))))));rintro _ w28 ⟨m19,rfl,e15,g⟩;refine⟨_,rfl,?_⟩;have g:St m19 (kB b4 #[.pointer (qEc true b4),vS a9 o3 c9] 60::kB b3 (V7 x1 a3 c3 a4 c4) 48::kR a9 o3 c9 5 1::O) w28:=g;refine WO_e (W_sr (qAa 4 [(8,vP b4 0),(11,vP b4 1)] (qAb rfl (qBx 12 58 11 1 (vS a9 o3 c9) g.h (qAa 1 [(13,vT s14)] (qAb rfl (qGu 14 58 9 5 1 12 13 g.f2 (.inr kr) (r9.mono e15) (Gives.str _) i fun l6 i a13 c13 m20 w29 e16 g r13=>(qAa 2 [(16,vP b4 1)] (qAb rfl (qEx 58 16 14 1 (vS a13 l6 c13) #[.pointer (qEc true b4),vS a13 l6 c13] g.f1 fun w30 g=>(WO_e (W_sr (qAd 4 [(4,vI (s14.size:Int)),(5,.nilIface)] (qAz (X_rt [4,5] [vI (s14.size:Int),.nilIface] (⟨_,rfl,?_⟩))))))))))))))));refine WO_e (W_sr (qAb rfl (qDt 89 36 #[vP b4 0] kr rfl (W_cA Tryz.func36 rfl Tryz.ntmps36 (W_sr (qAd 1 [] (qAr (qGk [(12,fun w'=>Inv m20 w'∧Piece.holds m20 w' (kB b4 #[.pointer (qEc true b4),vS a13 l6 c13] 60)∧True)] kr g fun w31 _ g=> ?_))))))));have hmS2:=m20.le_refl
       refine⟨⟨.inr ⟨Inv.anti g.inv hmS2,Piece.holds_anti g.h hmS2,trivial⟩,trivial⟩,?_⟩;refine qBn 0 3 (vP b4 0) (.head _) (qBn 1 4 (vP b4 0) (.head _) (qBn 2 5 (vP b4 1) (.head _) (qIs 58 5 3 6 1 (vS a13 l6 c13) (.head _) (fun _ h=>h.2.1) (qBn 5 8 (vP b4 0) (.head _) (qBn 6 9 (vP b4 0) (.head _) (qBn 7 10 (vP b4 1) (.head _) (qIs 58 10 8 11 1 (vS a13 l6 c13) (.head _) (fun _ h=>h.2.1) (qBn 9 12 (vI (l6.length:Int)) (.head _) ?_))))))));have⟨u3,d25,i⟩:=qAv i;have hne1:=zQd d25;refine qDi 4 kr (qVe (d:=7) (t:=58) (x:=(.tmp 6)) kr rfl (ev (vS a13 l6 c13)) r13 hne1 (⟨⟨.inr ⟨Inv.anti g.inv hmS2,Piece.holds_anti g.h hmS2,trivial⟩,trivial⟩,?_⟩));refine qDi 10 kr (qSf (d:=13) (pt:=118) (it:=3) (e:=5) (x:=(.tmp 7)) (y:=(.tmp 12)) kr rfl (ev (.pointer a13)) (ev (vI (l6.length:Int))) g.f1 r13 hne1 kr kr fun w32 g=>(⟨⟨.inr ⟨Inv.anti g.inv hmS2,Piece.holds_anti g.h hmS2,trivial⟩,trivial⟩,?_⟩));refine qBn 11 2 (vT (qKl l6)) (.head _) (qDm kr (qAg (qAz (X_rt [2] [vT (qKl l6)] (⟨_,rfl,?_⟩)))));refine qAd 2 [(4,vT (qKl l6)),(5,vI 0)] (qAz ?_);obtain rfl:=sI i;exact X_rt [4,5] [vT (qKl l6),vI 0] ⟨m20,rfl,(q.t e15).t e16,g.t.t⟩
      ·intro Ku2;refine qAt (W_sr (qAd 2 [(67,vB (x1.1==1))] (W_if i ?_ ?_)))
       ·intro A i;refine qGk [(10,fun w'=>Inv m7 w'∧Piece.holds m7 w' (kB b3 (V7 x1 a3 c3 a4 c4) 48)∧True)] kr g fun w17 _ g=> ?_;have hmS1:=m7.le_refl;refine⟨⟨.inr ⟨Inv.anti g.inv hmS1,Piece.holds_anti g.t.h hmS1,trivial⟩,trivial⟩,?_⟩;refine qBn 0 69 (vP b3 1) (.head _) (qIs 9 69 1 70 1 (vT x1.2.1) (.head _) (fun _ h=>h.2.1) (qHe 9 9 ((.const (vT (⟨#[102,117,110,99,32]⟩:ByteArray)))) 70 2 71 (.head _) i fun s6 i=>(qHe 9 9 71 ((.const (vT bu))) 3 72 (.head _) i fun s7 i=>(qBn 4 73 (vP b3 2) (.head _) (qIs 22 73 5 74 2 (vS a3 x1.2.2.1 c3) (.head _) (fun _ h=>h.2.1) (qDi 6 kr (qIb 75 i (fun _ h=>qZp g r3 h) ?_)))))));rintro y3 i _ w18 ⟨m12,rfl,e8,g⟩;refine⟨_,rfl,?_⟩;have hmS1:=Mem.le_trans hmS1 e8;refine⟨⟨.inr ⟨Inv.anti g.inv hmS1,Piece.holds_anti g.t.h hmS1,trivial⟩,trivial⟩,?_⟩;refine qHe 9 9 72 75 7 76 (.head _) i fun s8 i=> ?_;refine qHe 9 9 76 ((.const (vT (⟨#[41,32,61,32]⟩:ByteArray)))) 8 77 (.head _) i fun s9 i=> ?_;refine qDi 9 kr (qDt 78 32 #[vP b4 0,vT s9] kr rfl (W_cA Tryz.func32 rfl Tryz.ntmps32 (W_sr (qAd 2 [] (W_sr (qAa 1 [(6,vP b4 0)] (qAb rfl (qDt 7 79 #[vP b4 0] kr rfl ((qBw (c0:=(qEc true b4)) (R:=[vS a6 o2 c6]) (qIr true b4 kr) g).mono ?_)))))))));rintro _ w19 ⟨m13,rfl,e9,g⟩;refine⟨_,rfl,?_⟩;have hmS1:=Mem.le_trans hmS1 e9
        have g:St m13 (kB b4 #[.pointer (qEc true b4),vS a6 o2 c6] 60::kB b3 (V7 x1 a3 c3 a4 c4) 48::kR a6 o2 c6 5 1::O) w19:=g;refine WO_e (W_sr (qAa 4 [(8,vP b4 0),(11,vP b4 1)] (qAb rfl (qBx 12 58 11 1 (vS a6 o2 c6) g.h (qAa 1 [(13,vT s9)] (qAb rfl (qGu 14 58 9 5 1 12 13 g.f2 (.inr kr) ((r6.mono e8).mono e9) (Gives.str _) i fun l3 i a10 c10 m14 w20 e10 g r10=> ?_)))))));have hmS1:=Mem.le_trans hmS1 e10;refine qAa 2 [(16,vP b4 1)] (qAb rfl (qEx 58 16 14 1 (vS a10 l3 c10) #[.pointer (qEc true b4),vS a10 l3 c10] g.f1 fun w21 g=>(WO_e (W_sr (qAd 4 [(4,vI (s9.size:Int)),(5,.nilIface)] (qAz (X_rt [4,5] [vI (s9.size:Int),.nilIface] (⟨_,rfl,?_⟩))))))));refine⟨⟨.inr ⟨Inv.anti g.inv hmS1,Piece.holds_anti g.t.t.h hmS1,trivial⟩,trivial⟩,?_⟩;refine qDm kr ?_;refine qBj ?_;cases i;exact xE (Ku2 _ _ ⟨a10,c10,m14,rfl,((q.t e8).t e9).t e10,g.f1.f2.f2,r10,((r3.mono e8).mono e9).mono e10,((r4.mono e8).mono e9).mono e10⟩)
       ·intro A i;refine W_sr (qAd 2 [(79,vB (x1.1==2))] (W_if i ?_ ?_))
        ·intro A i;refine qAo (qCx 1 82 9 81 1 (vT x1.2.1) g.t.h (qAb rfl (qDo 83 9 9 ((.const (vT (⟨#[116,101,115,116,32]⟩:ByteArray)))) 82 i fun s10 i=>(qAb rfl (qDo 84 9 9 83 ((.const (vT (⟨#[32,61,32]⟩:ByteArray)))) i fun s11 i=>(qAb rfl (qDt 85 32 #[vP b4 0,vT s11] kr rfl (W_cA Tryz.func32 rfl Tryz.ntmps32 (W_sr (qAd 2 [] (W_sr (qAa 1 [(6,vP b4 0)] (qAb rfl (qDt 7 79 #[vP b4 0] kr rfl ((qBw (c0:=(qEc true b4)) (R:=[vS a6 o2 c6]) (qIr true b4 kr) g).mono ?_)))))))))))))));rintro _ w22 ⟨m15,rfl,e11,g⟩;refine⟨_,rfl,?_⟩;have g:St m15 (kB b4 #[.pointer (qEc true b4),vS a6 o2 c6] 60::kB b3 (V7 x1 a3 c3 a4 c4) 48::kR a6 o2 c6 5 1::O) w22:=g;refine WO_e (W_sr (qAa 4 [(8,vP b4 0),(11,vP b4 1)] (qAb rfl (qBx 12 58 11 1 (vS a6 o2 c6) g.h (qAa 1 [(13,vT s11)] (qAb rfl (qGu 14 58 9 5 1 12 13 g.f2 (.inr kr) (r6.mono e11) (Gives.str _) i fun l4 i a11 c11 m16 w23 e12 g r11=>(qAa 2 [(16,vP b4 1)] (qAb rfl (qEx 58 16 14 1 (vS a11 l4 c11) #[.pointer (qEc true b4),vS a11 l4 c11] g.f1 fun w24 g=>(WO_e (W_sr (qAd 4 [(4,vI (s11.size:Int)),(5,.nilIface)] (qAz (X_rt [4,5] [vI (s11.size:Int),.nilIface] (⟨_,rfl,?_⟩))))))))))))))));refine qBa rfl (qBj ?_);cases i;exact xE (Ku2 _ _ ⟨a11,c11,m16,rfl,(q.t e11).t e12,g.f1.f2.f2,r11,(r3.mono e11).mono e12,(r4.mono e11).mono e12⟩)
        ·intro A i;refine qAo (qCx 1 63 9 62 1 (vT x1.2.1) g.t.h (qAb rfl (qDo 64 9 9 ((.const (vT (⟨#[103,101,110,32,34]⟩:ByteArray)))) 63 i fun s12 i=>(qAb rfl (qDo 65 9 9 64 ((.const (vT (⟨#[34,32,61,32]⟩:ByteArray)))) i fun s13 i=>(qAb rfl (qDt 66 32 #[vP b4 0,vT s13] kr rfl (W_cA Tryz.func32 rfl Tryz.ntmps32 (W_sr (qAd 2 [] (W_sr (qAa 1 [(6,vP b4 0)] (qAb rfl (qDt 7 79 #[vP b4 0] kr rfl ((qBw (c0:=(qEc true b4)) (R:=[vS a6 o2 c6]) (qIr true b4 kr) g).mono ?_)))))))))))))));rintro _ w25 ⟨m17,rfl,e13,g⟩;refine⟨_,rfl,?_⟩;have g:St m17 (kB b4 #[.pointer (qEc true b4),vS a6 o2 c6] 60::kB b3 (V7 x1 a3 c3 a4 c4) 48::kR a6 o2 c6 5 1::O) w25:=g;refine WO_e (W_sr (qAa 4 [(8,vP b4 0),(11,vP b4 1)] (qAb rfl (qBx 12 58 11 1 (vS a6 o2 c6) g.h (qAa 1 [(13,vT s13)] (qAb rfl (qGu 14 58 9 5 1 12 13 g.f2 (.inr kr) (r6.mono e13) (Gives.str _) i fun l5 i a12 c12 m18 w26 e14 g r12=>(qAa 2 [(16,vP b4 1)] (qAb rfl (qEx 58 16 14 1 (vS a12 l5 c12) #[.pointer (qEc true b4),vS a12 l5 c12] g.f1 fun w27 g=>(WO_e (W_sr (qAd 4 [(4,vI (s13.size:Int)),(5,.nilIface)] (qAz (X_rt [4,5] [vI (s13.size:Int),.nilIface] (⟨_,rfl,?_⟩))))))))))))))));refine qBa rfl (qBj ?_);cases i;exact xE (Ku2 _ _ ⟨a12,c12,m18,rfl,(q.t e13).t e14,g.f1.f2.f2,r12,(r3.mono e13).mono e14,(r4.mono e13).mono e14⟩)
     intro K0_u1;refine qFh _ kr (qCz (fun k1 L' w'=>∃(s3:Int×T1b),∃a7 c7 m8,qAs (qJe N p0) k1 s3=some out1∧L'=[(7,vP b3 0),(8,vT y2.1),(10,vP b4 0),(49,vS a1 p0.2.1 c1),(50,vI (p0.2.1.length:Int)),(51,vI s3.1)]∧m.le m8∧St m8 (kB b4 #[.pointer (qEc true b4),vS a7 s3.2 c7] 60::kB b3 (V7 x1 a3 c3 a4 c4) 48::kR a7 s3.2 c7 5 1::O) w'∧RepS cStr m8 a1 c1 p0.2.1∧RepS cU8 m8 a7 c7 s3.2∧P2 m8 a3 c3 a4 c4 x1.2.2) N ⟨(0,l1),a5,c5,m6,i,rfl,((q.t e3).t e4).t e5,g.f1.f2.f2,((r1.mono e3).mono e4).mono e5,r5,((r3.mono e3).mono e4).mono e5,((r4.mono e3).mono e4).mono e5⟩ ?_);rintro k1 _ w12 ⟨s3,a7,c7,m8,hL,rfl,q,g,r1,r7,r3,r4⟩;rcases k1 with _|k1
     ·exact qBh hL
     ·obtain⟨qu1,i,hSu1,hBu1⟩:=qBf hL;clear hL;unfold qJe at i;refine W_sr (qAd 1 [(52,vB (decide (s3.1<(p0.2.1.length:Int))))] (qAr (W_if i ?_ ?_)))
      ·intro A i;refine qAp (qAg (qAr (qAt (W_sr (qAb rfl (qCy 53 22 9 49 51 r1 i ?_))))));rintro x2 i b5 f2 cs2 rfl hq2;refine qDu 54 9 53 f2 (vT x2) g hq2 (qAd 1 [(12,vT x2)] (qAo (qAa 1 [(55,vT x2)] (qAb rfl (qDo 56 9 9 ((.const (vT b1l))) 55 i fun s4 i=>(qAb rfl (qDo 57 9 9 56 ((.const (vT b1c))) i fun s5 i=>(qAb rfl (qDt 58 32 #[vP b4 0,vT s5] kr rfl (W_cA Tryz.func32 rfl Tryz.ntmps32 (W_sr (qAd 2 [] (W_sr (qAa 1 [(6,vP b4 0)] (qAb rfl (qDt 7 79 #[vP b4 0] kr rfl ((qBw (c0:=(qEc true b4)) (R:=[vS a7 s3.2 c7]) (qIr true b4 kr) g).mono ?_)))))))))))))))));rintro _ w13 ⟨m9,rfl,e6,g⟩;refine⟨_,rfl,?_⟩;have g:St m9 (kB b4 #[.pointer (qEc true b4),vS a7 s3.2 c7] 60::kB b3 (V7 x1 a3 c3 a4 c4) 48::kR a7 s3.2 c7 5 1::O) w13:=g;refine WO_e (W_sr (qAa 4 [(8,vP b4 0),(11,vP b4 1)] (qAb rfl (qBx 12 58 11 1 (vS a7 s3.2 c7) g.h (qAa 1 [(13,vT s5)] (qAb rfl (qGu 14 58 9 5 1 12 13 g.f2 (.inr kr) (r7.mono e6) (Gives.str _) i fun l2 i a8 c8 m10 w14 e7 g r8=>(qAa 2 [(16,vP b4 1)] (qAb rfl (qEx 58 16 14 1 (vS a8 l2 c8) #[.pointer (qEc true b4),vS a8 l2 c8] g.f1 fun w15 g=>(WO_e (W_sr (qAd 4 [(4,vI (s5.size:Int)),(5,.nilIface)] (qAz (X_rt [4,5] [vI (s5.size:Int),.nilIface] (⟨_,rfl,?_⟩))))))))))))))));refine qBa rfl (qBj (qAg (qAo (qAa 2 [(51,vI (wr (s3.1+1)))] (qBa rfl ?_)))));obtain rfl:=sI i
       have hL:=hSu1 _ rfl;exact xE (qCg k1 (jG _) ⟨(wr (s3.1+1),l2),a8,c8,m10,hL,rfl,(q.t e6).t e7,g.f1.f2.f2,(r1.mono e6).mono e7,r8,(r3.mono e6).mono e7,(r4.mono e6).mono e7⟩)
      ·intro A i;refine qCt (qAf ?_);cases i;have ho:=hBu1 _ rfl;have g:=g.f2.f2.f2;refine qAf ?_;exact xE (K0_u1 _ _ ⟨s3.2,a7,c7,m8,ho,rfl,q,g,r7,r3,r4⟩)
  ·intro K;refine qAa 3 [(20,vB (decide (p1<0)))] (qCb 20 i ?_ ?_)
   ·intro A i;refine qAa 6 [(26,vB true)] ?_;cases i;exact qAq _ kr (K _ _ ⟨m2,rfl,q,g,hb1,r1.mono e2,r2.mono e2⟩)
   ·intro A i;refine qAa 2 [(21,vI p1),(22,vP b1 2)] (qAb rfl (qAn (d:=23) (t:=23) (x:=(.tmp 22)) (vS a2 p0.2.2 c2) kr rfl (ev (vP b1 2)) g (hb1.drop 2) kr (qAa 3 [(26,vB (decide (p1≥(p0.2.2.length:Int))))] ?_)));cases i;exact qAq _ kr (K _ _ ⟨m2,rfl,q,g,hb1,r1.mono e2,r2.mono e2⟩)
def qFj(N:Nat)(p0:T9)(p1:Int)(s1:Int):T19:=
 if(decide (s1<(List.length p0:Int)))=true then((idx p0 s1).bind fun x1=>if(p1==x1)=true then(some (.inr (.inr (s1)))) else(some (.inl (IntKind.wrap .i64 (s1+1))))) else(some (.inr (.inl ())))
def qKc(N:Nat)(p0:T9)(p1:Int):T8:=
 (qAs (qFj N p0 p1) N 0).bind fun out1=>(match out1 with| .inl o1=>some (-1)| .inr (z)=>some z)
theorem qRh{p0:T9}{p1:Int}{r:Int}(g:St m (O) w)(r1:RepS (cInt .i64) m a1 c1 p0)(i:qKc N p0 p1=some r):Calls Tryz.prog 160 #[vS a1 p0 c1,vI p1] w fun e w'=>∃m',e= .returned (vI r)∧m.le m'∧St m' (O) w':=by
 unfold qKc at i;have q:=m.le_refl;refine W_cA Tryz.func160 rfl Tryz.ntmps160 ?_;refine W_sr (qAd 1 [] (qAr (W_sr (qAd 3 [(7,vI (p0.length:Int)),(8,vI 0)] (qAt ?_)))));have⟨out1,i,j1⟩:=qAv i;refine qCl (.exit 0) (fun L' w'=>∃(o1:Unit),∃m1,(.inl o1)=out1∧L'=[]∧m.le m1∧St m1 (O) w') ?_ ?_
 ·rintro _ w1 ⟨o1,m1,rfl,rfl,q,g⟩;have i:=j1;refine qBg (qAg (W_sr (qAd 1 [(4,vI (-1))] (qAz ?_))));cases i;exact X_rt [4] [vI (-1)] ⟨m1,rfl,q,g⟩
 intro K0_u1;refine qFh _ kr (qCz (fun k1 L' w'=>∃(s1:Int),∃m2,qAs (qFj N p0 p1) k1 s1=some out1∧L'=[(0,vS a1 p0 c1),(1,vI p1),(7,vI (p0.length:Int)),(8,vI s1)]∧m.le m2∧St m2 (O) w'∧RepS (cInt .i64) m2 a1 c1 p0) N ⟨0,m,i,rfl,q,g,r1⟩ ?_);rintro k1 _ w2 ⟨s1,m2,hL,rfl,q,g,r1⟩;rcases k1 with _|k1
 ·exact qBh hL
 ·obtain⟨qu1,i,hSu1,hBu1⟩:=qBf hL;clear hL;unfold qFj at i;refine W_sr (qAd 1 [(9,vB (decide (s1<(p0.length:Int))))] (qAr (W_if i ?_ ?_)))
  ·intro A i;refine qAp (qAg (qAr (qAt (W_sr (qAd 2 [(5,vI s1)] (W_sr (qAa 3 [(11,vI p1),(12,vS a1 p0 c1),(13,vI s1)] (qAb rfl (qCy 14 32 3 12 13 r1 i ?_)))))))));rintro x1 i b1 f1 cs1 rfl hq1;refine qDu 15 3 14 f1 (vI x1) g hq1 (qAd 1 [(16,vB (p1==x1))] (W_if i ?_ ?_))
   ·intro A i;refine W_sr (qAd 2 [(4,vI s1)] (qAz (qAe (qAc ?_))));obtain rfl:=sI i;have ho:=hBu1 _ rfl;subst ho;have i:=j1;refine qAc (qAe (qAc ?_));obtain rfl:=sI i;exact X_rt [4] [vI s1] ⟨m2,rfl,q,g⟩
   ·intro A i;refine qAp (qBj (qAg (qAo (qAa 2 [(8,vI (wr (s1+1)))] (qBa rfl ?_)))));obtain rfl:=sI i;have hL:=hSu1 _ rfl;exact xE (qCg k1 (jG _) ⟨wr (s1+1),m2,hL,rfl,q,g,r1⟩)
  ·intro A i;refine qCt (qAf ?_);cases i;have ho:=hBu1 _ rfl;refine qAf ?_;exact xE (K0_u1 _ _ ⟨(),m2,ho,rfl,q,g⟩)
def qGy(N:Nat)(p0:T9)(p1:Int):Te:=
 (qKc N p0 p1).bind fun y1=>some (decide (y1≥0))
theorem qQb{p0:T9}{p1:Int}{r:Bool}(g:St m (O) w)(r1:RepS (cInt .i64) m a1 c1 p0)(i:qGy N p0 p1=some r):Calls Tryz.prog 142 #[vS a1 p0 c1,vI p1] w fun e w'=>∃m',e= .returned (vB r)∧m.le m'∧St m' (O) w':=by
 unfold qGy at i;have q:=m.le_refl;refine W_cA Tryz.func142 rfl Tryz.ntmps142 ?_;refine W_sr (qAd 1 [] (W_sr (qAa 2 [(5,vS a1 p0 c1),(6,vI p1)] (qAl 7 i (fun _ h=>qRh g r1 h) ?_))));rintro y1 i _ w1 ⟨m1,rfl,e1,g⟩;refine qAd 2 [(4,vB (decide (y1≥0)))] (qAz ?_);obtain rfl:=sI i;exact X_rt [4] [vB (decide (y1≥0))] ⟨m1,rfl,q.t e1,g⟩
def zAo:Go.Shelf.Ren:=⟨fun|190=>158|125=>167|258=>166|128=>187|129=>188|302=>178|303=>179|304=>180|305=>181|306=>182|307=>183|308=>184|309=>185|310=>186|333=>198|329=>199|330=>200|334=>201|335=>202|336=>203|344=>210|n=>n,fun|31=>22|9=>9|3=>3|46=>173|0=>0|51=>192|53=>158|4=>4|183=>185|182=>184|131=>189|5=>5|218=>200|222=>204|228=>206|229=>207|n=>n,fun|n=>n⟩
theorem zLj:Go.Proofs.Lays.n190 Tryz.prog zAo where
 mixed:=kr
 f125:=Tryz.func167.trans (congrArg some kr)
 f128:=Tryz.func187.trans (congrArg some kr)
 f129:=Tryz.func188.trans (congrArg some kr)
 f190:=Tryz.func158.trans (congrArg some kr)
 f258:=Tryz.func166.trans (congrArg some kr)
 f302:=Tryz.func178.trans (congrArg some kr)
 f303:=Tryz.func179.trans (congrArg some kr)
 f304:=Tryz.func180.trans (congrArg some kr)
 f305:=Tryz.func181.trans (congrArg some kr)
 f306:=Tryz.func182.trans (congrArg some kr)
 f307:=Tryz.func183.trans (congrArg some kr)
 f308:=Tryz.func184.trans (congrArg some kr)
 f309:=Tryz.func185.trans (congrArg some kr)
 f310:=Tryz.func186.trans (congrArg some kr)
 f329:=Tryz.func199.trans (congrArg some kr)
 f330:=Tryz.func200.trans (congrArg some kr)
 f333:=Tryz.func198.trans (congrArg some kr)
 f334:=Tryz.func201.trans (congrArg some kr)
 f335:=Tryz.func202.trans (congrArg some kr)
 f336:=Tryz.func203.trans (congrArg some kr)
 f344:=Tryz.func210.trans (congrArg some kr)
 t0:=Tryz.underlying0
 a0:=Tryz.isAgg0
 z0:=Tryz.sizeOf0
 v0:=Tryz.zeroValue0
 t3:=Tryz.underlying3
 a3:=Tryz.isAgg3
 z3:=Tryz.sizeOf3
 v3:=Tryz.zeroValue3
 t4:=Tryz.underlying4
 a4:=Tryz.isAgg4
 z4:=Tryz.sizeOf4
 v4:=Tryz.zeroValue4
 t5:=Tryz.underlying5
 a5:=Tryz.isAgg5
 z5:=Tryz.sizeOf5
 v5:=Tryz.zeroValue5
 t9:=Tryz.underlying9
 a9:=Tryz.isAgg9
 z9:=Tryz.sizeOf9
 v9:=Tryz.zeroValue9
 t31:=Tryz.underlying22
 a31:=Tryz.isAgg22
 z31:=Tryz.sizeOf22
 v31:=Tryz.zeroValue22
 t46:=Tryz.underlying173
 a46:=Tryz.isAgg173
 z46:=Tryz.sizeOf173
 v46:=Tryz.zeroValue173
 t51:=Tryz.underlying192
 a51:=Tryz.isAgg192
 z51:=Tryz.sizeOf192
 v51:=Tryz.zeroValue192
 t53:=Tryz.underlying158
 a53:=Tryz.isAgg158
 z53:=Tryz.sizeOf158
 v53:=Tryz.zeroValue158
 t131:=Tryz.underlying189
 a131:=Tryz.isAgg189
 z131:=Tryz.sizeOf189
 v131:=Tryz.zeroValue189
 t182:=Tryz.underlying184
 a182:=Tryz.isAgg184
 z182:=Tryz.sizeOf184
 v182:=Tryz.zeroValue184
 t183:=Tryz.underlying185
 a183:=Tryz.isAgg185
 z183:=Tryz.sizeOf185
 v183:=Tryz.zeroValue185
 t218:=Tryz.underlying200
 a218:=Tryz.isAgg200
 z218:=Tryz.sizeOf200
 v218:=Tryz.zeroValue200
 t222:=Tryz.underlying204
 a222:=Tryz.isAgg204
 z222:=Tryz.sizeOf204
 v222:=Tryz.zeroValue204
 t228:=Tryz.underlying206
 a228:=Tryz.isAgg206
 z228:=Tryz.sizeOf206
 v228:=Tryz.zeroValue206
 t229:=Tryz.underlying207
 a229:=Tryz.isAgg207
 z229:=Tryz.sizeOf207
 v229:=Tryz.zeroValue207
def qCs(_:Nat)(l:T6):T7:=if l.length<4611686018427387904 then some (qQw l) else none
theorem qMy{l r:T6}(h:qCs N l=some r):r.length=l.length:=by
 unfold qCs at h
 split at h
 ·simp only[jJ] at h;subst h;exact zGe l
 ·cases h
theorem qNf{a:Option Addr}{nn cc:Nat}{T:List Value}{l r:T6}{e:TypeId}(g:St m (opc a (qBk (fun x:ByteArray=>([vT x]:List Value)) l T) e::O) w)(hs:OAS a nn cc 1 T)(hn:List.length l=nn)(h:qCs N l=some r):
  Calls Tryz.prog 158 #[.slice a nn cc] w fun e' w'=>e'= .returned (.tuple #[])∧St m (opc a (qBk (fun x:ByteArray=>([vT x]:List Value)) r T) e::O) w':=by
 unfold qCs at h
 split at h
 ·rename_i hlen
  simp only[jJ] at h;subst h;subst hn;exact zHp zLj g hs hlen
 ·cases h
end
section
open Go Go.Dc
set_option maxHeartbeats 4000000
set_option maxRecDepth 100000
variable {N c1 c2 c3 c4:Nat} {m:Mem} {O:List Piece} {w:World} {a1 a2 a3 a4:Option Addr}
def qIl(N:Nat)(p0:Tv)(p1:T9)(s1:T1h):Option (T1h⊕T6):=
 if(decide (s1.2<(List.length p0.2.2.2:Int)))=true then(((idx p0.2.2.2 s1.2).bind fun x1=>(qGy N p1 x1.1).bind fun y1=>if y1=true then((qCn 16 s1.1 ([x1.2.2.2.1])).bind fun l1=>some l1) else(some s1.1):T7).bind fun o3=>some (.inl (o3,IntKind.wrap .i64 (s1.2+1)))) else(some (.inr s1.1))
def qFf(N:Nat)(y2:T6)(s2:Int)(s3:Int×T1e):Option (Int×T1e⊕T1e):=
 if(decide (s3.2.1<((Int.toNat (List.length y2:Int)-Int.toNat s2:Nat):Int)))=true then(((idx (List.drop (Int.toNat s2) (List.take (Int.toNat (List.length y2:Int)) s3.2.2)) s3.2.1).bind fun x4=>(idx (List.drop (Int.toNat s2) (List.take (Int.toNat (List.length y2:Int)) s3.2.2)) (IntKind.wrap .i64 (s3.2.1-1))).bind fun x5=>if(!(x4.toList==x5.toList))=true then((idx (List.drop (Int.toNat s2) (List.take (Int.toNat (List.length y2:Int)) s3.2.2)) s3.2.1).bind fun x6=>(idx s3.2.2 s3.1).bind fun x7=>some (IntKind.wrap .i64 (s3.1+1),List.set s3.2.2 (Int.toNat s3.1) x6)) else(some (s3.1,s3.2.2)):Option T1e).bind fun o7=>some (.inl (o7.1,IntKind.wrap .i64 (s3.2.1+1),o7.2))) else(some (.inr (s3.1,s3.2.2)))
def qHf(N:Nat)(o2:T6)(y2:T6)(s2:Int):Option (Int⊕Unit⊕T6):=
 if(decide (s2<((List.length o2):Int)))=true then((idx y2 s2).bind fun x2=>(idx y2 (IntKind.wrap .i64 (s2-1))).bind fun x3=>if(x2.toList==x3.toList)=true then((chkS y2 s2 (List.length y2:Int)).bind fun u6=>(qAs (qFf N y2 s2) N (s2,1,y2)).bind fun o6=>(chkS o6.2 o6.1 (List.length o6.2:Int)).bind fun u9=>(zAd o6.2 o6.1 (⟨#[]⟩:ByteArray)).bind fun l2=>(chkS l2 0 o6.1).bind fun u10=>some (.inr (.inr (List.take (Int.toNat o6.1) l2)))) else(some (.inl (IntKind.wrap .i64 (s2+1))))) else(some (.inr (.inl ())))
def qLv(N:Nat)(p0:Tv)(p1:T9):T7:=
 ((qAs (qIl N p0 p1) N (([]:T6),0)).bind fun o2=>(qCs N o2).bind fun y2=>(if(decide (((List.length o2):Int)<2))=true then(some y2) else((qAs (qHf N o2 y2) N 1).bind fun out2=>(match out2 with| .inl o5=>some y2| .inr (z)=>some z)):T7).bind fun o4=>some o4:T7).bind fun o1=>some o1
theorem qSi{p0:Tv}{p1:T9}{r:T6}(g:St m (O) w)(r1:RepS cStr m a1 c1 p0.2.2.1)(r2:RepS C3 m a2 c2 p0.2.2.2)(r3:RepS (cInt .i64) m a3 c3 p1)(i:qLv N p0 p1=some r):Calls Tryz.prog 106 #[.agg (V7 p0 a1 c1 a2 c2),vS a3 p1 c3] w fun e w'=>∃ra1 rc1 m',e= .returned (vS ra1 r rc1)∧m.le m'∧St m' (kR ra1 r rc1 9 1::O) w'∧RepS cStr m' ra1 rc1 r:=by
 unfold qLv at i;have q:=m.le_refl;refine W_cA Tryz.func106 rfl Tryz.ntmps106 ?_;refine W_sr (qAb rfl (qKv 2 48 0 (.agg (V7 p0 a1 c1 a2 c2)) g fun b1 m1 w1 e1 g hb1=>(qAb rfl (qYd 3 32 1 (vS a3 p1 c3) g fun b2 w2 g=>(qAd 1 [] (W_sr (qAa 1 [(5,vP b1 3)] (qAb rfl (qAn (d:=6) (t:=46) (x:=(.tmp 5)) (vS a2 p0.2.2.2 c2) kr rfl (ev (vP b1 3)) g (hb1.drop 3) kr (qAa 1 [(7,.func (.func 141) #[] #[vP b2 0])] ?_))))))))));have⟨o1,i,j1⟩:=qAv i;refine qAb rfl (qDt 8 140 #[vS a2 p0.2.2.2 c2,.func (.func 141) #[] #[vP b2 0]] kr rfl (qYl (fun v' w'=>∃a4 c4 m3,v'=(vS a4 o1 c4)∧m.le m3∧St m3 (kB b2 #[vS a3 p1 c3] 32::kR a4 o1 c4 9 1::O) w'∧RepS cStr m3 a4 c4 o1∧MRow m3 b1 0 (Vb p0 a1 c1 a2 c2)∧RepS cStr m3 a1 c1 p0.2.2.1∧RepS C3 m3 a2 c2 p0.2.2.2∧RepS (cInt .i64) m3 a3 c3 p1) ?_ ?_))
 ·have i:=j1;rintro _ w3 ⟨a4,c4,m3,rfl,q,g,r4,hb1,r1,r2,r3⟩;refine⟨_,rfl,?_⟩;refine qAd 1 [(4,vS a4 o1 c4)] (qAz ?_);obtain rfl:=sI i;exact X_rt [4] [vS a4 o1 c4] ⟨a4,c4,m3,rfl,q,g.t,r4⟩
 ·refine W_cA Tryz.func140 rfl Tryz.ntmps140 ?_;refine W_sr (qAd 1 [] (W_sr (qAd 1 [(5,v1)] (qAr (W_sr (qAd 3 [(10,vS a2 p0.2.2.2 c2),(11,vI (p0.2.2.2.length:Int)),(12,vI 0)] (qAt ?_)))))));have g:=zDu (f:=(fun x:ByteArray=>([vT x]:List Value))) (g.nilroom 9 1);have⟨out1,i,j2⟩:=qAv i;refine qCl (.exit 0) (fun L' w'=>∃(o2:T6),∃a5 c5 T1 m4,o2=out1∧L'=[(5,vS a5 o2 c5)]∧m.le m4∧St m4 (kB b2 #[vS a3 p1 c3] 32::opc a5 (qBk (fun x:ByteArray=>([vT x]:List Value)) o2 T1) 9::O) w'∧MRow m4 b1 0 (Vb p0 a1 c1 a2 c2)∧RepS cStr m4 a1 c1 p0.2.2.1∧RepS C3 m4 a2 c2 p0.2.2.2∧RepS (cInt .i64) m4 a3 c3 p1∧OAS a5 o2.length c5 1 T1) ?_ ?_
  ·rintro _ w4 ⟨o2,a5,c5,T1,m4,rfl,rfl,q,g,hb1,r1,r2,r3,hs1⟩;have i:=j2;refine qBg (qAg (W_sr (qAa 1 [(28,vS a5 o2 c5)] ?_)));have⟨y2,d4,i⟩:=qAv i;have g:=g.f1;refine qAb rfl (qDt 29 158 #[vS a5 o2 c5] kr rfl ((qNf g hs1 rfl d4).mono ?_));rintro _ w14 ⟨rfl,g⟩;refine⟨_,rfl,?_⟩;have hn1:=((qMy d4).trans rfl);refine WO_e (W_sr (qAa 1 [(30,vS a5 o2 c5)] ?_));have⟨o4,i,j4⟩:=qAv i;refine qAb rfl (qDt 31 159 #[vS a5 o2 c5] kr rfl (qYl (fun v' w'=>∃a11 c11 m11,v'=(vS a11 o4 c11)∧m.le m11∧St m11 (kB b2 #[vS a3 p1 c3] 32::kR a11 o4 c11 9 1::O) w'∧RepS cStr m11 a11 c11 o4∧MRow m11 b1 0 (Vb p0 a1 c1 a2 c2)∧RepS cStr m11 a1 c1 p0.2.2.1∧RepS C3 m11 a2 c2 p0.2.2.2∧RepS (cInt .i64) m11 a3 c3 p1) ?_ ?_))
   ·have i:=j4;rintro _ w15 ⟨a11,c11,m11,rfl,q,g,r8,hb1,r1,r2,r3⟩;refine⟨_,rfl,?_⟩;refine qAd 1 [(4,vS a11 o4 c11)] (qAz ?_);obtain rfl:=sI i;exact X_rt [4] [vS a11 o4 c11] ⟨_,rfl,⟨a11,c11,m11,rfl,q,g.f1.f1,r8,hb1,r1,r2,r3⟩⟩
   ·refine W_cA Tryz.func159 rfl Tryz.ntmps159 ?_;refine W_sr (qAd 1 [] (qAr (W_sr (qAd 3 [(8,vB (decide ((o2.length:Int)<2)))] (W_if i ?_ ?_)))))
    ·intro A i;refine W_sr (qAd 2 [(2,vS a5 o2 c5)] (qAz (qAc ?_)));obtain rfl:=sI i;obtain⟨m12,e7,g,r9⟩:=St.freezeM (c:=cStr) (f:=(fun x:ByteArray=>([vT x]:List Value))) g hs1 hn1 (fun _=>rfl) (fun _ x=>rfl);refine zAy [(2,vS a5 y2 c5)] (by(try simp only[vS,hn1]);kernel_rfl) ?_;exact X_rt [2] [vS a5 y2 c5] ⟨_,rfl,⟨a5,c5,m12,rfl,q.t e7,g.f1,r9,hb1.mono e7,r1.mono e7,r2.mono e7,r3.mono e7⟩⟩
    ·intro A i;refine qAp (qAg (qAr (W_sr (qAd 1 [(3,vI 1)] (qAt ?_)))));have⟨out2,i,j5⟩:=qAv i;refine qCl (.exit 0) (fun L' w'=>∃(o5:Unit),∃m13,(.inl o5)=out2∧L'=[(0,vS a5 o2 c5)]∧m.le m13∧St m13 (kB b2 #[vS a3 p1 c3] 32::opc a5 (qBk (fun x:ByteArray=>([vT x]:List Value)) y2 T1) 9::O) w'∧MRow m13 b1 0 (Vb p0 a1 c1 a2 c2)∧RepS cStr m13 a1 c1 p0.2.2.1∧RepS C3 m13 a2 c2 p0.2.2.2∧RepS (cInt .i64) m13 a3 c3 p1∧List.length y2=o2.length) ?_ ?_
     ·rintro _ w16 ⟨o5,m13,rfl,rfl,q,g,hb1,r1,r2,r3,hn1⟩;have i:=j5;refine qBg (qAg (W_sr (qAd 2 [(2,vS a5 o2 c5)] (qAz ?_))));obtain rfl:=sI i;have g:=g.f1;obtain⟨m19,e9,g,r11⟩:=St.freezeM (c:=cStr) (f:=(fun x:ByteArray=>([vT x]:List Value))) g hs1 hn1 (fun _=>rfl) (fun _ x=>rfl);refine zAy [(2,vS a5 y2 c5)] (by(try simp only[vS,hn1]);kernel_rfl) ?_;exact X_rt [2] [vS a5 y2 c5] ⟨_,rfl,⟨a5,c5,m19,rfl,q.t e9,g.f1,r11,hb1.mono e9,r1.mono e9,r2.mono e9,r3.mono e9⟩⟩
     intro K0_u5;refine qFh _ kr (qCz (fun k2 L' w'=>∃(s2:Int),∃m14,qAs (qHf N o2 y2) k2 s2=some out2∧L'=[(0,vS a5 o2 c5),(3,vI s2)]∧m.le m14∧St m14 (kB b2 #[vS a3 p1 c3] 32::opc a5 (qBk (fun x:ByteArray=>([vT x]:List Value)) y2 T1) 9::O) w'∧MRow m14 b1 0 (Vb p0 a1 c1 a2 c2)∧RepS cStr m14 a1 c1 p0.2.2.1∧RepS C3 m14 a2 c2 p0.2.2.2∧RepS (cInt .i64) m14 a3 c3 p1∧List.length y2=o2.length) N ⟨1,m4,i,rfl,q,g.f1,hb1,r1,r2,r3,hn1⟩ ?_);rintro k2 _ w17 ⟨s2,m14,hL,rfl,q,g,hb1,r1,r2,r3,hn1⟩;rcases k2 with _|k2
     ·exact qBh hL
     ·obtain⟨qu5,i,hSu5,hBu5⟩:=qBf hL;clear hL;unfold qHf at i;refine qAr (W_sr (qAd 4 [(13,vB (decide (s2<(o2.length:Int))))] (W_if i ?_ ?_)))
      ·intro A i;refine qAp (qAg (qAr (qAt (qAr (qGk [(10,fun w'=>Inv m14 w'∧Piece.holds m14 w' (opc a5 (qBk (fun x:ByteArray=>([vT x]:List Value)) y2 T1) 9)∧True)] kr g fun w18 _ g=> ?_)))));have hmS2:=m14.le_refl;refine⟨⟨.inr ⟨Inv.anti g.inv hmS2,zDn g.t.h hmS2,trivial⟩,trivial⟩,?_⟩;refine qBn 0 16 (vS a5 o2 c5) (.head _) (qBn 1 17 (vI s2) (.head _) ?_);have⟨x2,d5,i⟩:=qAv i;refine qTn (t:=22) (e:=9) (x:=(.tmp 16)) (y:=(.tmp 17)) (k:=1) 2 18 kr rfl kr (.head _) (qAw (qBq (qAw (qAw (qBq (qAw qFg)))))) (ev (vS a5 o2 c5)) (ev (vI s2)) kr hs1 hn1 d5 ?_;refine qPr (t:=9) (x:=(.tmp 18)) (o:=0) (f:=(fun x:ByteArray=>([vT x]:List Value))) (z:=x2) (v:=vT x2) 3 19 (fun _=>rfl) (Int.toNat s2*1) rfl kr rfl kr (.head _) (qAw (qBq (qAw (qAw (qBq (qAw qFg)))))) (fun _ h=>h.2.1) (ev (.pointer (some ⟨ab a5,Int.toNat s2*1,none⟩))) hs1 hn1 d5 kr ?_;refine qBn 4 20 (vS a5 o2 c5) (.head _) (qBn 5 21 (vI s2) (.head _) (qBn 6 22 (vI (wr (s2-1))) (.head _) ?_));have⟨x3,d6,i⟩:=qAv i;refine qTn (t:=22) (e:=9) (x:=(.tmp 20)) (y:=(.tmp 22)) (k:=1) 7 23 kr rfl kr (.head _) (qAw (qBq (qAw (qAw (qBq (qAw qFg)))))) (ev (vS a5 o2 c5)) (ev (vI (wr (s2-1)))) kr hs1 hn1 d6 ?_
       refine qPr (t:=9) (x:=(.tmp 23)) (o:=0) (f:=(fun x:ByteArray=>([vT x]:List Value))) (z:=x3) (v:=vT x3) 8 24 (fun _=>rfl) (Int.toNat (wr (s2-1))*1) rfl kr rfl kr (.head _) (qAw (qBq (qAw (qAw (qBq (qAw qFg)))))) (fun _ h=>h.2.1) (ev (.pointer (some ⟨ab a5,Int.toNat (wr (s2-1))*1,none⟩))) hs1 hn1 d6 kr ?_;refine qBn 9 25 (vB (x2.toList==x3.toList)) (.head _) (qDm kr (qAg (W_if i ?_ ?_)))
       ·intro A i;refine W_sr (qAa 2 [(26,vS a5 o2 c5),(27,vI s2)] ?_);have⟨u6,d7,i⟩:=qAv i;refine qAb rfl (qZd (d:=28) (t:=22) (e:=9) (k:=1) (x:=(.tmp 26)) (lo:=(some (.tmp 27))) (hi:=none) (li:=s2) (hix:=(y2.length:Int)) kr rfl (ev (vS a5 o2 c5)) kr (.inr ⟨_,_,rfl,(ev (vI s2))⟩) (.inl ⟨rfl,congrArg Nat.cast hn1⟩) hs1 hn1 d7 ?_);have hv1:=zUl d7 hn1;refine qAd 1 [(4,.slice (slA a5 c5 (Int.toNat s2) 1) (Int.toNat (y2.length:Int)-Int.toNat s2) (c5-Int.toNat s2))] (qAr (W_sr (qAd 1 [(5,vI 1)] (qAt ?_))));have⟨out3,i,j7⟩:=qAv i;refine qCl (.exit 2) (fun L' w'=>∃(o6:T1e),∃m15,o6=out3∧L'=[(0,vS a5 o2 c5),(3,vI o6.1)]∧m.le m15∧St m15 (kB b2 #[vS a3 p1 c3] 32::opc a5 (qBk (fun x:ByteArray=>([vT x]:List Value)) o6.2 T1) 9::O) w'∧MRow m15 b1 0 (Vb p0 a1 c1 a2 c2)∧RepS cStr m15 a1 c1 p0.2.2.1∧RepS C3 m15 a2 c2 p0.2.2.2∧RepS (cInt .i64) m15 a3 c3 p1∧List.length o6.2=o2.length) ?_ ?_
        ·rintro _ w19 ⟨o6,m15,rfl,rfl,q,g,hb1,r1,r2,r3,hn2⟩;have i:=j7;refine qBg (qAg (W_sr (qAa 2 [(54,vS a5 o2 c5),(55,vI o6.1)] ?_)));have⟨u9,d15,i⟩:=qAv i;refine qAb rfl (qZd (d:=56) (t:=22) (e:=9) (k:=1) (x:=(.tmp 54)) (lo:=(some (.tmp 55))) (hi:=none) (li:=o6.1) (hix:=(o6.2.length:Int)) kr rfl (ev (vS a5 o2 c5)) kr (.inr ⟨_,_,rfl,(ev (vI o6.1))⟩) (.inl ⟨rfl,congrArg Nat.cast hn2⟩) hs1 hn2 d15 ?_);have hv2:=zUl d15 hn2;have g:=g.f1;have⟨l2,d16,i⟩:=qAv i;refine qAb rfl (zLk (t:=22) (e:=9) (k:=1) (x:=(.tmp 56)) (f:=(fun x:ByteArray=>([vT x]:List Value))) (l:=o6.2) (lo:=o6.1) (z:=vT eB) (z0:=eB) (fun _=>rfl) (fun _ _ hv=>by simp only[jN,gG,dO] at hv;rcases hv with rfl<;>rfl) kr (ev (.slice (slA a5 c5 (Int.toNat o6.1) 1) (Int.toNat (o6.2.length:Int)-Int.toNat o6.1) (c5-Int.toNat o6.1))) rfl kr kr rfl g hs1 hn2 d16 fun w24 g=> ?_);have hn6:=((zLr d16).trans hn2);refine WO_e (W_sr (qAa 2 [(57,vS a5 o2 c5),(58,vI o6.1)] ?_));have⟨u10,d17,i⟩:=qAv i;refine qAb rfl (qZd (d:=59) (t:=22) (e:=9) (k:=1) (x:=(.tmp 57)) (lo:=none) (hi:=(some (.tmp 58))) (li:=0) (hix:=o6.1) kr rfl (ev (vS a5 o2 c5)) kr (.inl ⟨rfl,rfl⟩) (.inr ⟨_,_,rfl,(ev (vI o6.1))⟩) hs1 hn6 d17 ?_);have hv3:=zUl d17 hn6
         refine qAd 1 [(2,.slice (slA a5 c5 (Int.toNat 0) 1) (Int.toNat o6.1-Int.toNat 0) (c5-Int.toNat 0))] (qAz (qAe (qAc ?_)));obtain rfl:=sI i;have ho:=hBu5 _ rfl;subst ho;have i:=j5;refine qAc (qAe (qAc ?_));obtain rfl:=sI i;have hw1:=view0 (k:=1) (l:=l2) hs1 hn6 hv3;obtain⟨m18,e8,g,r10⟩:=St.freezeView (c:=cStr) (f:=(fun x:ByteArray=>([vT x]:List Value))) (hi:=o6.1) g hs1 hn6 (fun _=>rfl) (fun _ x=>rfl) hv3;refine zAy [(2,.slice a5 (List.length (List.take (Int.toNat o6.1) l2)) c5)] (by(try simp only[vS,hw1]);kernel_rfl) ?_;exact X_rt [2] [.slice a5 (List.length (List.take (Int.toNat o6.1) l2)) c5] ⟨_,rfl,⟨a5,c5,m18,rfl,q.t e8,g.f1,r10,hb1.mono e8,r1.mono e8,r2.mono e8,r3.mono e8⟩⟩
        intro K2_u7;refine qFh _ kr (qCz (fun k3 L' w'=>∃(s3:Int×T1e),∃m16,qAs (qFf N y2 s2) k3 s3=some out3∧L'=[(0,vS a5 o2 c5),(3,vI s3.1),(4,.slice (slA a5 c5 (Int.toNat s2) 1) (Int.toNat (y2.length:Int)-Int.toNat s2) (c5-Int.toNat s2)),(5,vI s3.2.1)]∧m.le m16∧St m16 (kB b2 #[vS a3 p1 c3] 32::opc a5 (qBk (fun x:ByteArray=>([vT x]:List Value)) s3.2.2 T1) 9::O) w'∧MRow m16 b1 0 (Vb p0 a1 c1 a2 c2)∧RepS cStr m16 a1 c1 p0.2.2.1∧RepS C3 m16 a2 c2 p0.2.2.2∧RepS (cInt .i64) m16 a3 c3 p1∧List.length s3.2.2=o2.length) N ⟨(s2,1,y2),m14,i,rfl,q,g.f1.f1,hb1,r1,r2,r3,hn1⟩ ?_);rintro k3 _ w20 ⟨s3,m16,hL,rfl,q,g,hb1,r1,r2,r3,hn3⟩;rcases k3 with _|k3
        ·exact qBh hL
        ·obtain⟨qu7,i,hSu7,hBu7⟩:=qBf hL;clear hL;unfold qFf at i;refine qAr (W_sr (qAd 4 [(32,vB (decide (s3.2.1<((Int.toNat (y2.length:Int)-Int.toNat s2:Nat):Int))))] (W_if i ?_ ?_)))
         ·intro A i;refine qAp (qAg (qAr ?_));have⟨o7,i,j8⟩:=qAv i;refine qCl .normal (fun L' w'=>∃m17,L'=[(0,vS a5 o2 c5),(3,vI o7.1),(4,.slice (slA a5 c5 (Int.toNat s2) 1) (Int.toNat (y2.length:Int)-Int.toNat s2) (c5-Int.toNat s2)),(5,vI s3.2.1)]∧m.le m17∧St m17 (kB b2 #[vS a3 p1 c3] 32::opc a5 (qBk (fun x:ByteArray=>([vT x]:List Value)) o7.2 T1) 9::O) w'∧MRow m17 b1 0 (Vb p0 a1 c1 a2 c2)∧RepS cStr m17 a1 c1 p0.2.2.1∧RepS C3 m17 a2 c2 p0.2.2.2∧RepS (cInt .i64) m17 a3 c3 p1∧List.length o7.2=o2.length) ?_ ?_
          ·have i:=j8;rintro _ w21 ⟨m17,rfl,q,g,hb1,r1,r2,r3,hn4⟩;refine qAg (qAo (qAa 3 [(5,vI (wr (s3.2.1+1)))] (qBa rfl ?_)));obtain rfl:=sI i;have hL:=hSu7 _ rfl;exact xE (qCg k3 (jG _) ⟨(o7.1,wr (s3.2.1+1),o7.2),m17,hL,rfl,q,g.f1.f1,hb1,r1,r2,r3,hn4⟩)
          ·intro Ku8;refine qAt (qAr (qGk [(10,fun w'=>Inv m16 w'∧Piece.holds m16 w' (opc a5 (qBk (fun x:ByteArray=>([vT x]:List Value)) s3.2.2 T1) 9)∧True)] kr g fun w22 _ g=> ?_));have hmS3:=m16.le_refl;refine⟨⟨.inr ⟨Inv.anti g.inv hmS3,zDn g.t.h hmS3,trivial⟩,trivial⟩,?_⟩;refine qBn 0 35 (.slice (slA a5 c5 (Int.toNat s2) 1) (Int.toNat (y2.length:Int)-Int.toNat s2) (c5-Int.toNat s2)) (.head _) (qBn 1 36 (vI s3.2.1) (.head _) ?_);have⟨x4,d8,i⟩:=qAv i;refine qWu (t:=22) (e:=9) (k:=1) (x:=(.tmp 35)) (y:=(.tmp 36)) (lo:=s2) (hi:=(y2.length:Int)) (ix:=s3.2.1) 2 37 kr rfl kr (.head _) (qAw (qBq (qAw (qAw (qBq (qAw (qBq (qAw (qAw (qBq (qAw qFg))))))))))) (ev (.slice (slA a5 c5 (Int.toNat s2) 1) (Int.toNat (y2.length:Int)-Int.toNat s2) (c5-Int.toNat s2))) (ev (vI s3.2.1)) kr hs1 hn3 hv1 d8 ?_;have d9:=(qXx hv1.1 d8).1;refine qPr (t:=9) (x:=(.tmp 37)) (o:=0) (f:=(fun x:ByteArray=>([vT x]:List Value))) (z:=x4) (v:=vT x4) 3 38 (fun _=>rfl) (Int.toNat (s2+s3.2.1)*1) rfl kr rfl kr (.head _) (qAw (qBq (qAw (qAw (qBq (qAw (qBq (qAw (qAw (qBq (qAw qFg))))))))))) (fun _ h=>h.2.1) (ev (.pointer (some ⟨ab a5,Int.toNat (s2+s3.2.1)*1,none⟩))) hs1 hn3 d9 kr ?_
           refine qBn 4 39 (.slice (slA a5 c5 (Int.toNat s2) 1) (Int.toNat (y2.length:Int)-Int.toNat s2) (c5-Int.toNat s2)) (.head _) (qBn 5 40 (vI s3.2.1) (.head _) (qBn 6 41 (vI (wr (s3.2.1-1))) (.head _) ?_));have⟨x5,d10,i⟩:=qAv i;refine qWu (t:=22) (e:=9) (k:=1) (x:=(.tmp 39)) (y:=(.tmp 41)) (lo:=s2) (hi:=(y2.length:Int)) (ix:=wr (s3.2.1-1)) 7 42 kr rfl kr (.head _) (qAw (qBq (qAw (qAw (qBq (qAw (qBq (qAw (qAw (qBq (qAw qFg))))))))))) (ev (.slice (slA a5 c5 (Int.toNat s2) 1) (Int.toNat (y2.length:Int)-Int.toNat s2) (c5-Int.toNat s2))) (ev (vI (wr (s3.2.1-1)))) kr hs1 hn3 hv1 d10 ?_;have d11:=(qXx hv1.1 d10).1;refine qPr (t:=9) (x:=(.tmp 42)) (o:=0) (f:=(fun x:ByteArray=>([vT x]:List Value))) (z:=x5) (v:=vT x5) 8 43 (fun _=>rfl) (Int.toNat (s2+(wr (s3.2.1-1)))*1) rfl kr rfl kr (.head _) (qAw (qBq (qAw (qAw (qBq (qAw (qBq (qAw (qAw (qBq (qAw qFg))))))))))) (fun _ h=>h.2.1) (ev (.pointer (some ⟨ab a5,Int.toNat (s2+(wr (s3.2.1-1)))*1,none⟩))) hs1 hn3 d11 kr ?_;refine qBn 9 44 (vB (!(x4.toList==x5.toList))) (.head _) (qDm kr (qAg (W_if i ?_ ?_)))
           ·intro A i;refine W_sr (qAa 4 [(45,vS a5 o2 c5),(46,vI s3.1),(47,.slice (slA a5 c5 (Int.toNat s2) 1) (Int.toNat (y2.length:Int)-Int.toNat s2) (c5-Int.toNat s2)),(48,vI s3.2.1)] ?_);have⟨x6,d12,i⟩:=qAv i;refine qAb rfl (zDy (d:=49) (t:=22) (e:=9) (k:=1) (x:=(.tmp 47)) (y:=(.tmp 48)) (lo:=s2) (hi:=(y2.length:Int)) (ix:=s3.2.1) kr rfl (ev (.slice (slA a5 c5 (Int.toNat s2) 1) (Int.toNat (y2.length:Int)-Int.toNat s2) (c5-Int.toNat s2))) (ev (vI s3.2.1)) kr hs1 hn3 hv1 d12 ?_);have d13:=(qXx hv1.1 d12).1;refine qAb rfl (zFf (d:=50) (t:=9) (x:=(.tmp 49)) (o:=0) (f:=(fun x:ByteArray=>([vT x]:List Value))) (z:=x6) (v:=vT x6) (fun _=>rfl) (Int.toNat (s2+s3.2.1)*1) rfl kr rfl (ev (.pointer (some ⟨ab a5,Int.toNat (s2+s3.2.1)*1,none⟩))) g.t.h hs1 hn3 d13 kr ?_);have⟨x7,d14,i⟩:=qAv i;refine qAb rfl (zCm (d:=51) (t:=22) (e:=9) (x:=(.tmp 45)) (y:=(.tmp 46)) (k:=1) kr rfl (ev (vS a5 o2 c5)) (ev (vI s3.1)) kr hs1 hn3 d14 (qAb rfl (zDd (t:=9) (x:=(.tmp 51)) (y:=(.tmp 50)) (o:=0) (f:=(fun x:ByteArray=>([vT x]:List Value))) (z:=x7) (u:=x6) (v:=vT x6) (fun _=>rfl) (Int.toNat s3.1*1) rfl kr (ev (.pointer (some ⟨ab a5,Int.toNat s3.1*1,none⟩))) (ev (vT x6)) g.f1 hs1 hn3 d14 kr rfl fun w23 g=> ?_)));have hn5:List.length (List.set s3.2.2 (Int.toNat s3.1) x6)=o2.length:=qTe hn3 _ _
            refine WO_e (qAo (qAa 3 [(3,vI (wr (s3.1+1)))] (qBa rfl (qBj ?_))));cases i;exact xE (Ku8 _ _ ⟨m16,rfl,q,g.f1,hb1,r1,r2,r3,hn5⟩)
           ·intro A i;refine qAp (qBj ?_);cases i;exact xE (Ku8 _ _ ⟨m16,rfl,q,g.f1.f1,hb1,r1,r2,r3,hn3⟩)
         ·intro A i;refine qCt (qAf ?_);obtain rfl:=sI i;have ho:=hBu7 _ rfl;have g:=g.f1.f1;refine qAf ?_;exact xE (K2_u7 _ _ ⟨(s3.1,s3.2.2),m16,ho,rfl,q,g,hb1,r1,r2,r3,hn3⟩)
       ·intro A i;refine qAp (qBj (qAg (qAo (qAa 3 [(3,vI (wr (s2+1)))] (qBa rfl ?_)))));obtain rfl:=sI i;have hL:=hSu5 _ rfl;exact xE (qCg k2 (jG _) ⟨wr (s2+1),m14,hL,rfl,q,g.f1.f1,hb1,r1,r2,r3,hn1⟩)
      ·intro A i;refine qCt (qAf ?_);cases i;have ho:=hBu5 _ rfl;have g:=g.f1.f1;refine qAf ?_;exact xE (K0_u5 _ _ ⟨(),m14,ho,rfl,q,g,hb1,r1,r2,r3,hn1⟩)
  intro K0_u2;refine qFh _ kr (qCz (fun k1 L' w'=>∃(s1:T1h),∃a6 c6 T2 m5,qAs (qIl N p0 p1) k1 s1=some out1∧L'=[(1,.func (.func 141) #[] #[vP b2 0]),(5,vS a6 s1.1 c6),(10,vS a2 p0.2.2.2 c2),(11,vI (p0.2.2.2.length:Int)),(12,vI s1.2)]∧m.le m5∧St m5 (kB b2 #[vS a3 p1 c3] 32::opc a6 (qBk (fun x:ByteArray=>([vT x]:List Value)) s1.1 T2) 9::O) w'∧RepS C3 m5 a2 c2 p0.2.2.2∧MRow m5 b1 0 (Vb p0 a1 c1 a2 c2)∧RepS cStr m5 a1 c1 p0.2.2.1∧RepS (cInt .i64) m5 a3 c3 p1∧OAS a6 s1.1.length c6 1 T2) N ⟨(([]:T6),0),none,0,[],m1,i,rfl,q.t e1,g.f1,r2.mono e1,hb1,r1.mono e1,r3.mono e1,(OAS.nil 1)⟩ ?_);rintro k1 _ w5 ⟨s1,a6,c6,T2,m5,hL,rfl,q,g,r2,hb1,r1,r3,hs2⟩;rcases k1 with _|k1
  ·exact qBh hL
  ·obtain⟨qu2,i,hSu2,hBu2⟩:=qBf hL;clear hL;unfold qIl at i;refine W_sr (qAd 1 [(13,vB (decide (s1.2<(p0.2.2.2.length:Int))))] (qAr (W_if i ?_ ?_)))
   ·intro A i;refine qAp (qAg (qAr ?_));have⟨o3,i,j3⟩:=qAv i;refine qCl .normal (fun L' w'=>∃a7 c7 T3 m6,L'=[(1,.func (.func 141) #[] #[vP b2 0]),(5,vS a7 o3 c7),(10,vS a2 p0.2.2.2 c2),(11,vI (p0.2.2.2.length:Int)),(12,vI s1.2)]∧m.le m6∧St m6 (kB b2 #[vS a3 p1 c3] 32::opc a7 (qBk (fun x:ByteArray=>([vT x]:List Value)) o3 T3) 9::O) w'∧RepS C3 m6 a2 c2 p0.2.2.2∧MRow m6 b1 0 (Vb p0 a1 c1 a2 c2)∧RepS cStr m6 a1 c1 p0.2.2.1∧RepS (cInt .i64) m6 a3 c3 p1∧OAS a7 o3.length c7 1 T3) ?_ ?_
    ·have i:=j3;rintro _ w6 ⟨a7,c7,T3,m6,rfl,q,g,r2,hb1,r1,r3,hs3⟩;refine qAg (qAo (qAa 2 [(12,vI (wr (s1.2+1)))] (qBa rfl ?_)));obtain rfl:=sI i;have hL:=hSu2 _ rfl;exact xE (qCg k1 (jG _) ⟨(o3,wr (s1.2+1)),a7,c7,T3,m6,hL,rfl,q,g.f1.f1,r2,hb1,r1,r3,hs3⟩)
    ·intro Ku3;refine qAt (W_sr (qAb rfl (qCy 14 46 73 10 12 r2 i ?_)));rintro x1 i b3 f1 cs1 ⟨_,_,rfl,rfl,⟨_,_,rfl,rfl,⟨_,_,rfl,rfl,⟨_,_,rfl,rfl,⟨a8,c8,rfl,r5⟩⟩⟩⟩⟩ hq1;refine qDu 15 73 14 f1 (.agg (V8 x1 a8 c8)) g hq1 (qAb rfl (qJg 7 73 (.agg #[vI 0,vI 0,vI 0,vT eB,v7]) g fun b4 w7 g=>(qAb rfl (qGo 73 7 15 (.agg (V8 x1 a8 c8)) g fun w8 g=>(WO_e (W_sr (qAa 1 [(17,.func (.func 141) #[] #[vP b2 0])] (qAb rfl (qBx 18 73 7 0 (.agg (V8 x1 a8 c8)) g.h (qAb rfl (qDt 19 141 #[.agg (V8 x1 a8 c8),vP b2 0] kr rfl (W_cA Tryz.func141 rfl Tryz.ntmps141 (W_sr (qAb rfl (qKv 2 73 0 (.agg (V8 x1 a8 c8)) g fun b5 m7 w9 e3 g hb3=> ?_)))))))))))))));have r3:=r3.mono e3;refine qAd 2 [] (qAr (qGk [(8,fun w'=>Inv m7 w'∧Piece.holds m7 w' (kB b2 #[vS a3 p1 c3] 32)∧True)] kr g fun w10 _ g=> ?_));have hmS1:=m7.le_refl;refine⟨⟨.inr ⟨Inv.anti g.inv hmS1,Piece.holds_anti g.t.h hmS1,trivial⟩,trivial⟩,?_⟩;refine qBn 0 5 (vP b5 3) (.head _) (qLw 9 5 1 6 3 (vT x1.2.2.2.1) (.head _) (fun _ h=>h.1) (hb3.drop 3) (qIs 32 1 2 7 0 (vS a3 p1 c3) (.head _) (fun _ h=>h.2.1) (qBn 3 8 (vP b5 0) (.head _) (qLw 3 8 4 9 0 (vI x1.1) (.head _) (fun _ h=>h.1) hb3 (qDi 5 kr (qIb 10 i (fun _ h=>qQb g r3 h) ?_))))));rintro y1 i _ w11 ⟨m8,rfl,e4,g⟩;refine⟨_,rfl,?_⟩;have hmS1:=Mem.le_trans hmS1 e4
     refine⟨⟨.inr ⟨Inv.anti g.inv hmS1,Piece.holds_anti g.t.h hmS1,trivial⟩,trivial⟩,?_⟩;refine qBn 6 3 (vT x1.2.2.2.1) (.head _) (qBn 7 4 (vB y1) (.head _) (qDm kr (qAg (qAz (X_rt [3,4] [vT x1.2.2.2.1,vB y1] (⟨_,rfl,?_⟩))))));refine qAd 5 [(8,vT x1.2.2.2.1),(9,vB y1)] (W_sr (qAd 1 [(22,vB y1)] (W_if i ?_ ?_)))
     ·intro A i;refine qAo (qAa 2 [(23,vS a6 s1.1 c6),(24,vT x1.2.2.2.1)] (qAb rfl (qBe (d:=25) (t:=22) (e:=9) (len:=1) (parts:= #[(0,(.tmp 24))]) cStr (xs:=[x1.2.2.2.1]) [vT x1.2.2.2.1] kr rfl (fun _=>qBd kr _) rfl rfl g ⟨[vT x1.2.2.2.1],_,rfl,rfl,rfl⟩ fun b6 m9 w12 e5 g r6=> ?_)));have g:=g.f3;have⟨l1,d3,i⟩:=qAv i;refine qAb rfl (qUr (d:=26) (t:=22) (u:=22) (e:=9) (by_:=16) (x:=(.tmp 23)) (y:=(.tmp 25)) (c:=cStr) (f:=(fun x:ByteArray=>([vT x]:List Value))) (l:=s1.1) (fun _ _ _ h=>by obtain rfl:=h;rfl) (fun _=>rfl) kr rfl (ev (vS a6 s1.1 c6)) (ev (vS (aP b6) ([x1.2.2.2.1]) 1)) g hs2 rfl kr (.inl kr) r6.src d3 fun a9 c9 T4 w13 hs4 g=>(qAa 1 [(5,vS a9 l1 c9)] (qBa rfl ?_)));have g:=g.f1.t;refine qBj ?_;cases i;exact xE (Ku3 _ _ ⟨a9,c9,T4,m9,rfl,((q.t e3).t e4).t e5,g.f1.t.f1,((r2.mono e3).mono e4).mono e5,((hb1.mono e3).mono e4).mono e5,((r1.mono e3).mono e4).mono e5,(r3.mono e4).mono e5,hs4⟩)
     ·intro A i;refine qAp (qBj ?_);cases i;exact xE (Ku3 _ _ ⟨a6,c6,T2,m8,rfl,(q.t e3).t e4,g.t.f1.f1,(r2.mono e3).mono e4,(hb1.mono e3).mono e4,(r1.mono e3).mono e4,r3.mono e4,hs2⟩)
   ·intro A i;refine qCt (qAf ?_);cases i;have ho:=hBu2 _ rfl;have g:=g.f1.f1;refine qAf ?_;exact xE (K0_u2 _ _ ⟨s1.1,a6,c6,T2,m5,ho,rfl,q,g,hb1,r1,r2,r3,hs2⟩)
def qMv(N:Nat)(p0:Tv):T7:=
 (qLv N p0 ([(3:Int)])).bind fun y1=>some y1
theorem qXj{p0:Tv}{r:T6}(g:St m (O) w)(r1:RepS cStr m a1 c1 p0.2.2.1)(r2:RepS C3 m a2 c2 p0.2.2.2)(i:qMv N p0=some r):Calls Tryz.prog 60 #[.agg (V7 p0 a1 c1 a2 c2)] w fun e w'=>∃ra1 rc1 m',e= .returned (vS ra1 r rc1)∧m.le m'∧St m' (kR ra1 r rc1 9 1::O) w'∧RepS cStr m' ra1 rc1 r:=by
 unfold qMv at i;have q:=m.le_refl;refine W_cA Tryz.func60 rfl Tryz.ntmps60 ?_;refine W_sr (qAb rfl (qKv 1 48 0 (.agg (V7 p0 a1 c1 a2 c2)) g fun b1 m1 w1 e1 g hb1=>(qAd 1 [] (W_sr (qDu 3 48 1 0 (.agg (V7 p0 a1 c1 a2 c2)) g hb1 (qAb rfl (qBe (d:=4) (t:=32) (e:=3) (len:=1) (parts:= #[(0,(.const (vI 3)))]) (cInt .i64) (xs:=[(3:Int)]) [vI 3] kr rfl (fun _=>qBd kr _) rfl rfl g ⟨[vI 3],_,rfl,rfl,rfl⟩ fun b2 m2 w2 e2 g r3=>(qAl 5 i (fun _ h=>qSi (p0:=p0) g ((r1.mono e1).mono e2) ((r2.mono e1).mono e2) r3 h) ?_))))))));rintro y1 i _ w3 ⟨a3,c3,m3,rfl,e3,g,r4⟩;refine qAa 1 [(2,vS a3 y1 c3)] (qBa rfl ?_);have g:=g.f1.t;refine qAg (qAz ?_);obtain rfl:=sI i;exact X_rt [2] [vS a3 y1 c3] ⟨a3,c3,m3,rfl,((q.t e1).t e2).t e3,g,r4⟩
def qMz(N:Nat)(p0:Tv):T7:=
 (qLv N p0 ([(6:Int),7,8])).bind fun y1=>some y1
theorem qXi{p0:Tv}{r:T6}(g:St m (O) w)(r1:RepS cStr m a1 c1 p0.2.2.1)(r2:RepS C3 m a2 c2 p0.2.2.2)(i:qMz N p0=some r):Calls Tryz.prog 61 #[.agg (V7 p0 a1 c1 a2 c2)] w fun e w'=>∃ra1 rc1 m',e= .returned (vS ra1 r rc1)∧m.le m'∧St m' (kR ra1 r rc1 9 1::O) w'∧RepS cStr m' ra1 rc1 r:=by
 unfold qMz at i;have q:=m.le_refl;refine W_cA Tryz.func61 rfl Tryz.ntmps61 ?_;refine W_sr (qAb rfl (qKv 1 48 0 (.agg (V7 p0 a1 c1 a2 c2)) g fun b1 m1 w1 e1 g hb1=>(qAd 1 [] (W_sr (qDu 3 48 1 0 (.agg (V7 p0 a1 c1 a2 c2)) g hb1 (qAb rfl (qBe (d:=4) (t:=32) (e:=3) (len:=3) (parts:= #[(0,(.const (vI 6))),(1,(.const (vI 7))),(2,(.const (vI 8)))]) (cInt .i64) (xs:=[(6:Int),7,8]) [vI 6,vI 7,vI 8] kr rfl (fun _=>qBd kr _) rfl rfl g ⟨[vI 6],_,rfl,rfl,⟨[vI 7],_,rfl,rfl,⟨[vI 8],_,rfl,rfl,rfl⟩⟩⟩ fun b2 m2 w2 e2 g r3=>(qAl 5 i (fun _ h=>qSi (p0:=p0) g ((r1.mono e1).mono e2) ((r2.mono e1).mono e2) r3 h) ?_))))))));rintro y1 i _ w3 ⟨a3,c3,m3,rfl,e3,g,r4⟩;refine qAa 1 [(2,vS a3 y1 c3)] (qBa rfl ?_);have g:=g.f1.t;refine qAg (qAz ?_);obtain rfl:=sI i;exact X_rt [2] [vS a3 y1 c3] ⟨a3,c3,m3,rfl,((q.t e1).t e2).t e3,g,r4⟩
def qNh(N:Nat)(p0:Tn):Te:=
 some (p0.1==10)
theorem qVg{p0:Tn}{r:Bool}(g:St m (O) w)(r1:RepS (cInt .i64) m a1 c1 p0.2.2.2.2)(i:qNh N p0=some r):Calls Tryz.prog 108 #[.agg (V8 p0 a1 c1)] w fun e w'=>∃m',e= .returned (vB r)∧m.le m'∧St m' (O) w':=by
 unfold qNh at i;have q:=m.le_refl;refine W_cA Tryz.func108 rfl Tryz.ntmps108 ?_;refine W_sr (qAb rfl (qKv 1 73 0 (.agg (V8 p0 a1 c1)) g fun b1 m1 w1 e1 g hb1=>(qAd 1 [] (W_sr (qAa 1 [(3,vP b1 0)] (qDu 4 3 3 0 (vI p0.1) g hb1 (qAd 2 [(2,vB (p0.1==10))] (qAz ?_))))))));cases i;exact X_rt [2] [vB (p0.1==10)] ⟨m1,rfl,q.t e1,g⟩
def qJp(N:Nat)(p0:Tv)(s1:Int):T19:=
 if(decide (s1<(List.length p0.2.2.2:Int)))=true then((idx p0.2.2.2 s1).bind fun x1=>(qNh N x1).bind fun y1=>if y1=true then(some (.inr (.inr (s1)))) else(some (.inl (IntKind.wrap .i64 (s1+1))))) else(some (.inr (.inl ())))
def qLx(N:Nat)(p0:Tv):Te:=
 ((qAs (qJp N p0) N 0).bind fun out1=>(match out1 with| .inl o2=>some (-1)| .inr (z)=>some z):T8).bind fun o1=>some (decide (o1≥0))
theorem qXh{p0:Tv}{r:Bool}(g:St m (O) w)(r1:RepS cStr m a1 c1 p0.2.2.1)(r2:RepS C3 m a2 c2 p0.2.2.2)(i:qLx N p0=some r):Calls Tryz.prog 62 #[.agg (V7 p0 a1 c1 a2 c2)] w fun e w'=>∃m',e= .returned (vB r)∧m.le m'∧St m' (O) w':=by
 unfold qLx at i;have q:=m.le_refl;refine W_cA Tryz.func62 rfl Tryz.ntmps62 ?_;refine W_sr (qAb rfl (qKv 1 48 0 (.agg (V7 p0 a1 c1 a2 c2)) g fun b1 m1 w1 e1 g hb1=>(qAd 1 [] (W_sr (qAa 1 [(3,vP b1 3)] (qAb rfl (qAn (d:=4) (t:=46) (x:=(.tmp 3)) (vS a2 p0.2.2.2 c2) kr rfl (ev (vP b1 3)) g (hb1.drop 3) kr (qAb rfl (qDt 5 107 #[vS a2 p0.2.2.2 c2,.func (.func 108) #[] #[]] kr rfl (W_cA Tryz.func107 rfl Tryz.ntmps107 (W_sr (qAd 1 [] (W_sr (qAa 2 [(5,vS a2 p0.2.2.2 c2),(6,.func (.func 108) #[] #[])] ?_))))))))))))));have⟨o1,i,j1⟩:=qAv i;refine qAb rfl (qDt 7 143 #[vS a2 p0.2.2.2 c2,.func (.func 108) #[] #[]] kr rfl (qYl (fun v' w'=>∃m2,v'=(vI o1)∧m.le m2∧St m2 (O) w'∧MRow m2 b1 0 (Vb p0 a1 c1 a2 c2)∧P2 m2 a1 c1 a2 c2 p0.2.2) ?_ ?_))
 ·have i:=j1;rintro _ w2 ⟨m2,rfl,q,g,hb1,r1,r2⟩;refine⟨_,rfl,?_⟩;refine qAd 2 [(4,vB (decide (o1≥0)))] (qAz (X_rt [4] [vB (decide (o1≥0))] (⟨_,rfl,?_⟩)));refine qAd 1 [(2,vB (decide (o1≥0)))] (qAz ?_);obtain rfl:=sI i;exact X_rt [2] [vB (decide (o1≥0))] ⟨m2,rfl,q,g⟩
 ·refine W_cA Tryz.func143 rfl Tryz.ntmps143 ?_;refine W_sr (qAd 1 [] (qAr (W_sr (qAd 3 [(7,vI (p0.2.2.2.length:Int)),(8,vI 0)] (qAt ?_)))));have⟨out1,i,j2⟩:=qAv i;refine qCl (.exit 0) (fun L' w'=>∃(o2:Unit),∃m3,(.inl o2)=out1∧L'=[]∧m.le m3∧St m3 (O) w'∧MRow m3 b1 0 (Vb p0 a1 c1 a2 c2)∧P2 m3 a1 c1 a2 c2 p0.2.2) ?_ ?_
  ·rintro _ w3 ⟨o2,m3,rfl,rfl,q,g,hb1,r1,r2⟩;have i:=j2;refine qBg (qAg (W_sr (qAd 1 [(4,vI (-1))] (qAz ?_))));cases i;exact X_rt [4] [vI (-1)] ⟨_,rfl,⟨m3,rfl,q,g,hb1,r1,r2⟩⟩
  intro K0_u2;refine qFh _ kr (qCz (fun k1 L' w'=>∃(s1:Int),∃m4,qAs (qJp N p0) k1 s1=some out1∧L'=[(0,vS a2 p0.2.2.2 c2),(1,.func (.func 108) #[] #[]),(7,vI (p0.2.2.2.length:Int)),(8,vI s1)]∧m.le m4∧St m4 (O) w'∧RepS C3 m4 a2 c2 p0.2.2.2∧MRow m4 b1 0 (Vb p0 a1 c1 a2 c2)∧RepS cStr m4 a1 c1 p0.2.2.1) N ⟨0,m1,i,rfl,q.t e1,g,r2.mono e1,hb1,r1.mono e1⟩ ?_);rintro k1 _ w4 ⟨s1,m4,hL,rfl,q,g,r2,hb1,r1⟩;rcases k1 with _|k1
  ·exact qBh hL
  ·obtain⟨qu2,i,hSu2,hBu2⟩:=qBf hL;clear hL;unfold qJp at i;refine W_sr (qAd 1 [(9,vB (decide (s1<(p0.2.2.2.length:Int))))] (qAr (W_if i ?_ ?_)))
   ·intro A i;refine qAp (qAg (qAr (qAt (W_sr (qAd 2 [(5,vI s1)] (W_sr (qAa 3 [(11,.func (.func 108) #[] #[]),(12,vS a2 p0.2.2.2 c2),(13,vI s1)] (qAb rfl (qCy 14 46 73 12 13 r2 i ?_)))))))));rintro x1 i b2 f1 cs1 ⟨_,_,rfl,rfl,⟨_,_,rfl,rfl,⟨_,_,rfl,rfl,⟨_,_,rfl,rfl,⟨a3,c3,rfl,r3⟩⟩⟩⟩⟩ hq1;refine qDu 15 73 14 f1 (.agg (V8 x1 a3 c3)) g hq1 (qAl 16 i (fun _ h=>qVg (p0:=x1) g r3 h) ?_);rintro y1 i _ w5 ⟨m5,rfl,e2,g⟩;refine WO_e (W_if i ?_ ?_)
    ·intro A i;refine W_sr (qAd 2 [(4,vI s1)] (qAz (qAe (qAc ?_))));obtain rfl:=sI i;have ho:=hBu2 _ rfl;subst ho;have i:=j2;refine qAc (qAe (qAc ?_));obtain rfl:=sI i;exact X_rt [4] [vI s1] ⟨_,rfl,⟨m5,rfl,q.t e2,g,hb1.mono e2,r1.mono e2,r2.mono e2⟩⟩
    ·intro A i;refine qAp (qBj (qAg (qAo (qAa 2 [(8,vI (wr (s1+1)))] (qBa rfl ?_)))));obtain rfl:=sI i;have hL:=hSu2 _ rfl;exact xE (qCg k1 (jG _) ⟨wr (s1+1),m5,hL,rfl,q.t e2,g,r2.mono e2,hb1.mono e2,r1.mono e2⟩)
   ·intro A i;refine qCt (qAf ?_);cases i;have ho:=hBu2 _ rfl;refine qAf ?_;exact xE (K0_u2 _ _ ⟨(),m4,ho,rfl,q,g,hb1,r1,r2⟩)
def qHv(N:Nat):Te:=
 (qGi N (⟨#[112,97,99,107,97,103,101,32,112,59,32,105,109,112,111,114,116,32,113,59,32,116,101,115,116,32,116,32,61,32,102,40,114,101,97,100,40,34,97,46,100,97,116,34,44,32,102,108,105,112,40,48,41,41,41,59]⟩:ByteArray)).bind fun y1=>if((List.length y1.1.2.2:Int) !=1)=true then(some false) else((qJq N y1.1 0).bind fun y2=>(idx y1.1.2.2 0).bind fun x1=>(idx y1.1.2.2 0).bind fun x2=>(qMv N x1).bind fun y3=>(qMz N x2).bind fun y4=>(if(y2.2==0)=true then(if(y2.1.toList==(⟨#[112,97,99,107,97,103,101,32,112,59,10,105,109,112,111,114,116,32,113,59,10,116,101,115,116,32,116,32,61,32,102,40,114,101,97,100,40,34,97,46,100,97,116,34,44,32,102,108,105,112,40,48,41,41,41,59,10]⟩:ByteArray).toList)=true then(if((List.length y3:Int)==1)=true then((idx y3 0).bind fun x3=>if(x3.toList==(⟨#[102]⟩:ByteArray).toList)=true then(if((List.length y4:Int)==1)=true then((idx y4 0).bind fun x4=>if(x4.toList==(⟨#[97,46,100,97,116]⟩:ByteArray).toList)=true then((idx y1.1.2.2 0).bind fun x5=>(qLx N x5).bind fun y5=>some y5) else(some false)) else(some false)) else(some false)) else(some false)) else(some false)) else(some false):Te).bind fun o1=>some o1)
theorem qNr{r:Bool}(g:St m (O) w)(i:qHv N=some r):Calls Tryz.prog 20 #[] w fun e w'=>∃m',e= .returned (vB r)∧m.le m'∧St m' (O) w':=by
 unfold qHv at i;have q:=m.le_refl;refine W_cA Tryz.func20 rfl Tryz.ntmps20 ?_;refine W_sr (qAd 1 [] (W_sr (qAl 9 i (fun _ h=>qNq g h) ?_)));rintro y1 i _ w1 ⟨a1,c1,a2,c2,m1,rfl,e1,g,r1,r2⟩;refine qAa 4 [(10,.agg (V6 y1.1 a1 c1 a2 c2)),(11,vI y1.2.1),(12,vI y1.2.2)] (qAb rfl (qJg 1 25 (.agg #[vT eB,v7,v7]) g fun b1 w2 g=>(qAb rfl (qGo 25 1 10 (.agg (V6 y1.1 a1 c1 a2 c2)) g fun w3 g=>(qAd 2 [] (qAr (W_sr (qCx 1 14 23 13 2 (vS a2 y1.1.2.2 c2) g.h (qAd 2 [(16,vB ((y1.1.2.2.length:Int) !=1))] (W_if i ?_ ?_))))))))))
 ·intro A i;refine W_sr (qAd 1 [(0,vB false)] (qAz (qAc ?_)));cases i;exact X_rt [0] [vB false] ⟨m1,rfl,q.t e1,g.t.t.t⟩
 ·intro A i;refine qAp (qAg (W_sr (qAb rfl (qBx 18 25 1 0 (.agg (V6 y1.1 a1 c1 a2 c2)) g.h (qAl 19 i (fun _ h=>qPv (p0:=y1.1) g r1 r2 h) ?_)))));rintro y2 i _ w4 ⟨m2,rfl,e2,g⟩;have r2:=r2.mono e2;refine qAd 5 [(4,vT y2.1),(5,vI y2.2)] (qAr (qGk [(12,fun w'=>Inv m2 w'∧Piece.holds m2 w' (kB b1 (V6 y1.1 a1 c1 a2 c2) 25)∧True)] kr g fun w5 _ g=> ?_));have hmS1:=m2.le_refl;refine⟨⟨.inr ⟨Inv.anti g.inv hmS1,Piece.holds_anti g.h hmS1,trivial⟩,trivial⟩,?_⟩;refine qBn 0 22 (vP b1 2) (.head _) (qIs 23 22 1 23 2 (vS a2 y1.1.2.2 c2) (.head _) (fun _ h=>h.2.1) ?_);have⟨x1,d3,i⟩:=qAv i;refine qHy (t:=23) (e:=48) (x:=(.tmp 23)) (y:=(.const (vI 0))) 2 24 C4 kr rfl kr (.head _) (qAw qFg) (ev (vS a2 y1.1.2.2 c2)) (ev (vI 0)) kr r2 d3 ?_;rintro b2 f1 cs1 ⟨_,_,rfl,rfl,⟨_,_,rfl,rfl,⟨_,_,rfl,⟨a3,c3,rfl,r3⟩,⟨a4,c4,rfl,r4⟩⟩⟩⟩ hq1;refine qLw 48 24 3 25 f1 (.agg (V7 x1 a3 c3 a4 c4)) (.head _) (fun _ h=>h.1) hq1 (qBn 5 27 (vP b1 2) (.head _) (qIs 23 27 6 28 2 (vS a2 y1.1.2.2 c2) (.head _) (fun _ h=>h.2.1) ?_));have⟨x2,d4,i⟩:=qAv i;refine qHy (t:=23) (e:=48) (x:=(.tmp 28)) (y:=(.const (vI 0))) 7 29 C4 kr rfl kr (.head _) (qAw qFg) (ev (vS a2 y1.1.2.2 c2)) (ev (vI 0)) kr r2 d4 ?_;rintro b3 f2 cs2 ⟨_,_,rfl,rfl,⟨_,_,rfl,rfl,⟨_,_,rfl,⟨a5,c5,rfl,r5⟩,⟨a6,c6,rfl,r6⟩⟩⟩⟩ hq2
  refine qLw 48 29 8 30 f2 (.agg (V7 x2 a5 c5 a6 c6)) (.head _) (fun _ h=>h.1) hq2 (qDi 4 kr (qIb 26 i (fun _ h=>qXj (p0:=x1) g r3 r4 h) ?_));rintro y3 i _ w6 ⟨a7,c7,m3,rfl,e3,g,r7⟩;refine⟨_,rfl,?_⟩;have hmS1:=Mem.le_trans hmS1 e3;refine⟨⟨.inr ⟨Inv.anti g.inv hmS1,Piece.holds_anti g.t.h hmS1,trivial⟩,trivial⟩,?_⟩;refine qDi 9 kr (qIb 31 i (fun _ h=>qXi (p0:=x2) g (r5.mono e3) (r6.mono e3) h) ?_);rintro y4 i _ w7 ⟨a8,c8,m4,rfl,e4,g,r8⟩;refine⟨_,rfl,?_⟩;have q:=(((q.t e1).t e2).t e3).t e4;have r2:=(r2.mono e3).mono e4;have r1:=((r1.mono e2).mono e3).mono e4;have hmS1:=Mem.le_trans hmS1 e4;refine⟨⟨.inr ⟨Inv.anti g.inv hmS1,Piece.holds_anti g.t.t.h hmS1,trivial⟩,trivial⟩,?_⟩;refine qBn 10 6 (vS a7 y3 c7) (.head _) (qBn 11 7 (vS a8 y4 c8) (.head _) (qDm kr (qAg (W_sr ?_))));have⟨o1,i,J⟩:=qAv i;refine qCw (j:=36) (fun L' w'=>∃m5,L'=[(0,vB o1)]∧m.le m5∧St m5 (kB b1 (V6 y1.1 a1 c1 a2 c2) 25::kR a8 y4 c8 9 1::kR a7 y3 c7 9 1::kR a1 y1.1.2.1 c1 9 1::kR a2 y1.1.2.2 c2 48 4::O) w'∧P5 m5 a1 c1 a2 c2 y1.1.2) ?_ ?_
  ·have i:=J;rintro _ w8 ⟨m5,rfl,q,g,r1,r2⟩;refine WO_e (qAz ?_);obtain rfl:=sI i;exact X_rt [0] [vB o1] ⟨m5,rfl,q,g.t.t.t.t.t⟩
  ·intro K;refine qAa 3 [(34,vB (y2.2==0))] (qCb 34 i ?_ ?_)
   ·intro A i;refine qAa 4 [(38,vB (y2.1.toList==(⟨#[112,97,99,107,97,103,101,32,112,59,10,105,109,112,111,114,116,32,113,59,10,116,101,115,116,32,116,32,61,32,102,40,114,101,97,100,40,34,97,46,100,97,116,34,44,32,102,108,105,112,40,48,41,41,41,59,10]⟩:ByteArray).toList))] (qCb 38 i ?_ ?_)
    ·intro A i;refine qAa 5 [(43,vB ((y3.length:Int)==1))] (qCb 43 i ?_ ?_)
     ·intro A i;refine qAa 1 [(44,vS a7 y3 c7)] (qAb rfl (qCy 45 22 9 44 ((.const (vI 0))) (r7.mono e4) i ?_));rintro x3 i b4 f3 cs3 rfl hq3;refine qDu 46 9 45 f3 (vT x3) g hq3 (qAa 3 [(49,vB (x3.toList==bo.toList))] (qCb 49 i ?_ ?_))
      ·intro A i;refine qAa 5 [(54,vB ((y4.length:Int)==1))] (qCb 54 i ?_ ?_)
       ·intro A i;refine qAa 1 [(55,vS a8 y4 c8)] (qAb rfl (qCy 56 22 9 55 ((.const (vI 0))) r8 i ?_));rintro x4 i b5 f4 cs4 rfl hq4;refine qDu 57 9 56 f4 (vT x4) g hq4 (qAa 3 [(60,vB (x4.toList==bg.toList))] (qCb 60 i ?_ ?_))
        ·intro A i;refine qCx 1 62 23 61 2 (vS a2 y1.1.2.2 c2) g.t.t.h (qAb rfl (qCy 63 23 48 62 ((.const (vI 0))) r2 i ?_));rintro x5 i b6 f5 cs5 ⟨_,_,rfl,rfl,⟨_,_,rfl,rfl,⟨_,_,rfl,⟨a9,c9,rfl,r9⟩,⟨a10,c10,rfl,r10⟩⟩⟩⟩ hq5;refine qDu 64 48 63 f5 (.agg (V7 x5 a9 c9 a10 c10)) g hq5 (qAl 65 i (fun _ h=>qXh (p0:=x5) g r9 r10 h) ?_);rintro y5 i _ w9 ⟨m6,rfl,e5,g⟩;refine qAa 2 [(0,vB y5)] ?_;cases i;exact qAq _ kr (K _ _ ⟨m6,rfl,q.t e5,g.f4.f4.f3.f3.f4,r1.mono e5,r2.mono e5⟩)
        ·intro A i;refine qAa 7 [(0,vB false)] ?_;cases i;exact qAq _ kr (K _ _ ⟨m4,rfl,q,g.f4.f4.f3.f3.f4,r1,r2⟩)
       ·intro A i;refine qAa 13 [(0,vB false)] ?_;cases i;exact qAq _ kr (K _ _ ⟨m4,rfl,q,g.f4.f4.f3.f3.f4,r1,r2⟩)
      ·intro A i;refine qAa 18 [(0,vB false)] ?_;cases i;exact qAq _ kr (K _ _ ⟨m4,rfl,q,g.f4.f4.f3.f3.f4,r1,r2⟩)
     ·intro A i;refine qAa 24 [(0,vB false)] ?_;cases i;exact qAq _ kr (K _ _ ⟨m4,rfl,q,g.f4.f4.f3.f3.f4,r1,r2⟩)
    ·intro A i;refine qAa 29 [(0,vB false)] ?_;cases i;exact qAq _ kr (K _ _ ⟨m4,rfl,q,g.f4.f4.f3.f3.f4,r1,r2⟩)
   ·intro A i;refine qAa 33 [(0,vB false)] ?_;cases i;exact qAq _ kr (K _ _ ⟨m4,rfl,q,g.f4.f4.f3.f3.f4,r1,r2⟩)
def qDe(N:Nat)(p0:T6)(p1:T6)(s1:Int):Td:=
 if(decide (s1<(List.length p0:Int)))=true then((idx p0 s1).bind fun x1=>(idx p1 s1).bind fun x2=>if(!(x1.toList==x2.toList))=true then(some (.inr (.inr (false)))) else(some (.inl (IntKind.wrap .i64 (s1+1))))) else(some (.inr (.inl ())))
def qEn(N:Nat)(p0:T6)(p1:T6):Te:=
 if((List.length p0:Int) !=(List.length p1:Int))=true then(some false) else((qAs (qDe N p0 p1) N 0).bind fun out1=>(match out1 with| .inl o1=>some true| .inr (z)=>some z))
theorem qQu{p0:T6}{p1:T6}{r:Bool}(g:St m (O) w)(r1:RepS cStr m a1 c1 p0)(r2:RepS cStr m a2 c2 p1)(i:qEn N p0 p1=some r):Calls Tryz.prog 22 #[vS a1 p0 c1,vS a2 p1 c2] w fun e w'=>∃m',e= .returned (vB r)∧m.le m'∧St m' (O) w':=by
 unfold qEn at i;have q:=m.le_refl;refine W_cA Tryz.func22 rfl Tryz.ntmps22 ?_;refine W_sr (qAd 1 [] (qAr (W_sr (qAd 5 [(10,vB ((p0.length:Int) !=(p1.length:Int)))] (W_if i ?_ ?_)))))
 ·intro A i;refine W_sr (qAd 1 [(4,vB false)] (qAz (qAc ?_)));cases i;exact X_rt [4] [vB false] ⟨m,rfl,q,g⟩
 ·intro A i;refine qAp (qAg (qAr (W_sr (qAd 1 [(5,vI 0)] (qAt ?_)))));have⟨out1,i,j1⟩:=qAv i;refine qCl (.exit 0) (fun L' w'=>∃(o1:Unit),∃m1,(.inl o1)=out1∧L'=[]∧m.le m1∧St m1 (O) w') ?_ ?_
  ·rintro _ w1 ⟨o1,m1,rfl,rfl,q,g⟩;have i:=j1;refine qBg (qAg (W_sr (qAd 1 [(4,vB true)] (qAz ?_))));cases i;exact X_rt [4] [vB true] ⟨m1,rfl,q,g⟩
  intro K0_u1;refine qFh _ kr (qCz (fun k1 L' w'=>∃(s1:Int),∃m2,qAs (qDe N p0 p1) k1 s1=some out1∧L'=[(0,vS a1 p0 c1),(1,vS a2 p1 c2),(5,vI s1)]∧m.le m2∧St m2 (O) w'∧RepS cStr m2 a1 c1 p0∧RepS cStr m2 a2 c2 p1) N ⟨0,m,i,rfl,q,g,r1,r2⟩ ?_);rintro k1 _ w2 ⟨s1,m2,hL,rfl,q,g,r1,r2⟩;rcases k1 with _|k1
  ·exact qBh hL
  ·obtain⟨qu1,i,hSu1,hBu1⟩:=qBf hL;clear hL;unfold qDe at i;refine qAr (W_sr (qAd 4 [(14,vB (decide (s1<(p0.length:Int))))] (W_if i ?_ ?_)))
   ·intro A i;refine qAp (qAg (qAr (qAt (qAr (qGk [(9,fun w'=>Inv m2 w'∧True)] kr g fun w3 _ g=> ?_)))));have hmS1:=m2.le_refl;refine tA g hmS1 ?_;refine qBn 0 17 (vS a1 p0 c1) (.head _) (qBn 1 18 (vI s1) (.head _) ?_);have⟨x1,d1,i⟩:=qAv i;refine qHy (t:=22) (e:=9) (x:=(.tmp 17)) (y:=(.tmp 18)) 2 19 cStr kr rfl kr (.head _) (qAw (qBq (qAw (qAw (qBq (qAw qFg)))))) (ev (vS a1 p0 c1)) (ev (vI s1)) kr r1 d1 ?_;rintro b1 f1 cs1 rfl hq1;refine qLw 9 19 3 20 f1 (vT x1) (.head _) (fun _ h=>h.1) hq1 (qBn 4 21 (vS a2 p1 c2) (.head _) (qBn 5 22 (vI s1) (.head _) ?_));have⟨x2,d2,i⟩:=qAv i;refine qHy (t:=22) (e:=9) (x:=(.tmp 21)) (y:=(.tmp 22)) 6 23 cStr kr rfl kr (.head _) (qAw (qBq (qAw (qAw (qBq (qAw qFg)))))) (ev (vS a2 p1 c2)) (ev (vI s1)) kr r2 d2 ?_;rintro b2 f2 cs2 rfl hq2;refine qLw 9 23 7 24 f2 (vT x2) (.head _) (fun _ h=>h.1) hq2 (qBn 8 25 (vB (!(x1.toList==x2.toList))) (.head _) (qDm kr (qAg (W_if i ?_ ?_))))
    ·intro A i;refine W_sr (qAd 1 [(4,vB false)] (qAz (qAe (qAc ?_))));cases i;have ho:=hBu1 _ rfl;subst ho;have i:=j1;refine qAc (qAe (qAc ?_));cases i;exact X_rt [4] [vB false] ⟨m2,rfl,q,g⟩
    ·intro A i;refine qAp (qBj (qAg (qAo (qAa 3 [(5,vI (wr (s1+1)))] (qBa rfl ?_)))));obtain rfl:=sI i;have hL:=hSu1 _ rfl;exact xE (qCg k1 (jG _) ⟨wr (s1+1),m2,hL,rfl,q,g,r1,r2⟩)
   ·intro A i;refine qCt (qAf ?_);cases i;have ho:=hBu1 _ rfl;refine qAf ?_;exact xE (K0_u1 _ _ ⟨(),m2,ho,rfl,q,g⟩)
def qFk(N:Nat)(p0:T6)(p1:T6)(s1:Int):Td:=
 if(decide (s1<(List.length p0:Int)))=true then((idx p0 s1).bind fun x1=>(idx p1 s1).bind fun x2=>if(!(x1.toList==x2.toList))=true then(some (.inr (.inr (false)))) else(some (.inl (IntKind.wrap .i64 (s1+1))))) else(some (.inr (.inl ())))
def qFi(N:Nat)(p0:T6)(p1:T6):Te:=
 if((List.length p0:Int) !=(List.length p1:Int))=true then(some false) else((qAs (qFk N p0 p1) N 0).bind fun out1=>(match out1 with| .inl o1=>some true| .inr (z)=>some z))
theorem qPy{p0:T6}{p1:T6}{r:Bool}(g:St m (O) w)(r1:RepS cStr m a1 c1 p0)(r2:RepS cStr m a2 c2 p1)(i:qFi N p0 p1=some r):Calls Tryz.prog 56 #[vS a1 p0 c1,vS a2 p1 c2] w fun e w'=>∃m',e= .returned (vB r)∧m.le m'∧St m' (O) w':=by
 unfold qFi at i;have q:=m.le_refl;refine W_cA Tryz.func56 rfl Tryz.ntmps56 ?_;refine W_sr (qAd 1 [] (qAr (W_sr (qAd 5 [(10,vB ((p0.length:Int) !=(p1.length:Int)))] (W_if i ?_ ?_)))))
 ·intro A i;refine W_sr (qAd 1 [(4,vB false)] (qAz (qAc ?_)));cases i;exact X_rt [4] [vB false] ⟨m,rfl,q,g⟩
 ·intro A i;refine qAp (qAg (qAr (W_sr (qAd 3 [(12,vI (p0.length:Int)),(13,vI 0)] (qAt ?_)))));have⟨out1,i,j1⟩:=qAv i;refine qCl (.exit 0) (fun L' w'=>∃(o1:Unit),∃m1,(.inl o1)=out1∧L'=[]∧m.le m1∧St m1 (O) w') ?_ ?_
  ·rintro _ w1 ⟨o1,m1,rfl,rfl,q,g⟩;have i:=j1;refine qBg (qAg (W_sr (qAd 1 [(4,vB true)] (qAz ?_))));cases i;exact X_rt [4] [vB true] ⟨m1,rfl,q,g⟩
  intro K0_u1;refine qFh _ kr (qCz (fun k1 L' w'=>∃(s1:Int),∃m2,qAs (qFk N p0 p1) k1 s1=some out1∧L'=[(0,vS a1 p0 c1),(1,vS a2 p1 c2),(12,vI (p0.length:Int)),(13,vI s1)]∧m.le m2∧St m2 (O) w'∧RepS cStr m2 a1 c1 p0∧RepS cStr m2 a2 c2 p1) N ⟨0,m,i,rfl,q,g,r1,r2⟩ ?_);rintro k1 _ w2 ⟨s1,m2,hL,rfl,q,g,r1,r2⟩;rcases k1 with _|k1
  ·exact qBh hL
  ·obtain⟨qu1,i,hSu1,hBu1⟩:=qBf hL;clear hL;unfold qFk at i;refine W_sr (qAd 1 [(14,vB (decide (s1<(p0.length:Int))))] (qAr (W_if i ?_ ?_)))
   ·intro A i;refine qAp (qAg (qAr (qAt (W_sr (qAd 2 [(5,vI s1)] (qAr (qGk [(9,fun w'=>Inv m2 w'∧True)] kr g fun w3 _ g=> ?_)))))));have hmS1:=m2.le_refl;refine tA g hmS1 ?_;refine qBn 0 16 (vS a1 p0 c1) (.head _) (qBn 1 17 (vI s1) (.head _) ?_);have⟨x1,d1,i⟩:=qAv i;refine qHy (t:=22) (e:=9) (x:=(.tmp 16)) (y:=(.tmp 17)) 2 18 cStr kr rfl kr (.head _) (qAw (qBq (qAw (qAw (qBq (qAw qFg)))))) (ev (vS a1 p0 c1)) (ev (vI s1)) kr r1 d1 ?_;rintro b1 f1 cs1 rfl hq1;refine qLw 9 18 3 19 f1 (vT x1) (.head _) (fun _ h=>h.1) hq1 (qBn 4 20 (vS a2 p1 c2) (.head _) (qBn 5 21 (vI s1) (.head _) ?_));have⟨x2,d2,i⟩:=qAv i;refine qHy (t:=22) (e:=9) (x:=(.tmp 20)) (y:=(.tmp 21)) 6 22 cStr kr rfl kr (.head _) (qAw (qBq (qAw (qAw (qBq (qAw qFg)))))) (ev (vS a2 p1 c2)) (ev (vI s1)) kr r2 d2 ?_;rintro b2 f2 cs2 rfl hq2;refine qLw 9 22 7 23 f2 (vT x2) (.head _) (fun _ h=>h.1) hq2 (qBn 8 24 (vB (!(x1.toList==x2.toList))) (.head _) (qDm kr (qAg (W_if i ?_ ?_))))
    ·intro A i;refine W_sr (qAd 1 [(4,vB false)] (qAz (qAe (qAc ?_))));cases i;have ho:=hBu1 _ rfl;subst ho;have i:=j1;refine qAc (qAe (qAc ?_));cases i;exact X_rt [4] [vB false] ⟨m2,rfl,q,g⟩
    ·intro A i;refine qAp (qBj (qAg (qAo (qAa 2 [(13,vI (wr (s1+1)))] (qBa rfl ?_)))));obtain rfl:=sI i;have hL:=hSu1 _ rfl;exact xE (qCg k1 (jG _) ⟨wr (s1+1),m2,hL,rfl,q,g,r1,r2⟩)
   ·intro A i;refine qCt (qAf ?_);cases i;have ho:=hBu1 _ rfl;refine qAf ?_;exact xE (K0_u1 _ _ ⟨(),m2,ho,rfl,q,g⟩)
def qEh(N:Nat)(p0:Tn)(p1:Tn)(s1:Int):Td:=
 if(decide (s1<(List.length p0.2.2.2.2:Int)))=true then((idx p0.2.2.2.2 s1).bind fun x1=>(idx p1.2.2.2.2 s1).bind fun x2=>if(x1 !=x2)=true then(some (.inr (.inr (false)))) else(some (.inl (IntKind.wrap .i64 (s1+1))))) else(some (.inr (.inl ())))
def qHo(N:Nat)(p0:Tn)(p1:Tn):Te:=
 (if(p0.1 !=p1.1)=true then(some true) else(if(p0.2.1 !=p1.2.1)=true then(some true) else(if(p0.2.2.1 !=p1.2.2.1)=true then(some true) else(if(!(p0.2.2.2.1.toList==p1.2.2.2.1.toList))=true then(some true) else(some ((List.length p0.2.2.2.2:Int) !=(List.length p1.2.2.2.2:Int)))))):Te).bind fun o1=>if o1=true then(some false) else((qAs (qEh N p0 p1) N 0).bind fun out1=>(match out1 with| .inl o2=>some true| .inr (z)=>some z))
theorem qQo{p0:Tn}{p1:Tn}{r:Bool}(g:St m (O) w)(r1:RepS (cInt .i64) m a1 c1 p0.2.2.2.2)(r2:RepS (cInt .i64) m a2 c2 p1.2.2.2.2)(i:qHo N p0 p1=some r):Calls Tryz.prog 63 #[.agg (V8 p0 a1 c1),.agg (V8 p1 a2 c2)] w fun e w'=>∃m',e= .returned (vB r)∧m.le m'∧St m' (O) w':=by
 unfold qHo at i;have q:=m.le_refl;refine W_cA Tryz.func63 rfl Tryz.ntmps63 ?_;refine W_sr (qAb rfl (qKv 2 73 0 (.agg (V8 p0 a1 c1)) g fun b1 m1 w1 e1 g hb1=>(qAb rfl (qKv 3 73 1 (.agg (V8 p1 a2 c2)) g fun b2 m2 w2 e2 g hb2=> ?_))));have q:=(q.t e1).t e2;have r1:=(r1.mono e1).mono e2;have r2:=(r2.mono e1).mono e2;have hb1:=hb1.mono e2;refine qAd 1 [] (qAr (W_sr ?_));have⟨o1,i,J⟩:=qAv i;refine qCw (j:=35) (fun L' w'=>∃m3,L'=[(2,vP b1 0),(3,vP b2 0),(40,vB o1)]∧m.le m3∧St m3 (O) w'∧MRow m3 b1 0 (V9 p0 a1 c1)∧RepS (cInt .i64) m3 a1 c1 p0.2.2.2.2∧MRow m3 b2 0 (V9 p1 a2 c2)∧RepS (cInt .i64) m3 a2 c2 p1.2.2.2.2) ?_ ?_
 ·have i:=J;rintro _ w3 ⟨m3,rfl,q,g,hb1,r1,hb2,r2⟩;refine WO_e (W_if i ?_ ?_)
  ·intro A i;refine W_sr (qAd 1 [(4,vB false)] (qAz (qAc ?_)));cases i;exact X_rt [4] [vB false] ⟨m3,rfl,q,g⟩
  ·intro A i;refine qAp (qAg (qAr (W_sr (qAa 1 [(41,vP b1 4)] (qAb rfl (qAn (d:=42) (t:=32) (x:=(.tmp 41)) (vS a1 p0.2.2.2.2 c1) kr rfl (ev (vP b1 4)) g (hb1.drop 4) kr (qAd 2 [(43,vI (p0.2.2.2.2.length:Int)),(44,vI 0)] (qAt ?_))))))));have⟨out1,i,j1⟩:=qAv i;refine qCl (.exit 0) (fun L' w'=>∃(o2:Unit),∃m4,(.inl o2)=out1∧L'=[]∧m.le m4∧St m4 (O) w') ?_ ?_
   ·rintro _ w4 ⟨o2,m4,rfl,rfl,q,g⟩;have i:=j1;refine qBg (qAg (W_sr (qAd 1 [(4,vB true)] (qAz ?_))));cases i;exact X_rt [4] [vB true] ⟨m4,rfl,q,g⟩
   intro K0_u1;refine qFh _ kr (qCz (fun k1 L' w'=>∃(s1:Int),∃m5,qAs (qEh N p0 p1) k1 s1=some out1∧L'=[(2,vP b1 0),(3,vP b2 0),(43,vI (p0.2.2.2.2.length:Int)),(44,vI s1)]∧m.le m5∧St m5 (O) w'∧MRow m5 b1 0 (V9 p0 a1 c1)∧RepS (cInt .i64) m5 a1 c1 p0.2.2.2.2∧MRow m5 b2 0 (V9 p1 a2 c2)∧RepS (cInt .i64) m5 a2 c2 p1.2.2.2.2) N ⟨0,m3,i,rfl,q,g,hb1,r1,hb2,r2⟩ ?_);rintro k1 _ w5 ⟨s1,m5,hL,rfl,q,g,hb1,r1,hb2,r2⟩;rcases k1 with _|k1
   ·exact qBh hL
   ·obtain⟨qu1,i,hSu1,hBu1⟩:=qBf hL;clear hL;unfold qEh at i;refine W_sr (qAd 1 [(45,vB (decide (s1<(p0.2.2.2.2.length:Int))))] (qAr (W_if i ?_ ?_)))
    ·intro A i;refine qAp (qAg (qAr (qAt (W_sr (qAd 2 [(5,vI s1)] (qAr (qGk [(11,fun w'=>Inv m5 w'∧True)] kr g fun w6 _ g=> ?_)))))));have hmS1:=m5.le_refl;refine tA g hmS1 ?_;refine qBn 0 47 (vP b1 4) (.head _) (qLw 32 47 1 48 4 (vS a1 p0.2.2.2.2 c1) (.head _) (fun _ h=>h.1) (hb1.drop 4) (qBn 2 49 (vI s1) (.head _) ?_));have⟨x1,d1,i⟩:=qAv i;refine qHy (t:=32) (e:=3) (x:=(.tmp 48)) (y:=(.tmp 49)) 3 50 (cInt .i64) kr rfl kr (.head _) (qAw (qBq (qAw (qAw (qBq (qAw qFg)))))) (ev (vS a1 p0.2.2.2.2 c1)) (ev (vI s1)) kr r1 d1 ?_;rintro b3 f1 cs1 rfl hq1;refine qLw 3 50 4 51 f1 (vI x1) (.head _) (fun _ h=>h.1) hq1 (qBn 5 52 (vP b2 4) (.head _) (qLw 32 52 6 53 4 (vS a2 p1.2.2.2.2 c2) (.head _) (fun _ h=>h.1) (hb2.drop 4) (qBn 7 54 (vI s1) (.head _) ?_)));have⟨x2,d2,i⟩:=qAv i;refine qHy (t:=32) (e:=3) (x:=(.tmp 53)) (y:=(.tmp 54)) 8 55 (cInt .i64) kr rfl kr (.head _) (qAw (qBq (qAw (qAw (qBq (qAw qFg)))))) (ev (vS a2 p1.2.2.2.2 c2)) (ev (vI s1)) kr r2 d2 ?_;rintro b4 f2 cs2 rfl hq2;refine qLw 3 55 9 56 f2 (vI x2) (.head _) (fun _ h=>h.1) hq2 (qBn 10 57 (vB (x1 !=x2)) (.head _) (qDm kr (qAg (W_if i ?_ ?_))))
     ·intro A i;refine W_sr (qAd 1 [(4,vB false)] (qAz (qAe (qAc ?_))));cases i;have ho:=hBu1 _ rfl;subst ho;have i:=j1;refine qAc (qAe (qAc ?_));cases i;exact X_rt [4] [vB false] ⟨m5,rfl,q,g⟩
     ·intro A i;refine qAp (qBj (qAg (qAo (qAa 2 [(44,vI (wr (s1+1)))] (qBa rfl ?_)))));obtain rfl:=sI i;have hL:=hSu1 _ rfl;exact xE (qCg k1 (jG _) ⟨wr (s1+1),m5,hL,rfl,q,g,hb1,r1,hb2,r2⟩)
    ·intro A i;refine qCt (qAf ?_);cases i;have ho:=hBu1 _ rfl;refine qAf ?_;exact xE (K0_u1 _ _ ⟨(),m5,ho,rfl,q,g⟩)
 ·intro K;refine qAa 1 [(6,vP b1 0)] (qDu 7 3 6 0 (vI p0.1) g hb1 (qAa 1 [(8,vP b2 0)] (qDu 9 3 8 0 (vI p1.1) g hb2 (qAa 2 [(11,vB (p0.1 !=p1.1))] (qCb 11 i ?_ ?_)))))
  ·intro A i;refine qAa 29 [(40,vB true)] ?_;cases i;exact qAq _ kr (K _ _ ⟨m2,rfl,q,g,hb1,r1,hb2,r2⟩)
  ·intro A i;refine qAa 1 [(12,vP b1 1)] (qAb rfl (qAn (d:=13) (t:=3) (x:=(.tmp 12)) (vI p0.2.1) kr rfl (ev (vP b1 1)) g (hb1.drop 1) kr (qAa 1 [(14,vP b2 1)] (qAb rfl (qAn (d:=15) (t:=3) (x:=(.tmp 14)) (vI p1.2.1) kr rfl (ev (vP b2 1)) g (hb2.drop 1) kr (qAa 3 [(18,vB (p0.2.1 !=p1.2.1))] (qCb 18 i ?_ ?_)))))))
   ·intro A i;refine qAa 22 [(40,vB true)] ?_;cases i;exact qAq _ kr (K _ _ ⟨m2,rfl,q,g,hb1,r1,hb2,r2⟩)
   ·intro A i;refine qAa 1 [(19,vP b1 2)] (qAb rfl (qAn (d:=20) (t:=3) (x:=(.tmp 19)) (vI p0.2.2.1) kr rfl (ev (vP b1 2)) g (hb1.drop 2) kr (qAa 1 [(21,vP b2 2)] (qAb rfl (qAn (d:=22) (t:=3) (x:=(.tmp 21)) (vI p1.2.2.1) kr rfl (ev (vP b2 2)) g (hb2.drop 2) kr (qAa 3 [(25,vB (p0.2.2.1 !=p1.2.2.1))] (qCb 25 i ?_ ?_)))))))
    ·intro A i;refine qAa 15 [(40,vB true)] ?_;cases i;exact qAq _ kr (K _ _ ⟨m2,rfl,q,g,hb1,r1,hb2,r2⟩)
    ·intro A i;refine qAa 1 [(26,vP b1 3)] (qAb rfl (qAn (d:=27) (t:=9) (x:=(.tmp 26)) (vT p0.2.2.2.1) kr rfl (ev (vP b1 3)) g (hb1.drop 3) kr (qAa 1 [(28,vP b2 3)] (qAb rfl (qAn (d:=29) (t:=9) (x:=(.tmp 28)) (vT p1.2.2.2.1) kr rfl (ev (vP b2 3)) g (hb2.drop 3) kr (qAa 3 [(32,vB (!(p0.2.2.2.1.toList==p1.2.2.2.1.toList)))] (qCb 32 i ?_ ?_)))))))
     ·intro A i;refine qAa 8 [(40,vB true)] ?_;cases i;exact qAq _ kr (K _ _ ⟨m2,rfl,q,g,hb1,r1,hb2,r2⟩)
     ·intro A i;refine qAa 1 [(33,vP b1 4)] (qAb rfl (qAn (d:=34) (t:=32) (x:=(.tmp 33)) (vS a1 p0.2.2.2.2 c1) kr rfl (ev (vP b1 4)) g (hb1.drop 4) kr (qAa 2 [(35,vI (p0.2.2.2.2.length:Int)),(36,vP b2 4)] (qAb rfl (qAn (d:=37) (t:=32) (x:=(.tmp 36)) (vS a2 p1.2.2.2.2 c2) kr rfl (ev (vP b2 4)) g (hb2.drop 4) kr (qAa 3 [(40,vB ((p0.2.2.2.2.length:Int) !=(p1.2.2.2.2.length:Int)))] ?_))))));cases i;exact qAq _ kr (K _ _ ⟨m2,rfl,q,g,hb1,r1,hb2,r2⟩)
def qEi(N:Nat)(p0:Tv)(p1:Tv)(s1:Int):Td:=
 if(decide (s1<(List.length p0.2.2.2:Int)))=true then((idx p0.2.2.2 s1).bind fun x1=>(idx p1.2.2.2 s1).bind fun x2=>(qHo N x1 x2).bind fun y2=>if(!y2)=true then(some (.inr (.inr (false)))) else(some (.inl (IntKind.wrap .i64 (s1+1))))) else(some (.inr (.inl ())))
def qHn(N:Nat)(p0:Tv)(p1:Tv):Te:=
 (if(p0.1 !=p1.1)=true then(some true) else(if(!(p0.2.1.toList==p1.2.1.toList))=true then(some true) else((qFi N p0.2.2.1 p1.2.2.1).bind fun y1=>if(!y1)=true then(some true) else(some ((List.length p0.2.2.2:Int) !=(List.length p1.2.2.2:Int))))):Te).bind fun o1=>if o1=true then(some false) else((qAs (qEi N p0 p1) N 0).bind fun out1=>(match out1 with| .inl o2=>some true| .inr (z)=>some z))
theorem qQv{p0:Tv}{p1:Tv}{r:Bool}(g:St m (O) w)(r1:RepS cStr m a1 c1 p0.2.2.1)(r2:RepS C3 m a2 c2 p0.2.2.2)(r3:RepS cStr m a3 c3 p1.2.2.1)(r4:RepS C3 m a4 c4 p1.2.2.2)(i:qHn N p0 p1=some r):Calls Tryz.prog 23 #[.agg (V7 p0 a1 c1 a2 c2),.agg (V7 p1 a3 c3 a4 c4)] w fun e w'=>∃m',e= .returned (vB r)∧m.le m'∧St m' (O) w':=by
 unfold qHn at i;have q:=m.le_refl;refine W_cA Tryz.func23 rfl Tryz.ntmps23 ?_;refine W_sr (qAb rfl (qKv 2 48 0 (.agg (V7 p0 a1 c1 a2 c2)) g fun b1 m1 w1 e1 g hb1=>(qAb rfl (qKv 3 48 1 (.agg (V7 p1 a3 c3 a4 c4)) g fun b2 m2 w2 e2 g hb2=> ?_))));have q:=(q.t e1).t e2;have r1:=(r1.mono e1).mono e2;have r2:=(r2.mono e1).mono e2;have r3:=(r3.mono e1).mono e2;have r4:=(r4.mono e1).mono e2;have hb1:=hb1.mono e2;refine qAd 1 [] (qAr (W_sr ?_));have⟨o1,i,J⟩:=qAv i;refine qCw (j:=29) (fun L' w'=>∃m3,L'=[(2,vP b1 0),(3,vP b2 0),(34,vB o1)]∧m.le m3∧St m3 (O) w'∧MRow m3 b1 0 (Vb p0 a1 c1 a2 c2)∧RepS cStr m3 a1 c1 p0.2.2.1∧RepS C3 m3 a2 c2 p0.2.2.2∧MRow m3 b2 0 (Vb p1 a3 c3 a4 c4)∧P2 m3 a3 c3 a4 c4 p1.2.2) ?_ ?_
 ·have i:=J;rintro _ w3 ⟨m3,rfl,q,g,hb1,r1,r2,hb2,r3,r4⟩;refine WO_e (W_if i ?_ ?_)
  ·intro A i;refine W_sr (qAd 1 [(4,vB false)] (qAz (qAc ?_)));cases i;exact X_rt [4] [vB false] ⟨m3,rfl,q,g⟩
  ·intro A i;refine qAp (qAg (qAr (W_sr (qAa 1 [(35,vP b1 3)] (qAb rfl (qAn (d:=36) (t:=46) (x:=(.tmp 35)) (vS a2 p0.2.2.2 c2) kr rfl (ev (vP b1 3)) g (hb1.drop 3) kr (qAd 2 [(37,vI (p0.2.2.2.length:Int)),(38,vI 0)] (qAt ?_))))))));have⟨out1,i,j1⟩:=qAv i;refine qCl (.exit 0) (fun L' w'=>∃(o2:Unit),∃m5,(.inl o2)=out1∧L'=[]∧m.le m5∧St m5 (O) w') ?_ ?_
   ·rintro _ w5 ⟨o2,m5,rfl,rfl,q,g⟩;have i:=j1;refine qBg (qAg (W_sr (qAd 1 [(4,vB true)] (qAz ?_))));cases i;exact X_rt [4] [vB true] ⟨m5,rfl,q,g⟩
   intro K0_u1;refine qFh _ kr (qCz (fun k1 L' w'=>∃(s1:Int),∃m6,qAs (qEi N p0 p1) k1 s1=some out1∧L'=[(2,vP b1 0),(3,vP b2 0),(37,vI (p0.2.2.2.length:Int)),(38,vI s1)]∧m.le m6∧St m6 (O) w'∧MRow m6 b1 0 (Vb p0 a1 c1 a2 c2)∧RepS cStr m6 a1 c1 p0.2.2.1∧RepS C3 m6 a2 c2 p0.2.2.2∧MRow m6 b2 0 (Vb p1 a3 c3 a4 c4)∧P2 m6 a3 c3 a4 c4 p1.2.2) N ⟨0,m3,i,rfl,q,g,hb1,r1,r2,hb2,r3,r4⟩ ?_);rintro k1 _ w6 ⟨s1,m6,hL,rfl,q,g,hb1,r1,r2,hb2,r3,r4⟩;rcases k1 with _|k1
   ·exact qBh hL
   ·obtain⟨qu1,i,hSu1,hBu1⟩:=qBf hL;clear hL;unfold qEi at i;refine W_sr (qAd 1 [(39,vB (decide (s1<(p0.2.2.2.length:Int))))] (qAr (W_if i ?_ ?_)))
    ·intro A i;refine qAp (qAg (qAr (qAt (W_sr (qAd 2 [(5,vI s1)] (qAr (qGk [(12,fun w'=>Inv m6 w'∧True)] kr g fun w7 _ g=> ?_)))))));have hmS1:=m6.le_refl;refine tA g hmS1 ?_;refine qBn 0 41 (vP b1 3) (.head _) (qLw 46 41 1 42 3 (vS a2 p0.2.2.2 c2) (.head _) (fun _ h=>h.1) (hb1.drop 3) (qBn 2 43 (vI s1) (.head _) ?_));have⟨x1,d2,i⟩:=qAv i;refine qHy (t:=46) (e:=73) (x:=(.tmp 42)) (y:=(.tmp 43)) 3 44 C3 kr rfl kr (.head _) (qAw (qBq (qAw (qAw (qBq (qAw qFg)))))) (ev (vS a2 p0.2.2.2 c2)) (ev (vI s1)) kr r2 d2 ?_;rintro b3 f1 cs1 ⟨_,_,rfl,rfl,⟨_,_,rfl,rfl,⟨_,_,rfl,rfl,⟨_,_,rfl,rfl,⟨a5,c5,rfl,r5⟩⟩⟩⟩⟩ hq1;refine qLw 73 44 4 45 f1 (.agg (V8 x1 a5 c5)) (.head _) (fun _ h=>h.1) hq1 (qBn 5 46 (vP b2 3) (.head _) (qLw 46 46 6 47 3 (vS a4 p1.2.2.2 c4) (.head _) (fun _ h=>h.1) (hb2.drop 3) (qBn 7 48 (vI s1) (.head _) ?_)));have⟨x2,d3,i⟩:=qAv i;refine qHy (t:=46) (e:=73) (x:=(.tmp 47)) (y:=(.tmp 48)) 8 49 C3 kr rfl kr (.head _) (qAw (qBq (qAw (qAw (qBq (qAw qFg)))))) (ev (vS a4 p1.2.2.2 c4)) (ev (vI s1)) kr r4 d3 ?_;rintro b4 f2 cs2 ⟨_,_,rfl,rfl,⟨_,_,rfl,rfl,⟨_,_,rfl,rfl,⟨_,_,rfl,rfl,⟨a6,c6,rfl,r6⟩⟩⟩⟩⟩ hq2;refine qLw 73 49 9 50 f2 (.agg (V8 x2 a6 c6)) (.head _) (fun _ h=>h.1) hq2 (qDi 10 kr (qIb 51 i (fun _ h=>qQo (p0:=x1) (p1:=x2) g r5 r6 h) ?_))
     rintro y2 i _ w8 ⟨m7,rfl,e4,g⟩;refine⟨_,rfl,?_⟩;have hmS1:=Mem.le_trans hmS1 e4;refine tA g hmS1 ?_;refine qBn 11 52 (vB (!y2)) (.head _) (qDm kr (qAg (W_if i ?_ ?_)))
     ·intro A i;refine W_sr (qAd 1 [(4,vB false)] (qAz (qAe (qAc ?_))));cases i;have ho:=hBu1 _ rfl;subst ho;have i:=j1;refine qAc (qAe (qAc ?_));cases i;exact X_rt [4] [vB false] ⟨m7,rfl,q.t e4,g⟩
     ·intro A i;refine qAp (qBj (qAg (qAo (qAa 2 [(38,vI (wr (s1+1)))] (qBa rfl ?_)))));obtain rfl:=sI i;have hL:=hSu1 _ rfl;exact xE (qCg k1 (jG _) ⟨wr (s1+1),m7,hL,rfl,q.t e4,g,hb1.mono e4,r1.mono e4,r2.mono e4,hb2.mono e4,r3.mono e4,r4.mono e4⟩)
    ·intro A i;refine qCt (qAf ?_);cases i;have ho:=hBu1 _ rfl;refine qAf ?_;exact xE (K0_u1 _ _ ⟨(),m6,ho,rfl,q,g⟩)
 ·intro K;refine qAa 1 [(6,vP b1 0)] (qDu 7 3 6 0 (vI p0.1) g hb1 (qAa 1 [(8,vP b2 0)] (qDu 9 3 8 0 (vI p1.1) g hb2 (qAa 2 [(11,vB (p0.1 !=p1.1))] (qCb 11 i ?_ ?_)))))
  ·intro A i;refine qAa 23 [(34,vB true)] ?_;cases i;exact qAq _ kr (K _ _ ⟨m2,rfl,q,g,hb1,r1,r2,hb2,r3,r4⟩)
  ·intro A i;refine qAa 1 [(12,vP b1 1)] (qAb rfl (qAn (d:=13) (t:=9) (x:=(.tmp 12)) (vT p0.2.1) kr rfl (ev (vP b1 1)) g (hb1.drop 1) kr (qAa 1 [(14,vP b2 1)] (qAb rfl (qAn (d:=15) (t:=9) (x:=(.tmp 14)) (vT p1.2.1) kr rfl (ev (vP b2 1)) g (hb2.drop 1) kr (qAa 3 [(18,vB (!(p0.2.1.toList==p1.2.1.toList)))] (qCb 18 i ?_ ?_)))))))
   ·intro A i;refine qAa 16 [(34,vB true)] ?_;cases i;exact qAq _ kr (K _ _ ⟨m2,rfl,q,g,hb1,r1,r2,hb2,r3,r4⟩)
   ·intro A i;refine qAa 1 [(19,vP b1 2)] (qAb rfl (qAn (d:=20) (t:=22) (x:=(.tmp 19)) (vS a1 p0.2.2.1 c1) kr rfl (ev (vP b1 2)) g (hb1.drop 2) kr (qAa 1 [(21,vP b2 2)] (qAb rfl (qAn (d:=22) (t:=22) (x:=(.tmp 21)) (vS a3 p1.2.2.1 c3) kr rfl (ev (vP b2 2)) g (hb2.drop 2) kr (qAl 23 i (fun _ h=>qPy g r1 r3 h) ?_))))));rintro y1 i _ w4 ⟨m4,rfl,e3,g⟩;have hb1:=hb1.mono e3;have hb2:=hb2.mono e3;refine qAa 3 [(26,vB (!y1))] (qCb 26 i ?_ ?_)
    ·intro A i;refine qAa 8 [(34,vB true)] ?_;cases i;exact qAq _ kr (K _ _ ⟨m4,rfl,q.t e3,g,hb1,r1.mono e3,r2.mono e3,hb2,r3.mono e3,r4.mono e3⟩)
    ·intro A i;refine qAa 1 [(27,vP b1 3)] (qAb rfl (qAn (d:=28) (t:=46) (x:=(.tmp 27)) (vS a2 p0.2.2.2 c2) kr rfl (ev (vP b1 3)) g (hb1.drop 3) kr (qAa 2 [(29,vI (p0.2.2.2.length:Int)),(30,vP b2 3)] (qAb rfl (qAn (d:=31) (t:=46) (x:=(.tmp 30)) (vS a4 p1.2.2.2 c4) kr rfl (ev (vP b2 3)) g (hb2.drop 3) kr (qAa 3 [(34,vB ((p0.2.2.2.length:Int) !=(p1.2.2.2.length:Int)))] ?_))))));cases i;exact qAq _ kr (K _ _ ⟨m4,rfl,q.t e3,g,hb1,r1.mono e3,r2.mono e3,hb2,r3.mono e3,r4.mono e3⟩)
def qDp(N:Nat)(y1:T18)(o1:T9×Int×Tx)(s1:Int)(s2:Int):Td:=
 if(decide (s2<(List.length o1.2.2.2.2:Int)))=true then((qJq N y1.2 s1).bind fun y8=>(qJq N o1.2.2 s2).bind fun y9=>(if(y1.2.1.toList==o1.2.2.1.toList)=true then((qEn N y1.2.2.1 o1.2.2.2.1).bind fun y10=>if y10=true then((idx y1.2.2.2 s1).bind fun x3=>(idx o1.2.2.2.2 s2).bind fun x4=>(qHn N x3 x4).bind fun y11=>some y11) else(some false)) else(some false):Te).bind fun o5=>(if(y8.2 !=0)=true then(some true) else(if(y9.2 !=0)=true then(some true) else(some (!((y8.1.toList==y9.1.toList)==o5)))):Te).bind fun o6=>if o6=true then(some (.inr (.inr (false)))) else(some (.inl (IntKind.wrap .i64 (s2+1))))) else(some (.inr (.inl ())))
def qDs(N:Nat)(y1:T18)(o1:T9×Int×Tx)(s1:Int):Td:=
 if(decide (s1<(List.length y1.2.2.2:Int)))=true then((qAs (qDp N y1 o1 s1) N 0).bind fun out2=>(match out2 with| .inl o4=>some (.inl (IntKind.wrap .i64 (s1+1)))| .inr (z)=>some (.inr (.inr (z))))) else(some (.inr (.inl ())))
def qFl(N:Nat)(p0:T9):Te:=
 (qFp N (p0,0)).bind fun y1=>(appM 72 y1.2.2.2).bind fun l1=>(qCe N y1.1 5).bind fun y2=>(if(y2.2==0)=true then((qFp N y2.1).bind fun y3=>some (y3.1.1,y3.1.2,y3.2.1,y3.2.2.1,y3.2.2.2)) else(if(y2.2==1)=true then(if(decide ((List.length y1.2.2.1:Int)>1))=true then((idx y1.2.2.1 1).bind fun x1=>(idx y1.2.2.1 0).bind fun x2=>some (y2.1.1,y2.1.2,y1.2.1,[x1,x2],l1)) else(some (y2.1.1,y2.1.2,y1.2.1,y1.2.2.1,l1))) else(if(y2.2==2)=true then(some (y2.1.1,y2.1.2,y1.2.1,([]:T6),l1)) else(if(y2.2==3)=true then(if(decide (((List.length l1):Int)>0))=true then((qFp N y2.1).bind fun y4=>(subS l1 0 (IntKind.wrap .i64 (((List.length l1):Int)-1))).bind fun l2=>(qCn 72 l2 y4.2.2.2).bind fun l3=>some (y4.1.1,y4.1.2,y1.2.1,y1.2.2.1,l3)) else(some (y2.1.1,y2.1.2,y1.2.1,y1.2.2.1,l1))) else(some (y2.1.1,y2.1.2,y1.2.1,y1.2.2.1,l1))))):Option (T9×Int×Tx)).bind fun o1=>((qFd N o1.2.2).bind fun y5=>if(y5 !=0)=true then(some true) else((qFd N y1.2).bind fun y6=>some (y6 !=0)):Te).bind fun o2=>if o2=true then((qHv N).bind fun y7=>some y7) else((qAs (qDs N y1 o1) N 0).bind fun out1=>(match out1 with| .inl o3=>(qHv N).bind fun y12=>some y12| .inr (z)=>some z))
theorem qOv{p0:T9}{r:Bool}(g:St m (O) w)(r1:RepS (cInt .i64) m a1 c1 p0)(i:qFl N p0=some r):Calls Tryz.prog 5 #[vS a1 p0 c1] w fun e w'=>∃m',e= .returned (vB r)∧m.le m'∧St m' (O) w':=by
 unfold qFl at i;have q:=m.le_refl;refine W_cA Tryz.func5 rfl Tryz.ntmps5 ?_;refine W_sr (qAd 1 [] (W_sr (qAa 2 [(15,.agg #[vS a1 p0 c1,vI 0])] (qAb rfl (qYd 16 35 15 (.agg #[vS a1 p0 c1,vI 0]) g fun b1 w1 g=>(qAd 1 [(3,vP b1 0)] (W_sr (qAa 1 [(17,vP b1 0)] (qAl 18 i (fun _ h=>qKj (p0:=(p0,0)) g r1 h) ?_)))))))));rintro y1 i _ w2 ⟨a2,c2,a3,c3,a4,c4,m2,rfl,e2,g,r2,r3,r4⟩;refine qAb rfl (qJg 4 25 (.agg #[vT eB,v7,v7]) g fun b2 w3 g=>(qAb rfl (qGo 25 4 18 (.agg (V6 y1.2 a3 c3 a4 c4)) g fun w4 g=>(WO_e (W_sr (qAb rfl (qBx 19 25 4 0 (.agg (V6 y1.2 a3 c3 a4 c4)) g.h (qAb rfl (qJg 5 25 (.agg #[vT eB,v7,v7]) g fun b3 w5 g=>(qAb rfl (qGo 25 5 19 (.agg (V6 y1.2 a3 c3 a4 c4)) g fun w6 g=>(WO_e (W_sr (qCx 1 21 23 20 2 (vS a4 y1.2.2.2 c4) g.t.h ?_))))))))))))));have g:=g.nilroom 48 4;have⟨l1,d2,i⟩:=qAv i;refine qAb rfl (zSx (d:=22) (t:=23) (u:=23) (e:=48) (by_:=72) (x:=(.const (v7))) (y:=(.tmp 21)) (a:=none) C4 rfl kr rfl (ev (vb)) (ev (vS a4 y1.2.2.2 c4)) g kr (.inl kr) r4.src d2 fun vs1 a5 c5 T1 w7 hn1 hrw1 hs1 g=>(qAa 1 [(23,vP b3 2)] (qAb rfl (qEx 23 23 22 2 (vS a5 l1 c5) #[vT y1.2.1,vS a3 y1.2.2.1 c3,vS a5 l1 c5] g.f1 fun w8 g=>(WO_e (qAr (W_sr (qAa 1 [(24,vP b1 0)] (qAl 25 i (fun _ h=>qCu (p0:=y1.1) g.f5 r2 h) ?_)))))))));rintro y2 i _ w9 ⟨a6,c6,m3,rfl,e3,g,r5⟩
 have q:=(q.t e2).t e3;have r3:=r3.mono e3;have hrw1:=hrw1.mono e3;have r4:=r4.mono e3;refine WO_e ?_;have⟨o1,i,j1⟩:=qAv i;refine qCl .normal (fun L' w'=>∃a7 c7 a8 c8 a9 c9 m11,L'=[(4,vP b2 0),(5,vP b3 0)]∧m.le m11∧St m11 (kB b1 #[vS a7 o1.1 c7,vI o1.2.1] 35::kB b3 (V6 o1.2.2 a8 c8 a9 c9) 25::kB b2 (V6 y1.2 a3 c3 a4 c4) 25::kR a4 y1.2.2.2 c4 48 4::kR a8 o1.2.2.2.1 c8 9 1::kR a9 o1.2.2.2.2 c9 48 4::O) w'∧RepS (cInt .i64) m11 a7 c7 o1.1∧RepS cStr m11 a8 c8 o1.2.2.2.1∧RepS C4 m11 a9 c9 o1.2.2.2.2∧P5 m11 a3 c3 a4 c4 y1.2.2) ?_ ?_
 ·have i:=j1;rintro _ w10 ⟨a7,c7,a8,c8,a9,c9,m11,rfl,q,g,r13,r14,r15,r3,r4⟩;refine qAg (qAr (W_sr ?_));have⟨o2,i,J⟩:=qAv i;refine qCw (j:=8) (fun L' w'=>∃m22,L'=[(4,vP b2 0),(5,vP b3 0),(75,vB o2)]∧m.le m22∧St m22 (kB b1 #[vS a7 o1.1 c7,vI o1.2.1] 35::kB b3 (V6 o1.2.2 a8 c8 a9 c9) 25::kB b2 (V6 y1.2 a3 c3 a4 c4) 25::kR a4 y1.2.2.2 c4 48 4::kR a8 o1.2.2.2.1 c8 9 1::kR a9 o1.2.2.2.2 c9 48 4::O) w'∧RepS (cInt .i64) m22 a7 c7 o1.1∧RepS cStr m22 a8 c8 o1.2.2.2.1∧RepS C4 m22 a9 c9 o1.2.2.2.2∧P5 m22 a3 c3 a4 c4 y1.2.2) ?_ ?_
  ·have i:=J;rintro _ w20 ⟨m22,rfl,q,g,r13,r14,r15,r3,r4⟩;refine WO_e (W_if i ?_ ?_)
   ·intro A i;refine W_sr (qAl 76 i (fun _ h=>qNr g h) ?_);rintro y7 i _ w23 ⟨m25,rfl,e23,g⟩;refine qAd 1 [(2,vB y7)] (qAz (qAc ?_));obtain rfl:=sI i;exact X_rt [2] [vB y7] ⟨m25,rfl,q.t e23,g.t.t.t.t.t.t⟩
   ·intro A i;refine qAp (qAg (qAr (W_sr (qCx 1 78 23 77 2 (vS a4 y1.2.2.2 c4) g.t.t.h (qAd 2 [(79,vI (y1.2.2.2.length:Int)),(80,vI 0)] (qAt ?_))))));have⟨out1,i,j2⟩:=qAv i;refine qCl (.exit 1) (fun L' w'=>∃(o3:Unit),∃m26,(.inl o3)=out1∧L'=[]∧m.le m26∧St m26 (kB b1 #[vS a7 o1.1 c7,vI o1.2.1] 35::kB b3 (V6 o1.2.2 a8 c8 a9 c9) 25::kB b2 (V6 y1.2 a3 c3 a4 c4) 25::kR a4 y1.2.2.2 c4 48 4::kR a8 o1.2.2.2.1 c8 9 1::kR a9 o1.2.2.2.2 c9 48 4::O) w'∧RepS (cInt .i64) m26 a7 c7 o1.1∧RepS cStr m26 a8 c8 o1.2.2.2.1∧RepS C4 m26 a9 c9 o1.2.2.2.2∧P5 m26 a3 c3 a4 c4 y1.2.2) ?_ ?_
    ·rintro _ w24 ⟨o3,m26,rfl,rfl,q,g,r13,r14,r15,r3,r4⟩;have i:=j2;refine qBg (qAg (W_sr (qAl 141 i (fun _ h=>qNr g h) ?_)));rintro y12 i _ w35 ⟨m36,rfl,e28,g⟩;refine qAd 1 [(2,vB y12)] (qAz ?_);obtain rfl:=sI i;exact X_rt [2] [vB y12] ⟨m36,rfl,q.t e28,g.t.t.t.t.t.t⟩
    intro K1_u2;refine qFh _ kr (qCz (fun k1 L' w'=>∃(s1:Int),∃m27,qAs (qDs N y1 o1) k1 s1=some out1∧L'=[(4,vP b2 0),(5,vP b3 0),(79,vI (y1.2.2.2.length:Int)),(80,vI s1)]∧m.le m27∧St m27 (kB b1 #[vS a7 o1.1 c7,vI o1.2.1] 35::kB b3 (V6 o1.2.2 a8 c8 a9 c9) 25::kB b2 (V6 y1.2 a3 c3 a4 c4) 25::kR a4 y1.2.2.2 c4 48 4::kR a8 o1.2.2.2.1 c8 9 1::kR a9 o1.2.2.2.2 c9 48 4::O) w'∧RepS (cInt .i64) m27 a7 c7 o1.1∧RepS cStr m27 a8 c8 o1.2.2.2.1∧RepS C4 m27 a9 c9 o1.2.2.2.2∧P5 m27 a3 c3 a4 c4 y1.2.2) N ⟨0,m22,i,rfl,q,g.f5.f5.f5.f5.f5.f5,r13,r14,r15,r3,r4⟩ ?_);rintro k1 _ w25 ⟨s1,m27,hL,rfl,q,g,r13,r14,r15,r3,r4⟩;rcases k1 with _|k1
    ·exact qBh hL
    ·obtain⟨qu2,i,hSu2,hBu2⟩:=qBf hL;clear hL;unfold qDs at i;refine W_sr (qAd 1 [(81,vB (decide (s1<(y1.2.2.2.length:Int))))] (qAr (W_if i ?_ ?_)))
     ·intro A i;refine qAp (qAg (qAr (qAt (W_sr (qAd 2 [(7,vI s1)] (W_sr (qCx 1 84 23 83 2 (vS a9 o1.2.2.2.2 c9) g.t.h (qAd 2 [(85,vI (o1.2.2.2.2.length:Int)),(86,vI 0)] (qAt ?_)))))))));have⟨out2,i,j3⟩:=qAv i;refine qCl (.exit 3) (fun L' w'=>∃(o4:Unit),∃m28,(.inl o4)=out2∧L'=[(4,vP b2 0),(5,vP b3 0),(79,vI (y1.2.2.2.length:Int)),(80,vI s1)]∧m.le m28∧St m28 (kB b1 #[vS a7 o1.1 c7,vI o1.2.1] 35::kB b3 (V6 o1.2.2 a8 c8 a9 c9) 25::kB b2 (V6 y1.2 a3 c3 a4 c4) 25::kR a4 y1.2.2.2 c4 48 4::kR a8 o1.2.2.2.1 c8 9 1::kR a9 o1.2.2.2.2 c9 48 4::O) w'∧RepS (cInt .i64) m28 a7 c7 o1.1∧RepS cStr m28 a8 c8 o1.2.2.2.1∧RepS C4 m28 a9 c9 o1.2.2.2.2∧P5 m28 a3 c3 a4 c4 y1.2.2) ?_ ?_
      ·rintro _ w26 ⟨o4,m28,rfl,rfl,q,g,r13,r14,r15,r3,r4⟩;have i:=j3;refine qBg (qBj (qAg (qAo (qAa 2 [(80,vI (wr (s1+1)))] (qBa rfl ?_)))));obtain rfl:=sI i;have hL:=hSu2 _ rfl;exact xE (qCg k1 (jG _) ⟨wr (s1+1),m28,hL,rfl,q,g.f5.f5.f5.f5.f5.f5,r13,r14,r15,r3,r4⟩)
      intro K3_u3;refine qFh _ kr (qCz (fun k2 L' w'=>∃(s2:Int),∃m29,qAs (qDp N y1 o1 s1) k2 s2=some out2∧L'=[(4,vP b2 0),(5,vP b3 0),(7,vI s1),(79,vI (y1.2.2.2.length:Int)),(80,vI s1),(85,vI (o1.2.2.2.2.length:Int)),(86,vI s2)]∧m.le m29∧St m29 (kB b1 #[vS a7 o1.1 c7,vI o1.2.1] 35::kB b3 (V6 o1.2.2 a8 c8 a9 c9) 25::kB b2 (V6 y1.2 a3 c3 a4 c4) 25::kR a4 y1.2.2.2 c4 48 4::kR a8 o1.2.2.2.1 c8 9 1::kR a9 o1.2.2.2.2 c9 48 4::O) w'∧RepS (cInt .i64) m29 a7 c7 o1.1∧RepS cStr m29 a8 c8 o1.2.2.2.1∧RepS C4 m29 a9 c9 o1.2.2.2.2∧P5 m29 a3 c3 a4 c4 y1.2.2) N ⟨0,m27,i,rfl,q,g.f5.f5.f5.f5.f5.f5,r13,r14,r15,r3,r4⟩ ?_);rintro k2 _ w27 ⟨s2,m29,hL,rfl,q,g,r13,r14,r15,r3,r4⟩;rcases k2 with _|k2
      ·exact qBh hL
      ·obtain⟨qu3,i,hSu3,hBu3⟩:=qBf hL;clear hL;unfold qDp at i;refine W_sr (qAd 1 [(87,vB (decide (s2<(o1.2.2.2.2.length:Int))))] (qAr (W_if i ?_ ?_)))
       ·intro A i;refine qAp (qAg (qAr (qAt (W_sr (qAd 2 [(8,vI s2)] (W_sr (qAb rfl (qBx 90 25 4 0 (.agg (V6 y1.2 a3 c3 a4 c4)) g.t.t.h (qAa 1 [(91,vI s1)] (qAl 92 i (fun _ h=>qPv (p0:=y1.2) g r3 r4 h) ?_))))))))));rintro y8 i _ w28 ⟨m30,rfl,e24,g⟩;refine qAd 5 [(9,vT y8.1),(10,vI y8.2)] (W_sr (qAb rfl (qBx 96 25 5 0 (.agg (V6 o1.2.2 a8 c8 a9 c9)) g.t.h (qAa 1 [(97,vI s2)] (qAl 98 i (fun _ h=>qPv (p0:=o1.2.2) g (r14.mono e24) (r15.mono e24) h) ?_)))));rintro y9 i _ w29 ⟨m31,rfl,e25,g⟩;have q:=(q.t e24).t e25;have r14:=(r14.mono e24).mono e25;have r15:=(r15.mono e24).mono e25;have r13:=(r13.mono e24).mono e25;have r3:=(r3.mono e24).mono e25;have r4:=(r4.mono e24).mono e25;refine qAd 5 [(11,vT y9.1),(12,vI y9.2)] (qAr ?_);have⟨o5,i,J⟩:=qAv i;refine qCl .normal (fun L' w'=>∃m32,L'=[(4,vP b2 0),(5,vP b3 0),(7,vI s1),(9,vT y8.1),(10,vI y8.2),(11,vT y9.1),(12,vI y9.2),(13,vB o5),(79,vI (y1.2.2.2.length:Int)),(80,vI s1),(85,vI (o1.2.2.2.2.length:Int)),(86,vI s2)]∧m.le m32∧St m32 (kB b1 #[vS a7 o1.1 c7,vI o1.2.1] 35::kB b3 (V6 o1.2.2 a8 c8 a9 c9) 25::kB b2 (V6 y1.2 a3 c3 a4 c4) 25::kR a4 y1.2.2.2 c4 48 4::kR a8 o1.2.2.2.1 c8 9 1::kR a9 o1.2.2.2.2 c9 48 4::O) w'∧RepS (cInt .i64) m32 a7 c7 o1.1∧RepS cStr m32 a8 c8 o1.2.2.2.1∧RepS C4 m32 a9 c9 o1.2.2.2.2∧P5 m32 a3 c3 a4 c4 y1.2.2) ?_ ?_
        ·have i:=J;rintro _ w30 ⟨m32,rfl,q,g,r13,r14,r15,r3,r4⟩;refine qAg (W_sr ?_);have⟨o6,i,J⟩:=qAv i;refine qCw (j:=13) (fun L' w'=>∃m35,L'=[(4,vP b2 0),(5,vP b3 0),(7,vI s1),(79,vI (y1.2.2.2.length:Int)),(80,vI s1),(85,vI (o1.2.2.2.2.length:Int)),(86,vI s2),(138,vB o6)]∧m.le m35∧St m35 (kB b1 #[vS a7 o1.1 c7,vI o1.2.1] 35::kB b3 (V6 o1.2.2 a8 c8 a9 c9) 25::kB b2 (V6 y1.2 a3 c3 a4 c4) 25::kR a4 y1.2.2.2 c4 48 4::kR a8 o1.2.2.2.1 c8 9 1::kR a9 o1.2.2.2.2 c9 48 4::O) w'∧RepS (cInt .i64) m35 a7 c7 o1.1∧RepS cStr m35 a8 c8 o1.2.2.2.1∧RepS C4 m35 a9 c9 o1.2.2.2.2∧P5 m35 a3 c3 a4 c4 y1.2.2) ?_ ?_
         ·have i:=J;rintro _ w34 ⟨m35,rfl,q,g,r13,r14,r15,r3,r4⟩;refine WO_e (W_if i ?_ ?_)
          ·intro A i;refine W_sr (qAd 1 [(2,vB false)] (qAz (qAe (qAc ?_))));cases i;have ho:=hBu3 _ rfl;subst ho;have i:=j3;refine qAc (qAe (qAe (qAc ?_)));cases i;have ho:=hBu2 _ rfl;subst ho;have i:=j2;refine qAc (qAe (qAc ?_));cases i;exact X_rt [2] [vB false] ⟨m35,rfl,q,g.t.t.t.t.t.t⟩
          ·intro A i;refine qAp (qBj (qAg (qAo (qAa 2 [(86,vI (wr (s2+1)))] (qBa rfl ?_)))));obtain rfl:=sI i;have hL:=hSu3 _ rfl;exact xE (qCg k2 (jG _) ⟨wr (s2+1),m35,hL,rfl,q,g.f5.f5.f5.f5.f5.f5,r13,r14,r15,r3,r4⟩)
         ·intro K;refine qAa 3 [(128,vB (y8.2 !=0))] (qCb 128 i ?_ ?_)
          ·intro A i;refine qAa 10 [(138,vB true)] ?_;cases i;exact qAq _ kr (K _ _ ⟨m32,rfl,q,g.f5.f5.f5.f5.f5.f5,r13,r14,r15,r3,r4⟩)
          ·intro A i;refine qAa 4 [(132,vB (y9.2 !=0))] (qCb 132 i ?_ ?_)
           ·intro A i;refine qAa 6 [(138,vB true)] ?_;cases i;exact qAq _ kr (K _ _ ⟨m32,rfl,q,g.f5.f5.f5.f5.f5.f5,r13,r14,r15,r3,r4⟩)
           ·intro A i;refine qAa 6 [(138,vB (!((y8.1.toList==y9.1.toList)==o5)))] ?_;cases i;exact qAq _ kr (K _ _ ⟨m32,rfl,q,g.f5.f5.f5.f5.f5.f5,r13,r14,r15,r3,r4⟩)
        ·intro K;refine qGk [(26,fun w'=>Inv m31 w'∧Piece.holds m31 w' (kB b3 (V6 o1.2.2 a8 c8 a9 c9) 25)∧Piece.holds m31 w' (kB b2 (V6 y1.2 a3 c3 a4 c4) 25)∧True)] kr g fun w31 _ g=> ?_;have hmS2:=m31.le_refl;refine⟨⟨.inr ⟨Inv.anti g.inv hmS2,Piece.holds_anti g.t.h hmS2,Piece.holds_anti g.t.t.h hmS2,trivial⟩,trivial⟩,?_⟩;have r15S:=r15;have r4S:=r4;refine qBn 0 101 (vP b2 0) (.head _) (qIs 9 101 1 102 0 (vT y1.2.1) (.head _) (fun _ h=>h.2.2.1) (qBn 2 103 (vP b3 0) (.head _) (qIs 9 103 3 104 0 (vT o1.2.2.1) (.head _) (fun _ h=>h.2.1) (qBn 4 105 (vB (y1.2.1.toList==o1.2.2.1.toList)) (.head _) (qBn 5 106 (vB (y1.2.1.toList==o1.2.2.1.toList)) (.head _) ?_)))));rcases qFt (y1.2.1.toList==o1.2.2.1.toList) with A|A
         ·rw[if_pos A] at i;refine qWj (t:=106) (b:=true) (y1.2.1.toList==o1.2.2.1.toList) kr A ?_;refine qBn 6 107 (vP b2 1) (.head _) (qIs 22 107 7 108 1 (vS a3 y1.2.2.1 c3) (.head _) (fun _ h=>h.2.2.1) (qBn 8 109 (vP b3 1) (.head _) (qIs 22 109 9 110 1 (vS a8 o1.2.2.2.1 c8) (.head _) (fun _ h=>h.2.1) (qDi 10 kr (qIb 111 i (fun _ h=>qQu g r3 r14 h) ?_)))));rintro y10 i _ w32 ⟨m33,rfl,e26,g⟩;refine⟨_,rfl,?_⟩;have r3:=r3.mono e26;have r4:=r4.mono e26;have hmS2:=Mem.le_trans hmS2 e26;refine⟨⟨.inr ⟨Inv.anti g.inv hmS2,Piece.holds_anti g.t.h hmS2,Piece.holds_anti g.t.t.h hmS2,trivial⟩,trivial⟩,?_⟩;refine qBn 11 112 (vB y10) (.head _) (qBn 12 113 (vB y10) (.head _) ?_);rcases qFt y10 with A|A
          ·rw[if_pos A] at i;refine qWj (t:=113) (b:=true) y10 kr A ?_;refine qBn 13 114 (vP b2 2) (.head _) (qIs 23 114 14 115 2 (vS a4 y1.2.2.2 c4) (.head _) (fun _ h=>h.2.2.1) (qBn 15 116 (vI s1) (.head _) ?_));have⟨x3,d16,i⟩:=qAv i;refine qHy (t:=23) (e:=48) (x:=(.tmp 115)) (y:=(.tmp 116)) 16 117 C4 kr rfl kr (.head _) (qAw (qBq (qAw (qAw (qBq (qBq (qAw (qAw (qBq (qAw qFg)))))))))) (ev (vS a4 y1.2.2.2 c4)) (ev (vI s1)) kr r4S d16 ?_;rintro b7 f3 cs3 ⟨_,_,rfl,rfl,⟨_,_,rfl,rfl,⟨_,_,rfl,⟨a17,c17,rfl,r30⟩,⟨a18,c18,rfl,r31⟩⟩⟩⟩ hq3;have hq3S:=hq3;refine qLw 48 117 17 118 f3 (.agg (V7 x3 a17 c17 a18 c18)) (.head _) (fun _ h=>h.1) hq3S (qBn 18 119 (vP b3 2) (.head _) (qIs 23 119 19 120 2 (vS a9 o1.2.2.2.2 c9) (.head _) (fun _ h=>h.2.1) (qBn 20 121 (vI s2) (.head _) ?_)));have⟨x4,d17,i⟩:=qAv i;refine qHy (t:=23) (e:=48) (x:=(.tmp 120)) (y:=(.tmp 121)) 21 122 C4 kr rfl kr (.head _) (qAw (qBq (qAw (qAw (qBq (qBq (qAw (qAw (qBq (qAw qFg)))))))))) (ev (vS a9 o1.2.2.2.2 c9)) (ev (vI s2)) kr r15S d17 ?_;rintro b8 f4 cs4 ⟨_,_,rfl,rfl,⟨_,_,rfl,rfl,⟨_,_,rfl,⟨a19,c19,rfl,r32⟩,⟨a20,c20,rfl,r33⟩⟩⟩⟩ hq4;have hq4S:=hq4
           refine qLw 48 122 22 123 f4 (.agg (V7 x4 a19 c19 a20 c20)) (.head _) (fun _ h=>h.1) hq4S (qDi 23 kr (qIb 124 i (fun _ h=>qQv (p0:=x3) (p1:=x4) g (r30.mono hmS2) (r31.mono hmS2) (r32.mono hmS2) (r33.mono hmS2) h) ?_));rintro y11 i _ w33 ⟨m34,rfl,e27,g⟩;refine⟨_,rfl,?_⟩;have hmS2:=Mem.le_trans hmS2 e27;refine⟨⟨.inr ⟨Inv.anti g.inv hmS2,Piece.holds_anti g.t.h hmS2,Piece.holds_anti g.t.t.h hmS2,trivial⟩,trivial⟩,?_⟩;refine qBn 24 125 (vB y11) (.head _) (qBn 25 13 (vB y11) (.head _) ?_);cases i;exact qDm kr (zAy _ kr (K _ _ ⟨m34,rfl,(q.t e26).t e27,g.f5.f5.f5.f5.f5.f5,(r13.mono e26).mono e27,(r14.mono e26).mono e27,(r15.mono e26).mono e27,r3.mono e27,r4.mono e27⟩))
          ·rw[if_neg (not_true A)] at i;refine qWj (t:=113) (b:=false) y10 kr A ?_;refine qLy 13 114 (.head _) (qLy 14 115 (.head _) (qLy 15 116 (.head _) (qLy 16 117 (.head _) (qLy 17 118 (.head _) (qLy 18 119 (.head _) (qLy 19 120 (.head _) (qLy 20 121 (.head _) (qLy 21 122 (.head _) (qLy 22 123 (.head _) (qLy 23 124 (.head _) (qBn 24 125 (vB false) (.head _) (qBn 25 13 (vB false) (.head _) ?_))))))))))));cases i;exact qDm kr (zAy _ kr (K _ _ ⟨m33,rfl,q.t e26,g.f5.f5.f5.f5.f5.f5,r13.mono e26,r14.mono e26,r15.mono e26,r3,r4⟩))
         ·rw[if_neg (not_true A)] at i;refine qWj (t:=106) (b:=false) (y1.2.1.toList==o1.2.2.1.toList) kr A ?_;refine qLy 6 107 (.head _) (qLy 7 108 (.head _) (qLy 8 109 (.head _) (qLy 9 110 (.head _) (qLy 10 111 (.head _) (qBn 11 112 (vB false) (.head _) (qBn 12 113 (vB false) (.head _) (qLy 13 114 (.head _) (qLy 14 115 (.head _) (qLy 15 116 (.head _) (qLy 16 117 (.head _) (qLy 17 118 (.head _) (qLy 18 119 (.head _) (qLy 19 120 (.head _) (qLy 20 121 (.head _) (qLy 21 122 (.head _) (qLy 22 123 (.head _) (qLy 23 124 (.head _) (qBn 24 125 (vB false) (.head _) (qBn 25 13 (vB false) (.head _) ?_)))))))))))))))))));cases i;exact qDm kr (zAy _ kr (K _ _ ⟨m31,rfl,q,g.f5.f5.f5.f5.f5.f5,r13,r14,r15,r3,r4⟩))
       ·intro A i;refine qCt (qAf ?_);cases i;have ho:=hBu3 _ rfl;have g:=g.f5.f5.f5.f5.f5.f5;refine qAf ?_;exact xE (K3_u3 _ _ ⟨(),m29,ho,rfl,q,g,r13,r14,r15,r3,r4⟩)
     ·intro A i;refine qCt (qAf ?_);cases i;have ho:=hBu2 _ rfl;have g:=g.f5.f5.f5.f5.f5.f5;refine qAf ?_;exact xE (K1_u2 _ _ ⟨(),m27,ho,rfl,q,g,r13,r14,r15,r3,r4⟩)
  ·intro K;refine qAb rfl (qBx 68 25 5 0 (.agg (V6 o1.2.2 a8 c8 a9 c9)) g.t.h (qAl 69 i (fun _ h=>qNp (p0:=o1.2.2) g r14 r15 h) ?_));rintro y5 i _ w21 ⟨m23,rfl,e21,g⟩;have r3:=r3.mono e21;have r4:=r4.mono e21;refine qAa 2 [(71,vB (y5 !=0))] (qCb 71 i ?_ ?_)
   ·intro A i;refine qAa 4 [(75,vB true)] ?_;cases i;exact qAq _ kr (K _ _ ⟨m23,rfl,q.t e21,g.f5.f5.f5.f5.f5.f5,r13.mono e21,r14.mono e21,r15.mono e21,r3,r4⟩)
   ·intro A i;refine qAb rfl (qBx 72 25 4 0 (.agg (V6 y1.2 a3 c3 a4 c4)) g.t.t.h (qAl 73 i (fun _ h=>qNp (p0:=y1.2) g r3 r4 h) ?_));rintro y6 i _ w22 ⟨m24,rfl,e22,g⟩;refine qAa 2 [(75,vB (y6 !=0))] ?_;cases i;exact qAq _ kr (K _ _ ⟨m24,rfl,(q.t e21).t e22,g.f5.f5.f5.f5.f5.f5,(r13.mono e21).mono e22,(r14.mono e21).mono e22,(r15.mono e21).mono e22,r3.mono e22,r4.mono e22⟩)
 ·intro Ku1;refine qAt (W_sr (qAd 2 [(26,vB (y2.2==0))] (W_if i ?_ ?_)))
  ·intro A i;refine qAo (qAa 1 [(28,vP b1 0)] (qAl 29 i (fun _ h=>qKj (p0:=y2.1) g r5 h) ?_));rintro y3 i _ w11 ⟨a10,c10,a11,c11,a12,c12,m12,rfl,e11,g,r16,r17,r18⟩;refine qAb rfl (qGo 25 5 29 (.agg (V6 y3.2 a11 c11 a12 c12)) g.f3 fun w12 g=>(qBa rfl (qBj ?_)));cases i;have g:=g.f4;obtain⟨m13,e12,g,r19⟩:=St.freezeR (c:=C4) rfl g hs1 hn1 (hrw1.mono e11);exact xE (Ku1 _ _ ⟨a10,c10,a11,c11,a12,c12,m13,rfl,(q.t e11).t e12,g.t.f5.t.f2.f2.f5.f5.f4.f5,r16.mono e12,r17.mono e12,r18.mono e12,(r3.mono e11).mono e12,(r4.mono e11).mono e12⟩)
  ·intro A i;refine W_sr (qAd 2 [(30,vB (y2.2==1))] (W_if i ?_ ?_))
   ·intro A i;refine W_sr (qCx 1 33 22 32 1 (vS a3 y1.2.2.1 c3) g.t.h (qAd 2 [(35,vB (decide ((y1.2.2.1.length:Int)>1)))] (W_if i ?_ ?_)))
    ·intro A i;refine qGk [(11,fun w'=>Inv m3 w'∧Piece.holds m3 w' (kB b2 (V6 y1.2 a3 c3 a4 c4) 25)∧True)] kr g fun w13 _ g=> ?_;have hmS1:=m3.le_refl;refine⟨⟨.inr ⟨Inv.anti g.inv hmS1,Piece.holds_anti g.t.t.t.h hmS1,trivial⟩,trivial⟩,?_⟩;refine qBn 0 36 (vP b2 1) (.head _) (qIs 22 36 1 37 1 (vS a3 y1.2.2.1 c3) (.head _) (fun _ h=>h.2.1) ?_);have⟨x1,d5,i⟩:=qAv i;refine qHy (t:=22) (e:=9) (x:=(.tmp 37)) (y:=(.const (vI 1))) 2 38 cStr kr rfl kr (.head _) (qBq (qAw qFg)) (ev (vS a3 y1.2.2.1 c3)) (ev (vI 1)) kr r3 d5 ?_;rintro b4 f1 cs1 rfl hq1;refine qLw 9 38 3 39 f1 (vT x1) (.head _) (fun _ h=>h.1) hq1 (qBn 4 40 (vP b2 1) (.head _) (qIs 22 40 5 41 1 (vS a3 y1.2.2.1 c3) (.head _) (fun _ h=>h.2.1) ?_));have⟨x2,d6,i⟩:=qAv i;refine qHy (t:=22) (e:=9) (x:=(.tmp 41)) (y:=(.const (vI 0))) 6 42 cStr kr rfl kr (.head _) (qBq (qAw qFg)) (ev (vS a3 y1.2.2.1 c3)) (ev (vI 0)) kr r3 d6 ?_;rintro b5 f2 cs2 rfl hq2;refine qLw 9 42 7 43 f2 (vT x2) (.head _) (fun _ h=>h.1) hq2 (qDi 8 kr (qBe (d:=44) (t:=22) (e:=9) (len:=2) (parts:= #[(0,(.tmp 39)),(1,(.tmp 43))]) cStr (xs:=[x1,x2]) [vT x1,vT x2] kr rfl (fun _=>qBd kr _) rfl rfl g ⟨[vT x1],_,rfl,rfl,⟨[vT x2],_,rfl,rfl,rfl⟩⟩ fun b6 m14 w14 e13 g r20=> ?_));have hmS1:=Mem.le_trans hmS1 e13;refine⟨⟨.inr ⟨Inv.anti g.inv hmS1,Piece.holds_anti g.t.t.t.t.h hmS1,trivial⟩,trivial⟩,?_⟩
     refine qBn 9 45 (vP b3 1) (.head _) (qDi 10 kr (qEx 22 45 44 1 (vS (aP b6) ([x1,x2]) 2) #[vT y1.2.1,vS (aP b6) ([x1,x2]) 2,vS a5 l1 c5] g.f2 fun w15 g=>(⟨⟨.inr ⟨Inv.anti g.inv hmS1,Piece.holds_anti g.t.t.t.t.h hmS1,trivial⟩,trivial⟩,?_⟩)));refine qDm kr ?_;refine qBj ?_;obtain rfl:=sI i;have g:=g.f3;obtain⟨m15,e14,g,r21⟩:=St.freezeR (c:=C4) rfl g hs1 hn1 (hrw1.mono e13);exact xE (Ku1 _ _ ⟨a6,c6,(aP b6),2,a5,c5,m15,rfl,(q.t e13).t e14,g.f5.t.f2.f5.f5.f4.f5,(r5.mono e13).mono e14,r20.mono e14,r21,(r3.mono e13).mono e14,(r4.mono e13).mono e14⟩)
    ·intro A i;refine qAp (qBj ?_);cases i;have g:=g.f2;obtain⟨m16,e15,g,r22⟩:=St.freezeR (c:=C4) rfl g hs1 hn1 hrw1;have r3:=r3.mono e15;exact xE (Ku1 _ _ ⟨a6,c6,a3,c3,a5,c5,m16,rfl,q.t e15,g.f4.f5.f5.f5.f5,r5.mono e15,r3,r22,r3,r4.mono e15⟩)
   ·intro A i;refine W_sr (qAd 2 [(46,vB (y2.2==2))] (W_if i ?_ ?_))
    ·intro A i;refine qAo (qAa 1 [(48,vP b3 1)] (qAb rfl (qEx 22 48 ((.const (v7))) 1 (v1) #[vT y1.2.1,v1,vS a5 l1 c5] g.f1 fun w16 g=>(qBa rfl (qBj ?_)))));cases i;have g:=g.f2;obtain⟨m17,e16,g,r23⟩:=St.freezeR (c:=C4) rfl g hs1 hn1 hrw1;have g:=(g.nilroom 9 1).front5;exact xE (Ku1 _ _ ⟨a6,c6,none,0,a5,c5,m17,rfl,q.t e16,g.t.f1.f1.f5.f5.f4.f5,r5.mono e16,(RepS.nil _ _),r23,r3.mono e16,r4.mono e16⟩)
    ·intro A i;refine W_sr (qAd 2 [(49,vB (y2.2==3))] (W_if i ?_ ?_))
     ·intro A i;refine W_sr (qCx 1 52 23 51 2 (vS a5 l1 c5) g.t.h (qAd 2 [(54,vB (decide ((l1.length:Int)>0)))] (W_if i ?_ ?_)))
      ·intro A i;refine W_sr (qAa 1 [(55,vP b1 0)] (qAl 56 i (fun _ h=>qKj (p0:=y2.1) g r5 h) ?_));rintro y4 i _ w17 ⟨a13,c13,a14,c14,a15,c15,m18,rfl,e17,g,r24,r25,r26⟩;refine qAa 2 [(6,vS a15 y4.2.2.2 c15)] (qBa rfl ?_);have g:=g.t;refine qAg (qAo (qCx 1 59 23 58 2 (vS a5 l1 c5) g.t.t.h (qCx 1 61 23 60 2 (vS a5 l1 c5) g.t.t.h (qAa 2 [(63,vI (wr ((l1.length:Int)-1)))] ?_))));have g:=g.f3;have⟨l2,d8,i⟩:=qAv i;obtain⟨vs2,hv1,hrw2⟩:=(hrw1.mono e17).cut d8;refine qAb rfl (zKb (d:=64) (t:=23) (e:=48) (x:=(.tmp 59)) (y:=(.tmp 63)) (f:=row4) (l:=vs1) (fun _=>rfl) kr rfl (ev (vS a5 l1 c5)) (ev (vI (wr ((l1.length:Int)-1)))) kr g hs1 hn1 hv1 fun T2 hs2 g=>(qAa 1 [(65,vS a15 y4.2.2.2 c15)] ?_));have⟨l3,d9,i⟩:=qAv i;obtain⟨vs3,hk1,gk1,rk1⟩:=Gives.rows (P:=Tryz.prog) rfl r26.src;obtain⟨vs4,hv2,hrw3⟩:=hrw2.app rk1 d9;refine qAb rfl (qUr (d:=66) (t:=23) (u:=23) (e:=48) (by_:=72) (x:=(.tmp 64)) (y:=(.tmp 65)) (c:=cRow) (f:=row4) (l:=vs2) (fun _ _ _ h=>h.1) (fun _=>rfl) kr rfl (ev (vS a5 vs2 c5)) (ev (vS a15 y4.2.2.2 c15)) g hs2 rfl kr (.inl kr) gk1 hv2 fun a16 c16 T3 w18 hs3 g=>(qAa 1 [(67,vP b3 2)] (qAb rfl (qEx 23 67 66 2 (vS a16 vs4 c16) #[vT y1.2.1,vS a3 y1.2.2.1 c3,vS a16 vs4 c16] g.f3 fun w19 g=>(qBa rfl ?_)))));have g:=g.f2.t;refine qBj ?_;obtain rfl:=sI i;have g:=g.f1
       obtain⟨m19,e18,g,r27⟩:=St.freezeR (c:=C4) rfl g hs3 rfl hrw3;have r3:=(r3.mono e17).mono e18;have g:=(congrArg (fun nn_:Nat=>St m19 (kR a16 l3 c16 48 4::kB b3 #[vT y1.2.1,vS a3 y1.2.2.1 c3,.slice a16 nn_ c16] 25::kB b1 (V1 y4.1 a13 c13) 35::kB b2 (V6 y1.2 a3 c3 a4 c4) 25::kR a3 y1.2.2.1 c3 9 1::kR a4 y1.2.2.2 c4 48 4::O) w19) (hrw3.mono e18).1.symm.symm).mp g;refine zAy [(4,vP b2 0),(5,vP b3 0)] (by(try simp only[(hrw3.mono e18).1.symm]);kernel_rfl) ?_;exact xE (Ku1 _ _ ⟨a13,c13,a3,c3,a16,c16,m19,rfl,(q.t e17).t e18,g.f4.f5.f5.f4.f5,r24.mono e18,r3,r27,r3,(r4.mono e17).mono e18⟩)
      ·intro A i;refine qAp (qBj ?_);cases i;have g:=g.f2;obtain⟨m20,e19,g,r28⟩:=St.freezeR (c:=C4) rfl g hs1 hn1 hrw1;have r3:=r3.mono e19;exact xE (Ku1 _ _ ⟨a6,c6,a3,c3,a5,c5,m20,rfl,q.t e19,g.f4.f5.f5.f5.f5,r5.mono e19,r3,r28,r3,r4.mono e19⟩)
     ·intro A i;refine qAp (qBj ?_);cases i;have g:=g.f2;obtain⟨m21,e20,g,r29⟩:=St.freezeR (c:=C4) rfl g hs1 hn1 hrw1;have r3:=r3.mono e20;exact xE (Ku1 _ _ ⟨a6,c6,a3,c3,a5,c5,m21,rfl,q.t e20,g.f4.f5.f5.f5.f5,r5.mono e20,r3,r29,r3,r4.mono e20⟩)
end
end Go.Proofs.YteajdekbpcmdaaaGreatDoor
section
namespace Go.Dc
theorem zKi{σ β:Type}{f:σ→Option (σ⊕β)}(st:Nat→σ)(k:Nat)(res:β)(step:∀i,i<k→f (st i)=some (.inl (st (i+1))))(stop:f (st k)=some (.inr res)){N:Nat}(hN:k<N):qAs f N (st 0)=some res:=by
 have key:∀d i M,i+d=k→d<M→qAs f M (st i)=some res:=by
  intro d
  induction d with
  |zero=>intro i M h hM;obtain⟨M',rfl⟩:∃M',M=M'+1:=⟨M-1,by omega⟩;simp only[gU] at h;subst h;simp[qAs,stop]
  |succ d ih=>
   intro i M h hM
   obtain⟨M',rfl⟩:∃M',M=M'+1:=⟨M-1,by omega⟩
   have:=ih (i+1) M' (by omega) (by omega)
   simp[qAs,step i (by omega),this]
 exact key k 0 N (by omega) hN
section
variable {ν:Type}
theorem zIv{l:List (Int×ν)}{k c:Int}{v:ν}(h:c≠k):mget (l.map fun p=>if k=p.1 then(k,v) else p) c=mget l c:=by
 induction l with
 |nil=>rfl
 |cons p l ih=>
  simp only[kI,mget]
  by_cases hk:k=p.1
  ·subst hk;rw[if_pos rfl,if_neg h,if_neg h,ih]
  ·rw[if_neg hk,ih]
theorem zIr{l:List (Int×ν)}{k:Int}{v:ν}(h:(mget l k).isSome=true):mget (l.map fun p=>if k=p.1 then(k,v) else p) k=some v:=by
 induction l with
 |nil=>cases h
 |cons p l ih=>
  simp only[kI,mget] at h ⊢
  by_cases hk:k=p.1
  ·subst hk;simp
  ·rw[if_neg hk] at h ⊢
   rw[if_neg hk]
   exact ih h
theorem zQi{l:List (Int×ν)}{k:Int}{v:ν}(h:mget l k=none)(c:Int):mget (mins l k v) c=if c=k then some v else mget l c:=by
 induction l with
 |nil=>rfl
 |cons p l ih=>
  simp only[mget] at h
  split at h
  ·cases h
  ·rename_i hk
   simp only[mins]
   split
   ·simp only[mget]
   ·simp only[mget,ih h]
    by_cases hc:c=k
    ·subst hc;simp[hk]
    ·simp[hc]
theorem zNp(l:List (Int×ν))(k:Int)(v:ν)(c:Int):mget (mset l k v) c=if c=k then some v else mget l c:=by
 unfold mset
 split
 ·rename_i h
  split
  ·rename_i hc;subst hc;exact zIr h
  ·rename_i hc;exact zIv hc
 ·rename_i h
  exact zQi (by simpa using h) c
def Srt(l:List (Int×ν)):Prop:=(l.map (·.1)).Pairwise (· < ·)
theorem Srt.nil:Srt ([]:List (Int×ν)):=List.Pairwise.nil
theorem Srt.mins{l:List (Int×ν)}{k:Int}{v:ν}(hs:Srt l)(h:mget l k=none):Srt (mins l k v):=by
 induction l with
 |nil=>simp[Srt,Go.Dc.mins]
 |cons p l ih=>
  have hs':=hs
  simp only[Srt,kI,gJ] at hs
  simp only[mget] at h
  split at h
  ·cases h
  ·rename_i hk
   simp only[Go.Dc.mins]
   split
   ·rename_i hlt
    have hlt:k<p.1:=by simpa[KOrd.lt] using hlt
    refine gJ.2 ⟨fun a ha=> ?_,hs'⟩
    simp only[kI,jN] at ha
    rcases ha with rfl|ha
    ·exact hlt
    ·exact Int.lt_trans hlt (hs.1 a ha)
   ·rename_i hlt
    have hlt:¬k<p.1:=by simpa[KOrd.lt] using hlt
    refine gJ.2 ⟨fun a ha=> ?_,ih hs.2 h⟩
    obtain⟨q,hq,rfl⟩:=fG.1 ha
    rcases jN.1 ((zGj l k v).mem_iff.1 hq) with rfl|hq
    ·show p.1<k;omega
    ·exact hs.1 _ (gX hq)
theorem Srt.mset{l:List (Int×ν)}(hs:Srt l)(k:Int)(v:ν):Srt (mset l k v):=by
 unfold Go.Dc.mset
 split
 ·unfold Srt
  have:(l.map fun p=>if k=p.1 then(k,v) else p).map (·.1)=l.map (·.1):=by
   rw[List.map_map]
   refine List.map_congr_left fun p _=> ?_
   simp only[Function.comp_apply]
   split
   ·rename_i h;exact h
   ·rfl
  rw[this];exact hs
 ·rename_i h
  exact hs.mins (by simpa using h)
theorem Srt.out{l:List (Int×ν)}{c:Int}(h:∀a∈l.map (·.1),c<a):mget l c=none:=by
 rw[qYs];intro hm;exact Int.lt_irrefl _ (h c hm)
theorem Srt.ext:∀{l k:List (Int×ν)},Srt l→Srt k→(∀c,mget l c=mget k c)→l=k
 |[],[],_,_,_=>rfl
 |[],q::k,_,_,h=>by have:=h q.1;simp[mget] at this
 |p::l,[],_,_,h=>by have:=h p.1;simp[mget] at this
 |p::l,q::k,hl,hk,h=>by
  have hl':(∀a∈l.map (·.1),p.1<a)∧Srt l:=gJ.1 hl
  have hk':(∀a∈k.map (·.1),q.1<a)∧Srt k:=gJ.1 hk
  have h1:p.1=q.1:=by
   rcases Int.lt_trichotomy p.1 q.1 with hlt|he|hlt
   ·have:=h p.1
    rw[Srt.out (l:=q::k) (c:=p.1)] at this
    ·simp[mget] at this
    ·intro a ha
     rcases jN.1 ha with rfl|ha
     ·exact hlt
     ·exact Int.lt_trans hlt (hk'.1 a ha)
   ·exact he
   ·have:=h q.1
    rw[Srt.out (l:=p::l) (c:=q.1)] at this
    ·simp[mget] at this
    ·intro a ha
     rcases jN.1 ha with rfl|ha
     ·exact hlt
     ·exact Int.lt_trans hlt (hl'.1 a ha)
  have h2:p.2=q.2:=by have:=h p.1;simpa[mget,h1] using this
  have h3:l=k:=by
   refine Srt.ext hl'.2 hk'.2 fun c=> ?_
   by_cases hc:c=p.1
   ·rw[Srt.out (l:=l) (fun a ha=>hc▸hl'.1 a ha),Srt.out (l:=k) (fun a ha=>by rw[hc,h1];exact hk'.1 a ha)]
   ·have:=h c
    simpa[mget,hc,h1▸hc] using this
  rw[h3,Prod.ext h1 h2]
def qQe(v:ν)(m:List (Int×ν))(xs:List UInt8):List (Int×ν):=xs.foldl (fun m x=>mset m (x.toNat:Int) v) m
theorem zBr{v:ν}:∀{xs:List UInt8} {m:List (Int×ν)},Srt m→Srt (qQe v m xs)
 |[],_,h=>h
 |_::xs,_,h=>zBr (xs:=xs) (h.mset _ _)
theorem zCc{v:ν}(c:Int):∀(xs:List UInt8) (m:List (Int×ν)),mget (qQe v m xs) c=if xs.any (fun x=>decide ((x.toNat:Int)=c))=true then some v else mget m c
 |[],m=>by simp[qQe]
 |x::xs,m=>by
  have:=zCc (v:=v) c xs (mset m (x.toNat:Int) v)
  rw[show qQe v m (x::xs)=qQe v (mset m (x.toNat:Int) v) xs from rfl,this,zNp]
  by_cases h1:xs.any (fun x=>decide ((x.toNat:Int)=c))=true
  ·simp[h1]
  ·by_cases h2:(x.toNat:Int)=c
   ·subst h2;simp[h1]
   ·have h3:¬c=(x.toNat:Int):=fun e=>h2 e.symm
    simp[h1,h2,h3]
end
end Go.Dc
namespace Go.Proofs.YteajdekbpcmdaaaGreatDoor
open Go Go.Dc
def allK:List (Int×ByteArray):=[(1,⟨#[97,98,99,100,101,102,103,104,105,106,107,108,109,110,111,112,113,114,115,116,117,118,119,120,121,122]⟩),(2,⟨#[48,49,50,51,52,53,54,55,56,57]⟩),(3,⟨#[95]⟩),(4,⟨#[46]⟩),(5,⟨#[9,10,13,32]⟩),(6,⟨#[35]⟩),(7,⟨#[34]⟩),(8,⟨#[59,44,40,41,43,45,42,47,37,60,61]⟩)]
def kdL:List (Int×Int):=[(9,5),(10,5),(13,5),(32,5),(34,7),(35,6),(37,8),(40,8),(41,8),(42,8),(43,8),(44,8),(45,8),(46,4),(47,8),(48,2),(49,2),(50,2),(51,2),(52,2),(53,2),(54,2),(55,2),(56,2),(57,2),(59,8),(60,8),(61,8),(95,3),(97,1),(98,1),(99,1),(100,1),(101,1),(102,1),(103,1),(104,1),(105,1),(106,1),(107,1),(108,1),(109,1),(110,1),(111,1),(112,1),(113,1),(114,1),(115,1),(116,1),(117,1),(118,1),(119,1),(120,1),(121,1),(122,1)]
def kdI(c:Int):Int:=(mget kdL c).getD 0
def inE(e:Int×ByteArray)(c:Int):Bool:=e.2.data.toList.any fun x=>decide ((x.toNat:Int)=c)
def layK(m:List (Int×Int))(k:List (Int×ByteArray)):List (Int×Int):=k.foldl (fun m e=>qQe e.1 m e.2.data.toList) m
theorem zKn:∀{k:List (Int×ByteArray)} {m:List (Int×Int)},Srt m→Srt (layK m k)
 |[],_,h=>h
 |_::k,_,h=>zKn (k:=k) (zBr h)
theorem zKm(c:Int):∀(k:List (Int×ByteArray)) (m:List (Int×Int)),(∀e∈k,inE e c=true→e.1=kdI c)→(∀v,mget m c=some v→v=kdI c)→
  mget (layK m k) c=if(k.any fun e=>inE e c)=true then some (kdI c) else mget m c
 |[],m,_,_=>by simp[layK]
 |e::k,m,h,hm=>by
  have hg:=zCc (v:=e.1) c e.2.data.toList m
  have:=zKm c k (qQe e.1 m e.2.data.toList) (fun e' he=>h e' (jM _ he)) (fun v hv=>by
   rw[hg] at hv
   split at hv
   ·rename_i hi
    rw[←kH hv]
    exact h e (jH ..) hi
   ·exact hm v hv)
  rw[show layK m (e::k)=layK (qQe e.1 m e.2.data.toList) k from rfl,this,hg]
  by_cases h1:(k.any fun e=>inE e c)=true
  ·simp[h1]
  ·by_cases h2:inE e c=true
   ·have:=h e (jH ..) h2
    have h2':(e.2.data.toList.any fun x=>decide ((x.toNat:Int)=c))=true:=h2
    simp only[gT,h2,dF,jK,h1,h2',this]
    simp
   ·have h2':(e.2.data.toList.any fun x=>decide ((x.toNat:Int)=c))=false:=by simpa[inE] using h2
    simp only[gT,h1,h2',dP,jB,jI]
    simp[h2]
theorem zJw:(allK.all fun e=>e.2.data.toList.all fun x=>decide (e.1=kdI (x.toNat:Int)))=true∧(kdL.all fun p=>allK.any fun e=>inE e p.1)=true:=⟨by kernel_rfl,by kernel_rfl⟩
theorem kd_in{e:Int×ByteArray}{c:Int}(he:e∈allK)(h:inE e c=true):e.1=kdI c:=by
 have:=kA.1 zJw.1 e he
 obtain⟨x,hx,hc⟩:=fQ.1 h
 have h2:=kA.1 this x hx
 have hc:(x.toNat:Int)=c:=by simpa using hc
 subst hc
 simpa using h2
theorem zUq(c:Int):mget kdL c=if(allK.any fun e=>inE e c)=true then some (kdI c) else none:=by
 cases h:mget kdL c with
 |none=>
  rw[if_neg]
  intro ha
  obtain⟨e,he,hi⟩:=fQ.1 ha
  have h1:=kd_in he hi
  have h0:kdI c=0:=by simp[kdI,h]
  have:(allK.all fun e=>decide (e.1≠0))=true:=by kernel_rfl
  have:=kA.1 this e he
  simp[h1,h0] at this
 |some v=>
  have hm:(c,v)∈kdL:=(zDq (l:=kdL) (by
   have:decide ((kdL.map (·.1)).Nodup)=true:=by kernel_rfl
   simpa using this)).1 h
  have:=kA.1 zJw.2 _ hm
  rw[if_pos this]
  simp[kdI,h]
theorem zVg:Srt kdL:=by
 have:decide ((kdL.map (·.1)).Pairwise (· < ·))=true:=by kernel_rfl
 simpa[Srt] using this
theorem zMu{k:List (Int×ByteArray)}(h:k.Perm allK):layK [] k=kdL:=by
 refine Srt.ext (zKn Srt.nil) zVg fun c=> ?_
 rw[zKm c k [] (fun e he hi=>kd_in (h.mem_iff.1 he) hi) (fun v hv=>by cases hv),zUq]
 have:(k.any fun e=>inE e c)=(allK.any fun e=>inE e c):=by
  rw[kM,fQ,fQ]
  exact⟨fun⟨e,he,hi⟩=>⟨e,h.mem_iff.1 he,hi⟩,fun⟨e,he,hi⟩=>⟨e,h.mem_iff.2 he,hi⟩⟩
 rw[this]
 rfl
theorem zSu{N:Nat}{e:Int×ByteArray}(m:List (Int×Int))(he:e.2.size≤26)(hN:30<N):qGv N (some e) (some m)=some (.inl (some (qQe e.1 m e.2.data.toList))):=by
 have hsz:e.2.data.toList.length=e.2.size:=by simp
 have hb:bytesOf e.2=some e.2.data.toList:=by unfold bytesOf;rw[if_pos (by simp only[maxLen];omega)]
 simp only[qGv,hb,j0]
 have key:=zKi (f:=qLa N e e.2.data.toList) (fun i=>((i:Int),some (qQe e.1 m (e.2.data.toList.take i)))) e.2.data.toList.length (some (qQe e.1 m e.2.data.toList)) (fun i hi=> ?_) ?_ (N:=N) (by omega)
 ·simp only[Int.natCast_zero,List.take_zero] at key
  rw[show qQe e.1 m []=m from rfl] at key
  rw[key];rfl
 ·simp only[qLa]
  rw[if_pos (by simpa using hi),qCo hi]
  simp only[j0,qNa,kY]
  rw[wi64 (by omega) (by omega),gB hi]
  simp[qQe]
 ·simp only[qLa]
  rw[if_neg (by simp),gO]
theorem zBh{N:Nat}(hN:30<N):∀(k:List (Int×ByteArray)) (m:List (Int×Int)),(∀e∈k,e.2.size≤26)→qQp (qGv N) k (some m)=some (some (layK m k))
 |[],m,_=>by simp[qQp,qGv,layK]
 |e::k,m,h=>by
  have:=zBh hN k (qQe e.1 m e.2.data.toList) (fun e' he=>h e' (jM _ he))
  simp only[qQp,zSu m (h e (jH ..)) hN,j0,this]
  rfl
theorem zKo{N:Nat}(hN:30<N):qNv N=some (some kdL):=by
 have h8:∀e∈allK,e.2.size≤26:=by
  have:(allK.all fun e=>decide (e.2.size≤26))=true:=by kernel_rfl
  intro e he
  simpa using kA.1 this e he
 have key:qWv (qGv N) allK (some [])=some (some kdL):=zMn fun k hk=>by
  rw[zBh hN k [] (fun e he=>h8 e (hk.mem_iff.1 he)),zMu hk]
 have h1:qNv N=(qWv (qGv N) allK (some [])).bind fun o1=>some o1:=by kernel_rfl
 rw[h1,key];rfl
end Go.Proofs.YteajdekbpcmdaaaGreatDoor
end
namespace Go.Proofs.YteajdekbpcmdaaaGreatDoor
section
open Go Go.Dc
theorem qDd(s:ByteArray):s.data.toList.length=s.size:=by simp
theorem qGx{s:ByteArray}{i:Nat}(h:i<s.data.toList.length):idxB s (i:Int)=some (s.data.toList[i]):=by
 have h':i<s.size:=by simpa using h
 rw[zJn h']
 simp[ByteArray.getElem_eq_getElem_data]
def tw(p:UInt8→Bool)(l:List UInt8)(a:Nat):Nat:=a+((l.drop a).takeWhile p).length
section
variable {p:UInt8→Bool} {l:List UInt8} {a:Nat}
theorem qWc(h:a≤l.length):a≤tw p l a∧tw p l a≤l.length:=by
 have:=(List.takeWhile_sublist p (l:=l.drop a)).length_le
 simp only[gE] at this
 unfold tw;omega
theorem zAn(h:a<l.length)(hb:p l[a]=true):tw p l (a+1)=tw p l a:=by
 unfold tw
 rw[kC h,gN hb]
 simp only[jD];omega
theorem qYu(h:a<l.length)(hb:p l[a]=false):tw p l a=a:=by
 unfold tw
 rw[kC h,gV (by simp[hb])]
 simp
theorem zNg(h:l.length≤a):tw p l a=a:=by
 unfold tw
 rw[jT h];rfl
theorem qWe{β:Type}{f:Int→Option (Int⊕β)}(out:Nat→β)(go:∀i:Nat,∀h:i<l.length,p l[i]=true→f (i:Int)=some (.inl ((i:Int)+1)))
  (no:∀i:Nat,∀h:i<l.length,p l[i]=false→f (i:Int)=some (.inr (out i))) (en:f (l.length:Int)=some (.inr (out l.length))):
  ∀(d a N:Nat),a+d=l.length→d<N→qAs f N (a:Int)=some (out (tw p l a))
 |d,a,0,_,h=>by omega
 |0,a,N+1,hd,h=>by
  have:a=l.length:=by omega
  subst this
  rw[zNg (jP _)];simp[qAs,en]
 |d+1,a,N+1,hd,h=>by
  have ha:a<l.length:=by omega
  cases hb:p l[a] with
  |true=>
   have:=qWe out go no en d (a+1) N (by omega) (by omega)
   rw[zAn ha hb] at this
   simpa[qAs,go a ha hb] using this
  |false=>
   rw[qYu ha hb];simp[qAs,no a ha hb]
end
def kd(c:UInt8):Int:=kdI (c.toNat:Int)
def inK(ks:List Int)(c:UInt8):Bool:=ks.any fun k=>kd c==k
theorem zBq{N:Nat}{s:ByteArray}{ks:List Int}{i:Nat}(h:i<s.data.toList.length)(hk:ks.length≤10)(hN:10<N):qAs (qKt N s (some kdL) ks (i:Int)) N (false,0)=some (inK ks (s.data.toList[i])):=by
 have key:=zKi (f:=qKt N s (some kdL) ks (i:Int)) (fun j=>((ks.take j).any (fun k=>kd (s.data.toList[i])==k),(j:Int))) ks.length (inK ks (s.data.toList[i])) (fun j hj=> ?_) ?_ (N:=N) (by omega)
 ·simpa using key
 ·simp only[qKt]
  rw[if_pos (by simpa using hj),qCo hj,qGx h]
  simp only[j0]
  rw[wi64 (by omega) (by omega),gB hj,List.any_append]
  cases(ks.take j).any (fun k=>kd (s.data.toList[i])==k)
  ·simp[kd,kdI,qPg]
  ·simp
 ·simp only[qKt]
  rw[if_neg (by simp),gO]
  rfl
theorem zPi{N:Nat}{s:ByteArray}{ks:List Int}{i:Nat}(hi:i≤s.data.toList.length)(hl:s.data.toList.length<1000000)(hk:ks.length≤10)(hN:s.data.toList.length+10<N):
  qNx N s (i:Int) (some kdL) ks=some ((tw (inK ks) s.data.toList i:Nat):Int):=by
 have hs:=qDd s
 have key:=qWe (f:=qKi N s (some kdL) ks) (l:=s.data.toList) (p:=inK ks) (fun n=>(n:Int)) (fun j hj hb=>by
   simp only[qKi]
   rw[if_pos (by simp only[jA];omega),zBq hj hk (by omega),hb]
   simp only[j0]
   rw[wi64 (by omega) (by omega)]
   rfl) (fun j hj hb=>by
   simp only[qKi]
   rw[if_pos (by simp only[jA];omega),zBq hj hk (by omega),hb]
   rfl) (by
   simp only[qKi]
   rw[if_neg (by simp only[jA];omega)]) (s.data.toList.length-i) i N (by omega) (by omega)
 unfold qNx
 rw[key]
 rfl
end
section
open Go Go.Dc
theorem kd_def(c:UInt8):(qPg (some kdL) (c.toNat:Int)).getD 0=kd c:=rfl
theorem qLr{l:List UInt8}{i:Nat}(h:i<l.length):l.getD i 0=l[i]:=by simp[kG,h]
def numS(n:Int)(c:UInt8):Int:=if 9007199254740993<10*n+((c.toNat:Int)-48) then 9007199254740993 else 10*n+((c.toNat:Int)-48)
def numL(ds:List UInt8):Int:=ds.foldl numS 0
def qQs(c:UInt8):Bool:=decide (32≤c.toNat)&&decide (c.toNat≤126)&&c !=34
def zHx:Int×ByteArray×Int×Int:=(0,⟨#[]⟩,0,0)
def qZm(l:List UInt8)(i:Nat):Nat:=if l.getD i 0=61∧l.getD (i+1) 0=61 then i+2 else i+1
def tokP(s:ByteArray)(i:Nat):(Int×ByteArray×Int×Int)×Int×Int:=
 if kd (s.data.toList.getD i 0)=1 then
  if tw (inK [1,2,3]) s.data.toList i-i>24 then(zHx,0,2) else((1,s.extract i (tw (inK [1,2,3]) s.data.toList i),0,0),((tw (inK [1,2,3]) s.data.toList i:Nat):Int),0)
 else if kd (s.data.toList.getD i 0)=2 then
  if numL ((s.data.toList.drop i).takeWhile (inK [2]))>9007199254740992 then(zHx,0,3) else((2,⟨#[]⟩,numL ((s.data.toList.drop i).takeWhile (inK [2])),0),((tw (inK [2]) s.data.toList i:Nat):Int),0)
 else if kd (s.data.toList.getD i 0)=7 then
  if s.data.toList.getD (tw qQs s.data.toList (i+1)) 0=34 then((3,s.extract (i+1) (tw qQs s.data.toList (i+1)),0,0),((tw qQs s.data.toList (i+1)+1:Nat):Int),0) else(zHx,0,9)
 else if kd (s.data.toList.getD i 0)=8 then
  ((4,s.extract i (qZm s.data.toList i),0,0),((qZm s.data.toList i:Nat):Int),0)
 else(zHx,0,9)
theorem zSa:∀c:UInt8,kd c=2→48≤c.toNat∧c.toNat≤57:=by
 have h:((List.range 256).all fun n=> !(decide (kd (UInt8.ofNat n)=2))||(decide (48≤n)&&decide (n≤57)))=true:=by kernel_rfl
 intro c hc
 have:=kA.1 h c.toNat (fR.2 c.toNat_lt)
 simpa[hc] using this
theorem zEp(l:List UInt8)(c:UInt8):numL (l++[c])=numS (numL l) c:=by simp[numL]
theorem zNd{p:UInt8→Bool}:∀{l:List UInt8} {c:UInt8},c∈l.takeWhile p→p c=true
 |[],_,h=>by simp at h
 |x::l,c,h=>by
  cases hx:p x with
  |true=>
   rw[gN hx] at h
   rcases jN.1 h with rfl|h
   ·exact hx
   ·exact zNd h
  |false=>rw[gV (by simp[hx])] at h;cases h
theorem qUz{s:ByteArray}{i e:Nat}(h1:i≤e)(h2:e≤s.data.toList.length):subB s (i:Int) (e:Int)=some (s.extract i e):=by
 have:=qDd s
 rw[qYw (by omega) (by omega) (by omega)]
 simp
theorem zOf{s:ByteArray}{i:Nat}(h1:i≤s.data.toList.length):subB s (i:Int) (s.size:Int)=some (s.extract i s.data.toList.length):=by
 have hs:=qDd s
 rw[←qUz h1 (jP _),hs]
theorem qDz(x y:ByteArray):(x.toList==y.toList)=decide (x=y):=by
 rw[kM]
 simp only[kJ,jA]
 constructor
 ·intro h
  rw[ByteArray.toList_eq,ByteArray.toList_eq] at h
  exact Go.WideShapes.bytes_inj h
 ·rintro rfl;rfl
end
section
open Go Go.Dc
theorem zTh{p:UInt8→Bool}{l:List UInt8}(h:∀c∈l,p c=true):tw p l 0=l.length:=by
 unfold tw
 have:l.takeWhile p=l:=by
  induction l with
  |nil=>rfl
  |cons c l ih=>rw[gN (h c (jH ..)),ih fun d hd=>h d (jM _ hd)]
 simp[this]
end
section
open Go Go.Dc
abbrev Tok:=Int×ByteArray×Int×Int
theorem zKe{ks:List Int}{k:Int}{c:UInt8}(hk:k∈ks)(h:kd c=k):inK ks c=true:=by
 unfold inK;exact fQ.2 ⟨k,hk,by simp[h]⟩
theorem zBk{p:UInt8→Bool}{l:List UInt8}{a:Nat}(h:a<l.length)(hp:p l[a]=true):a<tw p l a:=by
 rw[←zAn h hp];have:=(qWc (p:=p) (l:=l) (a:=a+1) (by omega)).1;omega
theorem qVa{l:List UInt8}{i:Nat}(h:l.getD i 0≠0):i<l.length:=by
 rcases fT i l.length with h'|h'
 ·exact h'
 ·exfalso;apply h;rw[kG,List.getElem?_eq_none h'];rfl
theorem zHs{s:ByteArray}{i:Nat}(hi:i<s.data.toList.length)(h:(tokP s i).2.2=0):∃e:Nat,(tokP s i).2.1=(e:Int)∧i<e∧e≤s.data.toList.length∧
  (((tokP s i).1.1=1∨(tokP s i).1.1=4)∧(tokP s i).1.2.1=s.extract i e∨(tokP s i).1.1=2∧(tokP s i).1.2.1=⟨#[]⟩∨(tokP s i).1.1=3∧(tokP s i).1.2.1.size+i<e):=by
 have hs:=qDd s
 unfold tokP at h ⊢
 rw[qLr hi] at h ⊢
 by_cases h1:kd (s.data.toList[i])=1
 ·rw[if_pos h1] at h ⊢
  split at h
  ·cases h
  ·rename_i h24
   rw[if_neg h24]
   have hb:=qWc (p:=inK [1,2,3]) (l:=s.data.toList) (a:=i) (by omega)
   exact⟨_,rfl,zBk hi (zKe (by simp) h1),hb.2,.inl ⟨.inl rfl,rfl⟩⟩
 rw[if_neg h1] at h ⊢
 by_cases h2:kd (s.data.toList[i])=2
 ·rw[if_pos h2] at h ⊢
  split at h
  ·cases h
  ·rename_i h24
   rw[if_neg h24]
   have hb:=qWc (p:=inK [2]) (l:=s.data.toList) (a:=i) (by omega)
   exact⟨_,rfl,zBk hi (zKe (by simp) h2),hb.2,.inr (.inl ⟨rfl,rfl⟩)⟩
 rw[if_neg h2] at h ⊢
 by_cases h7:kd (s.data.toList[i])=7
 ·rw[if_pos h7] at h ⊢
  split at h
  ·rename_i h24
   rw[if_pos h24]
   have hb:=qWc (p:=qQs) (l:=s.data.toList) (a:=i+1) (by omega)
   have hlt:tw qQs s.data.toList (i+1)<s.data.toList.length:=qVa (by rw[h24];decide)
   refine⟨_,rfl,by omega,by omega,.inr (.inr ⟨rfl,?_⟩)⟩
   simp only[ByteArray.size_extract]
   omega
  ·cases h
 rw[if_neg h7] at h ⊢
 by_cases h8:kd (s.data.toList[i])=8
 ·rw[if_pos h8] at h ⊢
  refine⟨_,rfl,?_,?_,.inl ⟨.inr rfl,rfl⟩⟩
  ·unfold qZm;split<;>omega
  ·unfold qZm
   split
   ·rename_i hh
    have:i+1<s.data.toList.length:=qVa (by rw[hh.2];decide)
    omega
   ·omega
 rw[if_neg h8] at h
 cases h
def qPx(c:UInt8):Bool:=c !=10
def tokG:Nat→ByteArray→Nat→(Int×Int)⊕List Tok
 |0,_,_=> .inr []
 |k+1,s,i=>
  if tw (inK [5]) s.data.toList i=s.data.toList.length then .inr [(5,⟨#[]⟩,0,(s.data.toList.length:Int))]
  else if kd (s.data.toList.getD (tw (inK [5]) s.data.toList i) 0)=6 then tokG k s (tw qPx s.data.toList (tw (inK [5]) s.data.toList i))
  else if(tokP s (tw (inK [5]) s.data.toList i)).2.2≠0 then .inl ((tw (inK [5]) s.data.toList i:Nat),(tokP s (tw (inK [5]) s.data.toList i)).2.2)
  else match tokG k s (tokP s (tw (inK [5]) s.data.toList i)).2.1.toNat with
   | .inl x=> .inl x
   | .inr r=> .inr (((tokP s (tw (inK [5]) s.data.toList i)).1.1,(tokP s (tw (inK [5]) s.data.toList i)).1.2.1,(tokP s (tw (inK [5]) s.data.toList i)).1.2.2.1,((tw (inK [5]) s.data.toList i:Nat):Int))::r)
def zHh(acc:List Tok):(Int×Int)⊕List Tok→List Tok×Int×Int
 | .inl x=>([],x.1,x.2)
 | .inr r=>(acc++r,0,0)
def qKd(s:ByteArray):List Tok×Int×Int:=if s.data.toList.length>16384 then([],0,2) else zHh [] (tokG (s.data.toList.length+1) s 0)
end
section
open Go Go.Dc
def endT(t:Tok):Int:=t.2.2.2+(t.2.1.size:Int)+(if t.1=2 then 1 else 0)
def zUd(s:ByteArray):Int→List Tok→Prop
 |_,[]=>True
 |e,t::r=>e≤t.2.2.2∧t.2.2.2+(t.2.1.size:Int)≤s.size∧(t.1=5↔r=[])∧(t.1=1∨t.1=4→s.extract t.2.2.2.toNat (t.2.2.2+(t.2.1.size:Int)).toNat=t.2.1∧0<t.2.1.size)∧zUd s (endT t) r
theorem qVy{s:ByteArray}:∀(k i:Nat) (e:Int) (r:List Tok),i≤s.data.toList.length→s.data.toList.length<i+k→e≤i→tokG k s i= .inr r→zUd s e r∧r≠[]∧r.length≤s.data.toList.length+1-i
 |0,i,e,r,h1,h2,h3,h4=>by omega
 |k+1,i,e,r,h1,h2,h3,h4=>by
  have hs:=qDd s
  have hb:=qWc (p:=inK [5]) (l:=s.data.toList) (a:=i) h1
  simp only[tokG] at h4
  generalize hE:tw (inK [5]) s.data.toList i=a at hb h4
  split at h4
  ·obtain rfl:=(Sum.inr.inj h4).symm
   refine⟨⟨by show e≤(s.data.toList.length:Int);omega,by show(s.data.toList.length:Int)+((0:Nat):Int)≤_;omega,by simp,fun h=>by simp at h,trivial⟩,by simp,by simp;omega⟩
  ·rename_i he
   have hlt:a<s.data.toList.length:=by omega
   split at h4
   ·rename_i h6
    have hb2:=qWc (p:=qPx) (l:=s.data.toList) (a:=a) (by omega)
    have hpos:=zBk (p:=qPx) hlt (by
     rw[qLr hlt] at h6
     simp only[qPx,fX,ne_eq]
     intro e;rw[e] at h6;exact absurd h6 (by decide))
    obtain⟨g1,g2,g3⟩:=qVy k _ e r hb2.2 (by omega) (by omega) h4
    exact⟨g1,g2,by omega⟩
   ·split at h4
    ·cases h4
    ·rename_i h0
     obtain⟨b,hb1,hb2,hb3,hk⟩:=zHs hlt (by simpa using h0)
     rw[hb1,jR] at h4
     generalize (tokP s a).1=t at h4 hk
     cases hG:tokG k s b with
     |inl x=>rw[hG] at h4;cases h4
     |inr q=>
      rw[hG] at h4
      obtain rfl:=(Sum.inr.inj h4).symm
      have hext:(s.extract a b).size=b-a:=by rw[ByteArray.size_extract];omega
      have hend:endT (t.1,t.2.1,t.2.2.1,(a:Int))≤b∧(a:Int)+(t.2.1.size:Int)≤b∧t.1≠5∧(t.1=1∨t.1=4→t.2.1=s.extract a b):=by
       rcases hk with ⟨hk1,hk2⟩|⟨hk1,hk2⟩|⟨hk1,hk2⟩
       ·refine⟨?_,?_,by omega,fun _=>hk2⟩
        ·simp only[endT,hk2,hext];rw[if_neg (by omega)];omega
        ·rw[hk2,hext];omega
       ·have:(⟨#[]⟩:ByteArray).size=0:=rfl
        refine⟨?_,?_,by omega,fun h=>by omega⟩
        ·simp only[endT,hk2,this];rw[if_pos hk1];omega
        ·rw[hk2,this];omega
       ·refine⟨?_,by omega,by omega,fun h=>by omega⟩
        simp only[endT];rw[if_neg (by omega)];omega
      obtain⟨g1,g2,g3⟩:=qVy k b (endT (t.1,t.2.1,t.2.2.1,(a:Int))) q hb3 (by omega) hend.1 hG
      refine⟨⟨by show e≤(a:Int);omega,?_,?_,?_,g1⟩,by simp,by simp only[jD];omega⟩
      ·show(a:Int)+(t.2.1.size:Int)≤_;omega
      ·exact⟨fun h=>absurd h hend.2.2.1,fun h=>absurd h g2⟩
      ·intro h
       have:=hend.2.2.2 h
       show s.extract (Int.toNat (a:Int)) ((a:Int)+(t.2.1.size:Int)).toNat=t.2.1∧0<t.2.1.size
       rw[this,hext,jR,show((a:Int)+((b-a:Nat):Int)).toNat=b by omega]
       exact⟨rfl,by omega⟩
theorem zEg{s:ByteArray}:∀(k i:Nat) (x:Int×Int),i≤s.data.toList.length→s.data.toList.length<i+k→tokG k s i= .inl x→0≤x.1∧x.1≤s.size∧x.2≠0
 |0,i,x,h1,h2,h4=>by omega
 |k+1,i,x,h1,h2,h4=>by
  have hs:=qDd s
  have hb:=qWc (p:=inK [5]) (l:=s.data.toList) (a:=i) h1
  simp only[tokG] at h4
  generalize hE:tw (inK [5]) s.data.toList i=a at hb h4
  split at h4
  ·cases h4
  ·rename_i he
   have hlt:a<s.data.toList.length:=by omega
   split at h4
   ·rename_i h6
    have hb2:=qWc (p:=qPx) (l:=s.data.toList) (a:=a) (by omega)
    have hpos:=zBk (p:=qPx) hlt (by
     rw[qLr hlt] at h6
     simp only[qPx,fX,ne_eq]
     intro e;rw[e] at h6;exact absurd h6 (by decide))
    exact zEg k _ x hb2.2 (by omega) h4
   ·split at h4
    ·rename_i h0
     obtain rfl:=Sum.inl.inj h4
     exact⟨by simp only;omega,by simp only;omega,h0⟩
    ·rename_i h0
     obtain⟨b,hb1,hb2,hb3,hk⟩:=zHs hlt (by simpa using h0)
     rw[hb1,jR] at h4
     cases hG:tokG k s b with
     |inl y=>rw[hG] at h4;obtain rfl:=Sum.inl.inj h4;exact zEg k b y hb3 (by omega) hG
     |inr q=>rw[hG] at h4;cases h4
end
section
open Go Go.Dc
theorem qXe{p:UInt8→Bool}(h:((List.range 256).all fun n=>p (UInt8.ofNat n))=true)(c:UInt8):p c=true:=by
 have:=kA.1 h c.toNat (fR.2 c.toNat_lt)
 simpa using this
theorem qYg{N:Nat}(c:UInt8):qFq N (c.toNat:Int)=some (kd c==1):=by
 have h:=qXe (p:=fun c=>(decide (97≤c.toNat)&&decide (c.toNat≤122))==(kd c==1)) (by kernel_rfl) c
 rw[kJ] at h
 rw[←h]
 unfold qFq
 by_cases h1:97≤c.toNat
 ·rw[if_pos (by simp only[jA];omega)]
  simp only[h1,decide_true,gC,j0]
  congr 1
  exact decide_eq_decide.2 (by omega)
 ·rw[if_neg (by simp only[jA];omega)]
  simp[h1]
theorem qVi{N:Nat}(c:UInt8):qFe N (c.toNat:Int)=some (inK [1,2,3] c):=by
 have h:=qXe (p:=fun c=>(kd c==1||(decide (48≤c.toNat)&&decide (c.toNat≤57)||decide (c.toNat=95)))==inK [1,2,3] c) (by kernel_rfl) c
 rw[kJ] at h
 rw[←h]
 unfold qFe
 rw[qYg]
 simp only[j0]
 cases kd c==1
 ·have e95:((c.toNat:Int)==95)=decide (c.toNat=95):=by rw[kM,kJ,jA];omega
  simp only[jB,jI,kU,e95]
  by_cases h1:48≤c.toNat
  ·by_cases h2:c.toNat≤57
   ·rw[if_pos (by simp only[jA];omega),if_pos (by simp only[jA];omega)];simp[h1,h2]
   ·rw[if_pos (by simp only[jA];omega),if_neg (by simp only[jA];omega)];simp[h2]
  ·rw[if_neg (by simp only[jA];omega)];simp[h1]
 ·rfl
theorem qYn(c:UInt8):kd c=2↔48≤c.toNat∧c.toNat≤57:=by
 have h:=qXe (p:=fun c=>(kd c==2)==(decide (48≤c.toNat)&&decide (c.toNat≤57))) (by kernel_rfl) c
 rw[kJ,kM] at h
 simpa using h
theorem zGu(c:UInt8):kd c=7↔c=34:=by
 have h:=qXe (p:=fun c=>(kd c==7)==(c==34)) (by kernel_rfl) c
 rw[kJ,kM] at h
 simpa using h
def signs:List UInt8:=[59,44,40,41,43,45,42,47,37,60,61]
theorem zJb(c:UInt8):kd c=8↔signs.contains c=true:=by
 have h:=qXe (p:=fun c=>(kd c==8)==signs.contains c) (by kernel_rfl) c
 rw[kJ,kM] at h
 simpa using h
theorem zOa(c:UInt8):inK [5] c=true↔c.toNat=32∨c.toNat=9∨c.toNat=10∨c.toNat=13:=by
 have h:=qXe (p:=fun c=>inK [5] c==(decide (c.toNat=32)||(decide (c.toNat=9)||(decide (c.toNat=10)||decide (c.toNat=13))))) (by kernel_rfl) c
 rw[kJ,kM] at h
 simpa using h
theorem zIa(c:UInt8):kd c=6↔c.toNat=35:=by
 have h:=qXe (p:=fun c=>(kd c==6)==decide (c.toNat=35)) (by kernel_rfl) c
 rw[kJ,kM] at h
 simpa using h
def numR(n:Int)(c:UInt8):Int:=if n≤9007199254740992 then n*10+((c.toNat:Int)-48) else n
theorem zQh(l:List UInt8)(c:UInt8):(l++[c]).foldl numR 0=numR (l.foldl numR 0) c:=by simp
theorem zPo:∀(n:Nat) (ds:List UInt8),ds.length=n→(∀c∈ds,kd c=2)→0≤ds.foldl numR 0∧ds.foldl numR 0≤90071992547409930∧numL ds=if ds.foldl numR 0>9007199254740992 then 9007199254740993 else ds.foldl numR 0
 |0,ds,h,_=>by obtain rfl:=g9.1 h;simp[numL]
 |n+1,ds,h,hd=>by
  obtain⟨l,c,rfl⟩:∃l c,ds=l++[c]:=by
   rcases fW ds with e|⟨l,c,e⟩
   ·rw[e] at h;cases h
   ·exact⟨l,c,by simpa using e⟩
  obtain⟨h1,h2,h3⟩:=zPo n l (by simpa using h) (fun c hc=>hd c (kF _ hc))
  have hc:=zSa c (hd c (by simp))
  rw[zQh,zEp]
  by_cases hu:l.foldl numR 0≤9007199254740992
  ·rw[if_neg (by omega)] at h3
   rw[h3]
   generalize l.foldl numR 0=u at h1 h2 hu
   have e1:numR u c=u*10+((c.toNat:Int)-48):=if_pos hu
   rw[e1]
   unfold numS
   refine⟨by omega,by omega,?_⟩
   by_cases h4:9007199254740993<10*u+((c.toNat:Int)-48)
   ·rw[if_pos h4,if_pos (by omega)]
   ·rw[if_neg h4]
    by_cases h5:u*10+((c.toNat:Int)-48)>9007199254740992
    ·rw[if_pos h5];omega
    ·rw[if_neg h5];omega
  ·rw[if_pos (by omega)] at h3
   rw[h3]
   generalize l.foldl numR 0=u at h1 h2 hu
   have e1:numR u c=u:=if_neg hu
   have e2:numS 9007199254740993 c=9007199254740993:=if_pos (by omega)
   rw[e1,e2,if_pos (by omega)]
   exact⟨h1,h2,rfl⟩
theorem inK2(c:UInt8):inK [2] c=decide (48≤c.toNat∧c.toNat≤57):=by
 rw[kM,jA,←qYn];simp[inK]
theorem qYh{N:Nat}{s:ByteArray}:∀(d i M:Nat) (n:Int),i+d=s.data.toList.length→s.data.toList.length<1000000→d<M→0≤n→n≤90071992547409930→
  qAs (qGa N s) M ((i:Int),n)=some (((tw (inK [2]) s.data.toList i:Nat):Int),((s.data.toList.drop i).takeWhile (inK [2])).foldl numR n)
 |d,i,0,n,_,_,h,_,_=>by omega
 |0,i,M+1,n,h1,hl,h2,h3,h4=>by
  have hs:=qDd s
  rw[zNg (by omega),jT (by omega)]
  simp only[qAs,qGa]
  rw[if_neg (by simp only[jA];omega)]
  rfl
 |d+1,i,M+1,n,h1,hl,h2,h3,h4=>by
  have hs:=qDd s
  have hi:i<s.data.toList.length:=by omega
  simp only[qAs,qGa]
  rw[if_pos (by simp only[jA];omega),qGx hi]
  simp only[j0]
  have hc:(if decide (((s.data.toList[i]).toNat:Int)≥48)=true then some (decide (((s.data.toList[i]).toNat:Int)≤57)) else some false)=some (inK [2] (s.data.toList[i])):=by
   rw[inK2]
   by_cases h48:48≤(s.data.toList[i]).toNat
   ·rw[if_pos (by simp only[jA];omega)];congr 1;exact decide_eq_decide.2 (by omega)
   ·rw[if_neg (by simp only[jA];omega)];congr 1;exact(jU (by omega)).symm
  rw[hc]
  simp only[j0]
  rw[kC hi]
  cases hb:inK [2] (s.data.toList[i]) with
  |false=>
   rw[qYu hi hb,gV (by rw[hb];exact kD)]
   rfl
  |true=>
   have hd:48≤(s.data.toList[i]).toNat∧(s.data.toList[i]).toNat≤57:=by rw[inK2] at hb;simpa using hb
   rw[←zAn hi hb,gN hb,fV,if_pos rfl]
   have hn:(if decide (n≤9007199254740992)=true then some (IntKind.wrap .i64 (IntKind.wrap .i64 (n*10)+IntKind.wrap .i64 (IntKind.wrap .u8 (((s.data.toList[i]).toNat:Int)-48)))) else some n)=some (numR n (s.data.toList[i])):=by
    unfold numR
    by_cases hn:n≤9007199254740992
    ·rw[if_pos (by simpa using hn),if_pos hn,wu8 (by omega) (by omega),wi64 (x:=n*10) (by omega) (by omega),wi64 (x:=((s.data.toList[i]).toNat:Int)-48) (by omega) (by omega),wi64 (by omega) (by omega)]
    ·rw[if_neg (by simpa using hn),if_neg hn]
   rw[hn]
   simp only[j0]
   rw[wi64 (by omega) (by omega),←fD]
   exact qYh d (i+1) M _ (by omega) hl (by omega) (by unfold numR;split<;>omega) (by unfold numR;split<;>omega)
theorem zKk(c:UInt8):(if decide ((c.toNat:Int)≥32)=true then(if decide ((c.toNat:Int)≤126)=true then some ((c.toNat:Int) !=34) else some false) else some false)=some (qQs c):=by
 unfold qQs
 by_cases h1:32≤c.toNat
 ·rw[if_pos (by simp only[jA];omega)]
  by_cases h2:c.toNat≤126
  ·rw[if_pos (by simp only[jA];omega)]
   simp only[h1,h2,decide_true,gC]
   congr 1
   rw[kM,fX,fX]
   exact⟨fun h e=>h (by rw[e];rfl),fun h e=>h (UInt8.toNat_inj.1 (by show _=34;omega))⟩
  ·rw[if_neg (by simp only[jA];omega)];simp[h2]
 ·rw[if_neg (by simp only[jA];omega)];simp[h1]
theorem zEs{N:Nat}{s:ByteArray}(d i M:Nat)(h1:i+d=s.data.toList.length)(hl:s.data.toList.length<1000000)(h2:d<M):qAs (qDw N s) M (i:Int)=some ((tw qQs s.data.toList i:Nat):Int):=by
 have hs:=qDd s
 refine qWe (f:=qDw N s) (l:=s.data.toList) (p:=qQs) (fun e=>(e:Int)) (fun j hj hb=> ?_) (fun j hj hb=> ?_) ?_ d i M h1 h2
 ·simp only[qDw]
  rw[if_pos (by simp only[jA];omega),qGx hj]
  simp only[j0,zKk,hb]
  rw[if_pos trivial,wi64 (by omega) (by omega)]
 ·simp only[qDw]
  rw[if_pos (by simp only[jA];omega),qGx hj]
  simp only[j0,zKk,hb]
  rfl
 ·simp only[qDw]
  rw[if_neg (by simp only[jA];omega)]
  rfl
theorem zTc{N:Nat}{s:ByteArray}{p1 s6:Int}:qHr N s p1 s6=if(decide (s6<(signs.length:Int)))=true then((idx signs s6).bind fun x12=>(idxB s p1).bind fun x13=>if((x13.toNat:Int)==(x12.toNat:Int))=true then((subB s p1 (IntKind.wrap .i64 (p1+1))).bind fun s7=>some (.inr (.inr (((4,s7,0,p1),IntKind.wrap .i64 (p1+1),0))))) else(some (.inl (IntKind.wrap .i64 (s6+1))))) else(some (.inr (.inl ()))):=rfl
theorem qXd{N:Nat}{s:ByteArray}{i:Nat}(hi:i<s.data.toList.length)(hl:s.data.toList.length<1000000):∀(d j M:Nat),j+d=signs.length→d<M→
  qAs (qHr N s (i:Int)) M (j:Int)=some (if(signs.drop j).contains (s.data.toList[i])=true then .inr ((4,s.extract i (i+1),0,(i:Int)),((i+1:Nat):Int),0) else .inl ())
 |d,j,0,_,h=>by omega
 |0,j,M+1,h1,h2=>by
  simp only[qAs,zTc]
  rw[if_neg (by simp only[jA];omega),jT (by omega)]
  rfl
 |d+1,j,M+1,h1,h2=>by
  have hj:j<signs.length:=by omega
  have hls:signs.length=11:=rfl
  simp only[qAs,zTc]
  rw[if_pos (by simp only[jA];omega),qCo hj,qGx hi,kC hj]
  simp only[j0,List.contains_cons]
  by_cases he:s.data.toList[i]=signs[j]
  ·rw[if_pos (by rw[he];exact gD _),wi64 (x:=(i:Int)+1) (by omega) (by omega),←fD,qUz (by omega) (by omega)]
   simp only[j0]
   rw[if_pos (by rw[he];simp)]
  ·have hne:¬((s.data.toList[i]).toNat:Int)=((signs[j]).toNat:Int):=fun h=>he (UInt8.toNat_inj.1 (by omega))
   have hne2:(s.data.toList[i]==signs[j])=false:=beq_eq_false_iff_ne.2 he
   rw[if_neg (by simpa using hne),wi64 (by omega) (by omega),←fD]
   simp only[j0,hne2,kU]
   exact qXd hi hl d (j+1) M (by omega) (by omega)
def refP(s:ByteArray)(i:Nat):(Int×ByteArray×Int×Int)×Int×Int:=
 if(tokP s i).2.2=0 then(((tokP s i).1.1,(tokP s i).1.2.1,(tokP s i).1.2.2.1,(i:Int)),(tokP s i).2.1,0) else tokP s i
theorem zIn{N:Nat}{s:ByteArray}{i:Nat}(hi:i<s.data.toList.length)(hl:s.data.toList.length<1000000)(hN:s.data.toList.length+20<N):qJa N s (i:Int)=some (refP s i):=by
 have hs:=qDd s
 simp only[qJa,qGx hi,j0,qYg,refP,tokP,qLr hi,kJ]
 by_cases h1:kd (s.data.toList[i])=1
 ·simp only[h1,jK]
  have hb:=qWc (p:=inK [1,2,3]) (l:=s.data.toList) (a:=i) (by omega)
  have key:=qWe (f:=qEk N s) (l:=s.data.toList) (p:=inK [1,2,3]) (fun e=>(e:Int)) (fun j hj hb=>by
   simp only[qEk]
   rw[if_pos (by simp only[jA];omega),qGx hj]
   simp only[j0,qVi,hb]
   rw[if_pos trivial,wi64 (by omega) (by omega)]) (fun j hj hb=>by
   simp only[qEk]
   rw[if_pos (by simp only[jA];omega),qGx hj]
   simp only[j0,qVi,hb]
   rfl) (by
   simp only[qEk]
   rw[if_neg (by simp only[jA];omega)]
   rfl) (s.data.toList.length-i) i N (by omega) (by omega)
  rw[key]
  simp only[j0]
  rw[wi64 (by omega) (by omega),qUz hb.1 hb.2]
  by_cases h:tw (inK [1,2,3]) s.data.toList i-i>24
  ·rw[if_pos (by simp only[jA];omega),if_pos h];rfl
  ·rw[if_neg (by simp only[jA];omega),if_neg h];rfl
 simp only[h1,jI]
 by_cases h2:kd (s.data.toList[i])=2
 ·simp only[h2,jK]
  have hd:=(qYn _).1 h2
  rw[if_pos (by simp only[jA];omega)]
  simp only[j0]
  obtain⟨n1,n2,n3⟩:=zPo _ _ rfl (fun c (hc:c∈(s.data.toList.drop i).takeWhile (inK [2]))=>by simpa[inK] using zNd hc)
  rw[if_pos (by simp only[jA];omega),qYh (s.data.toList.length-i) i N 0 (by omega) hl (by omega) (by omega) (by omega),n3]
  simp only[j0,jA]
  generalize ((s.data.toList.drop i).takeWhile (inK [2])).foldl numR 0=u at n1 n2
  by_cases h4:u>9007199254740992
  ·simp[h4,zHx]
  ·simp[h4]
 simp only[h2,jI]
 have hnd:¬(48≤(s.data.toList[i]).toNat∧(s.data.toList[i]).toNat≤57):=fun h=>h2 ((qYn _).2 h)
 have hdig:(if decide (((s.data.toList[i]).toNat:Int)≥48)=true then some (decide (((s.data.toList[i]).toNat:Int)≤57)) else some false)=some false:=by
  by_cases h48:48≤(s.data.toList[i]).toNat
  ·rw[if_pos (by simp only[jA];omega)];congr 1;rw[decide_eq_false_iff_not];omega
  ·rw[if_neg (by simp only[jA];omega)]
 rw[hdig]
 simp only[j0,jB,jI]
 by_cases h7:kd (s.data.toList[i])=7
 ·have hc:s.data.toList[i]=34:=(zGu _).1 h7
  simp only[h7,jK]
  rw[if_pos (by rw[hc];rfl),wi64 (x:=(i:Int)+1) (by omega) (by omega),←fD]
  have hb:=qWc (p:=qQs) (l:=s.data.toList) (a:=i+1) (by omega)
  rw[zEs (s.data.toList.length-(i+1)) (i+1) N (by omega) hl (by omega)]
  simp only[j0]
  generalize tw qQs s.data.toList (i+1)=e at hb
  by_cases he:e=s.data.toList.length
  ·rw[if_pos (by omega)]
   have:¬s.data.toList.getD e 0=34:=fun h=>by have:=qVa (l:=s.data.toList) (i:=e) (by rw[h];decide);omega
   rw[if_neg this]
   rfl
  ·have hlt:e<s.data.toList.length:=by omega
   rw[if_neg (by omega),qGx hlt,qLr hlt]
   simp only[j0]
   by_cases h34:s.data.toList[e]=34
   ·rw[if_pos h34,if_neg (by rw[h34];decide),qUz hb.1 hb.2]
    simp only[j0,jK]
    rw[wi64 (by omega) (by omega),←fD]
   ·have h34':¬((s.data.toList[e]).toNat:Int)=34:=fun h=>h34 (UInt8.toNat_inj.1 (by show _=34;omega))
    rw[if_neg h34,if_pos (by simpa using h34')]
    simp[zHx]
 have h34':¬((s.data.toList[i]).toNat:Int)=34:=fun h=>h7 ((zGu _).2 (UInt8.toNat_inj.1 (by show _=34;omega)))
 simp only[h7,jI,h34']
 have ho:(if((s.data.toList[i]).toNat:Int)=61 then(if decide (IntKind.wrap .i64 ((i:Int)+1)<(s.size:Int))=true then((idxB s (IntKind.wrap .i64 ((i:Int)+1))).bind fun x11=>some ((x11.toNat:Int)==61)) else some false) else some false)=some (decide (s.data.toList.getD i 0=61∧s.data.toList.getD (i+1) 0=61)):=by
  rw[qLr hi]
  by_cases h61:s.data.toList[i]=61
  ·rw[if_pos (by rw[h61];rfl),wi64 (by omega) (by omega),←fD]
   by_cases hlt:i+1<s.data.toList.length
   ·rw[if_pos (by simp only[jA];omega),qGx hlt,qLr hlt]
    simp only[j0]
    congr 1
    rw[kM,kJ,jA]
    exact⟨fun h=>⟨h61,UInt8.toNat_inj.1 (by show _=61;omega)⟩,fun h=>by rw[h.2];rfl⟩
   ·rw[if_neg (by simp only[jA];omega)]
    congr 1
    refine(jU fun h=> ?_).symm
    have:=qVa (l:=s.data.toList) (i:=i+1) (by rw[h.2];decide)
    omega
  ·rw[if_neg (fun h=>h61 (UInt8.toNat_inj.1 (by show _=61;omega)))]
   congr 1
   exact(jU fun h=>h61 h.1).symm
 rw[ho]
 simp only[j0,jA]
 by_cases h61:s.data.toList.getD i 0=61∧s.data.toList.getD (i+1) 0=61
 ·have hlt:i+1<s.data.toList.length:=qVa (by rw[h61.2];decide)
  have h8:kd (s.data.toList[i])=8:=by rw[←qLr hi,h61.1];kernel_rfl
  have hE:qZm s.data.toList i=i+2:=by rw[qZm,if_pos h61]
  have hx:s.extract i (i+2)=(⟨#[61,61]⟩:ByteArray):=by
   apply Go.WideShapes.bytes_inj
   simp only[ByteArray.data_extract,hJ,fH]
   rw[kC hi,kC hlt,←qLr hi,←qLr hlt,h61.1,h61.2,show i+2-i=2 by omega]
   rfl
  simp only[h61,and_self,jK,h8,hE,hx]
  rw[wi64 (by omega) (by omega)]
  simp
 ·have hE:qZm s.data.toList i=i+1:=by rw[qZm,if_neg h61]
  have key:=qXd (N:=N) hi hl 11 0 N rfl (by omega)
  rw[show((0:Nat):Int)=0 from rfl] at key
  rw[if_neg h61,key]
  by_cases h8:kd (s.data.toList[i])=8
  ·have:=(zJb _).1 h8
   simp only[h8,jK,jX,this,j0,hE]
  ·have:¬signs.contains (s.data.toList[i])=true:=fun h=>h8 ((zJb _).2 h)
   simp only[h8,jI,jX,this,j0]
   simp[zHx]
end
section
open Go Go.Dc
def qOb:Nat→List UInt8→Nat→Nat
 |0,_,i=>i
 |k+1,l,i=>
  if tw (inK [5]) l i=l.length then l.length
  else if kd (l.getD (tw (inK [5]) l i) 0)=6 then qOb k l (tw qPx l (tw (inK [5]) l i))
  else tw (inK [5]) l i
theorem zLa{N:Nat}{s:ByteArray}{i:Nat}(hi:i≤s.data.toList.length)(hl:s.data.toList.length<1000000)(hN:s.data.toList.length+10<N):qAs (qEe N s) N (i:Int)=some ((tw qPx s.data.toList i:Nat):Int):=by
 have hs:=qDd s
 have hn:∀c:UInt8,((c.toNat:Int) !=10)=qPx c:=fun c=>by
  rw[kM,fX,qPx,fX]
  exact⟨fun h e=>h (by rw[e];rfl),fun h e=>h (UInt8.toNat_inj.1 (by show _=10;omega))⟩
 refine qWe (f:=qEe N s) (l:=s.data.toList) (p:=qPx) (fun e=>(e:Int)) (fun j hj hb=> ?_) (fun j hj hb=> ?_) ?_ (s.data.toList.length-i) i N (by omega) (by omega)
 ·simp only[qEe]
  rw[if_pos (by simp only[jA];omega),qGx hj]
  simp only[j0,hn,hb]
  rw[if_pos trivial,wi64 (by omega) (by omega)]
 ·simp only[qEe]
  rw[if_pos (by simp only[jA];omega),qGx hj]
  simp only[j0,hn,hb]
  rfl
 ·simp only[qEe]
  rw[if_neg (by simp only[jA];omega)]
  rfl
theorem zLz{s:ByteArray}{i:Nat}(hi:i<s.data.toList.length):((idxB s (i:Int)).bind fun x1=>if((x1.toNat:Int)==32)=true then(some true) else((idxB s (i:Int)).bind fun x2=>if((x2.toNat:Int)==9)=true then(some true) else((idxB s (i:Int)).bind fun x3=>if((x3.toNat:Int)==10)=true then(some true) else((idxB s (i:Int)).bind fun x4=>some ((x4.toNat:Int)==13)))))=some (inK [5] (s.data.toList[i])):=by
 simp only[qGx hi,j0,kJ]
 generalize s.data.toList[i]=c
 have hb:=zOa c
 by_cases h1:(c.toNat:Int)=32
 ·rw[if_pos h1,hb.2 (by omega)]
 rw[if_neg h1]
 by_cases h2:(c.toNat:Int)=9
 ·rw[if_pos h2,hb.2 (by omega)]
 rw[if_neg h2]
 by_cases h3:(c.toNat:Int)=10
 ·rw[if_pos h3,hb.2 (by omega)]
 rw[if_neg h3]
 congr 1
 rw[kM,kJ,hb]
 omega
theorem zMe{N:Nat}{s:ByteArray}{i:Nat}(hi:i<s.data.toList.length)(hl:s.data.toList.length<1000000)(hN:s.data.toList.length+10<N):
  qFc N s (i:Int)=some (if inK [5] (s.data.toList[i])=true then .inl (((i+1:Nat)):Int) else if kd (s.data.toList[i])=6 then .inl ((tw qPx s.data.toList i:Nat):Int) else .inr (.inr (i:Int))):=by
 have hs:=qDd s
 simp only[qFc]
 rw[if_pos (by simp only[jA];omega),zLz hi]
 simp only[j0]
 by_cases h5:inK [5] (s.data.toList[i])=true
 ·rw[if_pos h5,if_pos h5,wi64 (by omega) (by omega),←fD]
 ·rw[if_neg h5,if_neg h5,qGx hi]
  simp only[j0,kJ]
  have hc:=zIa (s.data.toList[i])
  by_cases h6:kd (s.data.toList[i])=6
  ·rw[if_pos (by have:=hc.1 h6;omega),if_pos h6,zLa (by omega) hl hN]
   rfl
  ·rw[if_neg (fun h=>h6 (hc.2 (by omega))),if_neg h6]
theorem qZf{N:Nat}{s:ByteArray}(hl:s.data.toList.length<1000000)(hN:s.data.toList.length+10<N):∀(d i k M:Nat),i+d=s.data.toList.length→d<k→d<M→∃z,qAs (qFc N s) M (i:Int)=some z∧(z= .inl ((qOb k s.data.toList i:Nat):Int)∨z= .inr ((qOb k s.data.toList i:Nat):Int))
 |d,i,k,0,_,_,h=>by omega
 |d,i,0,M,_,h,_=>by omega
 |0,i,k+1,M+1,h1,h2,h3=>by
  have hs:=qDd s
  refine⟨.inl ((s.data.toList.length:Nat):Int),?_,.inl ?_⟩
  ·simp only[qAs,qFc]
   rw[if_neg (by simp only[jA];omega)]
   simp only[j0]
   congr 2;omega
  ·simp only[qOb]
   rw[zNg (by omega),if_pos (by omega)]
 |d+1,i,k+1,M+1,h1,h2,h3=>by
  have hs:=qDd s
  have hi:i<s.data.toList.length:=by omega
  simp only[qAs]
  rw[zMe hi hl hN]
  simp only[j0]
  cases h5:inK [5] (s.data.toList[i]) with
  |true=>
   rw[if_pos rfl]
   have:=qZf hl hN d (i+1) (k+1) M (by omega) (by omega) (by omega)
   simp only[qOb,zAn hi h5] at this ⊢
   exact this
  |false=>
   rw[if_neg kD]
   by_cases h6:kd (s.data.toList[i])=6
   ·have hsk:qOb (k+1) s.data.toList i=qOb k s.data.toList (tw qPx s.data.toList i):=by
     simp only[qOb,qYu hi h5,qLr hi,h6,jK]
     rw[if_neg (by omega)]
    rw[hsk,if_pos h6]
    have hb2:=qWc (p:=qPx) (l:=s.data.toList) (a:=i) (by omega)
    have hpos:=zBk (p:=qPx) hi (by
     simp only[qPx,fX,ne_eq]
     intro e;rw[e] at h6;exact absurd h6 (by decide))
    exact qZf hl hN (s.data.toList.length-tw qPx s.data.toList i) _ k M (by omega) (by omega) (by omega)
   ·have hsk:qOb (k+1) s.data.toList i=i:=by
     simp only[qOb,qYu hi h5,qLr hi,h6,jI]
     rw[if_neg (by omega)]
    rw[hsk,if_neg h6]
    exact⟨_,rfl,.inr rfl⟩
theorem zPh{N:Nat}{s:ByteArray}{i k:Nat}(hi:i≤s.data.toList.length)(hl:s.data.toList.length<1000000)(hN:s.data.toList.length+10<N)(hk:s.data.toList.length<i+k):qIi N s (i:Int)=some ((qOb k s.data.toList i:Nat):Int):=by
 obtain⟨z,h1,h2⟩:=qZf hl hN (s.data.toList.length-i) i k N (by omega) (by omega) (by omega)
 unfold qIi
 rw[h1]
 rcases h2 with rfl|rfl<;>rfl
theorem zFl{s:ByteArray}:∀(k i:Nat),i≤s.data.toList.length→s.data.toList.length<i+k→i≤qOb k s.data.toList i∧qOb k s.data.toList i≤s.data.toList.length∧
  (qOb k s.data.toList i=s.data.toList.length→tokG k s i= .inr [(5,⟨#[]⟩,0,(s.data.toList.length:Int))])∧
  (qOb k s.data.toList i<s.data.toList.length→∃k',(∀b,qOb k s.data.toList i<b→s.data.toList.length<b+k')∧tokG k s i=
   if(tokP s (qOb k s.data.toList i)).2.2≠0 then .inl ((qOb k s.data.toList i:Nat),(tokP s (qOb k s.data.toList i)).2.2)
   else match tokG k' s (tokP s (qOb k s.data.toList i)).2.1.toNat with
    | .inl x=> .inl x
    | .inr r=> .inr (((tokP s (qOb k s.data.toList i)).1.1,(tokP s (qOb k s.data.toList i)).1.2.1,(tokP s (qOb k s.data.toList i)).1.2.2.1,((qOb k s.data.toList i:Nat):Int))::r))
 |0,i,h1,h2=>by omega
 |k+1,i,h1,h2=>by
  have hb:=qWc (p:=inK [5]) (l:=s.data.toList) (a:=i) h1
  simp only[qOb,tokG]
  by_cases he:tw (inK [5]) s.data.toList i=s.data.toList.length
  ·simp only[he,jK]
   exact⟨h1,jP _,fun _=>trivial,fun h=>absurd h (Nat.lt_irrefl _)⟩
  simp only[he,jI]
  have hlt:tw (inK [5]) s.data.toList i<s.data.toList.length:=by omega
  by_cases h6:kd (s.data.toList.getD (tw (inK [5]) s.data.toList i) 0)=6
  ·simp only[h6,jK]
   have hb2:=qWc (p:=qPx) (l:=s.data.toList) (a:=tw (inK [5]) s.data.toList i) (by omega)
   have hpos:=zBk (p:=qPx) hlt (by
    rw[qLr hlt] at h6
    simp only[qPx,fX,ne_eq]
    intro e;rw[e] at h6;exact absurd h6 (by decide))
   obtain⟨g1,g2,g3,g4⟩:=zFl k (tw qPx s.data.toList (tw (inK [5]) s.data.toList i)) hb2.2 (by omega)
   exact⟨by omega,g2,g3,g4⟩
  ·simp only[h6,jI]
   exact⟨hb.1,hb.2,fun h=>absurd h he,fun _=>⟨k,fun b hb'=>by omega,rfl⟩⟩
theorem qUh{N:Nat}{s:ByteArray}(hl:s.data.toList.length≤16384)(hN:s.data.toList.length+40<N):∀(d i k M:Nat) (acc:List Tok),i+d=s.data.toList.length→d<M→s.data.toList.length<i+k→acc.length≤i→
  ∃z,qAs (qHa N s) M (acc,((qOb k s.data.toList i:Nat):Int))=some z∧((∃o,z= .inl o∧o.length≤s.data.toList.length∧zHh acc (tokG k s i)=(o++[(5,⟨#[]⟩,0,(s.size:Int))],0,0))∨z= .inr (zHh acc (tokG k s i)))
 |d,i,k,0,acc,_,h,_,_=>by omega
 |d,i,k,M+1,acc,h1,h2,h3,h4=>by
  have hs:=qDd s
  obtain⟨g1,g2,g3,g4⟩:=zFl (s:=s) k i (by omega) h3
  generalize hA:qOb k s.data.toList i=a at g1 g2 g3 g4
  simp only[qAs,qHa]
  by_cases he:a=s.data.toList.length
  ·refine⟨.inl acc,?_,.inl ⟨acc,rfl,by omega,?_⟩⟩
   ·rw[if_neg (by simp only[jA];omega)]
    rfl
   ·rw[g3 he,←hs];rfl
  ·have hlt:a<s.data.toList.length:=by omega
   obtain⟨k',g5,g6⟩:=g4 hlt
   rw[if_pos (by simp only[jA];omega),zIn hlt (by omega) (by omega)]
   simp only[j0,refP]
   by_cases h0:(tokP s a).2.2=0
   ·obtain⟨e,he1,he2,he3,_⟩:=zHs hlt h0
    rw[if_pos h0]
    simp only[fJ,jB,jI]
    rw[qDx (by simp only[jD,jF];omega) (by omega),he1]
    simp only[j0]
    rw[zPh (k:=k') he3 (by omega) (by omega) (g5 e he2)]
    simp only[j0]
    obtain⟨z,hz1,hz2⟩:=qUh hl hN (s.data.toList.length-e) e k' M (acc++[((tokP s a).1.1,(tokP s a).1.2.1,(tokP s a).1.2.2.1,(a:Int))]) (by omega) (by omega) (g5 e he2) (by simp;omega)
    have hj:zHh acc (tokG k s i)=zHh (acc++[((tokP s a).1.1,(tokP s a).1.2.1,(tokP s a).1.2.2.1,(a:Int))]) (tokG k' s e):=by
     rw[g6,if_neg (by simp[h0]),he1,jR]
     cases tokG k' s e with
     |inl x=>rfl
     |inr r=>simp[zHh]
    rw[hj]
    exact⟨z,hz1,hz2⟩
   ·rw[if_neg h0]
    have hb:((tokP s a).2.2 !=0)=true:=by simpa using h0
    simp only[hb,jK,j0]
    refine⟨_,rfl,.inr ?_⟩
    rw[g6,if_pos h0]
    rfl
theorem zFa{N:Nat}{s:ByteArray}(hN:20000<N):qIo N s=some (qKd s):=by
 have hs:=qDd s
 unfold qIo qKd
 by_cases h:s.data.toList.length>16384
 ·rw[if_pos (by simp only[jA];omega),if_pos h]
 ·rw[if_neg (by simp only[jA];omega),if_neg h]
  have h1:=zPh (N:=N) (s:=s) (i:=0) (k:=s.data.toList.length+1) (by omega) (by omega) (by omega) (by omega)
  rw[show((0:Nat):Int)=0 from rfl] at h1
  rw[h1]
  simp only[j0]
  obtain⟨z,hz1,hz2⟩:=qUh (N:=N) (s:=s) (by omega) (by omega) s.data.toList.length 0 (s.data.toList.length+1) N [] (by omega) (by omega) (by omega) (by simp)
  rw[hz1]
  rcases hz2 with ⟨o,rfl,ho,hj⟩|rfl
  ·simp only[j0]
   rw[qDx (by simp only[jD,jF];omega) (by omega),hj]
   rfl
  ·rfl
end
section
open Go Go.Dc
def qOi(s:ByteArray):Bool:=decide (1≤s.data.toList.length∧s.data.toList.length≤24∧kd (s.data.toList.getD 0 0)=1∧tw (inK [1,2,3]) s.data.toList 0=s.data.toList.length)
theorem qRi{s:ByteArray}(h:¬(1≤s.data.toList.length∧s.data.toList.length≤24∧kd (s.data.toList.getD 0 0)=1∧tw (inK [1,2,3]) s.data.toList 0=s.data.toList.length)):false=qOi s:=(jU h).symm
theorem zNh{s:ByteArray}(h:1≤s.data.toList.length∧s.data.toList.length≤24∧kd (s.data.toList.getD 0 0)=1∧tw (inK [1,2,3]) s.data.toList 0=s.data.toList.length):true=qOi s:=(jZ h).symm
theorem zNm{N:Nat}{s:ByteArray}(hN:100<N):qPm N s=some (qOi s):=by
 have hs:=qDd s
 simp only[qPm,zKo (show 30<N by omega),j0]
 by_cases h1:1≤s.data.toList.length
 ·by_cases h2:s.data.toList.length≤24
  ·rw[if_pos (by simp only[jA];omega),if_pos (by simp only[jA];omega)]
   have hi:=qGx (s:=s) (i:=0) (by omega)
   rw[show((0:Nat):Int)=0 from rfl] at hi
   rw[hi]
   simp only[j0,kd_def,kJ]
   have hsp:=zPi (N:=N) (s:=s) (ks:=[1,2,3]) (i:=0) (by omega) (by omega) (by simp) (by omega)
   rw[show((0:Nat):Int)=0 from rfl] at hsp
   by_cases h3:kd (s.data.toList[0])=1
   ·rw[if_pos h3,hsp]
    simp only[j0]
    congr 1
    rw[kM,kJ,qOi,jA,qLr (by omega)]
    exact⟨fun h=>⟨h1,h2,h3,by omega⟩,fun h=>by have:=h.2.2.2;omega⟩
   ·rw[if_neg h3]
    refine congrArg some (qRi fun h=> ?_)
    rw[qLr (by omega)] at h
    exact h3 h.2.2.1
  ·rw[if_pos (by simp only[jA];omega),if_neg (by simp only[jA];omega)]
   exact congrArg some (qRi fun h=>h2 h.2.1)
 ·rw[if_neg (by simp only[jA];omega)]
  exact congrArg some (qRi fun h=>h1 h.1)
theorem qWo{N:Nat}{s:ByteArray}(hN:100<N):qFx N s=some (qOi s):=by
 have hs:=qDd s
 simp only[qFx]
 by_cases h1:1≤s.data.toList.length
 ·by_cases h2:s.data.toList.length≤24
  ·rw[if_neg (by simp only[jA];omega),if_neg (by simp only[jA];omega)]
   have hi:=qGx (s:=s) (i:=0) (by omega)
   rw[show((0:Nat):Int)=0 from rfl] at hi
   rw[hi]
   simp only[j0,qYg]
   by_cases h3:kd (s.data.toList[0])=1
   ·rw[h3,if_neg (by simp)]
    have key:=qWe (f:=qFb N s) (l:=s.data.toList) (p:=inK [1,2,3]) (fun e=>if e=s.data.toList.length then .inl () else .inr false) (fun j hj hb=>by
     simp only[qFb]
     rw[if_pos (by simp only[jA];omega),qGx hj]
     simp only[j0,qVi,hb]
     rw[wi64 (by omega) (by omega)]
     rfl) (fun j hj hb=>by
     simp only[qFb]
     rw[if_pos (by simp only[jA];omega),qGx hj]
     simp only[j0,qVi,hb]
     rw[if_neg (show ¬j=s.data.toList.length by omega)]
     rfl) (by
     simp only[qFb]
     rw[if_neg (by simp only[jA];omega)]
     simp) s.data.toList.length 0 N (by omega) (by omega)
    rw[show((0:Nat):Int)=0 from rfl] at key
    rw[key]
    simp only[j0]
    by_cases h4:tw (inK [1,2,3]) s.data.toList 0=s.data.toList.length
    ·rw[if_pos h4]
     exact congrArg some (zNh ⟨h1,h2,by rw[qLr (by omega)];exact h3,h4⟩)
    ·rw[if_neg h4]
     exact congrArg some (qRi fun h=>h4 h.2.2.2)
   ·rw[if_pos (by rw[dM,beq_eq_false_iff_ne];exact h3)]
    refine congrArg some (qRi fun h=> ?_)
    rw[qLr (by omega)] at h
    exact h3 h.2.2.1
  ·rw[if_neg (by simp only[jA];omega),if_pos (by simp only[jA];omega)]
   simp only[j0,jK]
   exact congrArg some (qRi fun h=>h2 h.2.1)
 ·rw[if_pos (by simp only[jA];omega)]
  simp only[j0,jK]
  exact congrArg some (qRi fun h=>h1 h.1)
end
section
open Go Go.Dc
def sp:List UInt8→List (List UInt8)
 |[]=>[[]]
 |c::l=>if c=47 then[]::sp l else match sp l with
  |[]=>[[c]]
  |p::q=>(c::p)::q
theorem zIe:∀l:List UInt8,sp l≠[]
 |[]=>by simp[sp]
 |c::l=>by
  simp only[sp]
  split
  ·simp
  ·split<;>simp
theorem zNk:∀l:List UInt8,(sp l).length=l.count 47+1
 |[]=>rfl
 |c::l=>by
  simp only[sp]
  split
  ·rename_i h;subst h;simp[zNk l]
  ·rename_i h
   have:=zNk l
   split
   ·rename_i e;exact absurd e (zIe l)
   ·rename_i e
    rw[e] at this
    simp only[jD] at this ⊢
    rw[List.count_cons_of_ne h,←this]
def qOz(c:UInt8):Bool:=c !=47
theorem zPf:∀l:List UInt8,sp l=if(l.takeWhile qOz).length=l.length then[l] else l.takeWhile qOz::sp (l.drop ((l.takeWhile qOz).length+1))
 |[]=>rfl
 |c::l=>by
  have ih:=zPf l
  by_cases h:c=47
  ·subst h
   rw[gV (by decide)]
   simp[sp]
  ·have hc:qOz c=true:=by simpa[qOz] using h
   rw[gN hc]
   simp only[sp,h,jI,ih,jD,Nat.add_right_cancel_iff,List.drop_succ_cons]
   by_cases he:(l.takeWhile qOz).length=l.length
   ·simp[he]
   ·simp[he]
def zAs:Nat→Nat→List UInt8→Option (Nat×Nat)
 |a,b,[]=>some (a,b)
 |a,b,c::l=>if c=47 then(if b=0 then none else zAs (a+1) 0 l) else if inK [1,2,3,4] c=true then(if b+1>24 then none else zAs a (b+1) l) else none
def partOk(p:List UInt8):Prop:=1≤p.length∧p.length≤24∧∀c∈p,inK [1,2,3,4] c=true
theorem qZc:∀(l:List UInt8) (a b:Nat),b≤24→((∃x y,zAs a b l=some (x,y)∧0<y∧x≤8)↔
  ∃p q,sp l=p::q∧1≤b+p.length∧b+p.length≤24∧(∀c∈p,inK [1,2,3,4] c=true)∧(∀r∈q,partOk r)∧a+q.length≤8)
 |[],a,b,hb=>by
  constructor
  ·rintro⟨x,y,h,h1,h2⟩
   simp only[zAs,jJ,Prod.mk.injEq] at h
   exact⟨[],[],rfl,by simp;omega,by simpa using hb,by simp,by simp,by simp;omega⟩
  ·rintro⟨p,q,h,h1,h2,_,_,h3⟩
   simp only[sp,gA] at h
   obtain⟨rfl,rfl⟩:=h
   simp only[jF] at h1 h3
   exact⟨a,b,rfl,by omega,by omega⟩
 |c::l,a,b,hb=>by
  by_cases hc:c=47
  ·have hsp:sp (c::l)=[]::sp l:=by simp[sp,hc]
   rw[hsp]
   simp only[zAs,hc,jK]
   by_cases h0:b=0
   ·subst h0
    simp only[jK]
    constructor
    ·rintro⟨x,y,h,_⟩;cases h
    ·rintro⟨p,q,h,h1,_⟩
     simp only[gA] at h
     rw[←h.1] at h1;simp at h1
   ·rw[if_neg h0]
    rw[qZc l (a+1) 0 (by omega)]
    constructor
    ·rintro⟨p,q,h,h1,h2,h3,h4,h5⟩
     refine⟨[],sp l,rfl,by simp;omega,by simpa using hb,by simp,?_,by rw[h];simp only[jD];omega⟩
     intro r hr
     rw[h] at hr
     rcases jN.1 hr with rfl|hr
     ·exact⟨by omega,by omega,h3⟩
     ·exact h4 r hr
    ·rintro⟨p,q,h,h1,h2,h3,h4,h5⟩
     simp only[gA] at h
     obtain⟨rfl,rfl⟩:=h
     obtain⟨p,q,hpq⟩:∃p q,sp l=p::q:=by
      cases he:sp l with
      |nil=>exact absurd he (zIe l)
      |cons p q=>exact⟨p,q,rfl⟩
     rw[hpq] at h4 h5
     obtain⟨g1,g2,g3⟩:=h4 p (jH ..)
     exact⟨p,q,hpq,by omega,by omega,g3,fun r hr=>h4 r (jM _ hr),by simp only[jD] at h5;omega⟩
  ·obtain⟨p0,q0,hpq⟩:∃p q,sp l=p::q:=by
    cases he:sp l with
    |nil=>exact absurd he (zIe l)
    |cons p q=>exact⟨p,q,rfl⟩
   have hsp:sp (c::l)=(c::p0)::q0:=by simp only[sp,hc,jI,hpq]
   rw[hsp]
   simp only[zAs,hc,jI]
   by_cases hk:inK [1,2,3,4] c=true
   ·rw[if_pos hk]
    by_cases h24:b+1>24
    ·rw[if_pos h24]
     constructor
     ·rintro⟨x,y,h,_⟩;cases h
     ·rintro⟨p,q,h,h1,h2,_⟩
      simp only[gA] at h
      rw[←h.1] at h2
      simp only[jD] at h2
      omega
    ·rw[if_neg h24,qZc l a (b+1) (by omega)]
     constructor
     ·rintro⟨p,q,h,h1,h2,h3,h4,h5⟩
      rw[hpq] at h
      simp only[gA] at h
      obtain⟨rfl,rfl⟩:=h
      refine⟨_,_,rfl,by simp only[jD];omega,by simp only[jD];omega,?_,h4,h5⟩
      intro d hd
      rcases jN.1 hd with rfl|hd
      ·exact hk
      ·exact h3 d hd
     ·rintro⟨p,q,h,h1,h2,h3,h4,h5⟩
      simp only[gA] at h
      obtain⟨rfl,rfl⟩:=h
      simp only[jD] at h1 h2
      exact⟨p0,q0,hpq,by omega,by omega,fun d hd=>h3 d (jM _ hd),h4,h5⟩
   ·rw[if_neg hk]
    constructor
    ·rintro⟨x,y,h,_⟩;cases h
    ·rintro⟨p,q,h,h1,h2,h3,_⟩
     simp only[gA] at h
     rw[←h.1] at h3
     exact absurd (h3 c (jH ..)) hk
theorem inK4{N:Nat}(c:UInt8):((qFe N (c.toNat:Int)).bind fun y1=>if y1=true then(some true) else(some ((c.toNat:Int)==46)))=some (inK [1,2,3,4] c):=by
 have h:=qXe (p:=fun c=>(inK [1,2,3] c||decide (c.toNat=46))==inK [1,2,3,4] c) (by kernel_rfl) c
 rw[kJ] at h
 rw[←h,qVi]
 simp only[j0]
 have e:((c.toNat:Int)==46)=decide (c.toNat=46):=by rw[kM,kJ,jA];omega
 rw[e]
 cases inK [1,2,3] c<;>simp
theorem qTq{N:Nat}{s:ByteArray}(hl:s.data.toList.length<1000000):∀(d i M a b:Nat),i+d=s.data.toList.length→d<M→a≤i+1→b≤24→
  qAs (qGq N s) M ((a:Int),(b:Int),(i:Int))=some (match zAs a b (s.data.toList.drop i) with|some z=> .inl ((z.1:Int),(z.2:Int))|none=> .inr false)
 |d,i,0,_,_,_,h,_,_=>by omega
 |0,i,M+1,a,b,h1,h2,h3,h4=>by
  have hs:=qDd s
  simp only[qAs,qGq]
  rw[if_neg (by simp only[jA];omega),jT (by omega)]
  rfl
 |d+1,i,M+1,a,b,h1,h2,h3,h4=>by
  have hs:=qDd s
  have hi:i<s.data.toList.length:=by omega
  simp only[qAs,qGq]
  rw[if_pos (by simp only[jA];omega),kC hi,qGx hi]
  simp only[j0,inK4,kJ,zAs]
  by_cases hc:s.data.toList[i]=47
  ·rw[if_pos (show((s.data.toList[i]).toNat:Int)=47 by rw[hc];rfl),if_pos hc]
   by_cases hb:b=0
   ·rw[if_pos (show(b:Int)=0 by omega),if_pos hb]
    rfl
   ·rw[if_neg (show ¬(b:Int)=0 by omega),if_neg hb,wi64 (x:=(a:Int)+1) (by omega) (by omega)]
    simp only[j0]
    rw[if_neg (by simp),wi64 (by omega) (by omega)]
    have:=qTq (N:=N) hl d (i+1) M (a+1) 0 (by omega) (by omega) (by omega) (by omega)
    exact this
  ·have hc':¬((s.data.toList[i]).toNat:Int)=47:=fun h=>hc (UInt8.toNat_inj.1 (by show _=47;omega))
   rw[if_neg hc',if_neg hc]
   by_cases hk:inK [1,2,3,4] (s.data.toList[i])=true
   ·rw[if_pos hk,if_pos hk,wi64 (x:=(b:Int)+1) (by omega) (by omega)]
    simp only[j0]
    by_cases h24:b+1>24
    ·rw[if_pos (by simp only[jA];omega),if_pos h24]
     rfl
    ·rw[if_neg (by simp only[jA];omega),if_neg h24,wi64 (by omega) (by omega)]
     have:=qTq (N:=N) hl d (i+1) M a (b+1) (by omega) (by omega) (by omega) (by omega)
     exact this
   ·rw[if_neg hk,if_neg hk]
    rfl
def qMc(l:List UInt8):Bool:=decide (l.length≤80∧(sp l).length≤8∧∀p∈sp l,1≤p.length∧p.length≤24∧∀c∈p,inK [1,2,3,4] c=true)
theorem zEr(l:List UInt8):qMc l=true↔l.length≤80∧∃x y,zAs 1 0 l=some (x,y)∧0<y∧x≤8:=by
 rw[qZc l 1 0 (by omega)]
 simp only[qMc,jA]
 obtain⟨p,q,hpq⟩:∃p q,sp l=p::q:=by
  cases he:sp l with
  |nil=>exact absurd he (zIe l)
  |cons p q=>exact⟨p,q,rfl⟩
 constructor
 ·rintro⟨h1,h2,h3⟩
  rw[hpq] at h2 h3
  obtain⟨g1,g2,g3⟩:=h3 p (jH ..)
  exact⟨h1,p,q,hpq,by omega,by omega,g3,fun r hr=>h3 r (jM _ hr),by simp only[jD] at h2;omega⟩
 ·rintro⟨h1,p',q',h,h2,h3,h4,h5,h6⟩
  refine⟨h1,by rw[h];simp only[jD];omega,?_⟩
  intro r hr
  rw[h] at hr
  rcases jN.1 hr with rfl|hr
  ·exact⟨by omega,by omega,h4⟩
  ·exact h5 r hr
theorem qWm{N:Nat}{s:ByteArray}(hN:100<N):qFs N s=some (qMc s.data.toList):=by
 have hs:=qDd s
 simp only[qFs]
 by_cases h80:s.data.toList.length≤80
 ·rw[if_neg (by simp only[jA];omega)]
  have key:=qTq (N:=N) (s:=s) (by omega) s.data.toList.length 0 N 1 0 (by omega) (by omega) (by omega) (by omega)
  rw[show((0:Nat):Int)=0 from rfl,show((1:Nat):Int)=1 from rfl,jX] at key
  rw[key]
  have hp:=zEr s.data.toList
  cases hR:zAs 1 0 s.data.toList with
  |none=>
   simp only[j0]
   refine congrArg some ?_
   rw[kM,hp]
   constructor
   ·intro h;cases h
   ·rintro⟨_,x,y,h,_⟩;rw[hR] at h;cases h
  |some z=>
   obtain⟨x,y⟩:=z
   simp only[j0]
   by_cases hy:0<y
   ·rw[if_pos (by simp only[jA];omega)]
    simp only[j0]
    refine congrArg some ?_
    rw[kM,hp,jA]
    constructor
    ·intro h;exact⟨h80,x,y,hR,hy,by omega⟩
    ·rintro⟨_,x',y',h,_,h2⟩;rw[hR] at h;simp only[jJ,Prod.mk.injEq] at h;omega
   ·rw[if_neg (by simp only[jA];omega)]
    simp only[j0]
    refine congrArg some ?_
    rw[kM,hp]
    constructor
    ·intro h;cases h
    ·rintro⟨_,x',y',h,h1,_⟩;rw[hR] at h;simp only[jJ,Prod.mk.injEq] at h;omega
 ·rw[if_pos (by simp only[jA];omega)]
  refine congrArg some ?_
  rw[kM,zEr]
  exact⟨fun h=>(by cases h),fun h=>absurd h.1 h80⟩
end
section
open Go Go.Dc
theorem tw_is{p:UInt8→Bool}{l:List UInt8}{k:Nat}(hk:k<l.length)(h1:∀j,∀h:j<l.length,j<k→p l[j]=true)(h2:p l[k]=false):tw p l 0=k:=by
 have key:∀d j,j+d=k→tw p l j=k:=by
  intro d
  induction d with
  |zero=>
   intro j h
   have:j=k:=by omega
   subst this
   exact qYu hk h2
  |succ d ih=>intro j h;rw[←zAn (by omega) (h1 j (by omega) (by omega))];exact ih (j+1) (by omega)
 exact key k 0 (by omega)
theorem ix_eq(x:ByteArray):ixB x 47=if(x.data.toList.takeWhile qOz).length=x.data.toList.length then-1 else((x.data.toList.takeWhile qOz).length:Int):=by
 have hs:=qDd x
 have htw:tw qOz x.data.toList 0=(x.data.toList.takeWhile qOz).length:=by simp[tw]
 have hget:∀j,∀h:j<x.data.toList.length,x[j]! =x.data.toList[j]:=by
  intro j hj
  rw[getElem!_pos x j (by omega)]
  simp[ByteArray.getElem_eq_getElem_data]
 have h47:(47:Int).toNat.toUInt8=47:=rfl
 rw[←htw]
 unfold ixB
 rw[h47,←hs]
 cases hf:(List.range x.data.toList.length).find? (fun j=>x[j]! ==47) with
 |none=>
  rw[List.find?_eq_none] at hf
  simp only
  rw[if_pos]
  refine zTh fun c hc=> ?_
  obtain⟨j,hj,rfl⟩:=List.getElem_of_mem hc
  have:=hf j (fR.2 hj)
  rw[hget j hj] at this
  simpa[qOz] using this
 |some k=>
  have h1:=List.find?_some hf
  have hk:k<x.data.toList.length:=fR.1 (List.mem_of_find?_eq_some hf)
  rw[hget k hk] at h1
  have e:tw qOz x.data.toList 0=k:=by
   refine tw_is hk (fun j h hj=> ?_) (by simpa[qOz] using h1)
   have:=(List.find?_range_eq_some.1 hf).2.2 j hj
   rw[hget j h] at this
   simpa[qOz] using this
  simp only
  rw[e,if_neg (by omega)]
theorem zSq{N:Nat}(x:ByteArray):qLt N x (⟨#[47]⟩:ByteArray)=some (ixB x 47):=by
 have h1:idxB (⟨#[47]⟩:ByteArray) 0=some 47:=by kernel_rfl
 simp only[qLt,qHm,qFv,show(⟨#[47]⟩:ByteArray).size=1 from rfl,qDz]
 rw[if_neg (by decide)]
 simp only[j0,jA]
 by_cases h:(⟨#[47]⟩:ByteArray)=x
 ·have h0:ixB (⟨#[47]⟩:ByteArray) 47=0:=by kernel_rfl
  rw[if_pos h,←h,h0]
  rfl
 ·rw[if_neg h,if_pos (by decide),h1]
  rfl
theorem cnt_eq(x:ByteArray):cntB x 47=((x.data.toList.count 47:Nat):Int):=by
 unfold cntB
 rw[Go.Lib.foldl_data]
 have key:∀(l:List UInt8) (n:Int),l.foldl (fun n x=>if x==(47:Int).toNat.toUInt8 then n+1 else n) n=n+((l.count 47:Nat):Int):=by
  intro l
  induction l with
  |nil=>intro n;simp
  |cons c l ih=>
   intro n
   rw[fV,ih,List.count_cons]
   have h47:(47:Int).toNat.toUInt8=47:=rfl
   rw[h47]
   by_cases h:(c==47)=true
   ·simp only[h,jK];omega
   ·simp only[h,jB,jI];omega
 rw[key]
 omega
theorem zTu{α:Type}(l:List α)(k:Nat)(a b:α):(l++List.replicate (k+1) a).set l.length b=(l++[b])++List.replicate k a:=by
 rw[List.set_append_right _ _ (jP _)]
 simp[List.replicate_succ]
theorem zBl{N n:Nat}{s:ByteArray}(hn:n<1000000000)(hns:n≤s.size+1)(hs:s.size<1000000000):∀(r M:Nat) (x:ByteArray) (done:List ByteArray),(sp x.data.toList).length=r→done.length+r=n→r<M→x.size<1000000000→
  ∃y D,qAs (qIy N s (⟨#[47]⟩:ByteArray) 0 (n:Int)) M (x,(done.length:Int),done++List.replicate r (⟨#[]⟩:ByteArray))=some (y,((n-1:Nat):Int),D++[(⟨#[]⟩:ByteArray)])∧D.length=n-1∧D++[y]=done++(sp x.data.toList).map qKl
 |_,0,_,_,_,_,h,_=>by omega
 |0,_,x,_,h,_,_,_=>by exact absurd (g9.1 h) (zIe _)
 |r+1,M+1,x,done,h1,h2,h3,h4=>by
  have hxs:=qDd x
  have hmin:(if IntKind.wrap .i64 ((s.size:Int)+1)<(n:Int) then IntKind.wrap .i64 ((s.size:Int)+1) else(n:Int))=(n:Int):=by
   rw[wi64 (by omega) (by omega)];split<;>omega
  have hstep:=zPf x.data.toList
  simp only[qAs,qIy]
  rw[hmin,wi64 (x:=(n:Int)-1) (by omega) (by omega)]
  by_cases hlast:(x.data.toList.takeWhile qOz).length=x.data.toList.length
  ·rw[if_pos hlast] at hstep
   rw[hstep] at h1
   simp only[jD,jF] at h1
   have hr:r=0:=by omega
   subst hr
   rw[if_neg (by simp only[jA];omega)]
   refine⟨x,done,?_,by omega,?_⟩
   ·simp only[j0]
    rw[show(n-1:Nat)=done.length by omega]
    rfl
   ·rw[hstep];simp[qKl]
  ·rw[if_neg hlast] at hstep
   rw[hstep] at h1
   simp only[jD] at h1
   have hpos:0<(sp (x.data.toList.drop ((x.data.toList.takeWhile qOz).length+1))).length:=fN.2 (zIe _)
   have hle:(x.data.toList.takeWhile qOz).length≤x.data.toList.length:=(List.takeWhile_sublist _).length_le
   have hix:=ix_eq x
   rw[if_neg hlast] at hix
   rw[if_pos (by simp only[jA];omega),zSq,hix]
   simp only[j0,show(⟨#[47]⟩:ByteArray).size=1 from rfl]
   have he:(x.data.toList.takeWhile qOz)=x.data.toList.take (x.data.toList.takeWhile qOz).length:=List.prefix_iff_eq_take.1 (List.takeWhile_prefix _)
   have hx1:x.extract 0 (x.data.toList.takeWhile qOz).length=qKl (x.data.toList.takeWhile qOz):=by
    apply Go.WideShapes.bytes_inj
    simp only[ByteArray.data_extract,hJ,fH,qKl,jX,Nat.sub_zero]
    exact he.symm
   have hx2:(x.extract ((x.data.toList.takeWhile qOz).length+1) x.data.toList.length).data.toList=x.data.toList.drop ((x.data.toList.takeWhile qOz).length+1):=by
    simp only[ByteArray.data_extract,hJ,fH]
    exact gW (by simp only[gE];omega)
   generalize hk:(x.data.toList.takeWhile qOz).length=k at*
   rw[if_neg (by simp only[jA];omega),wi64 (x:=(k:Int)+0) (by omega) (by omega),Int.add_zero]
   have hsub0:subB x 0 (k:Int)=some (x.extract 0 k):=by
    have:=qUz (s:=x) (i:=0) (e:=k) (by omega) (by omega)
    simpa only[Int.natCast_zero] using this
   rw[hsub0]
   simp only[j0]
   rw[qCo (by simp),wi64 (x:=(k:Int)+((1:Nat):Int)) (by omega) (by omega),show((k:Int)+((1:Nat):Int))=((k+1:Nat):Int) by omega,zOf (by omega)]
   simp only[j0,jR]
   rw[zTu,hx1,wi64 (by omega) (by omega)]
   have hxs2:=qDd (x.extract (k+1) x.data.toList.length)
   rw[hx2,gE] at hxs2
   obtain⟨y,D,g1,g2,g3⟩:=zBl (N:=N) hn hns hs r M (x.extract (k+1) x.data.toList.length) (done++[qKl (x.data.toList.takeWhile qOz)]) (by rw[hx2];omega) (by simp;omega) (by omega) (by omega)
   refine⟨y,D,?_,g2,?_⟩
   ·rw[←g1];simp
   ·rw[g3,hx2,hstep];simp
termination_by r=>r
theorem zSs{N:Nat}{s:ByteArray}(hl:s.size<100000000)(hN:2*s.size+1000<N):qNb N s (⟨#[47]⟩:ByteArray)=some ((sp s.data.toList).map qKl):=by
 have hs:=qDd s
 have hlen:=zNk s.data.toList
 have hc:s.data.toList.count 47≤s.data.toList.length:=List.count_le_length
 have h1:idxB (⟨#[47]⟩:ByteArray) 0=some 47:=by kernel_rfl
 have hcount:qNd N s (⟨#[47]⟩:ByteArray)=some ((s.data.toList.count 47:Nat):Int):=by
  simp only[qNd,show(⟨#[47]⟩:ByteArray).size=1 from rfl]
  rw[if_neg (by decide),if_pos (by decide),h1]
  simp only[j0]
  rw[←cnt_eq];rfl
 simp only[qNb,qMg,qDz,hcount,j0]
 rw[if_neg (by decide),if_neg (by decide),if_pos (by decide)]
 simp only[j0]
 rw[wi64 (x:=((s.data.toList.count 47:Nat):Int)+1) (by omega) (by omega),show((s.data.toList.count 47:Nat):Int)+1=(((sp s.data.toList).length:Nat):Int) by omega]
 generalize hn:(sp s.data.toList).length=n at*
 have hmin:(if IntKind.wrap .i64 ((s.size:Int)+1)<(n:Int) then IntKind.wrap .i64 ((s.size:Int)+1) else(n:Int))=(n:Int):=by
  rw[wi64 (by omega) (by omega)];split<;>omega
 rw[hmin]
 have hm:qWf 16 (⟨#[]⟩:ByteArray) (n:Int)=some (List.replicate n (⟨#[]⟩:ByteArray)):=by
  unfold qWf
  rw[if_pos (by simp only[maxLen];omega),jR]
 rw[hm]
 simp only[j0]
 obtain⟨y,D,g1,g2,g3⟩:=zBl (N:=N) (n:=n) (s:=s) (by omega) (by omega) (by omega) n N s [] hn (by simp) (by omega) (by omega)
 simp only[jF,jO] at g1 g3
 rw[show((0:Nat):Int)=0 from rfl] at g1
 rw[g1]
 simp only[j0]
 rw[qCo (by simp;omega)]
 simp only[j0,jR]
 have hset:(D++[(⟨#[]⟩:ByteArray)]).set (n-1) y=D++[y]:=by
  rw[←g2,List.set_append_right _ _ (jP _)];simp
 rw[hset,g3,wi64 (by omega) (by omega),show((n-1:Nat):Int)+1=(n:Int) by omega,qOr (by omega) (by omega) (by rw[kZ,hn];omega)]
 simp only[j0,jR,gQ,jX]
 rw[gW (by rw[kZ,hn];exact jP _)]
theorem zTq{p:UInt8→Bool}{l:List UInt8}:tw p l 0=l.length↔∀c∈l,p c=true:=by
 constructor
 ·intro h c hc
  have h1:(l.takeWhile p).length=l.length:=by simpa[tw] using h
  have h2:=(List.takeWhile_prefix p (l:=l)).eq_of_length h1
  rw[←h2] at hc
  exact zNd hc
 ·exact zTh
def zIt(x:ByteArray):Bool:=decide (1≤x.data.toList.length∧x.data.toList.length≤24∧∀c∈x.data.toList,inK [1,2,3,4] c=true)
theorem zGm(x:ByteArray):zIt x=true↔1≤x.data.toList.length∧x.data.toList.length≤24∧∀c∈x.data.toList,inK [1,2,3,4] c=true:=decide_eq_true_iff
theorem zVa{N:Nat}{x:ByteArray}(hN:100<N):(if(decide ((x.size:Int)<1))=true then(some true) else(if(decide ((x.size:Int)>24))=true then(some true) else((qNx N x 0 (some kdL) ([1,2,3,4])).bind fun y3=>some (y3 !=(x.size:Int)))))=some (!zIt x):=by
 have hs:=qDd x
 have hno:∀h:¬(1≤x.data.toList.length∧x.data.toList.length≤24∧∀c∈x.data.toList,inK [1,2,3,4] c=true),zIt x=false:=fun h=>jU h
 by_cases h1:1≤x.data.toList.length
 ·rw[if_neg (by simp only[jA];omega)]
  by_cases h2:x.data.toList.length≤24
  ·rw[if_neg (by simp only[jA];omega)]
   have hsp:=zPi (N:=N) (s:=x) (ks:=[1,2,3,4]) (i:=0) (by omega) (by omega) (by simp) (by omega)
   rw[show((0:Nat):Int)=0 from rfl] at hsp
   rw[hsp]
   simp only[j0]
   refine congrArg some ?_
   by_cases h3:tw (inK [1,2,3,4]) x.data.toList 0=x.data.toList.length
   ·have:zIt x=true:=jZ ⟨h1,h2,zTq.1 h3⟩
    rw[this,h3,hs]
    simp
   ·rw[hno fun h=>h3 (zTq.2 h.2.2)]
    simp only[kT,fX,ne_eq]
    omega
  ·rw[if_pos (by simp only[jA];omega),hno fun h=>h2 h.2.1]
   rfl
 ·rw[if_pos (by simp only[jA];omega),hno fun h=>h1 h.1]
  rfl
theorem zFh{N:Nat}{L:List ByteArray}(hL:L.length<1000)(hN:100<N):∀(d j M:Nat),j+d=L.length→d<M→qAs (qLu N L (some kdL)) M (j:Int)=some (if(L.drop j).all zIt=true then .inl () else .inr false)
 |d,j,0,_,h=>by omega
 |0,j,M+1,h1,h2=>by
  simp only[qAs,qLu]
  rw[if_neg (by simp only[jA];omega),jT (by omega)]
  rfl
 |d+1,j,M+1,h1,h2=>by
  have hj:j<L.length:=by omega
  simp only[qAs,qLu]
  rw[if_pos (by simp only[jA];omega),qCo hj]
  simp only[j0,zVa hN]
  rw[kC hj,List.all_cons]
  cases hp:zIt L[j] with
  |true=>
   rw[if_neg (by simp),wi64 (by omega) (by omega)]
   simp only[j0,gC]
   exact zFh hL hN d (j+1) M (by omega) (by omega)
  |false=>simp
theorem zOe{N:Nat}{s:ByteArray}(hl:s.size<100000000)(hN:2*s.size+1000<N):qMm N s=some (qMc s.data.toList):=by
 have hs:=qDd s
 have hno:∀h:¬(s.data.toList.length≤80∧(sp s.data.toList).length≤8∧∀p∈sp s.data.toList,1≤p.length∧p.length≤24∧∀c∈p,inK [1,2,3,4] c=true),qMc s.data.toList=false:=fun h=>jU h
 simp only[qMm,zSs hl hN,j0,kZ]
 by_cases h80:s.data.toList.length≤80
 ·rw[if_neg (by simp only[jA];omega)]
  by_cases h8:(sp s.data.toList).length≤8
  ·have e8:decide (((sp s.data.toList).length:Int)>8)=false:=jU (by omega)
   simp only[j0,e8,jB,jI,zKo (show 30<N by omega)]
   have key:=zFh (N:=N) (L:=(sp s.data.toList).map qKl) (by rw[kZ];omega) (by omega) _ 0 N (kE _) (by rw[kZ];omega)
   rw[show((0:Nat):Int)=0 from rfl,jX] at key
   rw[key]
   simp only[j0]
   by_cases hp:((sp s.data.toList).map qKl).all zIt=true
   ·have:qMc s.data.toList=true:=jZ ⟨h80,h8,fun p hp'=>by
     have:=(zGm _).1 (kA.1 hp (qKl p) (gX hp'))
     simpa[qKl] using this⟩
    rw[if_pos hp,this]
   ·rw[if_neg hp,hno fun h=>hp (kA.2 fun x hx=>by
     obtain⟨p,hp',rfl⟩:=fG.1 hx
     exact(zGm _).2 (by simpa[qKl] using h.2.2 p hp'))]
  ·have e8:decide (((sp s.data.toList).length:Int)>8)=true:=jZ (by omega)
   simp only[j0,e8,jK]
   rw[hno fun h=>h8 h.2.1]
 ·rw[if_pos (by simp only[jA];omega)]
  simp only[j0,jK]
  rw[hno fun h=>h80 h.1]
end
section
open Go Go.Dc
def run{α τ β:Type}(step:τ→α→τ⊕β)(fin:τ→β):List α→τ→β
 |[],t=>fin t
 |x::l,t=>match step t x with
  | .inl t'=>run step fin l t'
  | .inr b=>b
theorem qYm{α τ σ β:Type}{L:List α}(enc:τ→Nat→σ){f:σ→Option (σ⊕β)}(step:τ→α→τ⊕β)(fin:τ→β)(I:Nat→τ→Prop)
  (hstep:∀t i,∀hi:i<L.length,I i t→f (enc t i)=some (match step t L[i] with| .inl t'=> .inl (enc t' (i+1))| .inr b=> .inr b))
  (hinv:∀t i,∀hi:i<L.length,∀t',I i t→step t L[i]= .inl t'→I (i+1) t')
  (hfin:∀t,I L.length t→f (enc t L.length)=some (.inr (fin t))):∀(d i M:Nat) (t:τ),i+d=L.length→d<M→I i t→qAs f M (enc t i)=some (run step fin (L.drop i) t)
 |_,_,0,_,_,h,_=>absurd h (kL _)
 |d,i,M+1,t,h1,h2,h3=>by
  cases d with
  |zero=>
   have hi:i=L.length:=by omega
   subst hi
   simp only[qAs,hfin t h3,j0,hY,run]
  |succ d=>
   have hi:i<L.length:=by omega
   have hd:L.drop i=L[i]::L.drop (i+1):=(dJ hi).symm
   simp only[qAs,hstep t i hi h3,j0]
   rw[hd]
   simp only[run]
   cases hs:step t L[i] with
   |inl t'=>
    simp only
    exact qYm enc step fin I hstep hinv hfin d (i+1) M t' (by omega) (by omega) (hinv t i hi t' h3 hs)
   |inr b=>rfl
theorem qGm{α τ σ β:Type}{L:List α}(enc:τ→Nat→σ){f:σ→Option (σ⊕β)}(step:τ→α→τ⊕β)(fin:τ→β)(I:Nat→τ→Prop)
  (hstep:∀t i,∀hi:i<L.length,I i t→f (enc t i)=some (match step t L[i] with| .inl t'=> .inl (enc t' (i+1))| .inr b=> .inr b))
  (hinv:∀t i,∀hi:i<L.length,∀t',I i t→step t L[i]= .inl t'→I (i+1) t')
  (hfin:∀t,I L.length t→f (enc t L.length)=some (.inr (fin t))) {M:Nat} {t:τ} (hM:L.length<M) (h0:I 0 t):qAs f M (enc t 0)=some (run step fin L t):=by
 have:=qYm enc step fin I hstep hinv hfin L.length 0 M t (by omega) hM h0
 rw[jX] at this;exact this
theorem zEb{α τ β:Type}{step:τ→α→τ⊕β}{fin:τ→β}(g:τ→α→τ)(h:∀t x,step t x= .inl (g t x)):∀(l:List α) (t:τ),run step fin l t=fin (l.foldl g t)
 |[],_=>rfl
 |x::l,t=>by simp only[run,h,fV];exact zEb g h l _
theorem qQx{α β:Type}{step:Unit→α→Unit⊕β}{fin:Unit→β}{b:β}(p:α→Bool)(h:∀x,step () x=if p x=true then .inr b else .inl ()):∀l:List α,run step fin l ()=if l.any p=true then b else fin ()
 |[]=>rfl
 |x::l=>by
  have ih:=qQx (fin:=fin) p h l
  rw[gT]
  by_cases hp:p x=true
  ·have e:step () x= .inr b:=by rw[h,if_pos hp]
   simp only[run,e]
   rw[hp,dF,if_pos rfl]
  ·have e:step () x= .inl ():=by rw[h,if_neg hp]
   simp only[run,e]
   rw[ih,show p x=false by simpa using hp,kU]
theorem qKx{α:Type}{l:List α}{i:Nat}(h:i<l.length):l.drop i=l[i]::l.drop (i+1):=(dJ h).symm
theorem qRc{α:Type}{l:List α}{i:Nat}(h:i<l.length):l.take (i+1)=l.take i++[l[i]]:=gB h
end
section
open Go Go.Dc
instance decMemB(s:ByteArray)(l:List ByteArray):Decidable (s∈l):=@List.instDecidableMemOfLawfulBEq ByteArray instBEqOfDecidableEq inferInstance s l
abbrev Ex:=Int×Int×Int×ByteArray×List Int
abbrev Dl:=Int×ByteArray×List ByteArray×List Ex
abbrev Sr:=ByteArray×List ByteArray×List Dl
abbrev Flt:=Int×Int
abbrev Ps:=Nat×List Ex
abbrev PM(α:Type):=Flt⊕(Ps×α)
def tkAt(ts:List Tok)(i:Nat):Tok:=ts.getD i (5,⟨#[]⟩,0,0)
def qHh{α:Type}(t:Tok)(e:Int):Flt⊕α:= .inl (t.2.2.2,e)
def qBs{α β:Type}(x:Flt⊕α)(f:α→Flt⊕β):Flt⊕β:=
 match x with
 | .inl z=> .inl z
 | .inr a=>f a
def isC(ts:List Tok)(k:Int)(s:ByteArray)(i:Nat):Bool:=(tkAt ts i).1==k&&decide ((tkAt ts i).2.1=s)
def qGg(ts:List Tok)(s:ByteArray)(i:Nat):Flt⊕Nat:=if isC ts 4 s i then .inr (i+1) else qHh (tkAt ts i) 9
def zAp(ts:List Tok)(s:ByteArray)(i:Nat):Flt⊕Nat:=if isC ts 1 s i then .inr (i+1) else qHh (tkAt ts i) 9
def qPz(ts:List Tok)(k:Int)(i:Nat):Flt⊕(Nat×Tok):=if(tkAt ts i).1=k then .inr (i+1,tkAt ts i) else qHh (tkAt ts i) 9
def qVs:ByteArray:=⟨#[112,97,99,107,97,103,101]⟩
def qRw:ByteArray:=⟨#[105,109,112,111,114,116]⟩
def zNs:ByteArray:=⟨#[102,117,110,99]⟩
def zOn:ByteArray:=⟨#[116,101,115,116]⟩
def sGen:ByteArray:=⟨#[103,101,110]⟩
def sIf:ByteArray:=⟨#[105,102]⟩
def zMz:ByteArray:=⟨#[116,104,101,110]⟩
def zOk:ByteArray:=⟨#[101,108,115,101]⟩
def qVm:ByteArray:=⟨#[114,101,97,100]⟩
def qVf:ByteArray:=⟨#[115,105,122,101]⟩
def sHas:ByteArray:=⟨#[104,97,115]⟩
def sEnv:ByteArray:=⟨#[101,110,118]⟩
def qWb:ByteArray:=⟨#[102,108,105,112]⟩
def qNk:ByteArray:=⟨#[40]⟩
def qFn:ByteArray:=⟨#[41]⟩
def qPd:ByteArray:=⟨#[44]⟩
def qUn:ByteArray:=⟨#[59]⟩
def sEq:ByteArray:=⟨#[61]⟩
def zOh:ByteArray:=⟨#[45]⟩
def wordsR:List ByteArray:=[qVs,qRw,zNs,zOn,sGen,sIf,zMz,zOk,qVm,qVf,sHas,sEnv,qWb]
def resC(s:ByteArray):Bool:=decide (s∈wordsR)
def qQl(ts:List Tok)(i:Nat):Flt⊕(Nat×Tok):=qBs (qPz ts 1 i) fun p=>if resC p.2.2.1 then qHh p.2 9 else .inr p
def qTj(ts:List Tok)(i:Nat):Flt⊕(Nat×Tok):=qBs (qPz ts 3 i) fun p=>if qMc p.2.2.1.data.toList then .inr p else qHh p.2 9
def qVw(ts:List Tok)(i:Nat):Flt⊕(Nat×Tok):=qBs (qPz ts 3 i) fun p=>if qOi p.2.2.1 then .inr p else qHh p.2 9
def qLz(t:Tok)(x:Ex)(p:Ps):PM Nat:=if p.2.length=256 then qHh t 2 else .inr ((p.1,p.2++[x]),p.2.length)
def opsC:List (Int×ByteArray):=[(1,⟨#[43]⟩),(2,⟨#[45]⟩),(3,⟨#[42]⟩),(4,⟨#[47]⟩),(5,⟨#[37]⟩),(6,⟨#[60]⟩),(7,⟨#[61,61]⟩)]
def levP(op:Int):Nat:=if op=6∨op=7 then 1 else if op=1∨op=2 then 2 else 3
def isOp(ts:List Tok)(level:Nat)(i:Nat)(o:Int×ByteArray):Bool:=isC ts 4 o.2 i&&decide (levP o.1=level)
def opC(ts:List Tok)(level:Nat)(i:Nat):Int:=
 match opsC.find? (isOp ts level i) with
 |some o=>o.1
 |none=>0
section
variable (ts:List Tok) (params:List ByteArray) (E:Ps→PM Nat)
def qWa:Nat→List Int→Ps→PM (List Int)
 |0,_,p=>qHh (tkAt ts p.1) 9
 |n+1,l,p=>qBs (E p) fun q=>
  if isC ts 4 qPd q.1.1 then qWa n (l++[(q.2:Int)]) (q.1.1+1,q.1.2)
  else qBs (qGg ts qFn q.1.1) fun i=> .inr ((i,q.1.2),l++[(q.2:Int)])
def qMn(p:Ps):PM (List Int):=
 qBs (qGg ts qNk p.1) fun i=>if isC ts 4 qFn i then .inr ((i+1,p.2),[]) else qWa ts E (ts.length+1) [] (i,p.2)
def qKo(t:Tok)(p:Ps):PM Nat:=
 qBs (qGg ts qNk p.1) fun i=>
 qBs (if t.2.1=qVm then
   qBs (qTj ts i) fun a=>qBs (qGg ts qPd a.1) fun i=>qBs (E (i,p.2)) fun q=> .inr (q.1,((6,0,0,a.2.2.1,[(q.2:Int)]):Ex))
  else if t.2.1=qVf then qBs (qTj ts i) fun a=> .inr ((a.1,p.2),((7,0,0,a.2.2.1,[]):Ex))
  else if t.2.1=sHas then qBs (qTj ts i) fun a=> .inr ((a.1,p.2),((8,0,0,a.2.2.1,[]):Ex))
  else if t.2.1=sEnv then qBs (qVw ts i) fun a=> .inr ((a.1,p.2),((9,0,0,a.2.2.1,[]):Ex))
  else qBs (qPz ts 2 i) fun a=>if a.2.2.2.1≥64 then qHh a.2 9 else .inr ((a.1,p.2),((10,a.2.2.2.1,0,⟨#[]⟩,[]):Ex))) fun q=>
 qBs (qGg ts qFn q.1.1) fun i=>qLz t q.2 (i,q.1.2)
def qIu(p:Ps):PM Nat:=
 let t:=tkAt ts p.1
 if t.1=2 then qLz t (1,t.2.2.1,0,⟨#[]⟩,[]) (p.1+1,p.2)
 else if isC ts 4 zOh p.1 then qBs (qPz ts 2 (p.1+1)) fun a=>qLz t (1,IntKind.wrap .i64 (0-a.2.2.2.1),0,⟨#[]⟩,[]) (a.1,p.2)
 else if isC ts 4 qNk p.1 then qBs (E (p.1+1,p.2)) fun q=>qBs (qGg ts qFn q.1.1) fun i=> .inr ((i,q.1.2),q.2)
 else if t.1≠1 then qHh t 9
 else if t.2.1∈[qVm,qVf,sHas,sEnv,qWb] then qKo ts E t (p.1+1,p.2)
 else if resC t.2.1 then qHh t 9
 else if isC ts 4 qNk (p.1+1) then qBs (qMn ts E (p.1+1,p.2)) fun q=>qLz t (3,0,0,t.2.1,q.2) q.1
 else match params.findIdx? (fun x=>decide (x=t.2.1)) with
  |some i=>qLz t (2,(i:Int),0,⟨#[]⟩,[]) (p.1+1,p.2)
  |none=>qHh t 9
def qOe(level:Nat)(S:Ps→PM Nat):Nat→Nat→Ps→PM Nat
 |0,_,p=>qHh (tkAt ts p.1) 9
 |n+1,x,p=>
  if opC ts level p.1=0 then .inr (p,x)
  else qBs (S (p.1+1,p.2)) fun q=>qBs (qLz (tkAt ts p.1) (4,0,opC ts level p.1,⟨#[]⟩,[(x:Int),(q.2:Int)]) q.1) fun r=>
   if level=1 then .inr r else qOe level S n r.2 r.1
def qNs(level:Nat)(S:Ps→PM Nat)(p:Ps):PM Nat:=qBs (S p) fun q=>qOe ts level S (ts.length+1) q.2 q.1
def zSr:Ps→PM Nat:=qNs ts 3 (qIu ts params E)
def sumC:Ps→PM Nat:=qNs ts 2 (zSr ts params E)
def qXz:Ps→PM Nat:=qNs ts 1 (sumC ts params E)
end
def qFa(ts:List Tok)(params:List ByteArray):Nat→Ps→PM Nat
 |0,p=>qHh (tkAt ts p.1) 2
 |k+1,p=>
  if isC ts 1 sIf p.1 then
   qBs (qFa ts params k (p.1+1,p.2)) fun a=>qBs (zAp ts zMz a.1.1) fun i=>
   qBs (qFa ts params k (i,a.1.2)) fun b=>qBs (zAp ts zOk b.1.1) fun j=>
   qBs (qFa ts params k (j,b.1.2)) fun c=>qLz (tkAt ts p.1) (5,0,0,⟨#[]⟩,[(a.2:Int),(b.2:Int),(c.2:Int)]) c.1
  else qXz ts params (qFa ts params k) p
def qPn(ts:List Tok):Nat→List ByteArray→Nat→Flt⊕(Nat×List ByteArray)
 |0,_,i=>qHh (tkAt ts i) 9
 |n+1,l,i=>qBs (qQl ts i) fun a=>
  if l.length=8 then qHh a.2 2
  else if a.2.2.1∈l then qHh a.2 10
  else if isC ts 4 qPd a.1 then qPn ts n (l++[a.2.2.1]) (a.1+1)
  else qBs (qGg ts qFn a.1) fun j=> .inr (j,l++[a.2.2.1])
def qKk(ts:List Tok)(i:Nat):Flt⊕(Nat×List ByteArray):=
 qBs (qGg ts qNk i) fun j=>if isC ts 4 qFn j then .inr (j+1,[]) else qPn ts (ts.length+1) [] j
def zIp(s:ByteArray):Int:=if s=zNs then 1 else if s=zOn then 2 else if s=sGen then 3 else 0
def qRq(ts:List Tok)(before:List Dl)(i:Nat):Flt⊕(Nat×Dl):=
 let t:=tkAt ts i
 let k:=zIp t.2.1
 if t.1≠1∨k=0 then qHh t 9
 else if before.length=64 then qHh t 2
 else qBs (if k=3 then qTj ts (i+1) else qQl ts (i+1)) fun a=>
  if before.any (fun d=>d.1==k&&decide (d.2.1=a.2.2.1)) then qHh a.2 10
  else qBs (if k=1 then qKk ts a.1 else .inr (a.1,[])) fun b=>
   qBs (qGg ts sEq b.1) fun j=>qBs (qFa ts b.2 32 (j,[])) fun c=>
   qBs (qGg ts qUn c.1.1) fun m=> .inr (m,(k,a.2.2.1,b.2,c.1.2))
def qLi(ts:List Tok)(pkg:ByteArray):Nat→List ByteArray→Nat→Flt⊕(Nat×List ByteArray)
 |0,_,i=>qHh (tkAt ts i) 9
 |n+1,l,i=>
  if isC ts 1 qRw i then
   if l.length=8 then qHh (tkAt ts i) 2
   else qBs (qQl ts (i+1)) fun a=>
    if a.2.2.1=pkg∨a.2.2.1∈l then qHh a.2 10
    else qBs (qGg ts qUn a.1) fun j=>qLi ts pkg n (l++[a.2.2.1]) j
  else .inr (i,l)
def qQi(ts:List Tok):Nat→List Dl→Nat→Flt⊕List Dl
 |0,_,i=>qHh (tkAt ts i) 9
 |n+1,l,i=>if(tkAt ts i).1=5 then .inr l else qBs (qRq ts l i) fun a=>qQi ts n (l++[a.2]) a.1
def zDo(ts:List Tok):Flt⊕Sr:=
 qBs (zAp ts qVs 0) fun i=>qBs (qQl ts i) fun a=>qBs (qGg ts qUn a.1) fun j=>
 qBs (qLi ts a.2.2.1 (ts.length+1) [] j) fun b=>qBs (qQi ts (ts.length+1) [] b.1) fun l=> .inr (a.2.2.1,b.2,l)
def qXm:Sr:=(⟨#[]⟩,[],[])
def qZt(s:ByteArray):Sr×Int×Int:=
 if(qKd s).2.2≠0 then(qXm,(qKd s).2.1,(qKd s).2.2)
 else match zDo (qKd s).1 with
  | .inl z=>(qXm,z.1,z.2)
  | .inr f=>(f,0,0)
end
section
open Go Go.Dc
def OkT(ts:List Tok):Prop:=ts≠[]∧∀i,i<ts.length→((tkAt ts i).1=5↔i+1=ts.length)
theorem qAx{α β:Type}{x:Flt⊕α}{f:α→Flt⊕β}{b:β}(h:qBs x f= .inr b):∃a,x= .inr a∧f a= .inr b:=by
 cases x with
 |inl z=>cases h
 |inr a=>exact⟨a,rfl,h⟩
section
variable {ts:List Tok} {params:List ByteArray} {E S:Ps→PM Nat}
theorem OkT.next(h:OkT ts){i:Nat}(hi:i<ts.length)(hk:(tkAt ts i).1≠5):i+1<ts.length:=by
 have h3:¬i+1=ts.length:=fun e=>hk ((h.2 i hi).2 e)
 omega
theorem zDh{k:Int}{s:ByteArray}{i:Nat}(h:isC ts k s i=true):(tkAt ts i).1=k:=by
 simp only[isC,jL,kJ] at h;exact h.1
theorem qHi(h:OkT ts){k:Int}{s:ByteArray}{i:Nat}(hi:i<ts.length)(hk:k≠5)(h1:isC ts k s i=true):i+1<ts.length:=h.next hi (by rw[zDh h1];exact hk)
theorem qHl(h:OkT ts){s:ByteArray}{i j:Nat}(hi:i<ts.length)(h1:qGg ts s i= .inr j):j=i+1∧j<ts.length∧isC ts 4 s i=true:=by
 unfold qGg at h1
 split at h1
 ·rename_i h2
  obtain rfl:=Sum.inr.inj h1
  exact⟨rfl,qHi h hi (by decide) h2,h2⟩
 ·cases h1
theorem zEd(h:OkT ts){s:ByteArray}{i j:Nat}(hi:i<ts.length)(h1:zAp ts s i= .inr j):j=i+1∧j<ts.length∧isC ts 1 s i=true:=by
 unfold zAp at h1
 split at h1
 ·rename_i h2
  obtain rfl:=Sum.inr.inj h1
  exact⟨rfl,qHi h hi (by decide) h2,h2⟩
 ·cases h1
theorem qRx(h:OkT ts){k:Int}(hk:k≠5){i:Nat}{a:Nat×Tok}(hi:i<ts.length)(h1:qPz ts k i= .inr a):a=(i+1,tkAt ts i)∧i+1<ts.length∧(tkAt ts i).1=k:=by
 unfold qPz at h1
 split at h1
 ·rename_i h2
  obtain rfl:=Sum.inr.inj h1
  exact⟨rfl,h.next hi (by rw[h2];exact hk),h2⟩
 ·cases h1
theorem qPf(h:OkT ts){i:Nat}{a:Nat×Tok}(hi:i<ts.length)(h1:qQl ts i= .inr a):a=(i+1,tkAt ts i)∧i+1<ts.length∧(tkAt ts i).1=1∧resC (tkAt ts i).2.1=false:=by
 obtain⟨b,hb,h2⟩:=qAx h1
 obtain⟨rfl,g1,g2⟩:=qRx h (by decide) hi hb
 split at h2
 ·cases h2
 ·rename_i g3
  obtain rfl:=Sum.inr.inj h2
  exact⟨rfl,g1,g2,by simpa using g3⟩
theorem qQc(h:OkT ts){i:Nat}{a:Nat×Tok}(hi:i<ts.length)(h1:qTj ts i= .inr a):a=(i+1,tkAt ts i)∧i+1<ts.length∧(tkAt ts i).1=3∧qMc (tkAt ts i).2.1.data.toList=true:=by
 obtain⟨b,hb,h2⟩:=qAx h1
 obtain⟨rfl,g1,g2⟩:=qRx h (by decide) hi hb
 split at h2
 ·rename_i g3
  obtain rfl:=Sum.inr.inj h2
  exact⟨rfl,g1,g2,g3⟩
 ·cases h2
theorem zGg(h:OkT ts){i:Nat}{a:Nat×Tok}(hi:i<ts.length)(h1:qVw ts i= .inr a):a=(i+1,tkAt ts i)∧i+1<ts.length∧(tkAt ts i).1=3∧qOi (tkAt ts i).2.1=true:=by
 obtain⟨b,hb,h2⟩:=qAx h1
 obtain⟨rfl,g1,g2⟩:=qRx h (by decide) hi hb
 split at h2
 ·rename_i g3
  obtain rfl:=Sum.inr.inj h2
  exact⟨rfl,g1,g2,g3⟩
 ·cases h2
theorem qSb{t:Tok}{x:Ex}{p q:Ps}{i:Nat}(h:qLz t x p= .inr (q,i)):q=(p.1,p.2++[x])∧i=p.2.length∧p.2.length≠256:=by
 unfold qLz at h
 split at h
 ·cases h
 ·rename_i h1
  obtain⟨rfl,rfl⟩:=Prod.mk.inj (Sum.inr.inj h)
  exact⟨rfl,rfl,h1⟩
def Fwd(ts:List Tok)(p q:Ps):Prop:=p.1<q.1∧q.1<ts.length∧p.2.length≤q.2.length∧q.2.length≤256
def Adv(ts:List Tok)(S:Ps→PM Nat):Prop:=∀(p q:Ps) (x:Nat),p.1<ts.length→p.2.length≤256→S p= .inr (q,x)→Fwd ts p q∧x<q.2.length
theorem qQh{t:Tok}{x:Ex}{p r q:Ps}{i:Nat}(hp:p.1<r.1)(hr:r.1<ts.length)(hl:p.2.length≤r.2.length)(h256:r.2.length≤256)(h:qLz t x r= .inr (q,i)):Fwd ts p q∧i<q.2.length:=by
 obtain⟨rfl,rfl,g⟩:=qSb h
 refine⟨⟨hp,hr,?_,?_⟩,?_⟩<;>simp only[jC,jD,jF]<;>omega
theorem zAk(h:OkT ts)(hE:Adv ts E):∀(n:Nat) (l:List Int) (p q:Ps) (x:List Int),p.1<ts.length→p.2.length≤256→qWa ts E n l p= .inr (q,x)→Fwd ts p q
 |0,_,_,_,_,_,_,h1=>by cases h1
 |n+1,l,p,q,x,hp,hb,h1=>by
  obtain⟨a,ha,h2⟩:=qAx (show qBs (E p) _=_ from h1)
  obtain⟨⟨f1,f2,f3,f4⟩,f5⟩:=hE p a.1 a.2 hp hb ha
  split at h2
  ·rename_i hc
   have g:=qHi h f2 (by decide) hc
   obtain⟨k1,k2,k3,k4⟩:=zAk h hE n _ (a.1.1+1,a.1.2) q x g f4 h2
   exact⟨by simp only at k1;omega,k2,by simp only at k3;omega,k4⟩
  ·obtain⟨j,hj,h3⟩:=qAx h2
   obtain⟨rfl,g1,-⟩:=qHl h f2 hj
   obtain⟨rfl,-⟩:=Prod.mk.inj (Sum.inr.inj h3)
   exact⟨by simp only;omega,g1,f3,f4⟩
theorem zAt(h:OkT ts)(hE:Adv ts E){p q:Ps}{x:List Int}(hp:p.1<ts.length)(hb:p.2.length≤256)(h1:qMn ts E p= .inr (q,x)):Fwd ts p q:=by
 obtain⟨i,hi,h2⟩:=qAx h1
 obtain⟨rfl,g1,-⟩:=qHl h hp hi
 split at h2
 ·rename_i hc
  obtain⟨rfl,-⟩:=Prod.mk.inj (Sum.inr.inj h2)
  exact⟨by simp only;omega,qHi h g1 (by decide) hc,jP _,hb⟩
 ·obtain⟨k1,k2,k3,k4⟩:=zAk h hE _ _ (p.1+1,p.2) q x g1 hb h2
  exact⟨by simp only at k1;omega,k2,k3,k4⟩
theorem zEk(h:OkT ts)(hE:Adv ts E){t:Tok}{p q:Ps}{x:Nat}(hp:p.1<ts.length)(hb:p.2.length≤256)(h1:qKo ts E t p= .inr (q,x)):Fwd ts p q∧x<q.2.length:=by
 obtain⟨i,hi,h2⟩:=qAx h1
 obtain⟨rfl,g1,-⟩:=qHl h hp hi
 obtain⟨a,ha,h3⟩:=qAx h2
 obtain⟨j,hj,h4⟩:=qAx h3
 have key:Fwd ts (p.1+1,p.2) a.1:=by
  split at ha
  ·obtain⟨b,hb1,hb2⟩:=qAx ha
   obtain⟨rfl,k1,-⟩:=qQc h g1 hb1
   obtain⟨c,hc1,hc2⟩:=qAx hb2
   obtain⟨rfl,k2,-⟩:=qHl h k1 hc1
   obtain⟨d,hd1,hd2⟩:=qAx hc2
   obtain⟨⟨f1,f2,f3,f4⟩,-⟩:=hE (p.1+1+1+1,p.2) d.1 d.2 k2 hb hd1
   obtain rfl:=Sum.inr.inj hd2
   exact⟨by simp only at f1 ⊢;omega,f2,f3,f4⟩
  ·split at ha
   ·obtain⟨b,hb1,hb2⟩:=qAx ha
    obtain⟨rfl,k1,-⟩:=qQc h g1 hb1
    obtain rfl:=Sum.inr.inj hb2
    exact⟨by simp only;omega,k1,jP _,hb⟩
   ·split at ha
    ·obtain⟨b,hb1,hb2⟩:=qAx ha
     obtain⟨rfl,k1,-⟩:=qQc h g1 hb1
     obtain rfl:=Sum.inr.inj hb2
     exact⟨by simp only;omega,k1,jP _,hb⟩
    ·split at ha
     ·obtain⟨b,hb1,hb2⟩:=qAx ha
      obtain⟨rfl,k1,-⟩:=zGg h g1 hb1
      obtain rfl:=Sum.inr.inj hb2
      exact⟨by simp only;omega,k1,jP _,hb⟩
     ·obtain⟨b,hb1,hb2⟩:=qAx ha
      obtain⟨rfl,k1,-⟩:=qRx h (by decide) g1 hb1
      split at hb2
      ·cases hb2
      ·obtain rfl:=Sum.inr.inj hb2
       exact⟨by simp only;omega,k1,jP _,hb⟩
 obtain⟨f1,f2,f3,f4⟩:=key
 obtain⟨rfl,g2,-⟩:=qHl h f2 hj
 exact qQh (r:=(a.1.1+1,a.1.2)) (by simp only at f1 ⊢;omega) g2 f3 f4 h4
theorem zAj(h:OkT ts)(hE:Adv ts E):Adv ts (qIu ts params E):=by
 intro p q x hp hb h1
 unfold qIu at h1
 dsimp only at h1
 split at h1
 ·rename_i hk
  exact qQh (r:=(p.1+1,p.2)) (by simp only;omega) (h.next hp (by rw[hk];decide)) (jP _) hb h1
 split at h1
 ·rename_i hc
  have g:=qHi h hp (by decide) hc
  obtain⟨a,ha,h2⟩:=qAx h1
  obtain⟨rfl,g1,-⟩:=qRx h (by decide) g ha
  exact qQh (r:=(p.1+1+1,p.2)) (by simp only;omega) g1 (jP _) hb h2
 split at h1
 ·rename_i hc
  have g:=qHi h hp (by decide) hc
  obtain⟨a,ha,h2⟩:=qAx h1
  obtain⟨⟨f1,f2,f3,f4⟩,f5⟩:=hE (p.1+1,p.2) a.1 a.2 g hb ha
  obtain⟨j,hj,h3⟩:=qAx h2
  obtain⟨rfl,g1,-⟩:=qHl h f2 hj
  obtain⟨rfl,rfl⟩:=Prod.mk.inj (Sum.inr.inj h3)
  exact⟨⟨by simp only at f1 ⊢;omega,g1,f3,f4⟩,f5⟩
 split at h1
 ·cases h1
 rename_i hk
 have g:=h.next hp (show(tkAt ts p.1).1≠5 by simp only[ne_eq,Decidable.not_not] at hk;rw[hk];decide)
 split at h1
 ·obtain⟨⟨f1,f2,f3,f4⟩,f5⟩:=zEk h hE (p:=(p.1+1,p.2)) g hb h1
  exact⟨⟨by simp only at f1;omega,f2,f3,f4⟩,f5⟩
 split at h1
 ·cases h1
 split at h1
 ·obtain⟨a,ha,h2⟩:=qAx h1
  obtain⟨f1,f2,f3,f4⟩:=zAt h hE (p:=(p.1+1,p.2)) g hb ha
  exact qQh (by simp only at f1;omega) f2 f3 f4 h2
 split at h1
 ·exact qQh (r:=(p.1+1,p.2)) (by simp only;omega) g (jP _) hb h1
 ·cases h1
theorem zFu(h:OkT ts){level:Nat}(hS:Adv ts S):∀(n x:Nat) (p q:Ps) (y:Nat),p.1<ts.length→p.2.length≤256→x<p.2.length→qOe ts level S n x p= .inr (q,y)→p.1≤q.1∧q.1<ts.length∧p.2.length≤q.2.length∧q.2.length≤256∧y<q.2.length
 |0,_,_,_,_,_,_,_,h1=>by cases h1
 |n+1,x,p,q,y,hp,hb,hx,h1=>by
  unfold qOe at h1
  split at h1
  ·obtain⟨rfl,rfl⟩:=Prod.mk.inj (Sum.inr.inj h1)
   exact⟨jP _,hp,jP _,hb,hx⟩
  ·rename_i hop
   have hk:(tkAt ts p.1).1≠5:=by
    intro hk
    apply hop
    unfold opC
    have:opsC.find? (isOp ts level p.1)=none:=by
     rw[List.find?_eq_none]
     intro o _ ho
     simp only[isOp,jL] at ho
     have:=zDh ho.1
     omega
    rw[this]
   have g:=h.next hp hk
   obtain⟨a,ha,h2⟩:=qAx h1
   obtain⟨⟨f1,f2,f3,f4⟩,f5⟩:=hS (p.1+1,p.2) a.1 a.2 g hb ha
   obtain⟨r,hr,h3⟩:=qAx h2
   obtain⟨⟨k1,k2,k3,k4⟩,k5⟩:=qQh (ts:=ts) (p:=p) (by simp only at f1;omega) f2 f3 f4 hr
   split at h3
   ·obtain⟨rfl,rfl⟩:=Prod.mk.inj (Sum.inr.inj h3)
    exact⟨by omega,k2,k3,k4,k5⟩
   ·obtain⟨j1,j2,j3,j4,j5⟩:=zFu h hS n _ _ q y k2 k4 k5 h3
    exact⟨by omega,j2,by omega,j4,j5⟩
theorem qRd(h:OkT ts){level:Nat}(hS:Adv ts S):Adv ts (qNs ts level S):=by
 intro p q x hp hb h1
 obtain⟨a,ha,h2⟩:=qAx h1
 obtain⟨⟨f1,f2,f3,f4⟩,f5⟩:=hS p a.1 a.2 hp hb ha
 obtain⟨j1,j2,j3,j4,j5⟩:=zFu h hS _ _ _ q x f2 f4 f5 h2
 exact⟨⟨by omega,j2,by omega,j4⟩,j5⟩
theorem qOn(h:OkT ts):∀k,Adv ts (qFa ts params k)
 |0=>fun _ _ _ _ _ h1=>by cases h1
 |k+1=>by
  intro p q x hp hb h1
  unfold qFa at h1
  split at h1
  ·rename_i hc
   have g:=qHi h hp (by decide) hc
   obtain⟨a,ha,h2⟩:=qAx h1
   obtain⟨⟨a1,a2,a3,a4⟩,-⟩:=qOn h k (p.1+1,p.2) a.1 a.2 g hb ha
   obtain⟨i,hi,h3⟩:=qAx h2
   obtain⟨rfl,g1,-⟩:=zEd h a2 hi
   obtain⟨b,hb1,h4⟩:=qAx h3
   obtain⟨⟨b1,b2,b3,b4⟩,-⟩:=qOn h k (a.1.1+1,a.1.2) b.1 b.2 g1 a4 hb1
   obtain⟨j,hj,h5⟩:=qAx h4
   obtain⟨rfl,g2,-⟩:=zEd h b2 hj
   obtain⟨c,hc1,h6⟩:=qAx h5
   obtain⟨⟨c1,c2,c3,c4⟩,-⟩:=qOn h k (b.1.1+1,b.1.2) c.1 c.2 g2 b4 hc1
   simp only at a1 a3 b1 b3 c1 c3
   exact qQh (by omega) c2 (by omega) c4 h6
  ·exact qRd h (qRd h (qRd h (zAj h (qOn h k)))) p q x hp hb h1
end
end
section
open Go Go.Dc
theorem idx_tk{ts:List Tok}{i:Nat}(hi:i<ts.length):idx ts (i:Int)=some (tkAt ts i):=by
 rw[qCo hi]
 simp[tkAt,kG,hi]
theorem qUi{i:Nat}(h:i<1000000):IntKind.wrap .i64 ((i:Int)+1)=((i+1:Nat):Int):=by rw[wi64 (by omega) (by omega)];omega
section
variable {N:Nat} {ts:List Tok} {pr:List ByteArray} {b:List Ex} {i:Nat}
theorem orS(a b:Bool):(if a=true then some a else some b)=some (a||b):=by
 cases a<;>simp
theorem someB(b:Bool):(if b=true then some true else some false)=some b:=by cases b<;>simp
theorem zHk(s:ByteArray):qLo N s=some (resC s):=by
 simp only[qLo,qDz,resC,wordsR,qVs,qRw,zNs,zOn,sGen,sIf,zMz,zOk,qVm,qVf,sHas,sEnv,qWb,jN,gG,dO]
 simp only[orS,j0,someB,jJ]
 simp only[Bool.decide_or]
end
end
section
open Go Go.Dc
end
section
open Go Go.Dc
end
section
open Go Go.Dc
end
section
open Go Go.Dc
section
variable {N:Nat} {ts:List Tok} {pr:List ByteArray} {b:List Ex}
theorem qUm(h:OkT ts):∀(n:Nat) (l:List ByteArray) (i:Nat) (a:Nat×List ByteArray),i<ts.length→l.length≤8→qPn ts n l i= .inr a→i<a.1∧a.1<ts.length∧a.2.length≤8
 |0,_,_,_,_,_,h1=>by cases h1
 |n+1,l,i,a,hi,hl,h1=>by
  obtain⟨x,hx,h2⟩:=qAx (show qBs (qQl ts i) _=_ from h1)
  obtain⟨rfl,g1,-⟩:=qPf h hi hx
  split at h2
  ·cases h2
  rename_i k1
  split at h2
  ·cases h2
  split at h2
  ·rename_i k3
   have g2:=qHi h g1 (by decide) k3
   obtain⟨j1,j2,j3⟩:=qUm h n _ _ a g2 (by simp only[jC,jD,jF];omega) h2
   exact⟨by omega,j2,j3⟩
  ·obtain⟨j,hj,h3⟩:=qAx h2
   obtain⟨rfl,g2,-⟩:=qHl h g1 hj
   obtain rfl:=Sum.inr.inj h3
   exact⟨by simp only;omega,g2,by simp only[jC,jD,jF];omega⟩
theorem qTm(h:OkT ts){i:Nat}{a:Nat×List ByteArray}(hi:i<ts.length)(h1:qKk ts i= .inr a):i<a.1∧a.1<ts.length∧a.2.length≤8:=by
 obtain⟨j,hj,h2⟩:=qAx h1
 obtain⟨rfl,g,-⟩:=qHl h hi hj
 split at h2
 ·rename_i k
  obtain rfl:=Sum.inr.inj h2
  exact⟨by simp only;omega,qHi h g (by decide) k,by simp⟩
 ·obtain⟨j1,j2,j3⟩:=qUm h _ _ _ a g (by simp) h2
  exact⟨by omega,j2,j3⟩
theorem qZy(h:OkT ts){before:List Dl}{i:Nat}{a:Nat×Dl}(hi:i<ts.length)(h1:qRq ts before i= .inr a):i<a.1∧a.1<ts.length∧before.length≠64:=by
 unfold qRq at h1
 dsimp only at h1
 split at h1
 ·cases h1
 rename_i k1
 split at h1
 ·cases h1
 rename_i k2
 have g:=h.next hi (show(tkAt ts i).1≠5 by intro e;apply k1;left;rw[e];decide)
 obtain⟨x,hx,h2⟩:=qAx h1
 have gx:x.1=i+1+1∧x.1<ts.length:=by
  split at hx
  ·obtain⟨rfl,g1,-⟩:=qQc h g hx;exact⟨rfl,g1⟩
  ·obtain⟨rfl,g1,-⟩:=qPf h g hx;exact⟨rfl,g1⟩
 split at h2
 ·cases h2
 obtain⟨y,hy,h3⟩:=qAx h2
 have gy:x.1≤y.1∧y.1<ts.length:=by
  split at hy
  ·obtain⟨g1,g2,-⟩:=qTm h gx.2 hy;exact⟨by omega,g2⟩
  ·obtain rfl:=Sum.inr.inj hy;exact⟨jP _,gx.2⟩
 obtain⟨j,hj,h4⟩:=qAx h3
 obtain⟨rfl,g3,-⟩:=qHl h gy.2 hj
 obtain⟨c,hc,h5⟩:=qAx h4
 obtain⟨⟨f1,f2,f3,f4⟩,-⟩:=qOn h 32 (y.1+1,[]) c.1 c.2 g3 (by simp) hc
 obtain⟨m,hm,h6⟩:=qAx h5
 obtain⟨rfl,g4,-⟩:=qHl h f2 hm
 obtain rfl:=Sum.inr.inj h6
 exact⟨by simp only at f1 ⊢;omega,g4,k2⟩
end
end
section
open Go Go.Dc
section
variable {N:Nat} {ts:List Tok} {pr:List ByteArray} {b:List Ex}
theorem qTa(h:OkT ts){pkg:ByteArray}:∀(n:Nat) (l:List ByteArray) (i:Nat) (a:Nat×List ByteArray),i<ts.length→l.length≤8→qLi ts pkg n l i= .inr a→i≤a.1∧a.1<ts.length∧a.2.length≤8
 |0,_,_,_,_,_,h1=>by cases h1
 |n+1,l,i,a,hi,hl,h1=>by
  unfold qLi at h1
  split at h1
  ·rename_i k
   have g:=qHi h hi (by decide) k
   split at h1
   ·cases h1
   rename_i k2
   obtain⟨x,hx,h2⟩:=qAx h1
   obtain⟨rfl,g1,-⟩:=qPf h g hx
   split at h2
   ·cases h2
   obtain⟨j,hj,h3⟩:=qAx h2
   obtain⟨rfl,g2,-⟩:=qHl h g1 hj
   obtain⟨j1,j2,j3⟩:=qTa h n _ _ a g2 (by simp only[jC,jD,jF];omega) h3
   exact⟨by omega,j2,j3⟩
  ·obtain rfl:=Sum.inr.inj h1
   exact⟨jP _,hi,hl⟩
end
theorem zKd{s:ByteArray}:∀(l:List Tok) (e:Int),0≤e→zUd s e l→∀i,i<l.length→((tkAt l i).1=5↔i+1=l.length)∧((tkAt l i).2.1.size:Int)≤s.size∧0≤(tkAt l i).2.2.2
 |[],_,_,_,i,hi=>by simp at hi
 |t::r,e,he,h,i,hi=>by
  obtain⟨h1,h2,h3,h4,h5⟩:=h
  have hend:0≤endT t:=by unfold endT;split<;>omega
  cases i with
  |zero=>
   refine⟨?_,?_,?_⟩
   ·show t.1=5↔0+1=r.length+1
    rw[h3,←g9];omega
   ·show((t.2.1.size:Nat):Int)≤s.size
    omega
   ·show 0≤t.2.2.2
    omega
  |succ i=>
   have:=zKd r _ hend h5 i (by simpa using hi)
   have e:tkAt (t::r) (i+1)=tkAt r i:=by simp[tkAt]
   rw[e,jD]
   exact⟨⟨fun h=>by have:=this.1.1 h;omega,fun h=>this.1.2 (by omega)⟩,this.2⟩
theorem zCa{s:ByteArray}(h:(qKd s).2.2=0):OkT (qKd s).1∧(qKd s).1.length≤16385∧∀j,(tkAt (qKd s).1 j).2.1.size<100000:=by
 unfold qKd at h ⊢
 split at h
 ·simp at h
 rename_i hs
 rw[if_neg hs]
 cases hG:tokG (s.data.toList.length+1) s 0 with
 |inl x=>
  obtain⟨_,_,h3⟩:=zEg _ 0 x (by omega) (by omega) hG
  rw[hG] at h
  exact absurd h h3
 |inr r=>
  obtain⟨g1,g2,g3⟩:=qVy _ 0 0 r (by omega) (by omega) (by omega) hG
  simp only[zHh,jO]
  have hc:=zKd r 0 (by omega) g1
  refine⟨⟨g2,fun i hi=>(hc i hi).1⟩,by omega,fun j=> ?_⟩
  rcases fT j r.length with hj|hj
  ·have:=(hc j hj).2.1
   have hs2:=qDd s
   omega
  ·have e:tkAt r j=(5,⟨#[]⟩,0,0):=by simp[tkAt,kG,List.getElem?_eq_none hj]
   rw[e];decide
end
section
open Go Go.Dc
abbrev RT:=List Tok×Int×Int×Int×List ByteArray×List Ex×List Int
def gR(ts:List Tok)(pr:List ByteArray)(p:Ps):RT:=(ts,(p.1:Int),0,0,pr,p.2,[])
def bR(ts:List Tok)(z:Flt)(i:Nat)(pr:List ByteArray)(b:List Ex):RT:=(ts,(i:Int),z.1,z.2,pr,b,[])
section
variable {N:Nat} {ts:List Tok} {pr:List ByteArray} {b:List Ex} {i:Nat} {z:Flt}
theorem rnow{st:Int×Int×List ByteArray×List Ex×List Int}(hi:i<ts.length):qAj N (ts,(i:Int),st.1,st.2.1,st.2.2.1,st.2.2.2.1,st.2.2.2.2)=some ((ts,(i:Int),st.1,st.2.1,st.2.2.1,st.2.2.2.1,st.2.2.2.2),tkAt ts i):=by
 simp only[qAj,idx_tk hi,j0]
theorem qKa(p:Ps)(hi:p.1<ts.length):qAj N (gR ts pr p)=some (gR ts pr p,tkAt ts p.1):=rnow (st:=(0,0,pr,p.2,[])) hi
theorem qQj(hi:i<ts.length):qAj N (bR ts z i pr b)=some (bR ts z i pr b,tkAt ts i):=rnow (st:=(z.1,z.2,pr,b,[])) hi
theorem qMj(p:Ps)(hi:p.1<ts.length)(hl:ts.length<1000000)(s:ByteArray):qBm N (gR ts pr p) s=some (if isC ts 1 s p.1 then(gR ts pr (p.1+1,p.2),true) else(gR ts pr p,false)):=by
 have h0:qAj N (ts,(p.1:Int),0,0,pr,p.2,[])=some ((ts,(p.1:Int),0,0,pr,p.2,[]),tkAt ts p.1):=qKa p hi
 simp only[qBm,gR,h0,j0,qDz,isC,gD,jK]
 by_cases h1:(tkAt ts p.1).1=1<;>by_cases h2:(tkAt ts p.1).2.1=s<;>simp[h1,h2,qUi (show p.1<1000000 by omega)]
theorem zHl(hz:z.2≠0)(s:ByteArray):qBm N (bR ts z i pr b) s=some (bR ts z i pr b,false):=by
 simp[qBm,bR,hz]
theorem qLd(p:Ps)(hi:p.1<ts.length)(hl:ts.length<1000000)(s:ByteArray):qBl N (gR ts pr p) s=some (if isC ts 4 s p.1 then(gR ts pr (p.1+1,p.2),true) else(gR ts pr p,false)):=by
 have h0:qAj N (ts,(p.1:Int),0,0,pr,p.2,[])=some ((ts,(p.1:Int),0,0,pr,p.2,[]),tkAt ts p.1):=qKa p hi
 simp only[qBl,gR,h0,j0,qDz,isC,gD,jK]
 by_cases h1:(tkAt ts p.1).1=4<;>by_cases h2:(tkAt ts p.1).2.1=s<;>simp[h1,h2,qUi (show p.1<1000000 by omega)]
theorem zDj(hz:z.2≠0)(s:ByteArray):qBl N (bR ts z i pr b) s=some (bR ts z i pr b,false):=by
 simp[qBl,bR,hz]
theorem qKp(p:Ps)(a e:Int):qAk N (gR ts pr p) a e=some (bR ts (a,e) p.1 pr p.2):=by
 simp[qAk,gR,bR]
theorem qNu(hz:z.2≠0)(a e:Int):qAk N (bR ts z i pr b) a e=some (bR ts z i pr b):=by
 simp[qAk,bR,hz]
theorem qNw(p:Ps)(hi:p.1<ts.length)(hl:ts.length<1000000)(s:ByteArray):qAi N (gR ts pr p) s=some (match qGg ts s p.1 with| .inl z=>bR ts z p.1 pr p.2| .inr j=>gR ts pr (j,p.2)):=by
 have h1:=qLd (N:=N) (pr:=pr) p hi hl s
 have h2:=qKa (N:=N) (pr:=pr) p hi
 have h3:=qKp (N:=N) (ts:=ts) (pr:=pr) p (tkAt ts p.1).2.2.2 9
 simp only[gR] at h1 h2 h3
 simp only[qAi,gR,h1,j0,qGg]
 rcases qFt (isC ts 4 s p.1) with h|h
 ·simp only[h,jK,kW,jB,jI]
 ·simp only[h,jK,kT,jB,jI,h2,j0,h3,qHh]
theorem qNg(hz:z.2≠0)(hi:i<ts.length)(s:ByteArray):qAi N (bR ts z i pr b) s=some (bR ts z i pr b):=by
 have h1:=zDj (N:=N) (ts:=ts) (i:=i) (pr:=pr) (b:=b) hz s
 have h2:=qQj (N:=N) (ts:=ts) (i:=i) (pr:=pr) (b:=b) (z:=z) hi
 have h3:=qNu (N:=N) (ts:=ts) (i:=i) (pr:=pr) (b:=b) hz (tkAt ts i).2.2.2 9
 simp only[bR] at h1 h2 h3
 simp only[qAi,bR,h1,j0,kT,jK,h2,h3]
theorem zEj{s:ByteArray}:∀(d k M:Nat),k+d=wordsR.length→d<M→qAs (qDv N s) M (k:Int)=some (if s∈wordsR.drop k then .inr true else .inl ())
 |d,k,0,_,h=>by omega
 |0,k,M+1,h,_=>by
  have:wordsR.drop k=[]:=jT (by omega)
  simp only[qAs,qDv,this]
  rw[if_neg (by simp only[jA];have:wordsR.length=13:=rfl;simp only[jD,jF];omega)]
  rfl
 |d+1,k,M+1,h,hM=>by
  have hk:k<wordsR.length:=by omega
  have ih:=zEj (s:=s) d (k+1) M (by omega) (by omega)
  simp only[qAs]
  have e:qDv N s (k:Int)=some (if s=wordsR[k] then .inr (.inr true) else .inl (((k+1:Nat):Int))):=by
   have h13:wordsR.length=13:=rfl
   have hx:idx ([(⟨#[112,97,99,107,97,103,101]⟩:ByteArray),(⟨#[105,109,112,111,114,116]⟩:ByteArray),(⟨#[102,117,110,99]⟩:ByteArray),(⟨#[116,101,115,116]⟩:ByteArray),(⟨#[103,101,110]⟩:ByteArray),(⟨#[105,102]⟩:ByteArray),(⟨#[116,104,101,110]⟩:ByteArray),(⟨#[101,108,115,101]⟩:ByteArray),(⟨#[114,101,97,100]⟩:ByteArray),(⟨#[115,105,122,101]⟩:ByteArray),(⟨#[104,97,115]⟩:ByteArray),(⟨#[101,110,118]⟩:ByteArray),(⟨#[102,108,105,112]⟩:ByteArray)]) (k:Int)=some wordsR[k]:=qCo (l:=wordsR) hk
   simp only[qDv]
   rw[if_pos (by simp only[jA,jD,jF];omega),hx]
   simp only[j0,qDz,jA,qUi (show k<1000000 by omega)]
   split<;>rfl
  rw[e,kC hk]
  simp only[j0,jN]
  by_cases hs:s=wordsR[k]
  ·rw[if_pos hs,if_pos (.inl hs)]
  ·rw[if_neg hs]
   simp only[ih]
   by_cases h2:s∈wordsR.drop (k+1)
   ·rw[if_pos h2,if_pos (.inr h2)]
   ·rw[if_neg h2,if_neg (fun h=>h.elim hs h2)]
theorem rres(hN:100<N)(s:ByteArray):qFz N s=some (resC s):=by
 have h:=zEj (N:=N) (s:=s) 13 0 N rfl (by omega)
 simp only[jX] at h
 simp only[qFz]
 rw[show(0:Int)=((0:Nat):Int) from rfl,h]
 simp only[resC,j0]
 by_cases h2:s∈wordsR
 ·rw[if_pos h2,jZ h2]
 ·rw[if_neg h2,jU h2]
theorem qWp(p:Ps)(hi:p.1<ts.length)(hl:ts.length<1000000)(hN:100<N):qBc N (gR ts pr p)=some (match qQl ts p.1 with| .inl z=>(bR ts z p.1 pr p.2,⟨#[]⟩)| .inr a=>(gR ts pr (a.1,p.2),a.2.2.1)):=by
 have h2:=qKa (N:=N) (pr:=pr) p hi
 have h3:=qKp (N:=N) (ts:=ts) (pr:=pr) p (tkAt ts p.1).2.2.2 9
 simp only[gR] at h2 h3
 simp only[qBc,gR,h2,j0,rres hN,qQl,qPz,fJ,jB,jI]
 by_cases k1:(tkAt ts p.1).1=1
 ·have k1':((tkAt ts p.1).1 !=1)=false:=by simp[k1]
  simp only[k1',jB,jI,j0,if_pos k1,qBs]
  rcases qFt (resC (tkAt ts p.1).2.1) with k2|k2
  ·simp only[k2,jK,h3,j0,qHh]
  ·simp only[k2,jB,jI,qUi (show p.1<1000000 by omega)]
 ·have k1':((tkAt ts p.1).1 !=1)=true:=by simp[k1]
  simp only[k1',jK,j0,if_neg k1,qBs,h3,qHh]
theorem zDb(hz:z.2≠0)(hi:i<ts.length):qBc N (bR ts z i pr b)=some (bR ts z i pr b,⟨#[]⟩):=by
 have h2:=qQj (N:=N) (ts:=ts) (i:=i) (pr:=pr) (b:=b) (z:=z) hi
 have h3:=qNu (N:=N) (ts:=ts) (i:=i) (pr:=pr) (b:=b) hz (tkAt ts i).2.2.2 9
 have hz':(z.2 !=0)=true:=by simpa using hz
 simp only[bR] at h2 h3
 simp only[qBc,bR,h2,j0,hz',jK,h3]
theorem qYy(p:Ps)(hi:p.1<ts.length)(hl:ts.length<1000000):qCk N (gR ts pr p)=some (match qPz ts 2 p.1 with| .inl z=>(bR ts z p.1 pr p.2,0)| .inr a=>(gR ts pr (a.1,p.2),a.2.2.2.1)):=by
 have h2:=qKa (N:=N) (pr:=pr) p hi
 have h3:=qKp (N:=N) (ts:=ts) (pr:=pr) p (tkAt ts p.1).2.2.2 9
 simp only[gR] at h2 h3
 simp only[qCk,gR,h2,j0,qPz,fJ,jB,jI]
 by_cases k1:(tkAt ts p.1).1=2
 ·have k1':((tkAt ts p.1).1 !=2)=false:=by simp[k1]
  simp only[k1',jB,jI,if_pos k1,qUi (show p.1<1000000 by omega)]
 ·have k1':((tkAt ts p.1).1 !=2)=true:=by simp[k1]
  simp only[k1',jK,if_neg k1,h3,j0,qHh]
theorem zOy(hz:z.2≠0)(hi:i<ts.length):qCk N (bR ts z i pr b)=some (bR ts z i pr b,0):=by
 have h2:=qQj (N:=N) (ts:=ts) (i:=i) (pr:=pr) (b:=b) (z:=z) hi
 have h3:=qNu (N:=N) (ts:=ts) (i:=i) (pr:=pr) (b:=b) hz (tkAt ts i).2.2.2 9
 have hz':(z.2 !=0)=true:=by simpa using hz
 simp only[bR] at h2 h3
 simp only[qCk,bR,h2,j0,hz',jK,h3]
theorem zMp(t:Tok)(x:Ex)(p:Ps)(hb:p.2.length≤256):∃v,qAm N (gR ts pr p) x t.2.2.2=some (match qLz t x p with| .inl z=>(bR ts z p.1 pr p.2,v)| .inr q=>(gR ts pr q.1,(q.2:Int))):=by
 refine⟨IntKind.wrap .i64 ((p.2.length:Int)-1),?_⟩
 have h3:=qKp (N:=N) (ts:=ts) (pr:=pr) p t.2.2.2 2
 simp only[gR] at h3
 simp only[qAm,gR,gD,jK,j0,qLz]
 by_cases k1:p.2.length=256
 ·have k1':((p.2.length:Int)==256)=true:=by simp;omega
  simp only[k1',jK,h3,j0,bR]
  simp[k1,qHh]
 ·have k1':((p.2.length:Int)==256)=false:=by simp;omega
  have hw:IntKind.wrap .i64 (((p.2.length+1:Nat):Int)-1)=(p.2.length:Int):=by rw[wi64 (by omega) (by omega)];omega
  simp only[k1',jB,jI,j0,if_neg k1,gD,jK]
  rw[qDx (by simp only[jD,jF];omega) (by omega)]
  simp only[j0,jC,jD,jF,kE,hw]
theorem zNn(hz:z.2≠0)(x:Ex)(a:Int):∃v,qAm N (bR ts z i pr b) x a=some (bR ts z i pr b,v):=by
 refine⟨IntKind.wrap .i64 ((b.length:Int)-1),?_⟩
 have hz':(z.2==0)=false:=by simpa using hz
 simp only[qAm,bR,hz',jB,jI,j0]
end
end
section
open Go Go.Dc
section
variable {N:Nat} {ts:List Tok} {pr:List ByteArray} {b:List Ex} {i:Nat} {z:Flt}
theorem zIs(p:Ps)(hi:p.1<ts.length)(hl:ts.length<1000000)(hN:100<N)(pth:Bool):qBr N (gR ts pr p) pth=some (match(if pth=true then qTj ts p.1 else qVw ts p.1) with| .inl z=>(bR ts z p.1 pr p.2,⟨#[]⟩)| .inr a=>(gR ts pr (a.1,p.2),a.2.2.1)):=by
 have h2:=qKa (N:=N) (pr:=pr) p hi
 have h3:=qKp (N:=N) (ts:=ts) (pr:=pr) p (tkAt ts p.1).2.2.2 9
 simp only[gR] at h2 h3
 simp only[qBr,gR,h2,j0,qWm hN,qWo hN,qTj,qVw,qPz,fJ,jB,jI]
 by_cases k1:(tkAt ts p.1).1=3
 ·have k1':((tkAt ts p.1).1 !=3)=false:=by simp[k1]
  simp only[k1',jB,jI,j0,if_pos k1,qBs]
  cases pth with
  |true=>
   simp only[jK,kW,jB,jI]
   rcases qFt (qMc (tkAt ts p.1).2.1.data.toList) with k2|k2
   ·simp only[k2,kW,jB,jI,j0,jK,qUi (show p.1<1000000 by omega)]
   ·simp only[k2,kT,jB,jI,j0,jK,h3,qHh]
  |false=>
   simp only[jK,kT,jB,jI]
   rcases qFt (qOi (tkAt ts p.1).2.1) with k2|k2
   ·simp only[k2,kW,jB,jI,j0,jK,qUi (show p.1<1000000 by omega)]
   ·simp only[k2,kT,jB,jI,j0,jK,h3,qHh]
 ·have k1':((tkAt ts p.1).1 !=3)=true:=by simp[k1]
  simp only[k1',jK,j0,if_neg k1,qBs,h3,qHh]
  cases pth<;>rfl
theorem zHd(hz:z.2≠0)(hi:i<ts.length)(pth:Bool):qBr N (bR ts z i pr b) pth=some (bR ts z i pr b,⟨#[]⟩):=by
 have h2:=qQj (N:=N) (ts:=ts) (i:=i) (pr:=pr) (b:=b) (z:=z) hi
 have h3:=qNu (N:=N) (ts:=ts) (i:=i) (pr:=pr) (b:=b) hz (tkAt ts i).2.2.2 9
 have hz':(z.2 !=0)=true:=by simpa using hz
 simp only[bR] at h2 h3
 simp only[qBr,bR,h2,j0,hz',jK,h3]
theorem zPw{i:Nat}(h:i<2000000):IntKind.wrap .i64 ((i:Int)+1)=((i+1:Nat):Int):=by rw[wi64 (by omega) (by omega)];omega
theorem zEl{s:ByteArray}{l:List ByteArray}(hl:l.length<2000000):∀(d i M:Nat),i+d=l.length→d<M→
  qAs (qHd N l s) M (i:Int)=some (if s∈l.drop i then .inr true else .inl ())
 |d,i,0,_,h=>by omega
 |0,i,M+1,h,_=>by
  have:l.drop i=[]:=jT (by omega)
  simp only[qAs,qHd,this]
  rw[if_neg (by simp only[jA];omega)]
  rfl
 |d+1,i,M+1,h,hM=>by
  have hi:i<l.length:=by omega
  have ih:=zEl (s:=s) hl d (i+1) M (by omega) (by omega)
  simp only[qAs,qHd]
  rw[if_pos (by simp only[jA];omega),qCo hi,kC hi]
  simp only[j0,qDz,jA,jN]
  by_cases hs:l[i]=s
  ·rw[if_pos hs,if_pos (.inl hs.symm)];rfl
  ·rw[if_neg hs]
   simp only[j0,zPw (show i<2000000 by omega),ih]
   by_cases h2:s∈l.drop (i+1)
   ·rw[if_pos h2,if_pos (.inr h2)]
   ·rw[if_neg h2,if_neg (fun h=>h.elim (fun e=>hs e.symm) h2)]
theorem rhas{s:ByteArray}{l:List ByteArray}(hl:l.length<2000000)(hN:l.length<N):qCq N l s=some (decide (s∈l)):=by
 have h:=zEl (N:=N) (s:=s) hl l.length 0 N (by omega) hN
 simp only[jX] at h
 simp only[qCq]
 rw[show(0:Int)=((0:Nat):Int) from rfl,h]
 simp only[j0]
 by_cases h2:s∈l
 ·rw[if_pos h2,jZ h2]
 ·rw[if_neg h2,jU h2]
theorem andS(a b:Bool):(if a=true then some b else some false)=some (a&&b):=by cases a<;>rfl
theorem qYj{s:ByteArray}{k:Int}{f:Sr}(hl:f.2.2.length<2000000):∀(d i M:Nat),i+d=f.2.2.length→d<M→
  qAs (qGd N f k s) M (i:Int)=some (if(f.2.2.drop i).any (fun d=>d.1==k&&decide (d.2.1=s))=true then .inr true else .inl ())
 |d,i,0,_,h=>by omega
 |0,i,M+1,h,_=>by
  have:f.2.2.drop i=[]:=jT (by omega)
  simp only[qAs,qGd,this]
  rw[if_neg (by simp only[jA];omega)]
  rfl
 |d+1,i,M+1,h,hM=>by
  have hi:i<f.2.2.length:=by omega
  have ih:=qYj (s:=s) (k:=k) hl d (i+1) M (by omega) (by omega)
  simp only[qAs,qGd]
  rw[if_pos (by simp only[jA];omega),qCo hi,kC hi,gT]
  simp only[j0,qDz,zPw (show i<2000000 by omega),andS]
  rcases qFt (f.2.2[i].1==k&&decide (f.2.2[i].2.1=s)) with h1|h1
  ·simp only[h1,jK,j0,dF]
  ·simp only[h1,jB,jI,j0,ih,kU]
theorem zTi{s:ByteArray}{k:Int}{f:Sr}(hl:f.2.2.length<2000000)(hN:f.2.2.length<N):qEf N f k s=some (f.2.2.any fun d=>d.1==k&&decide (d.2.1=s)):=by
 have h:=qYj (N:=N) (s:=s) (k:=k) hl f.2.2.length 0 N (by omega) hN
 simp only[jX] at h
 simp only[qEf]
 rw[show(0:Int)=((0:Nat):Int) from rfl,h]
 simp only[j0]
 rcases qFt (f.2.2.any fun d=>d.1==k&&decide (d.2.1=s)) with h2|h2
 ·rw[if_pos h2,h2]
 ·rw[if_neg (by rw[h2];decide),h2]
theorem op_3:opC ts 3 i=if isC ts 4 ⟨#[42]⟩ i=true then 3 else if isC ts 4 ⟨#[47]⟩ i=true then 4 else if isC ts 4 ⟨#[37]⟩ i=true then 5 else 0:=by
 unfold opC opsC
 simp only[List.find?,isOp,levP]
 rcases qFt (isC ts 4 ⟨#[42]⟩ i) with h1|h1<;>rcases qFt (isC ts 4 ⟨#[47]⟩ i) with h2|h2<;>rcases qFt (isC ts 4 ⟨#[37]⟩ i) with h3|h3<;>simp[h1,h2,h3]
theorem op_2:opC ts 2 i=if isC ts 4 ⟨#[43]⟩ i=true then 1 else if isC ts 4 ⟨#[45]⟩ i=true then 2 else 0:=by
 unfold opC opsC
 simp only[List.find?,isOp,levP]
 rcases qFt (isC ts 4 ⟨#[43]⟩ i) with h1|h1<;>rcases qFt (isC ts 4 ⟨#[45]⟩ i) with h2|h2<;>simp[h1,h2]
theorem op_1:opC ts 1 i=if isC ts 4 ⟨#[60]⟩ i=true then 6 else if isC ts 4 ⟨#[61,61]⟩ i=true then 7 else 0:=by
 unfold opC opsC
 simp only[List.find?,isOp,levP]
 rcases qFt (isC ts 4 ⟨#[60]⟩ i) with h1|h1<;>rcases qFt (isC ts 4 ⟨#[61,61]⟩ i) with h2|h2<;>simp[h1,h2]
theorem qWg{α:Type}{t:Tok}{e:Int}(he:e≠0)(h:(qHh t e:Flt⊕α)= .inl z):z.2≠0:=by
 obtain rfl:=Sum.inl.inj h;exact he
theorem qMl{s:ByteArray}(h:qGg ts s i= .inl z):z.2≠0:=by
 unfold qGg at h;split at h
 ·cases h
 ·exact qWg (by decide) h
theorem zAa{k:Int}(h:qPz ts k i= .inl z):z.2≠0:=by
 unfold qPz at h;split at h
 ·cases h
 ·exact qWg (by decide) h
theorem zIl{α β:Type}{x:Flt⊕α}{f:α→Flt⊕β}(h:qBs x f= .inl z):x= .inl z∨∃a,x= .inr a∧f a= .inl z:=by
 cases x with
 |inl y=>obtain rfl:=Sum.inl.inj h;exact .inl rfl
 |inr a=>exact .inr ⟨a,rfl,h⟩
theorem zCq(h:qQl ts i= .inl z):z.2≠0:=by
 rcases zIl h with h|⟨a,_,h⟩
 ·exact zAa h
 ·split at h
  ·exact qWg (by decide) h
  ·cases h
theorem zEe(h:qTj ts i= .inl z):z.2≠0:=by
 rcases zIl h with h|⟨a,_,h⟩
 ·exact zAa h
 ·split at h
  ·cases h
  ·exact qWg (by decide) h
theorem zSi(h:qVw ts i= .inl z):z.2≠0:=by
 rcases zIl h with h|⟨a,_,h⟩
 ·exact zAa h
 ·split at h
  ·cases h
  ·exact qWg (by decide) h
theorem zId{t:Tok}{x:Ex}{p:Ps}(h:qLz t x p= .inl z):z.2≠0:=by
 unfold qLz at h;split at h
 ·exact qWg (by decide) h
 ·cases h
end
end
section
open Go Go.Dc
def Bad(ts:List Tok)(z:Flt)(st:RT):Prop:=z.2≠0∧∃(i:Nat) (pr:List ByteArray) (b:List Ex),i<ts.length∧st=bR ts z i pr b
def relR(ts:List Tok)(pr:List ByteArray)(r:PM Nat)(o:RT×Int):Prop:=
 match r with
 | .inl z=>Bad ts z o.1
 | .inr q=>o=(gR ts pr q.1,(q.2:Int))
section
variable {N:Nat} {ts:List Tok} {pr:List ByteArray} {E S:Ps→PM Nat} {d:Int}
variable {r1 r2 r3 r4:RT→Int→Option (RT×Int)}
theorem qNz{z:Flt}{i:Nat}{pr':List ByteArray}{b:List Ex}{v:Int}(hz:z.2≠0)(hi:i<ts.length):relR ts pr (.inl z) (bR ts z i pr' b,v):=⟨hz,i,pr',b,hi,rfl⟩
theorem qRn(t:Tok)(x:Ex)(p:Ps)(hp:p.1<ts.length)(hb:p.2.length≤256):∃o,qAm N (gR ts pr p) x t.2.2.2=some o∧relR ts pr (qLz t x p) o:=by
 obtain⟨v,h⟩:=zMp (N:=N) (ts:=ts) (pr:=pr) t x p hb
 cases hn:qLz t x p with
 |inl z=>rw[hn] at h;exact⟨_,h,qNz (zId hn) hp⟩
 |inr q=>rw[hn] at h;exact⟨_,h,rfl⟩
theorem qTz{z:Flt}{i:Nat}{pr':List ByteArray}{b:List Ex}(hz:z.2≠0)(hi:i<ts.length)(x:Ex)(a:Int):∃o,qAm N (bR ts z i pr' b) x a=some o∧relR ts pr (.inl z) o:=by
 obtain⟨v,h⟩:=zNn (N:=N) (ts:=ts) (pr:=pr') (b:=b) (i:=i) hz x a
 exact⟨_,h,qNz hz hi⟩
theorem qZo(t:Tok)(x:Ex)(p:Ps)(hok:OkT ts)(hl:ts.length<1000000)(hp:p.1<ts.length)(hb:p.2.length≤256):∃o,
  ((qAi N (gR ts pr p) (⟨#[41]⟩:ByteArray)).bind fun y=>qAm N y x t.2.2.2)=some o∧relR ts pr (qBs (qGg ts qFn p.1) fun i=>qLz t x (i,p.2)) o:=by
 have e:=qNw (N:=N) (pr:=pr) p hp hl ⟨#[41]⟩
 simp only[e,j0,qFn]
 cases h:qGg ts ⟨#[41]⟩ p.1 with
 |inl z=>exact qTz (qMl h) hp x _
 |inr j=>
  obtain⟨rfl,g,-⟩:=qHl hok hp h
  exact qRn t x (p.1+1,p.2) g hb
theorem qPs{z:Flt}{i:Nat}{pr':List ByteArray}{b:List Ex}(hz:z.2≠0)(hi:i<ts.length)(x:Ex)(a:Int):∃o,
  ((qAi N (bR ts z i pr' b) (⟨#[41]⟩:ByteArray)).bind fun y=>qAm N y x a)=some o∧relR ts pr (.inl z) o:=by
 simp only[qNg hz hi,j0]
 exact qTz hz hi x a
variable (hEg:∀p:Ps,p.1<ts.length→p.2.length≤256→∃o,r4 (gR ts pr p) (IntKind.wrap .i64 (d+1))=some o∧relR ts pr (E p) o)
variable (hEb:∀(z:Flt) (i:Nat) (pr':List ByteArray) (b:List Ex),z.2≠0→i<ts.length→∃v,r4 (bR ts z i pr' b) (IntKind.wrap .i64 (d+1))=some (bR ts z i pr' b,v))
def zJr(ts:List Tok)(E:Ps→PM Nat)(n:Nat)(l:List Int)(p:Ps):PM (List Int):=
 if isC ts 4 qPd p.1 then qWa ts E n l (p.1+1,p.2) else qBs (qGg ts qFn p.1) fun i=> .inr ((i,p.2),l)
theorem qYa(n:Nat)(l:List Int)(p:Ps):qWa ts E (n+1) l p=qBs (E p) fun q=>zJr ts E n (l++[(q.2:Int)]) q.1:=rfl
def relL(ts:List Tok)(pr:List ByteArray)(r:PM (List Int))(o:List Int×RT):Prop:=
 match r with
 | .inl z=>Bad ts z o.2
 | .inr q=>o=(q.2,gR ts pr q.1)
theorem zAb{z:Flt}{i:Nat}{pr':List ByteArray}{b:List Ex}(hz:z.2≠0)(M:Nat)(l:List Int):qAs (qCi N r4 d) (M+1) (l,bR ts z i pr' b)=some (l,bR ts z i pr' b):=by
 have hz':(z.2==0)=false:=by simpa using hz
 simp only[qAs,qCi,bR,hz',jB,jI,j0]
include hEg hEb in
theorem zBi(hok:OkT ts)(hl:ts.length<1000000)(hA:Adv ts E):∀(n M:Nat) (l:List Int) (p:Ps),l≠[]→p.1<ts.length→p.2.length≤256→l.length≤p.1→ts.length<p.1+n→ts.length+2<p.1+M→
  ∃o,qAs (qCi N r4 d) M (l,gR ts pr p)=some o∧relL ts pr (zJr ts E n l p) o
 |0,M,l,p,_,hp,_,_,h,_=>by omega
 |n+1,0,l,p,_,hp,_,_,_,h=>by omega
 |n+1,M+1,l,p,hne,hp,hb,hll,hn,hM=>by
  have hs:=qLd (N:=N) (pr:=pr) p hp hl ⟨#[41]⟩
  have hpos:decide ((l.length:Int)>0)=true:=by
   have:=fN.2 hne
   exact jZ (by omega)
  have g0:((gR ts pr p).2.2.2.1==0)=true:=rfl
  simp only[qAs,qCi,Prod.eta,g0,jK,hs,j0]
  rcases qFt (isC ts 4 ⟨#[41]⟩ p.1) with c1|c1
  ·simp only[c1,jK,kW,jB,jI]
   refine⟨_,rfl,?_⟩
   have c2:isC ts 4 qPd p.1=false:=by
    simp only[isC,jL,jA] at c1
    simp[isC,c1.2,qPd]
   have c3:qGg ts qFn p.1= .inr (p.1+1):=by simp[qGg,qFn,c1]
   simp only[zJr,c2,jB,jI,c3,qBs]
   rfl
  ·simp only[c1,jB,jI,kT,jK,hpos,Prod.eta,qNw p hp hl,j0]
   have hcc:isC ts 4 qPd p.1=isC ts 4 ⟨#[44]⟩ p.1:=rfl
   simp only[zJr,hcc,qGg]
   rcases qFt (isC ts 4 ⟨#[44]⟩ p.1) with c2|c2
   ·have g:=qHi hok hp (by decide) c2
    simp only[c2,jK]
    obtain⟨o,ho,hr⟩:=hEg (p.1+1,p.2) g hb
    simp only[ho,j0]
    cases hE:E (p.1+1,p.2) with
    |inl z=>
     rw[hE] at hr
     obtain⟨hz,i,pr',b,hi,ho1⟩:=hr
     rw[qDx (by simp only[jD,jF];omega) (by omega)]
     simp only[j0,ho1]
     cases M with
     |zero=>omega
     |succ M=>
      refine⟨_,zAb hz M _,?_⟩
      rw[qYa,hE]
      exact⟨hz,i,pr',b,hi,rfl⟩
    |inr q=>
     rw[hE] at hr
     obtain⟨⟨f1,f2,f3,f4⟩,f5⟩:=hA (p.1+1,p.2) q.1 q.2 g hb hE
     simp only at f1
     rw[qDx (by simp only[jD,jF];omega) (by omega)]
     have hr':o=(gR ts pr q.1,(q.2:Int)):=hr
     simp only[j0,hr']
     rw[qYa,hE]
     exact zBi hok hl hA n M (l++[(q.2:Int)]) q.1 (by simp) f2 f4 (by simp only[jC,jD,jF];omega) (by omega) (by omega)
   ·simp only[c2,jB,jI]
    have c3:isC ts 4 qFn p.1=false:=c1
    simp only[c3,jB,jI,qHh,qBs]
    obtain⟨v,hv⟩:=hEb ((tkAt ts p.1).2.2.2,9) p.1 pr p.2 (show(9:Int)≠0 by decide) hp
    simp only[hv,j0]
    rw[qDx (by simp only[jD,jF];omega) (by omega)]
    simp only[j0]
    cases M with
    |zero=>omega
    |succ M=>exact⟨_,zAb (z:=((tkAt ts p.1).2.2.2,9)) (show(9:Int)≠0 by decide) M _,show(9:Int)≠0 by decide,p.1,pr,p.2,hp,rfl⟩
include hEg hEb in
theorem rargs(hok:OkT ts)(hl:ts.length<1000000)(hN:1000002<N)(hA:Adv ts E)(p:Ps)(hp:p.1<ts.length)(hb:p.2.length≤256):
  ∃o,qAs (qCi N r4 d) N ([],gR ts pr p)=some o∧relL ts pr (if isC ts 4 qFn p.1 then .inr ((p.1+1,p.2),[]) else qWa ts E (ts.length+1) [] p) o:=by
 obtain⟨M,rfl⟩:∃M,N=M+1:=⟨N-1,by omega⟩
 have hs:=qLd (N:=M+1) (pr:=pr) p hp hl ⟨#[41]⟩
 have g0:((gR ts pr p).2.2.2.1==0)=true:=rfl
 have hnil:decide ((([]:List Int).length:Int)>0)=false:=rfl
 simp only[qAs,qCi,Prod.eta,g0,jK,hs,j0,qFn]
 rcases qFt (isC ts 4 ⟨#[41]⟩ p.1) with c1|c1
 ·simp only[c1,jK,kW,jB,jI]
  exact⟨_,rfl,rfl⟩
 ·simp only[c1,jB,jI,kT,jK,hnil,Prod.eta,j0]
  obtain⟨o,ho,hr⟩:=hEg p hp hb
  simp only[ho,j0]
  cases hE:E p with
  |inl z=>
   rw[hE] at hr
   obtain⟨hz,i,pr',b,hi,ho1⟩:=hr
   rw[qDx (by simp) (by omega)]
   simp only[j0,ho1]
   cases M with
   |zero=>omega
   |succ M=>
    refine⟨_,zAb hz M _,?_⟩
    rw[qYa,hE]
    exact⟨hz,i,pr',b,hi,rfl⟩
  |inr q=>
   rw[hE] at hr
   obtain⟨⟨f1,f2,f3,f4⟩,f5⟩:=hA p q.1 q.2 hp hb hE
   rw[qDx (by simp) (by omega)]
   have hr':o=(gR ts pr q.1,(q.2:Int)):=hr
   simp only[j0,hr']
   rw[qYa,hE]
   exact zBi hEg hEb hok hl hA ts.length M ([]++[(q.2:Int)]) q.1 (by simp) f2 f4 (by simp only[jC,jD,jF];omega) (by omega) (by omega)
end
end
end Go.Proofs.YteajdekbpcmdaaaGreatDoor
